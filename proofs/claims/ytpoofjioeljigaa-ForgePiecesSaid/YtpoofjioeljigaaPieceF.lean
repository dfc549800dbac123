/- Reading a row of pieces. -/
import Derived.Test.YtpoofjioeljigaaPieceE
namespace Go.Proofs.Ytpoofjioeljigaa
open Go.RowKit
theorem size_pc (W : World) : (sizeOf (Try.prog.elem 94)).run Try.prog W = .ok 2 W := by kernel_rfl
theorem under_pc : Try.prog.underlying 94 = some (.slice (Try.prog.elem 94)) := by kernel_rfl
theorem flat_pair : ∀ (ps : List (Int × List Int)) (xs : List Value) (k : Nat) (h : k < ps.length) (h2 : k < xs.length),
    ((ps.zip xs).flatMap fun q => [Value.int .i64 q.1.1, q.2])[2 * k]? = some (.int .i64 ps[k].1) ∧ ((ps.zip xs).flatMap fun q => [Value.int .i64 q.1.1, q.2])[2 * k + 1]? = some xs[k]
  | p :: ps, x :: xs, 0, _, _ => by simp
  | p :: ps, x :: xs, k + 1, h, h2 => by
    have := flat_pair ps xs k (by simpa using h) (by simpa using h2)
    simp only [List.zip_cons_cons, List.flatMap_cons, List.cons_append, List.nil_append, List.getElem_cons_succ, show 2 * (k + 1) = 2 * k + 1 + 1 by omega, List.getElem?_cons_succ]
    exact this
theorem OwnPs.idx {w : World} {lo : Nat} {v : Value} {ps : List (Int × List Int)} (h : OwnPs w lo v ps) :
    ∃ a cap, v = .slice a ps.length cap ∧ ∀ k (hk : k < ps.length), ∃ g x, (∀ W, (Instr.indexAt 94 (.slice a ps.length cap) (.int .i64 (k : Int))).run Try.prog W = .ok (.pointer (some ⟨g, 2 * k, none⟩)) W) ∧ g < w.heap.size ∧ w.cell? ⟨g, 2 * k, none⟩ = some (.int .i64 ps[k].1) ∧ w.cell? ⟨g, 2 * k + 1, none⟩ = some x ∧ BB w x ps[k].2 := by
  obtain ⟨xs, ho, hf⟩ := h
  have hlen := all2_len hf
  rw [List.length_map] at hlen
  rcases id ho with ⟨_, ⟨rfl, h0⟩ | ⟨g, cap, cur, rfl, hbg, hg, _⟩⟩
  · exact ⟨none, 0, by rw [h0], fun k hk => by omega⟩
  · refine ⟨_, cap, rfl, fun k hk => ⟨g, xs[k], fun W => ?_, lt_of_block hg, ?_, ?_, ?_⟩⟩
    · rw [run_indexAt_slice (P := Try.prog) (w := W) _ _ _ _ _ _ under_pc, if_pos (by omega), size_pc]
      simp only [Result.andThen, Int.toNat_natCast, Addr.add, Nat.zero_add, Nat.mul_comm]
      split <;> simp_all
    · rw [World.ownsRow.cellAt ho _ (by omega), (flat_pair ps xs k hk (by omega)).1]
    · rw [World.ownsRow.cellAt ho _ (by omega), (flat_pair ps xs k hk (by omega)).2]
    · have := all2_at hf k (by omega) (by simpa using hk)
      simpa using this
theorem piecesL_pos (disk : Nat) : ∀ (n : Nat) (b : List Int), b.length ≤ n → Byts b → ∀ p ∈ piecesL disk b, 0 ≤ p.1 := by
  intro n
  induction n with
  | zero =>
    intro b hb _
    have : nextP disk b = none := by unfold nextP; rw [if_pos (.inl (by omega))]
    rw [piecesL_none this]; simp
  | succ n ih =>
    intro b hb hy
    rcases h : nextP disk b with _ | ⟨p, r⟩
    · rw [piecesL_none h]; simp
    · rw [piecesL_some h]
      have hl := nextP_len h
      have h1 : p.1 = b.getD 0 0 ∧ ∃ k, r = b.drop k := by
        unfold nextP at h
        split at h
        · cases h
        · split at h
          · cases h
          · simp only [Option.some.injEq, Prod.mk.injEq] at h
            obtain ⟨rfl, rfl⟩ := h
            exact ⟨rfl, _, rfl⟩
      obtain ⟨e1, k, rfl⟩ := h1
      intro q hq
      rcases List.mem_cons.1 hq with rfl | hq
      · rw [e1]; exact (hy.at 0).1
      · exact ih _ (by omega) (fun z hz => hy z (List.mem_of_mem_drop hz)) q hq
/-- The bytes of pieces, one behind the other. -/
def wrL (ps : List (Int × List Int)) : List Int := ps.flatMap fun p => p.1 :: p.2 ++ [165]
theorem wrL_len : ∀ ps, (wrL ps).length = totalP ps
  | [] => rfl
  | p :: ps => by
    have := wrL_len ps
    simp only [wrL, totalP, List.flatMap_cons, List.length_append, List.length_cons, List.length_nil, List.map_cons, List.sum_cons] at this ⊢
    omega
theorem totalP_take (ps : List (Int × List Int)) (k : Nat) (h : k < ps.length) : totalP (ps.take (k + 1)) = totalP (ps.take k) + (ps[k].2.length + 2) := by
  rw [List.take_succ_eq_append_getElem h]
  simp only [totalP, List.map_append, List.sum_append, List.map_cons, List.map_nil, List.sum_cons, List.sum_nil, Nat.add_zero]
theorem totalP_take_le (ps : List (Int × List Int)) (k : Nat) : totalP (ps.take k) ≤ totalP ps := by
  conv => rhs; rw [← List.take_append_drop k ps]
  simp only [totalP, List.map_append, List.sum_append]
  omega
theorem wrL_take (ps : List (Int × List Int)) (k : Nat) (h : k < ps.length) : wrL (ps.take (k + 1)) = wrL (ps.take k) ++ (ps[k].1 :: ps[k].2 ++ [165]) := by
  rw [List.take_succ_eq_append_getElem h]
  simp only [wrL, List.flatMap_append, List.flatMap_cons, List.flatMap_nil, List.append_nil]
end Go.Proofs.Ytpoofjioeljigaa
