/- What is owned of pieces and of slices of bytes stays; one more put behind. The walk of forge.pieces. -/
import Derived.Test.YtpoofjioeljigaaPieceC
namespace Go.Proofs.Ytpoofjioeljigaa
open Go.RowKit
theorem OwnPs.nil (w : World) (lo : Nat) : OwnPs w lo (.slice none 0 0) [] := ⟨[], by simpa using World.ownsRow_nil w lo _ _, trivial⟩
theorem OwnBs.nil (w : World) (lo : Nat) : OwnBs w lo (.slice none 0 0) [] := ⟨[], World.ownsRow_nil w lo _ _, trivial⟩
theorem OwnPs.kept {w w' : World} {lo : Nat} {v : Value} {ps : List (Int × List Int)} (h : OwnPs w lo v ps) (hb : Below w.heap.size w w') : OwnPs w' lo v ps := by
  obtain ⟨xs, ho, hf⟩ := h
  exact ⟨xs, own_kept ho hb (Nat.le_refl _), all2_mono (fun _ _ hx => hx.kept (KU.of_below hb)) hf⟩
theorem OwnBs.kept {w w' : World} {lo : Nat} {v : Value} {ls : List (List Int)} (h : OwnBs w lo v ls) (hb : Below w.heap.size w w') : OwnBs w' lo v ls := by
  obtain ⟨xs, ho, hf⟩ := h
  exact ⟨xs, own_kept ho hb (Nat.le_refl _), all2_mono (fun _ _ hx => hx.kept (KU.of_below hb)) hf⟩
theorem OwnPs.shape {w : World} {lo : Nat} {v : Value} {ps : List (Int × List Int)} (h : OwnPs w lo v ps) : ∃ a c, v = .slice a ps.length c := by
  obtain ⟨xs, ⟨_, ⟨rfl, h0⟩ | ⟨g, cap, cur, rfl, _⟩⟩, _⟩ := h
  · exact ⟨_, _, by rw [h0]⟩
  · exact ⟨_, _, rfl⟩
theorem OwnBs.shape {w : World} {lo : Nat} {v : Value} {ls : List (List Int)} (h : OwnBs w lo v ls) : ∃ a c, v = .slice a ls.length c := by
  obtain ⟨xs, ⟨_, ⟨rfl, h0⟩ | ⟨g, cap, cur, rfl, _⟩⟩, _⟩ := h
  · exact ⟨_, _, by rw [h0]⟩
  · exact ⟨_, _, rfl⟩
theorem zip_snoc {α β : Type} : ∀ {l : List α} {m : List β} {a : α} {b : β}, l.length = m.length → (l ++ [a]).zip (m ++ [b]) = l.zip m ++ [(a, b)]
  | [], [], _, _, _ => rfl
  | x :: l, y :: m, a, b, h => by simp only [List.cons_append, List.zip_cons_cons]; rw [zip_snoc (by simpa using h)]
/-- A piece put behind. -/
theorem OwnPs.push {w0 w' : World} {lo g c' : Nat} {v vp : Value} {ps : List (Int × List Int)} {n : Int} {part : List Int} {xs : List Value} (ho : w0.ownsRow lo 97 2 v ps.length ((ps.zip xs).flatMap fun q => [.int .i64 q.1.1, q.2])) (hf : All2 (BB w0) xs (ps.map (·.2)))
    (hp : BB w0 vp part) (hn : w'.ownsRow lo 97 2 (.slice (some ⟨g, 0, none⟩) (ps.length + 1) c') (ps.length + 1) (((ps.zip xs).flatMap fun q => [.int .i64 q.1.1, q.2]) ++ [.int .i64 n, vp])) (hg : w0.grownBy w' v.ownBlock) :
    OwnPs w' lo (.slice (some ⟨g, 0, none⟩) (ps.length + 1) c') (ps ++ [(n, part)]) := by
  have ku := KU.of_push ho (by decide) hg
  have hlen := all2_len hf
  refine ⟨xs ++ [vp], ?_, ?_⟩
  · rw [zip_snoc (by simpa using hlen.symm), List.flatMap_append, List.length_append]
    exact hn
  · rw [List.map_append]
    exact all2_snoc (hp.kept ku) (all2_mono (fun _ _ hx => hx.kept ku) hf)
theorem OwnBs.push {w0 w' : World} {lo g c' : Nat} {v vp : Value} {ls : List (List Int)} {part : List Int} {xs : List Value} (ho : w0.ownsRow lo 34 1 v ls.length xs) (hf : All2 (BB w0) xs ls)
    (hp : BB w0 vp part) (hn : w'.ownsRow lo 34 1 (.slice (some ⟨g, 0, none⟩) (ls.length + 1) c') (ls.length + 1) (xs ++ [vp])) (hg : w0.grownBy w' v.ownBlock) :
    OwnBs w' lo (.slice (some ⟨g, 0, none⟩) (ls.length + 1) c') (ls ++ [part]) := by
  have ku := KU.of_push ho (by decide) hg
  exact ⟨xs ++ [vp], by rw [List.length_append]; exact hn, all2_snoc (hp.kept ku) (all2_mono (fun _ _ hx => hx.kept ku) hf)⟩
/-- The length in a slice's value. -/
def lenV : Value → Nat | .slice _ n _ => n | _ => 0
theorem BSl.lenV {w : World} {B : Nat} {v : Value} {l : List Int} (h : BSl w B v l) : lenV v = l.length := by
  obtain ⟨a, c, rfl, -⟩ := h.rd; rfl
set_option maxHeartbeats 4000000 in
set_option maxRecDepth 100000 in
theorem pieces_any (disk : Nat) (v : Value) (l : List Int) (hl : l.length ≤ 100000) (w : World) (hv : BSl w w.heap.size v l) :
    Calls Try.prog 72 #[.int .i64 (disk : Int), v] w fun e w' => ∃ v', e = .returned v' ∧ Below w.heap.size w w' ∧ OwnPs w' w.heap.size v' (piecesL disk l) := by
  go_enter Try.func72, Try.ntmps72
  go_wp2
  go_loopw [1, 5] (fun vb vo wr => ∃ done rest, BSl wr w.heap.size vb rest ∧ Hid (piecesL disk l = done ++ piecesL disk rest) ∧ rest.length ≤ l.length ∧ done.length + rest.length ≤ l.length ∧ OwnPs wr w.heap.size vo done ∧ Below w.heap.size w wr) (fun vb _ _ => lenV vb)
  case atStart => exact ⟨[], l, hv, Lib.hid rfl, Nat.le_refl _, by simp, OwnPs.nil _ _, Below.refl _ _⟩
  case round =>
    obtain ⟨done, rest, hwB, HE, hrl, hdl, hown, hb⟩ := hrel
    have hwr := hwB.mono hb.size
    have hlv := hwr.lenV
    have HLV := Lib.hid hlv; clear hlv
    rcases hnx : nextP disk rest with _ | ⟨q, r⟩
    · have HN := Lib.hid (next_none disk u1 rest (by omega) wr hwr hnx)
      have HP := Lib.hid (piecesL_none hnx); clear hnx
      go_wp2_with (go_at_call 96; refine HN.out.mono ?_; go_must (rintro e w1 ⟨rfl, hb1⟩))
      go_ret
      refine ⟨_, rfl, hb.trans (Below.alloc (hb1.mono hb.size) (Nat.le_trans hb.size hb1.size) _), ?_⟩
      rw [HE.out, HP.out, List.append_nil]
      exact (hown.kept hb1).kept ((Below.refl _ _).alloc (Nat.le_refl _) _)
    · have HN := Lib.hid (next_some disk u1 rest (by omega) wr w.heap.size hb.size hwB q r hnx)
      have HP := Lib.hid (piecesL_some hnx)
      have hnl := nextP_len hnx; clear hnx
      obtain ⟨xs, ho, hf⟩ := hown
      go_wp2_with (first | (go_at_call 96; refine HN.out.mono ?_; go_must (rintro e w1 ⟨vp, vr, rfl, hb1, hown1, hs1⟩; obtain ⟨bp, ep, rfl⟩ := hown1.rd; have ho1 := own_kept ho hb1 (Nat.le_refl _))) | (at_builtin; refine wpList_push rfl _ _ _ rfl slPs (ho1.alloc _) rfl rfl (by simp) rfl rfl (by omega) (by omega) (by have := hb.size; have := hb1.size; simp; omega) ?_; intro g c' w2 hown2 hg hat))
      go_roundw
      case rel =>
        have hsz := Nat.le_trans hb.size hb1.size
        have hbp := below_push (hb.trans ((hb1.mono hb.size).alloc hsz (.cells #[.int .i64 q.1, .slice bp q.2.length ep] 97))) (ho1.alloc _) (Nat.le_refl _) (by simp; omega) hg
        have ku := KU.of_push (ho1.alloc _) (by decide) hg
        have kua : KU w1 (w1.alloc (.cells #[.int .i64 q.1, .slice bp q.2.length ep] 97)) := KU.of_below ((Below.refl _ _).alloc (Nat.le_refl _) _)
        refine ⟨done ++ [(q.1, q.2)], r, ?_, Lib.hid ?_, by omega, by simp; omega, ?_, hbp⟩
        · exact hs1.kept (below_push ((hb1.mono hb.size).alloc hsz (.cells #[.int .i64 q.1, .slice bp q.2.length ep] 97)) (ho1.alloc _) (Nat.le_refl _) (by simp; omega) hg)
        · rw [HE.out, HP.out]; simp
        · refine OwnPs.push (w0 := w1.alloc (.cells #[.int .i64 q.1, .slice bp q.2.length ep] 97)) (ho1.alloc _) (all2_mono (fun _ _ hx => (hx.kept (KU.of_below hb1)).kept kua) hf) (hown1.bb.kept kua) hown2 hg
      case measure =>
        have h1 := hs1.lenV
        have h2 := HLV.out
        omega
end Go.Proofs.Ytpoofjioeljigaa
