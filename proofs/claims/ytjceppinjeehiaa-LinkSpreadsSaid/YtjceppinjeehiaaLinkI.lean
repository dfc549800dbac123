/- Going into a cell's links and out of them. -/
import Derived.Test.YtjceppinjeehiaaLinkH
namespace Go.Proofs.Ytjceppinjeehiaa
open Go.RowKit
structure Pre (Mine : World → Nat → Prop) (B N0 : Nat) (W : World) (D : Nat → Prop) (wr : World) (bM : Nat) (v5 v7 : Value) (cs S nx : List C2) : Prop where
  now : RowN Mine B wr v5 cs
  nowlt : ∀ g, v5.ownBlock = some g → g < N0
  seen : Seen wr bM S
  seenm : ¬ Mine wr bM
  seenlo : B ≤ bM
  seenlt : bM < N0
  next : RowN Mine N0 wr v7 nx
  fixed : ∀ b, D b → wr.heap[b]? = W.heap[b]?
  dlt : ∀ b, D b → b < B
  size : N0 ≤ wr.heap.size
  base : B ≤ N0
  mlt : ∀ b, Mine wr b → b < wr.heap.size
variable {Mine : World → Nat → Prop} {B N0 : Nat} {W : World} {D : Nat → Prop} {wr w' : World} {bM b9 : Nat} {c : C2} {v5 v7 : Value} {cs S nx : List C2}
theorem Hold.pre (h : Hold Mine B N0 W D wr bM b9 c v5 v7 cs S nx) : Pre Mine B N0 W D wr bM v5 v7 cs S nx :=
  ⟨h.now, h.nowlt, h.seen, h.seenm, h.seenlo, h.seenlt, h.next, h.fixed, h.dlt, h.size, h.base, h.mlt⟩
theorem Pre.below (h : Pre Mine B N0 W D wr bM v5 v7 cs S nx) (hM : MineOk B Mine) (hb : Below wr.heap.size wr w') : Pre Mine B N0 W D w' bM v5 v7 cs S nx := by
  have hB : B ≤ wr.heap.size := Nat.le_trans h.base h.size
  have hq := stepQ_below (Mine := Mine) hb hB
  exact ⟨h.now.below hM hb hB, h.nowlt, h.seen.of_block (hb.block bM h.seen.lt), fun hm => h.seenm ((hM.1 _ _ hq bM).1 hm), h.seenlo, h.seenlt, h.next.below hM hb hB,
    fun b hd => (hb.block b (by have := h.dlt b hd; omega)).trans (h.fixed b hd), h.dlt, Nat.le_trans h.size hb.size, h.base, fun b hm => Nat.lt_of_lt_of_le (h.mlt b ((hM.1 _ _ hq b).1 hm)) hb.size⟩
/-- The box of the cell is laid. -/
theorem Pre.box (h : Pre Mine B N0 W D wr bM v5 v7 cs S nx) (hM : MineOk B Mine) (c : C2) (t : TypeId) : Hold Mine B N0 W D (wr.alloc (.cells #[.int .i64 c.1, .int .i64 c.2] t)) bM wr.heap.size c v5 v7 cs S nx := by
  have hb : Below wr.heap.size wr (wr.alloc (.cells #[.int .i64 c.1, .int .i64 c.2] t)) := (Below.refl _ _).alloc (Nat.le_refl _) _
  have hp := h.below hM hb
  have hB : B ≤ wr.heap.size := Nat.le_trans h.base h.size
  have hn := World.alloc_heap_new wr (.cells #[.int .i64 c.1, .int .i64 c.2] t)
  refine ⟨hp.now, hp.nowlt, hp.seen, hp.seenm, hp.seenlo, hp.seenlt, hp.next, ?_, ?_, h.size, fun hm => ?_, fun e => ?_, hp.fixed, hp.dlt, hp.size, hp.base, hp.mlt⟩
  · simp only [World.cell?, hn]; rfl
  · simp only [World.cell?, hn]; rfl
  · have := h.mlt _ ((hM.1 _ _ (stepQ_below (Mine := Mine) hb hB) _).1 hm)
    omega
  · have := (h.next.1.lt _ e).2
    omega
/-- A round of the caller's. -/
theorem Hold.round (h : Hold Mine B N0 W D wr bM b9 c v5 v7 cs S nx) (hk : KpM Mine wr w') (hD : ∀ b, D b → ¬ Mine wr b ∧ ∃ o, wr.heap[b]? = some o ∧ o.isCells = true) : Hold Mine B N0 W D w' bM b9 c v5 v7 cs S nx := by
  have l9 : b9 < wr.heap.size := World.block_lt_of_cell? wr ⟨b9, 0, none⟩ h.box0
  have k9 : w'.heap[b9]? = wr.heap[b9]? := by
    have := h.box0
    obtain ⟨o, ho⟩ : ∃ o, wr.heap[b9]? = some o := ⟨wr.heap[b9], by simp [l9]⟩
    simp only [World.cell?, ho] at this
    rw [ho]
    refine hk.2.1 b9 o ho (.inl ?_) h.boxm
    cases o <;> simp_all [Obj.isCells]
  refine ⟨h.now.round hk, h.nowlt, h.seen.of_block ?_, fun hm => ?_, h.seenlo, h.seenlt, h.next.round hk, (World.cell?_of_block k9).trans h.box0, (World.cell?_of_block k9).trans h.box1, h.boxlo, fun hm => ?_, h.boxne, fun b hd => ?_, h.dlt, Nat.le_trans h.size hk.1, h.base, hk.2.2.2 h.mlt⟩
  · obtain ⟨o, ho, _, hw⟩ := h.seen.isWalk
    rw [ho]
    exact hk.2.1 bM o ho (.inr hw) h.seenm
  · have := h.seen.lt
    exact (hk.2.2.1 bM hm).elim h.seenm (fun hle => by omega)
  · exact (hk.2.2.1 b9 hm).elim h.boxm (fun hle => by omega)
  · obtain ⟨hm, o, ho, hc⟩ := hD b hd
    rw [← h.fixed b hd, ho]
    exact hk.2.1 b o ho (.inl hc) hm
theorem Lev.mono {m m' : Int} {S cs nx : List C2} (h : Lev m (S, cs)) (hm : m ≤ m') (hn : nx = []) : Lev m' (S, nx) := by
  subst hn
  exact ⟨h.nd, fun c hc => (h.ns c hc).mono hm, by simp, by simp, by simp⟩
theorem wavesF_nil (links : List C2) (most f n : Nat) (seen : List C2) : wavesF links most f n [] seen = [] := by cases f <;> simp [wavesF]
theorem level_take (go : Bool) (links cs : List C2) (st : List C2 × List C2) (k : Nat) (h : k < cs.length) : level go links (cs.take (k + 1)) st = stepC go links (level go links (cs.take k) st) cs[k] := by
  unfold level
  rw [List.take_succ_eq_append_getElem h, List.foldl_append]
  rfl
theorem stepC_take (go : Bool) (links : List C2) (c : C2) (st : List C2 × List C2) (k : Nat) (h : k < links.length) : stepC go (links.take (k + 1)) st c = stepL go c (stepC go (links.take k) st c) links[k] := by
  unfold stepC
  rw [List.take_succ_eq_append_getElem h, List.foldl_append]
  rfl
theorem CRd.at {w : World} {v : Value} {g off : Nat} {l : List C2} (h : CRd w v g off l) : ∃ a cap, v = .slice a l.length cap ∧ ∀ k (hk : k < l.length), (∀ W, (Instr.indexAt 22 (.slice a l.length cap) (.int .i64 (k : Int))).run Try.prog W = .ok (.pointer (some ⟨g, off + 2 * k, none⟩)) W) ∧ g < w.heap.size ∧ w.cell? ⟨g, off + 2 * k, none⟩ = some (.int .i64 l[k].1) ∧ w.cell? ⟨g, off + 2 * k + 1, none⟩ = some (.int .i64 l[k].2) := by
  obtain ⟨cap, hc, hm, ⟨⟨a, c, rfl⟩, rfl⟩ | ⟨rfl, hg, hx⟩⟩ := h
  · exact ⟨a, c, rfl, fun k hk => absurd hk (by simp)⟩
  · exact ⟨_, cap, rfl, fun k hk => ⟨fun W => idx_cs g off l.length cap k hk W, hg, hx k hk⟩⟩
theorem isCells_of_cell {w : World} {a : Addr} {v : Value} (h : w.cell? a = some v) : ∃ o, w.heap[a.block]? = some o ∧ o.isCells = true := by
  have l9 := World.block_lt_of_cell? w a h
  obtain ⟨o, ho⟩ : ∃ o, w.heap[a.block]? = some o := ⟨w.heap[a.block], by simp [l9]⟩
  simp only [World.cell?, ho] at h
  refine ⟨o, ho, ?_⟩
  cases o <;> simp_all [Obj.isCells]
theorem pre_of_take {α : Type} (f : C2 → α) (pre : List α) (cs : List C2) (rest : List α) (k : Nat) (h : k < cs.length) : (pre ++ (cs.take k).map f) ++ [f cs[k]] <+: pre ++ (cs.map f ++ rest) := by
  refine ⟨(cs.drop (k + 1)).map f ++ rest, ?_⟩
  have h1 : cs = cs.take k ++ [cs[k]] ++ cs.drop (k + 1) := by rw [← List.take_succ_eq_append_getElem h, List.take_append_drop]
  have h2 := congrArg (List.map f) h1
  rw [List.map_append, List.map_append] at h2
  rw [h2]
  simp only [List.map_cons, List.map_nil, List.append_assoc]
end Go.Proofs.Ytjceppinjeehiaa
