/- What the waves hold while a cell's links are tried, and how each step keeps it. -/
import Derived.Test.YtjceppinjeehiaaLinkC
namespace Go.Proofs.Ytjceppinjeehiaa
open Go.RowKit
/-- Mine is told by what the iterator does not turn. -/
def MineOk (B : Nat) (Mine : World → Nat → Prop) : Prop := (∀ A A', StepQ B Mine A A' → ∀ b, Mine A' b ↔ Mine A b) ∧ True
structure Hold (Mine : World → Nat → Prop) (B N0 : Nat) (W : World) (D : Nat → Prop) (wr : World) (bM b9 : Nat) (c : C2) (v5 v7 : Value) (cs S nx : List C2) : Prop where
  now : RowN Mine B wr v5 cs
  nowlt : ∀ g, v5.ownBlock = some g → g < N0
  seen : Seen wr bM S
  seenm : ¬ Mine wr bM
  seenlo : B ≤ bM
  seenlt : bM < N0
  next : RowN Mine N0 wr v7 nx
  box0 : wr.cell? ⟨b9, 0, none⟩ = some (.int .i64 c.1)
  box1 : wr.cell? ⟨b9, 1, none⟩ = some (.int .i64 c.2)
  boxlo : N0 ≤ b9
  boxm : ¬ Mine wr b9
  boxne : v7.ownBlock ≠ some b9
  fixed : ∀ b, D b → wr.heap[b]? = W.heap[b]?
  dlt : ∀ b, D b → b < B
  size : N0 ≤ wr.heap.size
  base : B ≤ N0
  mlt : ∀ b, Mine wr b → b < wr.heap.size
theorem stepQ_below {B : Nat} {Mine : World → Nat → Prop} {w w' : World} (hb : Below w.heap.size w w') (hB : B ≤ w.heap.size) : StepQ B Mine w w' :=
  ⟨hb.mono hB, fun b _ ho _ => (hb.block b (lt_of_block ho)).trans ho⟩
theorem RowN.below {Mine : World → Nat → Prop} {B lo : Nat} {w w' : World} {v : Value} {cs : List C2} (h : RowN Mine lo w v cs) (hM : MineOk B Mine) (hb : Below w.heap.size w w') (hB : B ≤ w.heap.size) : RowN Mine lo w' v cs :=
  h.of_block fun g _ _ ho _ hm => ⟨(hb.block g (lt_of_block ho)).trans ho, fun hm' => hm ((hM.1 _ _ (stepQ_below hb hB) g).1 hm')⟩
variable {Mine : World → Nat → Prop} {B N0 : Nat} {W : World} {D : Nat → Prop} {wr w' : World} {bM b9 : Nat} {c : C2} {v5 v7 : Value} {cs S nx : List C2}
theorem Hold.below (h : Hold Mine B N0 W D wr bM b9 c v5 v7 cs S nx) (hM : MineOk B Mine) (hb : Below wr.heap.size wr w') : Hold Mine B N0 W D w' bM b9 c v5 v7 cs S nx := by
  have hB : B ≤ wr.heap.size := Nat.le_trans h.base h.size
  have hq := stepQ_below (Mine := Mine) hb hB
  have l9 : b9 < wr.heap.size := World.block_lt_of_cell? wr ⟨b9, 0, none⟩ h.box0
  exact ⟨h.now.below hM hb hB, h.nowlt, h.seen.of_block (hb.block bM h.seen.lt), fun hm => h.seenm ((hM.1 _ _ hq bM).1 hm), h.seenlo, h.seenlt, h.next.below hM hb hB,
    (hb.cell (p := ⟨b9, 0, none⟩) l9).trans h.box0, (hb.cell (p := ⟨b9, 1, none⟩) l9).trans h.box1, h.boxlo, fun hm => h.boxm ((hM.1 _ _ hq b9).1 hm), h.boxne,
    fun b hd => (hb.block b (by have := h.dlt b hd; omega)).trans (h.fixed b hd), h.dlt, Nat.le_trans h.size hb.size, h.base, fun b hm => Nat.lt_of_lt_of_le (h.mlt b ((hM.1 _ _ hq b).1 hm)) hb.size⟩
theorem Hold.stepPut (h : Hold Mine B N0 W D wr bM b9 c v5 v7 cs S nx) (hg : wr.grownBy w' (some bM)) : StepQ B Mine wr w' := by
  obtain ⟨o, ho, _, hw⟩ := h.seen.isWalk
  exact StepQ.grown hg (Nat.le_trans h.base h.size) (fun r e => by cases e; exact ⟨h.seenlo, h.seenm, o, ho, .inr hw⟩)
theorem Hold.put {S' : List C2} (h : Hold Mine B N0 W D wr bM b9 c v5 v7 cs S nx) (hM : MineOk B Mine) (hg : wr.grownBy w' (some bM)) (hs : Seen w' bM S') : Hold Mine B N0 W D w' bM b9 c v5 v7 cs S' nx := by
  have hq := h.stepPut hg
  obtain ⟨o, ho, hc, _⟩ := h.seen.isWalk
  have l9 : b9 < wr.heap.size := World.block_lt_of_cell? wr ⟨b9, 0, none⟩ h.box0
  have n9 : bM ≠ b9 := by have := h.seenlt; have := h.boxlo; omega
  have hne : ∀ {v : Value} {lo : Nat} {l : List C2}, RowN Mine lo wr v l → ∀ g, v.ownBlock = some g → some g ≠ some bM := fun hr g hv e => by
    cases e
    obtain ⟨⟨_, ⟨rfl, _⟩ | ⟨g', cap, cur, rfl, _, hh, _⟩⟩, _⟩ := hr
    · simp [Value.ownBlock] at hv
    · simp [Value.ownBlock] at hv
      subst hv
      rw [ho] at hh
      cases hh
      cases hc
  refine ⟨h.now.kept (fun A A' hx b => (hM.1 A A' hx b).1) hq hg (hne h.now), h.nowlt, hs, fun hm => h.seenm ((hM.1 _ _ hq bM).1 hm), h.seenlo, h.seenlt, h.next.kept (fun A A' hx b => (hM.1 A A' hx b).1) hq hg (hne h.next), ?_, ?_, h.boxlo, fun hm => h.boxm ((hM.1 _ _ hq b9).1 hm), h.boxne, ?_, h.dlt, Nat.le_trans h.size hg.size, h.base, fun b hm => Nat.lt_of_lt_of_le (h.mlt b ((hM.1 _ _ hq b).1 hm)) hg.size⟩
  · exact (World.cell?_of_block (hg.block b9 l9 (fun e => n9 (by cases e; rfl)))).trans h.box0
  · exact (World.cell?_of_block (hg.block b9 l9 (fun e => n9 (by cases e; rfl)))).trans h.box1
  · intro b hd
    have h1 := h.dlt b hd
    have h2 := h.seenlo
    have h3 := h.base
    have h4 := h.size
    exact (hg.block b (by omega) (fun e => by cases e; omega)).trans (h.fixed b hd)
theorem Hold.stepPush (h : Hold Mine B N0 W D wr bM b9 c v5 v7 cs S nx) (hg : wr.grownBy w' v7.ownBlock) : StepQ B Mine wr w' := by
  refine StepQ.grown hg (Nat.le_trans h.base h.size) (fun r e => ?_)
  obtain ⟨⟨_, ⟨rfl, _⟩ | ⟨g', cap, cur, rfl, hlo, hh, _⟩⟩, hm⟩ := h.next
  · simp [Value.ownBlock] at e
  · have := hm r e
    simp [Value.ownBlock] at e
    subst e
    exact ⟨Nat.le_trans h.base hlo, this, _, hh, .inl rfl⟩
theorem Hold.push {v' : Value} {nx' : List C2} (h : Hold Mine B N0 W D wr bM b9 c v5 v7 cs S nx) (hM : MineOk B Mine) (hg : wr.grownBy w' v7.ownBlock) (hown : w'.ownsRow N0 24 2 v' nx'.length (flatC nx')) (hat : v'.ownBlock = v7.ownBlock ∨ ∀ g, v'.ownBlock = some g → wr.heap.size ≤ g) : Hold Mine B N0 W D w' bM b9 c v5 v' cs S nx' := by
  have hq := h.stepPush hg
  have l9 : b9 < wr.heap.size := World.block_lt_of_cell? wr ⟨b9, 0, none⟩ h.box0
  have hv7 : ∀ g, v7.ownBlock = some g → N0 ≤ g ∧ g < wr.heap.size := fun g hv => h.next.1.lt g hv
  refine ⟨h.now.kept (fun A A' hx b => (hM.1 A A' hx b).1) hq hg (fun g hv e => ?_), h.nowlt, h.seen.of_block (hg.block bM h.seen.lt (fun e => ?_)), fun hm => h.seenm ((hM.1 _ _ hq bM).1 hm), h.seenlo, h.seenlt, ⟨hown, fun g hv hm => ?_⟩, ?_, ?_, h.boxlo, fun hm => h.boxm ((hM.1 _ _ hq b9).1 hm), ?_, ?_, h.dlt, Nat.le_trans h.size hg.size, h.base, fun b hm => Nat.lt_of_lt_of_le (h.mlt b ((hM.1 _ _ hq b).1 hm)) hg.size⟩
  · have h1 := h.nowlt g hv
    have h2 := (hv7 g e.symm).1
    omega
  · have h1 := (hv7 bM e.symm).1
    have h2 := h.seenlt
    omega
  · have hm2 := (hM.1 _ _ hq g).1 hm
    rcases hat with hat | hat
    · exact h.next.2 g (hat ▸ hv) hm2
    · have h1 := hat g hv
      have h2 := h.mlt _ hm2
      omega
  · exact (World.cell?_of_block (hg.block b9 l9 (fun e => h.boxne e.symm))).trans h.box0
  · exact (World.cell?_of_block (hg.block b9 l9 (fun e => h.boxne e.symm))).trans h.box1
  · intro e
    rcases hat with hat | hat
    · exact h.boxne (hat ▸ e)
    · have := hat b9 e
      omega
  · intro b hd
    have h1 := h.dlt b hd
    have h3 := h.base
    have h4 := h.size
    exact (hg.block b (by omega) (fun e => by have := (hv7 b e.symm).1; omega)).trans (h.fixed b hd)
/-- Reading an own row. -/
theorem RowN.at {lo : Nat} {w : World} {v : Value} {l : List C2} (h : RowN Mine lo w v l) : ∃ a cap, v = .slice a l.length cap ∧ ∀ k (hk : k < l.length), ∃ g, (∀ W, (Instr.indexAt 22 (.slice a l.length cap) (.int .i64 (k : Int))).run Try.prog W = .ok (.pointer (some ⟨g, 2 * k, none⟩)) W) ∧ g < w.heap.size ∧ w.cell? ⟨g, 2 * k, none⟩ = some (.int .i64 l[k].1) ∧ w.cell? ⟨g, 2 * k + 1, none⟩ = some (.int .i64 l[k].2) := by
  obtain ⟨ho, _⟩ := h
  rcases id ho with ⟨_, ⟨rfl, h0⟩ | ⟨g, cap, cur, rfl, hbg, hg, _⟩⟩
  · exact ⟨none, 0, by rw [h0], fun k hk => by omega⟩
  · refine ⟨_, cap, rfl, fun k hk => ⟨g, fun W => by simpa using idx_cs g 0 l.length cap k hk W, lt_of_block hg, ?_, ?_⟩⟩
    · rw [World.ownsRow.cellAt ho _ (by omega), (flatC_at l k hk).1]
    · rw [World.ownsRow.cellAt ho _ (by omega), (flatC_at l k hk).2]
end Go.Proofs.Ytjceppinjeehiaa
