/- A range over a function whose iterator makes memory but turns none: what the caller's body may own. Conditions: none. -/
import Derived.Test.YtndfdgdahinkpaaLinkR
import Derived.Test.YtndfdgdahinkpaaKitH
namespace Go.Proofs.Ytndfdgdahinkpaa
open Go.RowKit
/-- The caller's: the blocks of S, and all blocks from N0 on. -/
def MineFrom (S : Nat → Prop) (N0 : Nat) (W : World) (b : Nat) : Prop := S b ∨ (N0 ≤ b ∧ b < W.heap.size)
theorem stepQ_from {B : Nat} {Mine : World → Nat → Prop} {w w' : World} (hb : Below w.heap.size w w') (hB : B ≤ w.heap.size) : StepQ B Mine w w' :=
  ⟨hb.mono hB, fun b _ ho _ => (hb.block b (lt_of_block ho)).trans ho⟩
theorem StepQ.all {S : Nat → Prop} {B N0 : Nat} {A A' : World} (h : StepQ B (MineFrom S N0) A A') (hN : N0 ≤ B) : Below A.heap.size A A' := by
  refine ⟨h.1.os, h.1.tape, h.1.output, h.1.size, fun b hb => ?_⟩
  by_cases hB : b < B
  · exact h.1.block b hB
  · have ho := Array.getElem?_eq_getElem hb
    rw [ho]
    exact h.2 b _ ho (.inl (.inr ⟨by omega, hb⟩))
/-- What is not the caller's stays. -/
def KeepS (S : Nat → Prop) (N0 : Nat) (W W' : World) : Prop := W.heap.size ≤ W'.heap.size ∧ ∀ b, b < N0 → ¬ S b → W'.heap[b]? = W.heap[b]?
theorem KeepS.refl (S : Nat → Prop) (N0 : Nat) (W : World) : KeepS S N0 W W := ⟨Nat.le_refl _, fun _ _ _ => rfl⟩
theorem KeepS.of_below {S : Nat → Prop} {N0 : Nat} {W W' : World} (h : Below N0 W W') : KeepS S N0 W W' := ⟨h.size, fun b hb _ => h.block b hb⟩
theorem KeepS.trans {S : Nat → Prop} {N0 : Nat} {A B C : World} (h : KeepS S N0 A B) (k : KeepS S N0 B C) : KeepS S N0 A C := ⟨Nat.le_trans h.1 k.1, fun b hb hs => (k.2 b hb hs).trans (h.2 b hb hs)⟩
/-- A step that turns one block, one of the caller's. -/
theorem KeepS.grown {S : Nat → Prop} {N0 : Nat} {W W' : World} {row : Option Nat} (hg : W.grownBy W' row) (hN : N0 ≤ W.heap.size) (hr : ∀ r, row = some r → S r ∨ N0 ≤ r) : KeepS S N0 W W' :=
  ⟨hg.size, fun b hb hs => hg.block b (by omega) (fun e => (hr b e.symm).elim hs (fun h => by omega))⟩
theorem kpM_from {S : Nat → Prop} {N0 : Nat} {W W' : World} (hS : ∀ b, S b → b < N0) (hN : N0 ≤ W.heap.size) (h : KeepS S N0 W W') : KpM (MineFrom S N0) W W' := by
  refine ⟨h.1, fun b o hb _ hm => ?_, fun b hb => ?_, fun _ b hb => ?_⟩
  · have hl := lt_of_block hb
    have h1 : b < N0 := Classical.byContradiction fun hn => hm (.inr ⟨by omega, hl⟩)
    exact (h.2 b h1 (fun hs => hm (.inl hs))).trans hb
  · rcases hb with hb | hb
    · exact .inl (.inl hb)
    · by_cases hl : b < W.heap.size
      · exact .inl (.inr ⟨hb.1, hl⟩)
      · exact .inr (by omega)
  · rcases hb with hb | hb
    · have := hS b hb; have := h.1; omega
    · exact hb.2
/-- The cells below N0 that are not the caller's stay. -/
def FX (S : Nat → Prop) (N0 : Nat) (W wr : World) : Prop := ∀ b, b < N0 → ¬ S b → ∀ o, W.heap[b]? = some o → o.isCells = true → wr.heap[b]? = some o
theorem FX.refl (S : Nat → Prop) (N0 : Nat) (W : World) : FX S N0 W W := fun _ _ _ _ h _ => h
theorem FX.below {S : Nat → Prop} {N0 : Nat} {W wr w' : World} (h : FX S N0 W wr) (hb : Below N0 wr w') : FX S N0 W w' := fun b hlt hs o ho hc => (hb.block b hlt).trans (h b hlt hs o ho hc)
theorem FX.round {S : Nat → Prop} {N0 : Nat} {W wr w' : World} (h : FX S N0 W wr) (hk : KpM (MineFrom S N0) wr w') : FX S N0 W w' := fun b hlt hs o ho hc => hk.2.1 b o (h b hlt hs o ho hc) (.inl hc) (fun hm => by rcases hm with hm | hm; exact hs hm; have := hm.1; omega)
theorem cells_of_cell {w : World} {a : Addr} {v : Value} (h : w.cell? a = some v) : ∃ o, w.heap[a.block]? = some o ∧ o.isCells = true := by
  have l9 := World.block_lt_of_cell? w a h
  obtain ⟨o, ho⟩ : ∃ o, w.heap[a.block]? = some o := ⟨w.heap[a.block], by simp [l9]⟩
  simp only [World.cell?, ho] at h
  refine ⟨o, ho, ?_⟩
  cases o <;> simp_all [Obj.isCells]
theorem FX.cell {S : Nat → Prop} {N0 : Nat} {W wr : World} (h : FX S N0 W wr) {b o : Nat} {v : Value} (hb : b < N0) (hs : ¬ S b) (hc : W.cell? ⟨b, o, none⟩ = some v) : wr.cell? ⟨b, o, none⟩ = some v := by
  obtain ⟨ob, h1, h2⟩ := cells_of_cell hc
  rw [← hc]
  exact World.cell?_of_block ((h b hb hs ob h1 h2).trans h1.symm)
theorem FX.sl {S : Nat → Prop} {α : Type} {enc : α → List Value} {N0 B sz : Nat} {W wr : World} (h : FX S N0 W wr) {v : Value} {l : List α} (hB : B ≤ N0) (hs : ∀ b, S b → B ≤ b) (hv : SlOf W B sz enc v l) (he : ∀ a, (enc a).length = sz) : SlOf wr B sz enc v l := by
  obtain ⟨a, cap, rfl, hl, hc, hm, h0, hr⟩ := hv
  refine ⟨a, cap, rfl, hl, hc, hm, h0, hr.imp id ?_⟩
  rintro ⟨b, off, rfl, hlt, hx⟩
  refine ⟨b, off, rfl, hlt, fun i hi => ?_⟩
  have hi2 : i < (l.flatMap enc).length := by rw [flat_len he]; exact hi
  rw [List.getElem?_eq_getElem hi2]
  exact h.cell (by omega) (fun e => by have := hs b e; omega) ((hx i hi).trans (List.getElem?_eq_getElem hi2))
end Go.Proofs.Ytndfdgdahinkpaa
