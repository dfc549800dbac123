/- Rows of rows: a slice whose elements are slices. Conditions: none. -/
import Derived.Test.YtndfdgdahinkpaaKitA
namespace Go.Proofs.Ytndfdgdahinkpaa
open Go.RowKit
def encW (v : Value) : List Value := [v]
theorem Sl.grown {w w' : World} {B sz n : Nat} {v : Value} {xs : List Value} {row : Option Nat} (h : Sl w B sz v n xs) (hB : B ≤ w.heap.size) (hg : w.grownBy w' row) (hne : ∀ g, v.ownBlock = some g → row ≠ some g) : Sl w' B sz v n xs := by
  obtain ⟨a, cap, rfl, hl, hc, hm, h0, hr⟩ := h
  refine ⟨a, cap, rfl, hl, hc, hm, h0, hr.imp id ?_⟩
  rintro ⟨b, off, rfl, hlt, hx⟩
  refine ⟨b, off, rfl, hlt, fun i hi => ?_⟩
  rw [← hx i hi]
  exact World.cell?_of_block (a := ⟨b, off + i, none⟩) (hg.block b (by omega) (fun e => hne b rfl e.symm))
/-- The slices vs read the rows ll; none of them lies in the block out. -/
structure RowsOf {α : Type} (w : World) (sz : Nat) (enc : α → List Value) (out : Option Nat) (vs : List Value) (ll : List (List α)) : Prop where
  len : vs.length = ll.length
  row : ∀ (i : Nat) (v : Value) (l : List α), vs[i]? = some v → ll[i]? = some l → SlOf w w.heap.size sz enc v l
  apart : ∀ v ∈ vs, ∀ g, v.ownBlock = some g → g < w.heap.size ∧ out ≠ some g
section
variable {α : Type} {w w' : World} {sz : Nat} {enc : α → List Value} {out : Option Nat} {vs : List Value} {ll : List (List α)}
theorem RowsOf.nil (w : World) (sz : Nat) (enc : α → List Value) (out : Option Nat) : RowsOf w sz enc out [] ([] : List (List α)) :=
  ⟨rfl, fun i v l h => by simp at h, fun v h => by simp at h⟩
theorem RowsOf.kept (h : RowsOf w sz enc out vs ll) (hb : Below w.heap.size w w') : RowsOf w' sz enc out vs ll :=
  ⟨h.len, fun i v l h1 h2 => (h.row i v l h1 h2).below hb, fun v hv g hg => ⟨Nat.lt_of_lt_of_le (h.apart v hv g hg).1 hb.size, (h.apart v hv g hg).2⟩⟩
theorem RowsOf.push (h : RowsOf w sz enc out vs ll) {v : Value} {l : List α} (hv : SlOf w w.heap.size sz enc v l) (ha : ∀ g, v.ownBlock = some g → g < w.heap.size ∧ out ≠ some g) (hg : w.grownBy w' out) {g5 : Nat} (hat : out = some g5 ∨ w.heap.size ≤ g5) : RowsOf w' sz enc (some g5) (vs ++ [v]) (ll ++ [l]) := by
  refine ⟨by simp [h.len], fun i x m h1 h2 => ?_, fun x hx g hxg => ?_⟩
  · rcases Nat.lt_or_ge i vs.length with hi | hi
    · rw [List.getElem?_append_left hi] at h1
      rw [List.getElem?_append_left (by rw [← h.len]; exact hi)] at h2
      have hmem : x ∈ vs := List.mem_of_getElem? h1
      exact SlOf.mono (Sl.grown (h.row i x m h1 h2) (Nat.le_refl _) hg (fun g e => (h.apart x hmem g e).2)) hg.size
    · rw [List.getElem?_append_right hi] at h1
      rw [List.getElem?_append_right (by rw [← h.len]; exact hi)] at h2
      have hi0 : i - vs.length = 0 := by
        have := (List.getElem?_eq_some_iff.1 h1).1
        simp at this; omega
      rw [hi0] at h1
      rw [← h.len, hi0] at h2
      simp at h1 h2
      subst h1 h2
      exact SlOf.mono (Sl.grown hv (Nat.le_refl _) hg (fun g e => (ha g e).2)) hg.size
  · have hlt : g < w.heap.size ∧ out ≠ some g := by
      rcases List.mem_append.1 hx with hx | hx
      · exact h.apart x hx g hxg
      · simp at hx; subst hx; exact ha g hxg
    refine ⟨Nat.lt_of_lt_of_le hlt.1 hg.size, fun e => ?_⟩
    cases e
    rcases hat with e | e
    · exact hlt.2 e
    · have := hlt.1; omega
end
/-- The slice v reads the rows ll. -/
def RowsSl {α : Type} (w : World) (sz : Nat) (enc : α → List Value) (v : Value) (ll : List (List α)) : Prop :=
  ∃ vs : List Value, SlOf w w.heap.size 1 encW v vs ∧ vs.length = ll.length ∧ ∀ (i : Nat) (x : Value) (l : List α), vs[i]? = some x → ll[i]? = some l → SlOf w w.heap.size sz enc x l
theorem RowsSl.nil {α : Type} (w : World) (sz : Nat) (enc : α → List Value) : RowsSl w sz enc (.slice none 0 0) ([] : List (List α)) :=
  ⟨[], Sl.nil _ _ _, rfl, fun i v l h => by simp at h⟩
theorem RowsSl.below {α : Type} {w w' : World} {sz : Nat} {enc : α → List Value} {v : Value} {ll : List (List α)} (h : RowsSl w sz enc v ll) (hb : Below w.heap.size w w') : RowsSl w' sz enc v ll := by
  obtain ⟨vs, h1, h2, h3⟩ := h
  exact ⟨vs, h1.below hb, h2, fun i x l a b => (h3 i x l a b).below hb⟩
theorem RowsSl.shape {α : Type} {w : World} {sz : Nat} {enc : α → List Value} {v : Value} {ll : List (List α)} (h : RowsSl w sz enc v ll) : ∃ a c, v = .slice a ll.length c := by
  obtain ⟨vs, ⟨a, c, h1, -⟩, h2, -⟩ := h
  exact ⟨a, c, by rw [h1, h2]⟩
end Go.Proofs.Ytndfdgdahinkpaa
