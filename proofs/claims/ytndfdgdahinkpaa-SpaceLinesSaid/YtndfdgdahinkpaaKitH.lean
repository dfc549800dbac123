/- Slices that a call owns, told by data. Conditions: none. -/
import Derived.Test.YtndfdgdahinkpaaKitF
import Derived.Test.YtndfdgdahinkpaaKitG
import Derived.Test.YtndfdgdahinkpaaKitD
namespace Go.Proofs.Ytndfdgdahinkpaa
open Go.RowKit
/-- In world w the slice v owns a row, from block base on, of the elements l, each as enc says. -/
def OwnOf {α : Type} (w : World) (base : Nat) (e : TypeId) (sz : Nat) (enc : α → List Value) (v : Value) (l : List α) : Prop := w.ownsRow base e sz v l.length (l.flatMap enc)
section
variable {α : Type} {w w1 : World} {base : Nat} {e : TypeId} {sz : Nat} {enc : α → List Value} {v : Value} {l : List α}
theorem OwnOf.nil (w : World) (base : Nat) (e : TypeId) (sz : Nat) (enc : α → List Value) : OwnOf w base e sz enc (.slice none 0 0) [] := World.ownsRow_nil _ _ _ _
theorem OwnOf.shape (h : OwnOf w base e sz enc v l) : ∃ a c, v = .slice a l.length c := by
  obtain ⟨_, ⟨rfl, h0⟩ | ⟨g, cap, cur, rfl, _⟩⟩ := h
  · exact ⟨_, _, by rw [h0]⟩
  · exact ⟨_, _, rfl⟩
theorem OwnOf.kept (h : OwnOf w base e sz enc v l) (hb : Below w.heap.size w w1) : OwnOf w1 base e sz enc v l := by
  refine ⟨h.1, h.2.imp id ?_⟩
  rintro ⟨g, cap, cur, rfl, hbg, hg, r⟩
  exact ⟨g, cap, cur, rfl, hbg, by rw [hb.block g (lt_of_block hg)]; exact hg, r⟩
theorem OwnOf.mono {base' : Nat} (h : OwnOf w base e sz enc v l) (hb : base' ≤ base) : OwnOf w base' e sz enc v l :=
  ⟨h.1, h.2.imp id fun ⟨g, cap, cur, e1, h1, r⟩ => ⟨g, cap, cur, e1, Nat.le_trans hb h1, r⟩⟩
theorem OwnOf.sl (h : OwnOf w base e sz enc v l) : SlOf w w.heap.size sz enc v l := Sl.of_own h
theorem OwnOf.lt (h : OwnOf w base e sz enc v l) (g : Nat) (hg : v.ownBlock = some g) : base ≤ g ∧ g < w.heap.size := by
  rcases h.2 with ⟨rfl, _⟩ | ⟨g', cap, cur, rfl, hbg, hgb, _⟩
  · simp [Value.ownBlock] at hg
  · simp [Value.ownBlock] at hg; subst hg; exact ⟨hbg, lt_of_block hgb⟩
theorem OwnOf.snoc {xs : List Value} {x : α} (h : w.ownsRow base e sz v (l.length + 1) (l.flatMap enc ++ xs)) (hx : xs = enc x) : OwnOf w base e sz enc v (l ++ [x]) := by
  unfold OwnOf
  rw [List.flatMap_append, List.length_append]
  subst hx
  simpa using h
end
/-- Below B all is as it was, when a row of the call's own has grown. -/
theorem OwnOf.push {α : Type} {enc : α → List Value} {B base : Nat} {W w w' : World} {e : TypeId} {sz : Nat} {v : Value} {l : List α} (hb : Below B W w) (hown : OwnOf w base e sz enc v l) (hB : B ≤ base) (hw : B ≤ w.heap.size) (hg : w.grownBy w' v.ownBlock) : Below B W w' := below_push hb hown hB hw hg
/-- A slice below the row's base stays. -/
theorem SlOf.push {α β : Type} {enc : α → List Value} {enc2 : β → List Value} {B base : Nat} {w w' : World} {e : TypeId} {sz s2 : Nat} {v u : Value} {l : List α} {m : List β} (h : SlOf w B s2 enc2 u m) (hown : OwnOf w base e sz enc v l) (hB : B ≤ base) (hw : B ≤ w.heap.size) (hg : w.grownBy w' v.ownBlock) : SlOf w' B s2 enc2 u m :=
  h.kept (below_push (Below.refl B w) hown hB hw hg)
end Go.Proofs.Ytndfdgdahinkpaa
