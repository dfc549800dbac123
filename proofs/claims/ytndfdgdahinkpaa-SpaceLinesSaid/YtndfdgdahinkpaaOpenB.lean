/- Opening an argument that is two rows of three integers. Conditions: none. -/
import Derived.Test.YtndfdgdahinkpaaOpen
namespace Go.Proofs.Ytndfdgdahinkpaa
open Go.ChangeShapes Go.WideShapes Go.ChangeAt Go.RowKit
set_option linter.unusedVariables false
theorem arr_elems {P : Program} {w : World} {base : Nat} {H : Type} {enc : TypeId × Value → H} {spare held : _} {fuel : Nat} {t e : TypeId} {n : Nat} {k : IntKind} {cs : List Value} {x : DataW H × List MemPlace}
    (ht : P.underlying t = some (.array n e)) (he : P.underlying e = some (.int k)) (ce : P.cellsOf e = 1) (hf : DataW.trod enc P w base spare held fuel t cs = some x) :
    ∀ i, i < n → i < cs.length → ∃ z, cs[i]? = some (.int k z) ∧ (Lit.int k z).wf = true := by
  obtain ⟨xs, m, _, _, hl, hxn, hx⟩ := DataW.trod_array ht hf
  intro i hi hi'
  have h1 := hx i hi
  rw [ce, Nat.mul_one, List.getElem?_eq_getElem (by omega)] at h1
  obtain ⟨z, hz, _, hw⟩ := DataW.trod_int he h1
  have : List.take 1 (List.drop i cs) = [cs[i]] := by rw [List.drop_eq_getElem_cons hi']; rfl
  rw [this] at hz
  exact ⟨z, by rw [List.getElem?_eq_getElem hi']; simpa using hz, hw⟩
theorem open_arr23 {P : Program} {w : World} {r : Reach} {b0 base spare : Nat} {H : Type} {enc : TypeId × Value → H} {spare' held : _} {t u e : TypeId} {k : IntKind} {v : Value} {d : DataW H} {ps : List MemPlace}
    (ht : P.underlying t = some (.array 2 u)) (hu : P.underlying u = some (.array 3 e)) (he : P.underlying e = some (.int k)) (ce : P.cellsOf e = 1) (cu : P.cellsOf u = 3) (ct : P.cellsOf t = 6) (hval : Value.okWide P w r b0 t v) (hd : DataW.Trod enc P w base spare' held t v d ps) :
    ∃ a0 a1 a2 c0 c1 c2, v = .agg #[.int k a0, .int k a1, .int k a2, .int k c0, .int k c1, .int k c2] ∧ (Lit.int k a0).wf = true ∧ (Lit.int k a1).wf = true ∧ (Lit.int k a2).wf = true ∧ (Lit.int k c0).wf = true ∧ (Lit.int k c1).wf = true ∧ (Lit.int k c2).wf = true := by
  obtain ⟨cs, rfl, hs⟩ := okWide_arr ht hval
  obtain ⟨fuel, hf⟩ := hd
  obtain ⟨xs, m, _, _, hl, hxn, hx⟩ := DataW.trod_array ht hf
  have hs6 : cs.size = 6 := by omega
  have g0 := hx 0 (by omega)
  have g1 := hx 1 (by omega)
  rw [cu, List.getElem?_eq_getElem (by omega)] at g0 g1
  have f0 := arr_elems hu he ce g0
  have f1 := arr_elems hu he ce g1
  obtain ⟨l⟩ := cs
  match l, hs6 with
  | [v0, v1, v2, v3, v4, v5], _ =>
    simp only [Value.cells] at f0 f1
    obtain ⟨z0, h0, w0⟩ := f0 0 (by omega) (by simp)
    obtain ⟨z1, h1, w1⟩ := f0 1 (by omega) (by simp)
    obtain ⟨z2, h2, w2⟩ := f0 2 (by omega) (by simp)
    obtain ⟨z3, h3, w3⟩ := f1 0 (by omega) (by simp)
    obtain ⟨z4, h4, w4⟩ := f1 1 (by omega) (by simp)
    obtain ⟨z5, h5, w5⟩ := f1 2 (by omega) (by simp)
    simp at h0 h1 h2 h3 h4 h5
    subst h0 h1 h2 h3 h4 h5
    exact ⟨z0, z1, z2, z3, z4, z5, rfl, w0, w1, w2, w3, w4, w5⟩
end Go.Proofs.Ytndfdgdahinkpaa
