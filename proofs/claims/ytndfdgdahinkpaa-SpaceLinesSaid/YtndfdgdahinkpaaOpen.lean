/- Opening array arguments of integers: what the walk is told of them. Conditions: none. -/
import Derived.Test.YtndfdgdahinkpaaKit
import Derived.ProofKit
import Derived.OpenShut
import Derived.ShutString
import Derived.ChangeOld
import Derived.Below
namespace Go.Proofs.Ytndfdgdahinkpaa
open Go.ChangeShapes Go.WideShapes Go.ChangeAt Go.RowKit
set_option linter.unusedVariables false
theorem okWide_arr {P : Program} {w : World} {r : Reach} {base : Nat} {t : TypeId} {n : Nat} {e : TypeId} {v : Value} (ht : P.underlying t = some (.array n e)) (h : Value.okWide P w r base t v) : ∃ cs, v = .agg cs ∧ cs.size = P.cellsOf t := by
  simp only [Value.okWide, ht] at h
  obtain ⟨cs, h1, h2, _⟩ := h
  exact ⟨cs, h1, h2⟩
theorem open_arr {P : Program} {w : World} {r : Reach} {b0 base spare : Nat} {H : Type} {enc : TypeId × Value → H} {spare' held : _} {t e : TypeId} {n : Nat} {k : IntKind} {v : Value} {d : DataW H} {ps : List MemPlace}
    (ht : P.underlying t = some (.array n e)) (he : P.underlying e = some (.int k)) (ce : P.cellsOf e = 1) (ct : P.cellsOf t = n) (hval : Value.okWide P w r b0 t v) (hd : DataW.Trod enc P w base spare' held t v d ps) :
    ∃ l : List Int, l.length = n ∧ v = .agg (l.map (Value.int k)).toArray ∧ ∀ x ∈ l, (Lit.int k x).wf = true := by
  obtain ⟨cs, rfl, hs⟩ := okWide_arr ht hval
  obtain ⟨fuel, hf⟩ := hd
  obtain ⟨xs, m, _, _, hl, hxn, hx⟩ := DataW.trod_array ht hf
  have key : ∀ i (hi : i < cs.size), ∃ z, cs[i] = .int k z ∧ (Lit.int k z).wf = true := by
    intro i hi
    have h1 := hx i (by omega)
    rw [ce, Nat.mul_one, List.getElem?_eq_getElem (by omega)] at h1
    obtain ⟨z, hz, _, hw⟩ := DataW.trod_int he h1
    refine ⟨z, ?_, hw⟩
    have hi' : i < cs.toList.length := by simpa using hi
    have : List.take 1 (List.drop i cs.toList) = [cs.toList[i]] := by
      rw [List.drop_eq_getElem_cons hi']; rfl
    simp only [Value.cells] at hz
    rw [this] at hz
    simpa using hz
  refine ⟨List.ofFn fun i : Fin cs.size => (key i.1 i.2).choose, by simp; omega, ?_, ?_⟩
  · congr 1
    apply Array.ext
    · simp
    · intro i h1 h2
      simp only [List.getElem_toArray, List.getElem_map, List.getElem_ofFn]
      exact (key i h1).choose_spec.1
  · intro x hx'
    rw [List.mem_ofFn] at hx'
    obtain ⟨i, rfl⟩ := hx'
    exact (key i.1 i.2).choose_spec.2
theorem open_arr2 {P : Program} {w : World} {r : Reach} {b0 base spare : Nat} {H : Type} {enc : TypeId × Value → H} {spare' held : _} {t e : TypeId} {k : IntKind} {v : Value} {d : DataW H} {ps : List MemPlace}
    (ht : P.underlying t = some (.array 2 e)) (he : P.underlying e = some (.int k)) (ce : P.cellsOf e = 1) (ct : P.cellsOf t = 2) (hval : Value.okWide P w r b0 t v) (hd : DataW.Trod enc P w base spare' held t v d ps) :
    ∃ a b, v = .agg #[.int k a, .int k b] ∧ (Lit.int k a).wf = true ∧ (Lit.int k b).wf = true := by
  obtain ⟨l, hl, rfl, hw⟩ := open_arr (spare := spare) ht he ce ct hval hd
  match l, hl with
  | [a, b], _ => exact ⟨a, b, rfl, hw a (by simp), hw b (by simp)⟩
theorem open_arr3 {P : Program} {w : World} {r : Reach} {b0 base spare : Nat} {H : Type} {enc : TypeId × Value → H} {spare' held : _} {t e : TypeId} {k : IntKind} {v : Value} {d : DataW H} {ps : List MemPlace}
    (ht : P.underlying t = some (.array 3 e)) (he : P.underlying e = some (.int k)) (ce : P.cellsOf e = 1) (ct : P.cellsOf t = 3) (hval : Value.okWide P w r b0 t v) (hd : DataW.Trod enc P w base spare' held t v d ps) :
    ∃ a b c, v = .agg #[.int k a, .int k b, .int k c] ∧ (Lit.int k a).wf = true ∧ (Lit.int k b).wf = true ∧ (Lit.int k c).wf = true := by
  obtain ⟨l, hl, rfl, hw⟩ := open_arr (spare := spare) ht he ce ct hval hd
  match l, hl with
  | [a, b, c], _ => exact ⟨a, b, c, rfl, hw a (by simp), hw b (by simp), hw c (by simp)⟩
theorem wf_i16 {a : Int} (h : (Lit.int .i16 a).wf = true) : -32768 ≤ a ∧ a ≤ 32767 := by
  simp [Lit.wf, IntKind.min, IntKind.max, IntKind.bits, IntKind.signed] at h; omega
theorem wf_i8 {a : Int} (h : (Lit.int .i8 a).wf = true) : -128 ≤ a ∧ a ≤ 127 := by
  simp [Lit.wf, IntKind.min, IntKind.max, IntKind.bits, IntKind.signed] at h; omega
theorem wf_u8 {a : Int} (h : (Lit.int .u8 a).wf = true) : 0 ≤ a ∧ a ≤ 255 := by
  simp [Lit.wf, IntKind.min, IntKind.max, IntKind.bits, IntKind.signed] at h; omega
theorem wf_i64 {a : Int} (h : (Lit.int .i64 a).wf = true) : -9223372036854775808 ≤ a ∧ a ≤ 9223372036854775807 := by
  simp [Lit.wf, IntKind.min, IntKind.max, IntKind.bits, IntKind.signed] at h; omega
end Go.Proofs.Ytndfdgdahinkpaa
