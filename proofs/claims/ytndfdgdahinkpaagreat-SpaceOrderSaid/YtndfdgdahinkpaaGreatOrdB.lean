/- Maps with elements as keys: the key's law. -/
import Derived.Test.YtndfdgdahinkpaaGreatOrdA
import Derived.Test.YtndfdgdahinkpaaGreatFolB
namespace Go.Proofs.YtndfdgdahinkpaaGreat
open Go.RowKit Go.WideMaps
theorem law_el : KeyLaw Tryz.prog 55 := deep_law_laid (m := 8) (by kernel_rfl) (by decide) (of_decide_eq_true (by kernel_rfl)) (by kernel_rfl) (by kernel_rfl)
def wfE (e : ElD) : Prop := (Lit.int .i64 e.1).wf = true ∧ wf3 e.2
set_option maxRecDepth 100000 in
theorem key_el (k : ElD) (h : wfE k) : ∃ kl, keyOf Tryz.prog 55 (elD k) = some kl := by
  obtain ⟨v, x, y, z⟩ := k
  obtain ⟨hv, hx, hy, hz⟩ := h
  simp only at hv hx hy hz
  have e1 : Tryz.prog.cellsOf 3 = 1 := by kernel_rfl
  have e2 : Tryz.prog.cellsOf 29 = 3 := by kernel_rfl
  have e4 : Tryz.prog.cellsOf 55 = 4 := by kernel_rfl
  have e3 : Tryz.prog.keyType 55 = true := by kernel_rfl
  obtain ⟨m, hm⟩ := types_some
  have h2 : Tryz.prog.keyLits (m + 3) 55 [.int .i64 v, .int .i64 x, .int .i64 y, .int .i64 z] = some [.int .i64 v, .int .i64 x, .int .i64 y, .int .i64 z] := by
    simp [Program.keyLits, Tryz.underlying55, Tryz.underlying29, Tryz.underlying3, e1, e2, e4, List.range_succ, hv, hx, hy, hz]
  unfold keyOf
  rw [hm]
  simp [elD, Tryz.underlying55, e4, e3, Value.formed, Value.cells, h2]
end Go.Proofs.YtndfdgdahinkpaaGreat
