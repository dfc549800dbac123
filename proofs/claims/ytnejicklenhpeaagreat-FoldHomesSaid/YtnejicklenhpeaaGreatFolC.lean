/- The walk of the law SpaceFolds. Conditions: none. -/
import Derived.Test.YtnejicklenhpeaaGreatFolA
import Derived.Test.YtnejicklenhpeaaGreatFolB
namespace Go.Proofs.YtnejicklenhpeaaGreat
open Go.RowKit Go.Lib Go.WideMaps
set_option linter.unusedVariables false
theorem dir_sm {n : Int} {u : P3} (hd : dirB n u = true) : Sm 3 u := flat_out (validB_out hd).2.1
theorem CellOf_pt {r : RecD} {u : P3} (hv : validR r.n r.l r.vars = true) (hd : dirB r.n u = true) {p : P3} (hp : p ∈ ptsL r.n r.l) (W : World) :
    Calls Tryz.prog 50 #[.int .i64 r.n, .agg #[.int .i64 u.1, .int .i64 u.2.1, .int .i64 u.2.2], .agg #[.int .i64 p.1, .int .i64 p.2.1, .int .i64 p.2.2]] W fun e w' => e = .returned (.tuple #[.agg #[.int .i64 (cellC r.n u p).1, .int .i64 (cellC r.n u p).2], .int .i64 0]) ∧ Below W.heap.size W w' := by
  have h := CellOf_any r.n u.1 u.2.1 u.2.2 p.1 p.2.1 p.2.2 W
  have hf : flatB r.n p.1 p.2.1 p.2.2 1000 = true := by
    have h20 := ((mem_ptsL (validD_out (validR_out hv).1).1 p).1 hp).1
    simp only [flatB, btw, Bool.and_eq_true, decide_eq_true_eq] at h20 ⊢
    obtain ⟨⟨⟨⟨⟨a, b⟩, c⟩, d⟩, e⟩ , f⟩ := h20
    refine ⟨⟨⟨⟨⟨by omega, by omega⟩, by omega⟩, d⟩, by omega⟩, f⟩
  have ho : okC r.n u.1 u.2.1 u.2.2 p.1 p.2.1 p.2.2 = true := by unfold okC; rw [show validB r.n u.1 u.2.1 u.2.2 = true from hd, hf]; rfl
  rw [errC_ok hd hf] at h
  simpa [cellA, cellB, ho, cellC, axK] using h
end Go.Proofs.YtnejicklenhpeaaGreat
