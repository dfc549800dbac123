/- The plain law behind SpaceAdds: the cell of a sum is the sum of the cells, and a point and the next one along the direction have one cell. -/
import Derived.Test.YtndfdgdahinkpaaSpaceL
namespace Go.Proofs.Ytndfdgdahinkpaa
open Go.RowKit
theorem cw_eq {pi pk uk ui : Int} (h1 : -1000 ≤ pi ∧ pi ≤ 1000) (h2 : -1000 ≤ pk ∧ pk ≤ 1000) (h3 : uk = 1 ∨ uk = -1) (h4 : -3 ≤ ui ∧ ui ≤ 3) : cw pi pk uk ui = pi - pk * uk * ui := by
  unfold cw
  obtain rfl | rfl | rfl | rfl | rfl | rfl | rfl : ui = -3 ∨ ui = -2 ∨ ui = -1 ∨ ui = 0 ∨ ui = 1 ∨ ui = 2 ∨ ui = 3 := by omega
  all_goals
    rcases h3 with rfl | rfl
    all_goals
      rw [IntWalk.wrap64_in (pk * _) ⟨by omega, by omega⟩, IntWalk.wrap64_in (pk * _ * _) ⟨by omega, by omega⟩, IntWalk.wrap64_in _ ⟨by omega, by omega⟩]
theorem cw_adds {pi pk qi qk uk ui : Int} (h1 : -300 < pi ∧ pi < 300) (h2 : -300 < pk ∧ pk < 300) (g1 : -300 < qi ∧ qi < 300) (g2 : -300 < qk ∧ qk < 300) (h3 : uk = 1 ∨ uk = -1) (h4 : -3 ≤ ui ∧ ui ≤ 3) :
    cw (pi + qi) (pk + qk) uk ui = wrap64 (cw pi pk uk ui + cw qi qk uk ui) ∧ cw (pi + ui) (pk + uk) uk ui = cw pi pk uk ui := by
  rw [cw_eq (by omega) (by omega) h3 h4, cw_eq (by omega) (by omega) h3 h4, cw_eq (by omega) (by omega) h3 h4, cw_eq (by omega) (by rcases h3 with rfl | rfl <;> omega) h3 h4]
  obtain rfl | rfl | rfl | rfl | rfl | rfl | rfl : ui = -3 ∨ ui = -2 ∨ ui = -1 ∨ ui = 0 ∨ ui = 1 ∨ ui = 2 ∨ ui = 3 := by omega
  all_goals
    rcases h3 with rfl | rfl
    all_goals
      rw [IntWalk.wrap64_in _ ⟨by omega, by omega⟩]
      omega
theorem oneB_out {x : Int} (h : oneB x = true) : x = 1 ∨ x = -1 := by simpa [oneB] using h
theorem findK_one {n x0 x1 x2 : Int} : (findK n x0 x1 x2 = 0 → x0 = 1 ∨ x0 = -1) ∧ (findK n x0 x1 x2 = 1 → x1 = 1 ∨ x1 = -1) ∧ (findK n x0 x1 x2 = 2 → x2 = 1 ∨ x2 = -1) := by
  unfold findK
  refine ⟨fun h => ?_, fun h => ?_, fun h => ?_⟩
  all_goals
    split at h
    · first | exact oneB_out (by assumption) | omega
    · split at h
      · rename_i hc
        first | omega | exact oneB_out (by simp only [Bool.and_eq_true] at hc; exact hc.2)
      · split at h
        · rename_i hc
          first | omega | exact oneB_out (by simp only [Bool.and_eq_true] at hc; exact hc.2)
        · omega
theorem flat_out {n x0 x1 x2 m : Int} (h : flatB n x0 x1 x2 m = true) : (-m ≤ x0 ∧ x0 ≤ m) ∧ (-m ≤ x1 ∧ x1 ≤ m) ∧ (-m ≤ x2 ∧ x2 ≤ m) := by
  simp only [flatB, btw, Bool.and_eq_true, decide_eq_true_eq] at h
  exact ⟨h.1.1.1.1, h.1.1.1.2, h.1.2⟩
theorem errC_ok {n x0 x1 x2 p0 p1 p2 : Int} (hv : validB n x0 x1 x2 = true) (hf : flatB n p0 p1 p2 1000 = true) : errC n x0 x1 x2 p0 p1 p2 = 0 := by simp [errC, hv, hf]
theorem cell_adds {n x0 x1 x2 p0 p1 p2 q0 q1 q2 : Int} (hv : validB n x0 x1 x2 = true) (h0 : -300 < p0 ∧ p0 < 300) (h1 : -300 < p1 ∧ p1 < 300) (h2 : -300 < p2 ∧ p2 < 300) (g0 : -300 < q0 ∧ q0 < 300) (g1 : -300 < q1 ∧ q1 < 300) (g2 : -300 < q2 ∧ q2 < 300)
    (f1 : flatB n p0 p1 p2 1000 = true) (f2 : flatB n q0 q1 q2 1000 = true) (f3 : flatB n (p0 + q0) (p1 + q1) (p2 + q2) 1000 = true) (f4 : flatB n (p0 + x0) (p1 + x1) (p2 + x2) 1000 = true) :
    cellA n x0 x1 x2 (p0 + q0) (p1 + q1) (p2 + q2) = wrap64 (cellA n x0 x1 x2 p0 p1 p2 + cellA n x0 x1 x2 q0 q1 q2) ∧ cellB n x0 x1 x2 (p0 + q0) (p1 + q1) (p2 + q2) = wrap64 (cellB n x0 x1 x2 p0 p1 p2 + cellB n x0 x1 x2 q0 q1 q2) ∧
      cellA n x0 x1 x2 (p0 + x0) (p1 + x1) (p2 + x2) = cellA n x0 x1 x2 p0 p1 p2 ∧ cellB n x0 x1 x2 (p0 + x0) (p1 + x1) (p2 + x2) = cellB n x0 x1 x2 p0 p1 p2 := by
  obtain ⟨hn, hx, hk⟩ := validB_out hv
  obtain ⟨b0, b1, b2⟩ := flat_out hx
  simp only [cellA, cellB, okC, hv, f1, f2, f3, f4, Bool.and_self, if_true]
  obtain ⟨k0, k1, k2⟩ := @findK_one n x0 x1 x2
  have z : wrap64 0 = 0 := by kernel_rfl
  rcases findK_nonneg n x0 x1 x2 with e | e | e | e
  · omega
  · have o := k0 e
    have r1 := cw_adds h1 h0 g1 g0 o b1
    have r2 := cw_adds h2 h0 g2 g0 o b2
    simp only [cA, cB, e, if_true]
    refine ⟨?_, ?_, ?_, ?_⟩ <;> split <;> simp [z, r1.1, r1.2, r2.1, r2.2]
  · have o := k1 e
    have r1 := cw_adds h0 h1 g0 g1 o b0
    have r2 := cw_adds h2 h1 g2 g1 o b2
    simp only [cA, cB, e, if_true, show ((1 : Int) = 0) = False by simp, if_false]
    refine ⟨?_, ?_, ?_, ?_⟩ <;> split <;> simp [z, r1.1, r1.2, r2.1, r2.2]
  · have o := k2 e
    have r1 := cw_adds h0 h2 g0 g2 o b0
    have r2 := cw_adds h1 h2 g1 g2 o b1
    simp only [cA, cB, e, show ((2 : Int) = 0) = False by simp, show ((2 : Int) = 1) = False by simp, if_false]
    refine ⟨?_, ?_, ?_, ?_⟩ <;> split <;> simp [z, r1.1, r1.2, r2.1, r2.2]
end Go.Proofs.Ytndfdgdahinkpaa
