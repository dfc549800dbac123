/- The walks of the reference's CellOf. The walk of law04.Sane. What CellOf and the reference's CellOf return, in one form for all arguments. The plain law behind SpaceAdds: the cell of a sum is the sum of the cells, and a point and the next one along the direction have one cell. Conditions: none. -/
import Derived.Test.YtnejicklenhpeaaGreatSpaceS
import Derived.Test.YtnejicklenhpeaaGreatSpaceI
namespace Go.Proofs.YtnejicklenhpeaaGreat
open Go.RowKit
end Go.Proofs.YtnejicklenhpeaaGreat
namespace Go.Proofs.YtnejicklenhpeaaGreat
open Go.RowKit
theorem sane04_cell (w : World) : Calls Tryz.prog 50 #[.int .i64 (2), .agg #[.int .i64 (1), .int .i64 (1), .int .i64 (0)], .agg #[.int .i64 (3), .int .i64 (5), .int .i64 (0)]] w fun e w' => e = .returned (.tuple #[.agg #[.int .i64 (2), .int .i64 (0)], .int .i64 (0)]) ∧ Below w.heap.size w w' := by
  have h := CellOf20 1 1 0 3 5 w (by decide) (by decide) (by decide) (by decide)
  rwa [show cw 5 3 1 1 = 2 by kernel_rfl] at h
end Go.Proofs.YtnejicklenhpeaaGreat
namespace Go.Proofs.YtnejicklenhpeaaGreat
open Go.RowKit
theorem validB_out {n x0 x1 x2 : Int} (h : validB n x0 x1 x2 = true) : btw 1 n 3 = true ∧ flatB n x0 x1 x2 3 = true ∧ 0 ≤ findK n x0 x1 x2 := by
  simp only [validB, Bool.and_eq_true, decide_eq_true_eq] at h; exact ⟨h.1.1, h.1.2, h.2⟩
theorem findK_le (n x0 x1 x2 : Int) (h : n ≤ 2) : findK n x0 x1 x2 ≠ 2 := by
  have e : ¬ (2 < n) := by omega
  simp only [findK]; split <;> (try split) <;> simp [e]
theorem findK_le1 (n x0 x1 x2 : Int) (h : n ≤ 1) : findK n x0 x1 x2 ≠ 1 := by
  have e : ¬ (2 < n) := by omega
  have e' : ¬ (1 < n) := by omega
  simp only [findK]; split <;> simp [e, e']
def cA (n k x0 x1 x2 p0 p1 p2 : Int) : Int := if n = 1 then 0 else if k = 0 then cw p1 p0 x0 x1 else if k = 1 then cw p0 p1 x1 x0 else cw p0 p2 x2 x0
def cB (n k x0 x1 x2 p0 p1 p2 : Int) : Int := if n ≤ 2 then 0 else if k = 0 then cw p2 p0 x0 x2 else if k = 1 then cw p2 p1 x1 x2 else cw p1 p2 x2 x1
def okC (n x0 x1 x2 p0 p1 p2 : Int) : Bool := validB n x0 x1 x2 && flatB n p0 p1 p2 1000
def errC (n x0 x1 x2 p0 p1 p2 : Int) : Int := if validB n x0 x1 x2 = true then (if flatB n p0 p1 p2 1000 = true then 0 else 2) else 40
def cellA (n x0 x1 x2 p0 p1 p2 : Int) : Int := if okC n x0 x1 x2 p0 p1 p2 = true then cA n (findK n x0 x1 x2) x0 x1 x2 p0 p1 p2 else 0
def cellB (n x0 x1 x2 p0 p1 p2 : Int) : Int := if okC n x0 x1 x2 p0 p1 p2 = true then cB n (findK n x0 x1 x2) x0 x1 x2 p0 p1 p2 else 0
theorem CellOf_any (n x0 x1 x2 p0 p1 p2 : Int) (w : World) :
    Calls Tryz.prog 50 #[.int .i64 (n), .agg #[.int .i64 (x0), .int .i64 (x1), .int .i64 (x2)], .agg #[.int .i64 (p0), .int .i64 (p1), .int .i64 (p2)]] w fun e w' => e = .returned (.tuple #[.agg #[.int .i64 (cellA n x0 x1 x2 p0 p1 p2), .int .i64 (cellB n x0 x1 x2 p0 p1 p2)], .int .i64 (errC n x0 x1 x2 p0 p1 p2)]) ∧ Below w.heap.size w w' := by
  rcases hv : validB n x0 x1 x2 with _ | _
  · simp only [cellA, cellB, okC, errC, hv, Bool.false_and, Bool.false_eq_true, if_false]
    exact CellOf_bad n x0 x1 x2 p0 p1 p2 w hv
  obtain ⟨hn, hx, hk⟩ := validB_out hv
  rcases hf : flatB n p0 p1 p2 1000 with _ | _
  · simp only [cellA, cellB, okC, errC, hv, hf, Bool.true_and, Bool.false_eq_true, if_false, if_true]
    exact CellOf_arg n x0 x1 x2 p0 p1 p2 w hv hf
  have hK := findK_nonneg n x0 x1 x2
  simp only [cellA, cellB, okC, errC, hv, hf, Bool.true_and, if_true]
  obtain ⟨rfl, rfl, rfl, a⟩ | ⟨rfl, rfl, a, b⟩ | ⟨rfl, a, b, c⟩ := flat_pad hn hx
  · obtain ⟨_, rfl, rfl, a'⟩ | ⟨h, _⟩ | ⟨h, _⟩ := flat_pad hn hf
    · have e1 := findK_le 1 x0 0 0 (by omega)
      have e2 := findK_le1 1 x0 0 0 (by omega)
      rcases (show findK 1 x0 0 0 = 0 by omega) with g
      · rw [g]; exact CellOf10 x0 0 0 p0 w hv g a'
    · omega
    · omega
  · obtain ⟨h, _⟩ | ⟨_, rfl, a', b'⟩ | ⟨h, _⟩ := flat_pad hn hf
    · omega
    · have e1 := findK_le 2 x0 x1 0 (by omega)
      rcases (show findK 2 x0 x1 0 = 0 ∨ findK 2 x0 x1 0 = 1 by omega) with g | g
      · rw [g]; exact CellOf20 x0 x1 0 p0 p1 w hv g a' b'
      · rw [g]; exact CellOf21 x0 x1 0 p0 p1 w hv g a' b'
    · omega
  · obtain ⟨h, _⟩ | ⟨h, _⟩ | ⟨_, a', b', c'⟩ := flat_pad hn hf
    · omega
    · omega
    · skip
      rcases (show findK 3 x0 x1 x2 = 0 ∨ findK 3 x0 x1 x2 = 1 ∨ findK 3 x0 x1 x2 = 2 by omega) with g | g | g
      · rw [g]; exact CellOf30 x0 x1 x2 p0 p1 p2 w hv g a' b' c'
      · rw [g]; exact CellOf31 x0 x1 x2 p0 p1 p2 w hv g a' b' c'
      · rw [g]; exact CellOf32 x0 x1 x2 p0 p1 p2 w hv g a' b' c'
end Go.Proofs.YtnejicklenhpeaaGreat
namespace Go.Proofs.YtnejicklenhpeaaGreat
open Go.RowKit
theorem cw_eq {pi pk uk ui : Int} (h1 : -1000 ≤ pi ∧ pi ≤ 1000) (h2 : -1000 ≤ pk ∧ pk ≤ 1000) (h3 : uk = 1 ∨ uk = -1) (h4 : -3 ≤ ui ∧ ui ≤ 3) : cw pi pk uk ui = pi - pk * uk * ui := by
  unfold cw
  obtain rfl | rfl | rfl | rfl | rfl | rfl | rfl : ui = -3 ∨ ui = -2 ∨ ui = -1 ∨ ui = 0 ∨ ui = 1 ∨ ui = 2 ∨ ui = 3 := by omega
  all_goals
    rcases h3 with rfl | rfl
    all_goals
      rw [IntWalk.wrap64_in (pk * _) ⟨by omega, by omega⟩, IntWalk.wrap64_in (pk * _ * _) ⟨by omega, by omega⟩, IntWalk.wrap64_in _ ⟨by omega, by omega⟩]
theorem cw_adds {pi pk qi qk uk ui : Int} (h1 : -300 < pi ∧ pi < 300) (h2 : -300 < pk ∧ pk < 300) (g1 : -300 < qi ∧ qi < 300) (g2 : -300 < qk ∧ qk < 300) (h3 : uk = 1 ∨ uk = -1) (h4 : -3 ≤ ui ∧ ui ≤ 3) :
    cw (pi + qi) (pk + qk) uk ui = wrap64 (cw pi pk uk ui + cw qi qk uk ui) ∧ cw (pi + ui) (pk + uk) uk ui = cw pi pk uk ui := by
  rw [cw_eq (by omega) (by omega) h3 h4, cw_eq (by omega) (by omega) h3 h4, cw_eq (by omega) (by omega) h3 h4, cw_eq (by omega) (by rcases h3 with rfl | rfl <;> omega) h3 h4]
  obtain rfl | rfl | rfl | rfl | rfl | rfl | rfl : ui = -3 ∨ ui = -2 ∨ ui = -1 ∨ ui = 0 ∨ ui = 1 ∨ ui = 2 ∨ ui = 3 := by omega
  all_goals
    rcases h3 with rfl | rfl
    all_goals
      rw [IntWalk.wrap64_in _ ⟨by omega, by omega⟩]
      omega
theorem oneB_out {x : Int} (h : oneB x = true) : x = 1 ∨ x = -1 := by simpa [oneB] using h
theorem findK_one {n x0 x1 x2 : Int} : (findK n x0 x1 x2 = 0 → x0 = 1 ∨ x0 = -1) ∧ (findK n x0 x1 x2 = 1 → x1 = 1 ∨ x1 = -1) ∧ (findK n x0 x1 x2 = 2 → x2 = 1 ∨ x2 = -1) := by
  unfold findK
  refine ⟨fun h => ?_, fun h => ?_, fun h => ?_⟩
  all_goals
    split at h
    · first | exact oneB_out (by assumption) | omega
    · split at h
      · rename_i hc
        first | omega | exact oneB_out (by simp only [Bool.and_eq_true] at hc; exact hc.2)
      · split at h
        · rename_i hc
          first | omega | exact oneB_out (by simp only [Bool.and_eq_true] at hc; exact hc.2)
        · omega
theorem flat_out {n x0 x1 x2 m : Int} (h : flatB n x0 x1 x2 m = true) : (-m ≤ x0 ∧ x0 ≤ m) ∧ (-m ≤ x1 ∧ x1 ≤ m) ∧ (-m ≤ x2 ∧ x2 ≤ m) := by
  simp only [flatB, btw, Bool.and_eq_true, decide_eq_true_eq] at h
  exact ⟨h.1.1.1.1, h.1.1.1.2, h.1.2⟩
theorem errC_ok {n x0 x1 x2 p0 p1 p2 : Int} (hv : validB n x0 x1 x2 = true) (hf : flatB n p0 p1 p2 1000 = true) : errC n x0 x1 x2 p0 p1 p2 = 0 := by simp [errC, hv, hf]
theorem cell_adds {n x0 x1 x2 p0 p1 p2 q0 q1 q2 : Int} (hv : validB n x0 x1 x2 = true) (h0 : -300 < p0 ∧ p0 < 300) (h1 : -300 < p1 ∧ p1 < 300) (h2 : -300 < p2 ∧ p2 < 300) (g0 : -300 < q0 ∧ q0 < 300) (g1 : -300 < q1 ∧ q1 < 300) (g2 : -300 < q2 ∧ q2 < 300)
    (f1 : flatB n p0 p1 p2 1000 = true) (f2 : flatB n q0 q1 q2 1000 = true) (f3 : flatB n (p0 + q0) (p1 + q1) (p2 + q2) 1000 = true) (f4 : flatB n (p0 + x0) (p1 + x1) (p2 + x2) 1000 = true) :
    cellA n x0 x1 x2 (p0 + q0) (p1 + q1) (p2 + q2) = wrap64 (cellA n x0 x1 x2 p0 p1 p2 + cellA n x0 x1 x2 q0 q1 q2) ∧ cellB n x0 x1 x2 (p0 + q0) (p1 + q1) (p2 + q2) = wrap64 (cellB n x0 x1 x2 p0 p1 p2 + cellB n x0 x1 x2 q0 q1 q2) ∧
      cellA n x0 x1 x2 (p0 + x0) (p1 + x1) (p2 + x2) = cellA n x0 x1 x2 p0 p1 p2 ∧ cellB n x0 x1 x2 (p0 + x0) (p1 + x1) (p2 + x2) = cellB n x0 x1 x2 p0 p1 p2 := by
  obtain ⟨hn, hx, hk⟩ := validB_out hv
  obtain ⟨b0, b1, b2⟩ := flat_out hx
  simp only [cellA, cellB, okC, hv, f1, f2, f3, f4, Bool.and_self, if_true]
  obtain ⟨k0, k1, k2⟩ := @findK_one n x0 x1 x2
  have z : wrap64 0 = 0 := by kernel_rfl
  rcases findK_nonneg n x0 x1 x2 with e | e | e | e
  · omega
  · have o := k0 e
    have r1 := cw_adds h1 h0 g1 g0 o b1
    have r2 := cw_adds h2 h0 g2 g0 o b2
    simp only [cA, cB, e, if_true]
    refine ⟨?_, ?_, ?_, ?_⟩ <;> split <;> simp [z, r1.1, r1.2, r2.1, r2.2]
  · have o := k1 e
    have r1 := cw_adds h0 h1 g0 g1 o b0
    have r2 := cw_adds h2 h1 g2 g1 o b2
    simp only [cA, cB, e, if_true, show ((1 : Int) = 0) = False by simp, if_false]
    refine ⟨?_, ?_, ?_, ?_⟩ <;> split <;> simp [z, r1.1, r1.2, r2.1, r2.2]
  · have o := k2 e
    have r1 := cw_adds h0 h2 g0 g2 o b0
    have r2 := cw_adds h1 h2 g1 g2 o b1
    simp only [cA, cB, e, show ((2 : Int) = 0) = False by simp, show ((2 : Int) = 1) = False by simp, if_false]
    refine ⟨?_, ?_, ?_, ?_⟩ <;> split <;> simp [z, r1.1, r1.2, r2.1, r2.2]
end Go.Proofs.YtnejicklenhpeaaGreat
