/- What CellOf and the reference's CellOf return, in one form for all arguments. -/
import Derived.Test.YtndfdgdahinkpaaSpaceK
import Derived.Test.YtndfdgdahinkpaaSpaceJ
namespace Go.Proofs.Ytndfdgdahinkpaa
open Go.RowKit
theorem validB_out {n x0 x1 x2 : Int} (h : validB n x0 x1 x2 = true) : btw 1 n 3 = true ∧ flatB n x0 x1 x2 3 = true ∧ 0 ≤ findK n x0 x1 x2 := by
  simp only [validB, Bool.and_eq_true, decide_eq_true_eq] at h; exact ⟨h.1.1, h.1.2, h.2⟩
theorem findK_le (n x0 x1 x2 : Int) (h : n ≤ 2) : findK n x0 x1 x2 ≠ 2 := by
  have e : ¬ (2 < n) := by omega
  simp only [findK]; split <;> (try split) <;> simp [e]
theorem findK_le1 (n x0 x1 x2 : Int) (h : n ≤ 1) : findK n x0 x1 x2 ≠ 1 := by
  have e : ¬ (2 < n) := by omega
  have e' : ¬ (1 < n) := by omega
  simp only [findK]; split <;> simp [e, e']
def cA (n k x0 x1 x2 p0 p1 p2 : Int) : Int := if n = 1 then 0 else if k = 0 then cw p1 p0 x0 x1 else if k = 1 then cw p0 p1 x1 x0 else cw p0 p2 x2 x0
def cB (n k x0 x1 x2 p0 p1 p2 : Int) : Int := if n ≤ 2 then 0 else if k = 0 then cw p2 p0 x0 x2 else if k = 1 then cw p2 p1 x1 x2 else cw p1 p2 x2 x1
def okC (n x0 x1 x2 p0 p1 p2 : Int) : Bool := validB n x0 x1 x2 && flatB n p0 p1 p2 1000
def errC (n x0 x1 x2 p0 p1 p2 : Int) : Int := if validB n x0 x1 x2 = true then (if flatB n p0 p1 p2 1000 = true then 0 else 2) else 40
def cellA (n x0 x1 x2 p0 p1 p2 : Int) : Int := if okC n x0 x1 x2 p0 p1 p2 = true then cA n (findK n x0 x1 x2) x0 x1 x2 p0 p1 p2 else 0
def cellB (n x0 x1 x2 p0 p1 p2 : Int) : Int := if okC n x0 x1 x2 p0 p1 p2 = true then cB n (findK n x0 x1 x2) x0 x1 x2 p0 p1 p2 else 0
theorem CellOf_any (n x0 x1 x2 p0 p1 p2 : Int) (w : World) :
    Calls Try.prog 28 #[.int .i64 (n), .agg #[.int .i64 (x0), .int .i64 (x1), .int .i64 (x2)], .agg #[.int .i64 (p0), .int .i64 (p1), .int .i64 (p2)]] w fun e w' => e = .returned (.tuple #[.agg #[.int .i64 (cellA n x0 x1 x2 p0 p1 p2), .int .i64 (cellB n x0 x1 x2 p0 p1 p2)], .int .i64 (errC n x0 x1 x2 p0 p1 p2)]) ∧ Below w.heap.size w w' := by
  rcases hv : validB n x0 x1 x2 with _ | _
  · simp only [cellA, cellB, okC, errC, hv, Bool.false_and, Bool.false_eq_true, if_false]
    exact CellOf_bad n x0 x1 x2 p0 p1 p2 w hv
  obtain ⟨hn, hx, hk⟩ := validB_out hv
  rcases hf : flatB n p0 p1 p2 1000 with _ | _
  · simp only [cellA, cellB, okC, errC, hv, hf, Bool.true_and, Bool.false_eq_true, if_false, if_true]
    exact CellOf_arg n x0 x1 x2 p0 p1 p2 w hv hf
  have hK := findK_nonneg n x0 x1 x2
  simp only [cellA, cellB, okC, errC, hv, hf, Bool.true_and, if_true]
  obtain ⟨rfl, rfl, rfl, a⟩ | ⟨rfl, rfl, a, b⟩ | ⟨rfl, a, b, c⟩ := flat_pad hn hx
  · obtain ⟨_, rfl, rfl, a'⟩ | ⟨h, _⟩ | ⟨h, _⟩ := flat_pad hn hf
    · have e1 := findK_le 1 x0 0 0 (by omega)
      have e2 := findK_le1 1 x0 0 0 (by omega)
      rcases (show findK 1 x0 0 0 = 0 by omega) with g
      · rw [g]; exact CellOf10 x0 0 0 p0 w hv g a'
    · omega
    · omega
  · obtain ⟨h, _⟩ | ⟨_, rfl, a', b'⟩ | ⟨h, _⟩ := flat_pad hn hf
    · omega
    · have e1 := findK_le 2 x0 x1 0 (by omega)
      rcases (show findK 2 x0 x1 0 = 0 ∨ findK 2 x0 x1 0 = 1 by omega) with g | g
      · rw [g]; exact CellOf20 x0 x1 0 p0 p1 w hv g a' b'
      · rw [g]; exact CellOf21 x0 x1 0 p0 p1 w hv g a' b'
    · omega
  · obtain ⟨h, _⟩ | ⟨h, _⟩ | ⟨_, a', b', c'⟩ := flat_pad hn hf
    · omega
    · omega
    · skip
      rcases (show findK 3 x0 x1 x2 = 0 ∨ findK 3 x0 x1 x2 = 1 ∨ findK 3 x0 x1 x2 = 2 by omega) with g | g | g
      · rw [g]; exact CellOf30 x0 x1 x2 p0 p1 p2 w hv g a' b' c'
      · rw [g]; exact CellOf31 x0 x1 x2 p0 p1 p2 w hv g a' b' c'
      · rw [g]; exact CellOf32 x0 x1 x2 p0 p1 p2 w hv g a' b' c'
end Go.Proofs.Ytndfdgdahinkpaa
