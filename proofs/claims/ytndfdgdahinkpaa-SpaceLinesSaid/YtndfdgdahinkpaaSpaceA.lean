/- The walks of package space's axis, newFold, Valid and of the reference's flat, axis, Valid. -/
import Derived.Test.YtndfdgdahinkpaaEqs
namespace Go.Proofs.Ytndfdgdahinkpaa
open Go.RowKit
def btw (lo n hi : Int) : Bool := decide (lo ≤ n ∧ n ≤ hi)
theorem btw_out {lo n hi : Int} (h : btw lo n hi = true) : lo ≤ n ∧ n ≤ hi := by simpa [btw] using h
def oneB (x : Int) : Bool := decide (x = 1 ∨ x = -1)
def flatB (n x0 x1 x2 m : Int) : Bool := btw (-m) x0 m && btw (-m) x1 m && (decide (1 < n) || decide (x1 = 0)) && btw (-m) x2 m && (decide (2 < n) || decide (x2 = 0))
def findK (n x0 x1 x2 : Int) : Int := if oneB x0 then 0 else if decide (1 < n) && oneB x1 then 1 else if decide (2 < n) && oneB x2 then 2 else -1
theorem between_any (lo n hi : Int) (w : World) :
    Calls Try.prog 44 #[.int .i64 (lo), .int .i64 (n), .int .i64 (hi)] w fun e w' => e = .returned (.bool (btw lo n hi)) ∧ w' = w := by
  by_cases h1 : lo ≤ n <;> by_cases h2 : n ≤ hi
  all_goals
    go_enter Try.func44, Try.ntmps44
    go_wp2
    go_ret
    exact ⟨ret_bool (by simp only [btw]; rw [Bool.eq_iff_iff]; simp; try omega), rfl⟩
theorem inRange_any (n m : Int) (w : World) (hm : 0 ≤ m ∧ m ≤ 100000) :
    Calls Try.prog 63 #[.int .i64 (n), .int .i64 (m)] w fun e w' => e = .returned (.bool (btw (-m) n m)) ∧ w' = w := by
  have e1 : wrap64 (-m) = -m := IntWalk.wrap64_in _ ⟨by omega, by omega⟩
  by_cases h1 : -m ≤ n <;> by_cases h2 : n ≤ m
  all_goals
    go_enter Try.func63, Try.ntmps63
    go_wp2
    go_ret
    exact ⟨ret_bool (by simp only [btw]; rw [Bool.eq_iff_iff]; simp; try omega), rfl⟩
theorem one_any (n : Int) (w : World) :
    Calls Try.prog 106 #[.int .i64 (n)] w fun e w' => e = .returned (.bool (oneB n)) ∧ w' = w := by
  by_cases h1 : n = 1
  · subst h1
    go_enter Try.func106, Try.ntmps106
    go_wp2
    go_ret
    exact ⟨ret_bool (by simp [oneB]), rfl⟩
  by_cases h2 : n = -1
  · subst h2
    go_enter Try.func106, Try.ntmps106
    go_wp2
    go_ret
    exact ⟨ret_bool (by simp [oneB]), rfl⟩
  · have h3 : (n == 1) = false := by simpa using h1
    have h4 : (n == -1) = false := by simpa using h2
    go_enter Try.func106, Try.ntmps106
    go_wp2
    go_ret
    exact ⟨ret_bool (by simp [oneB, h1, h2]), rfl⟩
theorem ix3_0 (a b c : Value) (w : World) : (Instr.index 29 (.agg #[a, b, c]) (.int .i64 0)).run Try.prog w = .ok a w := by kernel_rfl
theorem ix3_1 (a b c : Value) (w : World) : (Instr.index 29 (.agg #[a, b, c]) (.int .i64 1)).run Try.prog w = .ok b w := by kernel_rfl
theorem ix3_2 (a b c : Value) (w : World) : (Instr.index 29 (.agg #[a, b, c]) (.int .i64 2)).run Try.prog w = .ok c w := by kernel_rfl
end Go.Proofs.Ytndfdgdahinkpaa
