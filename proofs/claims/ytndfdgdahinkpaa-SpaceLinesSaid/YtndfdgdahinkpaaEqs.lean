/- Equality of cells, as the machine reckons it: a law for the walks. Conditions: none. -/
import Derived.Test.YtndfdgdahinkpaaKit
namespace Go.Proofs.Ytndfdgdahinkpaa
open Go.RowKit
theorem eq_int (d : Nat) (a b : Int) (w : World) : (Op.equalIn (d + 1) 3 (.int .i64 a) (.int .i64 b)).run Try.prog w = .ok (decide (a = b)) w := by
  rw [run_equalIn_int w d 3 .i64 .i64 a b Try.underlying3]; congr 1
theorem part2_0 (x y : Value) (w : World) : (part 3 #[x, y] 0).run Try.prog w = .ok x w := by kernel_rfl
theorem part2_1 (x y : Value) (w : World) : (part 3 #[x, y] 1).run Try.prog w = .ok y w := by kernel_rfl
theorem eq_cell (a b c d : Int) (w : World) : (Op.equalIn 10000 31 (.agg #[.int .i64 a, .int .i64 b]) (.agg #[.int .i64 c, .int .i64 d])).run Try.prog w = .ok (decide (a = c) && decide (b = d)) w := by
  obtain ⟨i, hi⟩ : ∃ i, Try.prog.info? 3 = some i := Option.isSome_iff_exists.mp (by kernel_rfl)
  rw [run_equalIn_array w 9999 (n := 2) (e := 3) _ _ Try.underlying31 hi]
  simp only [show Try.prog.cellsOf 3 = 1 by kernel_rfl]
  by_cases h1 : a = c <;> by_cases h2 : b = d <;> simp [Op.eqItems, List.range_succ, part2_0, part2_1, eq_int 9998, h1, h2]
end Go.Proofs.Ytndfdgdahinkpaa
