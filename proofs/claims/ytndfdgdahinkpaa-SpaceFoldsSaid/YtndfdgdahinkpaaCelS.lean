/- slices.SortFunc and slices.Compact at a nil slice of cells: their walks. -/
import Derived.Test.YtndfdgdahinkpaaCelF
namespace Go.Proofs.Ytndfdgdahinkpaa
open Go.RowKit Go.Lib
theorem ins_nil (w : World) : Calls Try.prog 118 #[.slice none 0 0, .int .i64 0, .int .i64 0, .func (.func 81) #[] #[]] w fun e w' => e = .returned (.tuple #[]) ∧ w' = w := by
  go_enter Try.func118, Try.ntmps118
  go_wp2
  refine wp_loop_rounds 1 ?_
  rw [rounds_succ]
  go_wp2
  go_end0
  exact ⟨rfl, rfl⟩
theorem pdq_nil (w : World) (k : Int) : Calls Try.prog 99 #[.slice none 0 0, .int .i64 0, .int .i64 0, .int .i64 k, .func (.func 81) #[] #[]] w fun e w' => e = .returned (.tuple #[]) ∧ w' = w := by
  go_enter Try.func99, Try.ntmps99
  go_wp2
  refine wp_loop_rounds 1 ?_
  rw [rounds_succ]
  go_wp2_with (go_at_call 118; refine (ins_nil _).mono ?_; go_must (rintro e w1 ⟨rfl, rfl⟩))
  exact bodyPost_ret (v := .tuple #[]) (by simp only [results, Try.results99]; first | (go_simp; done) | (go_simp; rfl)) rfl ⟨rfl, rfl⟩
set_option maxRecDepth 100000 in
theorem len64_nil (w : World) : Calls Try.prog 127 #[.int .u64 0] w fun e w' => (∃ k, e = .returned (.int .i64 k)) ∧ w' = w := by
  go_enter Try.func127, Try.ntmps127
  go_wp2
  go_ret
  exact ⟨⟨_, rfl⟩, rfl⟩
set_option maxRecDepth 100000 in
theorem len_nil (w : World) : Calls Try.prog 100 #[.int .u64 0] w fun e w' => (∃ k, e = .returned (.int .i64 k)) ∧ w' = w := by
  go_enter Try.func100, Try.ntmps100
  go_wp2_with (go_at_call 127; refine (len64_nil _).mono ?_; go_must (rintro e w1 ⟨⟨k, rfl⟩, rfl⟩))
  go_ret
  exact ⟨⟨_, rfl⟩, rfl⟩
set_option maxRecDepth 100000 in
theorem sort_nil (w : World) : Calls Try.prog 80 #[.slice none 0 0, .func (.func 81) #[] #[]] w fun e w' => e = .returned (.tuple #[]) ∧ w' = w := by
  go_enter Try.func80, Try.ntmps80
  go_wp2_with (first | (go_at_call 100; refine (len_nil _).mono ?_; go_must (rintro e w1 ⟨⟨k, rfl⟩, rfl⟩)) | (go_at_call 99; refine (pdq_nil _ _).mono ?_; go_must (rintro e w1 ⟨rfl, rfl⟩)))
  go_end0
  exact ⟨rfl, rfl⟩
theorem compact_nil (w : World) : Calls Try.prog 82 #[.slice none 0 0] w fun e w' => e = .returned (.slice none 0 0) ∧ w' = w := by
  go_enter Try.func82, Try.ntmps82
  go_wp2
  go_ret
  exact ⟨rfl, rfl⟩
end Go.Proofs.Ytndfdgdahinkpaa
