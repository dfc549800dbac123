/- The walks of slices.IndexFunc with axis's test, of space.axis and of the reference's flat and axis. -/
import Derived.Test.YtndfdgdahinkpaaSpaceA
namespace Go.Proofs.Ytndfdgdahinkpaa
open Go.RowKit
set_option maxHeartbeats 1000000 in
set_option maxRecDepth 100000 in
theorem index1 (u0 : Int) (b : Nat) (cap : Nat) (w : World) (c0 : w.cell? ⟨b, 0, none⟩ = some (.int .i64 u0)) :
    Calls Try.prog 105 #[.slice (some ⟨b, 0, none⟩) 1 cap, .func (.func 106) #[] #[]] w fun e w' => e = .returned (.int .i64 (findK 1 u0 0 0)) ∧ w' = w := by
  rcases h0 : oneB u0 with _ | _
  rotate_left
  · go_enter Try.func105, Try.ntmps105
    go_wp2_with (go_at_call 106; refine (one_any _ _).mono ?_; go_must (rintro e w1 ⟨rfl, rfl⟩))
    refine wp_loop_rounds 2 ?_
    repeat (rw [rounds_succ]; go_wp2_with (go_at_call 106; refine (one_any _ _).mono ?_; go_must (rintro e w1 ⟨rfl, rfl⟩)))
    go_ret
    exact ⟨ret_int (by simp [findK, *]), rfl⟩
  go_enter Try.func105, Try.ntmps105
  go_wp2_with (go_at_call 106; refine (one_any _ _).mono ?_; go_must (rintro e w1 ⟨rfl, rfl⟩))
  refine wp_loop_rounds 2 ?_
  repeat (rw [rounds_succ]; go_wp2_with (go_at_call 106; refine (one_any _ _).mono ?_; go_must (rintro e w1 ⟨rfl, rfl⟩)))
  go_ret
  exact ⟨ret_int (by simp [findK, *]), rfl⟩
set_option maxHeartbeats 1000000 in
set_option maxRecDepth 100000 in
theorem index2 (u0 u1 : Int) (b : Nat) (cap : Nat) (w : World) (c0 : w.cell? ⟨b, 0, none⟩ = some (.int .i64 u0)) (c1 : w.cell? ⟨b, 1, none⟩ = some (.int .i64 u1)) :
    Calls Try.prog 105 #[.slice (some ⟨b, 0, none⟩) 2 cap, .func (.func 106) #[] #[]] w fun e w' => e = .returned (.int .i64 (findK 2 u0 u1 0)) ∧ w' = w := by
  rcases h0 : oneB u0 with _ | _
  rotate_left
  · go_enter Try.func105, Try.ntmps105
    go_wp2_with (go_at_call 106; refine (one_any _ _).mono ?_; go_must (rintro e w1 ⟨rfl, rfl⟩))
    refine wp_loop_rounds 3 ?_
    repeat (rw [rounds_succ]; go_wp2_with (go_at_call 106; refine (one_any _ _).mono ?_; go_must (rintro e w1 ⟨rfl, rfl⟩)))
    go_ret
    exact ⟨ret_int (by simp [findK, *]), rfl⟩
  rcases h1 : oneB u1 with _ | _
  rotate_left
  · go_enter Try.func105, Try.ntmps105
    go_wp2_with (go_at_call 106; refine (one_any _ _).mono ?_; go_must (rintro e w1 ⟨rfl, rfl⟩))
    refine wp_loop_rounds 3 ?_
    repeat (rw [rounds_succ]; go_wp2_with (go_at_call 106; refine (one_any _ _).mono ?_; go_must (rintro e w1 ⟨rfl, rfl⟩)))
    go_ret
    exact ⟨ret_int (by simp [findK, *]), rfl⟩
  go_enter Try.func105, Try.ntmps105
  go_wp2_with (go_at_call 106; refine (one_any _ _).mono ?_; go_must (rintro e w1 ⟨rfl, rfl⟩))
  refine wp_loop_rounds 3 ?_
  repeat (rw [rounds_succ]; go_wp2_with (go_at_call 106; refine (one_any _ _).mono ?_; go_must (rintro e w1 ⟨rfl, rfl⟩)))
  go_ret
  exact ⟨ret_int (by simp [findK, *]), rfl⟩
set_option maxHeartbeats 1000000 in
set_option maxRecDepth 100000 in
theorem index3 (u0 u1 u2 : Int) (b : Nat) (cap : Nat) (w : World) (c0 : w.cell? ⟨b, 0, none⟩ = some (.int .i64 u0)) (c1 : w.cell? ⟨b, 1, none⟩ = some (.int .i64 u1)) (c2 : w.cell? ⟨b, 2, none⟩ = some (.int .i64 u2)) :
    Calls Try.prog 105 #[.slice (some ⟨b, 0, none⟩) 3 cap, .func (.func 106) #[] #[]] w fun e w' => e = .returned (.int .i64 (findK 3 u0 u1 u2)) ∧ w' = w := by
  rcases h0 : oneB u0 with _ | _
  rotate_left
  · go_enter Try.func105, Try.ntmps105
    go_wp2_with (go_at_call 106; refine (one_any _ _).mono ?_; go_must (rintro e w1 ⟨rfl, rfl⟩))
    refine wp_loop_rounds 4 ?_
    repeat (rw [rounds_succ]; go_wp2_with (go_at_call 106; refine (one_any _ _).mono ?_; go_must (rintro e w1 ⟨rfl, rfl⟩)))
    go_ret
    exact ⟨ret_int (by simp [findK, *]), rfl⟩
  rcases h1 : oneB u1 with _ | _
  rotate_left
  · go_enter Try.func105, Try.ntmps105
    go_wp2_with (go_at_call 106; refine (one_any _ _).mono ?_; go_must (rintro e w1 ⟨rfl, rfl⟩))
    refine wp_loop_rounds 4 ?_
    repeat (rw [rounds_succ]; go_wp2_with (go_at_call 106; refine (one_any _ _).mono ?_; go_must (rintro e w1 ⟨rfl, rfl⟩)))
    go_ret
    exact ⟨ret_int (by simp [findK, *]), rfl⟩
  rcases h2 : oneB u2 with _ | _
  rotate_left
  · go_enter Try.func105, Try.ntmps105
    go_wp2_with (go_at_call 106; refine (one_any _ _).mono ?_; go_must (rintro e w1 ⟨rfl, rfl⟩))
    refine wp_loop_rounds 4 ?_
    repeat (rw [rounds_succ]; go_wp2_with (go_at_call 106; refine (one_any _ _).mono ?_; go_must (rintro e w1 ⟨rfl, rfl⟩)))
    go_ret
    exact ⟨ret_int (by simp [findK, *]), rfl⟩
  go_enter Try.func105, Try.ntmps105
  go_wp2_with (go_at_call 106; refine (one_any _ _).mono ?_; go_must (rintro e w1 ⟨rfl, rfl⟩))
  refine wp_loop_rounds 4 ?_
  repeat (rw [rounds_succ]; go_wp2_with (go_at_call 106; refine (one_any _ _).mono ?_; go_must (rintro e w1 ⟨rfl, rfl⟩)))
  go_ret
  exact ⟨ret_int (by simp [findK, *]), rfl⟩
end Go.Proofs.Ytndfdgdahinkpaa
