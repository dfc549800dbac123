/- The walks of space.axis: what it returns for what is a direction and for what is none. -/
import Derived.Test.YtndfdgdahinkpaaSpaceB
namespace Go.Proofs.Ytndfdgdahinkpaa
open Go.RowKit
set_option maxHeartbeats 4000000 in
set_option maxRecDepth 100000 in
theorem axis_bad (n x0 x1 x2 : Int) (w : World) (h : (btw 1 n 3 && flatB n x0 x1 x2 3) = false) :
    Calls Try.prog 89 #[.int .i64 (n), .agg #[.int .i64 (x0), .int .i64 (x1), .int .i64 (x2)]] w fun e w' => e = .returned (.tuple #[.int .i64 (0), .bool false]) ∧ Below w.heap.size w w' := by
  have i0 := ix3_0
  have i1 := ix3_1
  have i2 := ix3_2
  rcases hn : btw 1 n 3 with _ | _
  · clear h
    go_enter Try.func89, Try.ntmps89
    go_wp2_with (go_at_call 44; refine (between_any _ _ _ _).mono ?_; go_must (rintro e w1 ⟨rfl, rfl⟩))
    (refine bodyPost_ret (v := ?v) ?h rfl ⟨?e, ?b⟩; (case h => (simp only [results, Try.results89]; first | (go_simp; done) | (go_simp; rfl))); (case e => (rfl)); (case b => exact (by repeat (first | exact Below.refl _ _ | assumption | (refine Below.drew ?_) | (refine below_drewN ?_ _) | (refine Below.alloc ?_ (by first | (simp; done) | (simp; omega) | omega) _) | (refine Below.setCell ?_ (by first | (simp; done) | (simp; omega) | omega) _) | (refine Below.trans ?_ (Below.mono (by assumption) (by first | (simp; done) | (simp; omega) | omega)))))))
  rw [hn, Bool.true_and] at h
  obtain rfl | rfl | rfl : n = 1 ∨ n = 2 ∨ n = 3 := by have := btw_out hn; omega
  · -- dimension 1
    rcases h0 : btw (-3) x0 3 with _ | _
    · clear h
      go_enter Try.func89, Try.ntmps89
      go_wp2_with (go_at_call 44; refine (between_any _ _ _ _).mono ?_; go_must (rintro e w1 ⟨rfl, rfl⟩))
      refine wp_loop_rounds 4 ?_
      repeat (rw [rounds_succ]; go_wp2_with (go_at_call 44; refine (between_any _ _ _ _).mono ?_; go_must (rintro e w1 ⟨rfl, rfl⟩)))
      (refine bodyPost_ret (v := ?v) ?h rfl ⟨?e, ?b⟩; (case h => (simp only [results, Try.results89]; first | (go_simp; done) | (go_simp; rfl))); (case e => (rfl)); (case b => exact (by repeat (first | exact Below.refl _ _ | assumption | (refine Below.drew ?_) | (refine below_drewN ?_ _) | (refine Below.alloc ?_ (by first | (simp; done) | (simp; omega) | omega) _) | (refine Below.setCell ?_ (by first | (simp; done) | (simp; omega) | omega) _) | (refine Below.trans ?_ (Below.mono (by assumption) (by first | (simp; done) | (simp; omega) | omega)))))))
    rcases h1 : btw (-3) x1 3 with _ | _
    · clear h
      go_enter Try.func89, Try.ntmps89
      go_wp2_with (go_at_call 44; refine (between_any _ _ _ _).mono ?_; go_must (rintro e w1 ⟨rfl, rfl⟩))
      refine wp_loop_rounds 4 ?_
      repeat (rw [rounds_succ]; go_wp2_with (go_at_call 44; refine (between_any _ _ _ _).mono ?_; go_must (rintro e w1 ⟨rfl, rfl⟩)))
      (refine bodyPost_ret (v := ?v) ?h rfl ⟨?e, ?b⟩; (case h => (simp only [results, Try.results89]; first | (go_simp; done) | (go_simp; rfl))); (case e => (rfl)); (case b => exact (by repeat (first | exact Below.refl _ _ | assumption | (refine Below.drew ?_) | (refine below_drewN ?_ _) | (refine Below.alloc ?_ (by first | (simp; done) | (simp; omega) | omega) _) | (refine Below.setCell ?_ (by first | (simp; done) | (simp; omega) | omega) _) | (refine Below.trans ?_ (Below.mono (by assumption) (by first | (simp; done) | (simp; omega) | omega)))))))
    by_cases z1 : x1 = 0
    rotate_left
    · clear h
      go_enter Try.func89, Try.ntmps89
      go_wp2_with (go_at_call 44; refine (between_any _ _ _ _).mono ?_; go_must (rintro e w1 ⟨rfl, rfl⟩))
      refine wp_loop_rounds 4 ?_
      repeat (rw [rounds_succ]; go_wp2_with (go_at_call 44; refine (between_any _ _ _ _).mono ?_; go_must (rintro e w1 ⟨rfl, rfl⟩)))
      (refine bodyPost_ret (v := ?v) ?h rfl ⟨?e, ?b⟩; (case h => (simp only [results, Try.results89]; first | (go_simp; done) | (go_simp; rfl))); (case e => (rfl)); (case b => exact (by repeat (first | exact Below.refl _ _ | assumption | (refine Below.drew ?_) | (refine below_drewN ?_ _) | (refine Below.alloc ?_ (by first | (simp; done) | (simp; omega) | omega) _) | (refine Below.setCell ?_ (by first | (simp; done) | (simp; omega) | omega) _) | (refine Below.trans ?_ (Below.mono (by assumption) (by first | (simp; done) | (simp; omega) | omega)))))))
    subst z1
    rcases h2 : btw (-3) x2 3 with _ | _
    · clear h
      go_enter Try.func89, Try.ntmps89
      go_wp2_with (go_at_call 44; refine (between_any _ _ _ _).mono ?_; go_must (rintro e w1 ⟨rfl, rfl⟩))
      refine wp_loop_rounds 4 ?_
      repeat (rw [rounds_succ]; go_wp2_with (go_at_call 44; refine (between_any _ _ _ _).mono ?_; go_must (rintro e w1 ⟨rfl, rfl⟩)))
      (refine bodyPost_ret (v := ?v) ?h rfl ⟨?e, ?b⟩; (case h => (simp only [results, Try.results89]; first | (go_simp; done) | (go_simp; rfl))); (case e => (rfl)); (case b => exact (by repeat (first | exact Below.refl _ _ | assumption | (refine Below.drew ?_) | (refine below_drewN ?_ _) | (refine Below.alloc ?_ (by first | (simp; done) | (simp; omega) | omega) _) | (refine Below.setCell ?_ (by first | (simp; done) | (simp; omega) | omega) _) | (refine Below.trans ?_ (Below.mono (by assumption) (by first | (simp; done) | (simp; omega) | omega)))))))
    by_cases z2 : x2 = 0
    rotate_left
    · clear h
      go_enter Try.func89, Try.ntmps89
      go_wp2_with (go_at_call 44; refine (between_any _ _ _ _).mono ?_; go_must (rintro e w1 ⟨rfl, rfl⟩))
      refine wp_loop_rounds 4 ?_
      repeat (rw [rounds_succ]; go_wp2_with (go_at_call 44; refine (between_any _ _ _ _).mono ?_; go_must (rintro e w1 ⟨rfl, rfl⟩)))
      (refine bodyPost_ret (v := ?v) ?h rfl ⟨?e, ?b⟩; (case h => (simp only [results, Try.results89]; first | (go_simp; done) | (go_simp; rfl))); (case e => (rfl)); (case b => exact (by repeat (first | exact Below.refl _ _ | assumption | (refine Below.drew ?_) | (refine below_drewN ?_ _) | (refine Below.alloc ?_ (by first | (simp; done) | (simp; omega) | omega) _) | (refine Below.setCell ?_ (by first | (simp; done) | (simp; omega) | omega) _) | (refine Below.trans ?_ (Below.mono (by assumption) (by first | (simp; done) | (simp; omega) | omega)))))))
    subst z2
    exact absurd h (by simp [flatB, *] <;> simp [btw])
  · -- dimension 2
    rcases h0 : btw (-3) x0 3 with _ | _
    · clear h
      go_enter Try.func89, Try.ntmps89
      go_wp2_with (go_at_call 44; refine (between_any _ _ _ _).mono ?_; go_must (rintro e w1 ⟨rfl, rfl⟩))
      refine wp_loop_rounds 4 ?_
      repeat (rw [rounds_succ]; go_wp2_with (go_at_call 44; refine (between_any _ _ _ _).mono ?_; go_must (rintro e w1 ⟨rfl, rfl⟩)))
      (refine bodyPost_ret (v := ?v) ?h rfl ⟨?e, ?b⟩; (case h => (simp only [results, Try.results89]; first | (go_simp; done) | (go_simp; rfl))); (case e => (rfl)); (case b => exact (by repeat (first | exact Below.refl _ _ | assumption | (refine Below.drew ?_) | (refine below_drewN ?_ _) | (refine Below.alloc ?_ (by first | (simp; done) | (simp; omega) | omega) _) | (refine Below.setCell ?_ (by first | (simp; done) | (simp; omega) | omega) _) | (refine Below.trans ?_ (Below.mono (by assumption) (by first | (simp; done) | (simp; omega) | omega)))))))
    rcases h1 : btw (-3) x1 3 with _ | _
    · clear h
      go_enter Try.func89, Try.ntmps89
      go_wp2_with (go_at_call 44; refine (between_any _ _ _ _).mono ?_; go_must (rintro e w1 ⟨rfl, rfl⟩))
      refine wp_loop_rounds 4 ?_
      repeat (rw [rounds_succ]; go_wp2_with (go_at_call 44; refine (between_any _ _ _ _).mono ?_; go_must (rintro e w1 ⟨rfl, rfl⟩)))
      (refine bodyPost_ret (v := ?v) ?h rfl ⟨?e, ?b⟩; (case h => (simp only [results, Try.results89]; first | (go_simp; done) | (go_simp; rfl))); (case e => (rfl)); (case b => exact (by repeat (first | exact Below.refl _ _ | assumption | (refine Below.drew ?_) | (refine below_drewN ?_ _) | (refine Below.alloc ?_ (by first | (simp; done) | (simp; omega) | omega) _) | (refine Below.setCell ?_ (by first | (simp; done) | (simp; omega) | omega) _) | (refine Below.trans ?_ (Below.mono (by assumption) (by first | (simp; done) | (simp; omega) | omega)))))))
    rcases h2 : btw (-3) x2 3 with _ | _
    · clear h
      go_enter Try.func89, Try.ntmps89
      go_wp2_with (go_at_call 44; refine (between_any _ _ _ _).mono ?_; go_must (rintro e w1 ⟨rfl, rfl⟩))
      refine wp_loop_rounds 4 ?_
      repeat (rw [rounds_succ]; go_wp2_with (go_at_call 44; refine (between_any _ _ _ _).mono ?_; go_must (rintro e w1 ⟨rfl, rfl⟩)))
      (refine bodyPost_ret (v := ?v) ?h rfl ⟨?e, ?b⟩; (case h => (simp only [results, Try.results89]; first | (go_simp; done) | (go_simp; rfl))); (case e => (rfl)); (case b => exact (by repeat (first | exact Below.refl _ _ | assumption | (refine Below.drew ?_) | (refine below_drewN ?_ _) | (refine Below.alloc ?_ (by first | (simp; done) | (simp; omega) | omega) _) | (refine Below.setCell ?_ (by first | (simp; done) | (simp; omega) | omega) _) | (refine Below.trans ?_ (Below.mono (by assumption) (by first | (simp; done) | (simp; omega) | omega)))))))
    by_cases z2 : x2 = 0
    rotate_left
    · clear h
      go_enter Try.func89, Try.ntmps89
      go_wp2_with (go_at_call 44; refine (between_any _ _ _ _).mono ?_; go_must (rintro e w1 ⟨rfl, rfl⟩))
      refine wp_loop_rounds 4 ?_
      repeat (rw [rounds_succ]; go_wp2_with (go_at_call 44; refine (between_any _ _ _ _).mono ?_; go_must (rintro e w1 ⟨rfl, rfl⟩)))
      (refine bodyPost_ret (v := ?v) ?h rfl ⟨?e, ?b⟩; (case h => (simp only [results, Try.results89]; first | (go_simp; done) | (go_simp; rfl))); (case e => (rfl)); (case b => exact (by repeat (first | exact Below.refl _ _ | assumption | (refine Below.drew ?_) | (refine below_drewN ?_ _) | (refine Below.alloc ?_ (by first | (simp; done) | (simp; omega) | omega) _) | (refine Below.setCell ?_ (by first | (simp; done) | (simp; omega) | omega) _) | (refine Below.trans ?_ (Below.mono (by assumption) (by first | (simp; done) | (simp; omega) | omega)))))))
    subst z2
    exact absurd h (by simp [flatB, *] <;> simp [btw])
  · -- dimension 3
    rcases h0 : btw (-3) x0 3 with _ | _
    · clear h
      go_enter Try.func89, Try.ntmps89
      go_wp2_with (go_at_call 44; refine (between_any _ _ _ _).mono ?_; go_must (rintro e w1 ⟨rfl, rfl⟩))
      refine wp_loop_rounds 4 ?_
      repeat (rw [rounds_succ]; go_wp2_with (go_at_call 44; refine (between_any _ _ _ _).mono ?_; go_must (rintro e w1 ⟨rfl, rfl⟩)))
      (refine bodyPost_ret (v := ?v) ?h rfl ⟨?e, ?b⟩; (case h => (simp only [results, Try.results89]; first | (go_simp; done) | (go_simp; rfl))); (case e => (rfl)); (case b => exact (by repeat (first | exact Below.refl _ _ | assumption | (refine Below.drew ?_) | (refine below_drewN ?_ _) | (refine Below.alloc ?_ (by first | (simp; done) | (simp; omega) | omega) _) | (refine Below.setCell ?_ (by first | (simp; done) | (simp; omega) | omega) _) | (refine Below.trans ?_ (Below.mono (by assumption) (by first | (simp; done) | (simp; omega) | omega)))))))
    rcases h1 : btw (-3) x1 3 with _ | _
    · clear h
      go_enter Try.func89, Try.ntmps89
      go_wp2_with (go_at_call 44; refine (between_any _ _ _ _).mono ?_; go_must (rintro e w1 ⟨rfl, rfl⟩))
      refine wp_loop_rounds 4 ?_
      repeat (rw [rounds_succ]; go_wp2_with (go_at_call 44; refine (between_any _ _ _ _).mono ?_; go_must (rintro e w1 ⟨rfl, rfl⟩)))
      (refine bodyPost_ret (v := ?v) ?h rfl ⟨?e, ?b⟩; (case h => (simp only [results, Try.results89]; first | (go_simp; done) | (go_simp; rfl))); (case e => (rfl)); (case b => exact (by repeat (first | exact Below.refl _ _ | assumption | (refine Below.drew ?_) | (refine below_drewN ?_ _) | (refine Below.alloc ?_ (by first | (simp; done) | (simp; omega) | omega) _) | (refine Below.setCell ?_ (by first | (simp; done) | (simp; omega) | omega) _) | (refine Below.trans ?_ (Below.mono (by assumption) (by first | (simp; done) | (simp; omega) | omega)))))))
    rcases h2 : btw (-3) x2 3 with _ | _
    · clear h
      go_enter Try.func89, Try.ntmps89
      go_wp2_with (go_at_call 44; refine (between_any _ _ _ _).mono ?_; go_must (rintro e w1 ⟨rfl, rfl⟩))
      refine wp_loop_rounds 4 ?_
      repeat (rw [rounds_succ]; go_wp2_with (go_at_call 44; refine (between_any _ _ _ _).mono ?_; go_must (rintro e w1 ⟨rfl, rfl⟩)))
      (refine bodyPost_ret (v := ?v) ?h rfl ⟨?e, ?b⟩; (case h => (simp only [results, Try.results89]; first | (go_simp; done) | (go_simp; rfl))); (case e => (rfl)); (case b => exact (by repeat (first | exact Below.refl _ _ | assumption | (refine Below.drew ?_) | (refine below_drewN ?_ _) | (refine Below.alloc ?_ (by first | (simp; done) | (simp; omega) | omega) _) | (refine Below.setCell ?_ (by first | (simp; done) | (simp; omega) | omega) _) | (refine Below.trans ?_ (Below.mono (by assumption) (by first | (simp; done) | (simp; omega) | omega)))))))
    exact absurd h (by simp [flatB, *] <;> simp [btw])
set_option maxHeartbeats 4000000 in
set_option maxRecDepth 100000 in
theorem axis_good1 (x0 : Int) (w : World) (h0 : btw (-3) x0 3 = true) :
    Calls Try.prog 89 #[.int .i64 (1), .agg #[.int .i64 (x0), .int .i64 (0), .int .i64 (0)]] w fun e w' => e = .returned (.tuple #[.int .i64 (findK 1 x0 0 0), .bool (decide (0 ≤ findK 1 x0 0 0))]) ∧ Below w.heap.size w w' := by
  have i0 := ix3_0
  have i1 := ix3_1
  have i2 := ix3_2
  have hn : btw 1 1 3 = true := by decide
  have bz : btw (-3) 0 3 = true := by decide
  go_enter Try.func89, Try.ntmps89
  go_wp2_with (go_at_call 44; refine (between_any _ _ _ _).mono ?_; go_must (rintro e w1 ⟨rfl, rfl⟩))
  refine wp_loop_rounds 4 ?_
  repeat (rw [rounds_succ]; go_wp2_with (first | (go_at_call 44; refine (between_any _ _ _ _).mono ?_; go_must (rintro e w1 ⟨rfl, rfl⟩)) | (go_at_call 105; refine (index1 x0 _ _ _ (by simp)).mono ?_; go_must (rintro e w1 ⟨rfl, rfl⟩))))
  (refine bodyPost_ret (v := ?v) ?h rfl ⟨?e, ?b⟩; (case h => (simp only [results, Try.results89]; first | (go_simp; done) | (go_simp; rfl))); (case e => (rfl)); (case b => exact (by repeat (first | exact Below.refl _ _ | assumption | (refine Below.drew ?_) | (refine below_drewN ?_ _) | (refine Below.alloc ?_ (by first | (simp; done) | (simp; omega) | omega) _) | (refine Below.setCell ?_ (by first | (simp; done) | (simp; omega) | omega) _) | (refine Below.trans ?_ (Below.mono (by assumption) (by first | (simp; done) | (simp; omega) | omega)))))))
set_option maxHeartbeats 4000000 in
set_option maxRecDepth 100000 in
theorem axis_good2 (x0 x1 : Int) (w : World) (h0 : btw (-3) x0 3 = true) (h1 : btw (-3) x1 3 = true) :
    Calls Try.prog 89 #[.int .i64 (2), .agg #[.int .i64 (x0), .int .i64 (x1), .int .i64 (0)]] w fun e w' => e = .returned (.tuple #[.int .i64 (findK 2 x0 x1 0), .bool (decide (0 ≤ findK 2 x0 x1 0))]) ∧ Below w.heap.size w w' := by
  have i0 := ix3_0
  have i1 := ix3_1
  have i2 := ix3_2
  have hn : btw 1 2 3 = true := by decide
  have bz : btw (-3) 0 3 = true := by decide
  go_enter Try.func89, Try.ntmps89
  go_wp2_with (go_at_call 44; refine (between_any _ _ _ _).mono ?_; go_must (rintro e w1 ⟨rfl, rfl⟩))
  refine wp_loop_rounds 4 ?_
  repeat (rw [rounds_succ]; go_wp2_with (first | (go_at_call 44; refine (between_any _ _ _ _).mono ?_; go_must (rintro e w1 ⟨rfl, rfl⟩)) | (go_at_call 105; refine (index2 x0 x1 _ _ _ (by simp) (by simp)).mono ?_; go_must (rintro e w1 ⟨rfl, rfl⟩))))
  (refine bodyPost_ret (v := ?v) ?h rfl ⟨?e, ?b⟩; (case h => (simp only [results, Try.results89]; first | (go_simp; done) | (go_simp; rfl))); (case e => (rfl)); (case b => exact (by repeat (first | exact Below.refl _ _ | assumption | (refine Below.drew ?_) | (refine below_drewN ?_ _) | (refine Below.alloc ?_ (by first | (simp; done) | (simp; omega) | omega) _) | (refine Below.setCell ?_ (by first | (simp; done) | (simp; omega) | omega) _) | (refine Below.trans ?_ (Below.mono (by assumption) (by first | (simp; done) | (simp; omega) | omega)))))))
set_option maxHeartbeats 4000000 in
set_option maxRecDepth 100000 in
theorem axis_good3 (x0 x1 x2 : Int) (w : World) (h0 : btw (-3) x0 3 = true) (h1 : btw (-3) x1 3 = true) (h2 : btw (-3) x2 3 = true) :
    Calls Try.prog 89 #[.int .i64 (3), .agg #[.int .i64 (x0), .int .i64 (x1), .int .i64 (x2)]] w fun e w' => e = .returned (.tuple #[.int .i64 (findK 3 x0 x1 x2), .bool (decide (0 ≤ findK 3 x0 x1 x2))]) ∧ Below w.heap.size w w' := by
  have i0 := ix3_0
  have i1 := ix3_1
  have i2 := ix3_2
  have hn : btw 1 3 3 = true := by decide
  go_enter Try.func89, Try.ntmps89
  go_wp2_with (go_at_call 44; refine (between_any _ _ _ _).mono ?_; go_must (rintro e w1 ⟨rfl, rfl⟩))
  refine wp_loop_rounds 4 ?_
  repeat (rw [rounds_succ]; go_wp2_with (first | (go_at_call 44; refine (between_any _ _ _ _).mono ?_; go_must (rintro e w1 ⟨rfl, rfl⟩)) | (go_at_call 105; refine (index3 x0 x1 x2 _ _ _ (by simp) (by simp) (by simp)).mono ?_; go_must (rintro e w1 ⟨rfl, rfl⟩))))
  (refine bodyPost_ret (v := ?v) ?h rfl ⟨?e, ?b⟩; (case h => (simp only [results, Try.results89]; first | (go_simp; done) | (go_simp; rfl))); (case e => (rfl)); (case b => exact (by repeat (first | exact Below.refl _ _ | assumption | (refine Below.drew ?_) | (refine below_drewN ?_ _) | (refine Below.alloc ?_ (by first | (simp; done) | (simp; omega) | omega) _) | (refine Below.setCell ?_ (by first | (simp; done) | (simp; omega) | omega) _) | (refine Below.trans ?_ (Below.mono (by assumption) (by first | (simp; done) | (simp; omega) | omega)))))))
end Go.Proofs.Ytndfdgdahinkpaa
