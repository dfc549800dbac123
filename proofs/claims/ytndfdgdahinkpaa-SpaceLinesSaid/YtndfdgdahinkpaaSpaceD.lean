/- The walks of the reference's flat, Flat and axis. -/
import Derived.Test.YtndfdgdahinkpaaSpaceA
namespace Go.Proofs.Ytndfdgdahinkpaa
open Go.RowKit
set_option maxHeartbeats 4000000 in
set_option maxRecDepth 100000 in
theorem flat_bad (n x0 x1 x2 m : Int) (w : World) (hm : 0 ≤ m ∧ m ≤ 100000) (hn : btw 1 n 3 = true) (h : flatB n x0 x1 x2 m = false) :
    Calls Try.prog 62 #[.agg #[.int .i64 (x0), .int .i64 (x1), .int .i64 (x2)], .int .i64 (n), .int .i64 (m)] w fun e w' => e = .returned (.bool false) ∧ Below w.heap.size w w' := by
  obtain rfl | rfl | rfl : n = 1 ∨ n = 2 ∨ n = 3 := by have := btw_out hn; omega
  · -- dimension 1
    rcases h0 : btw (-m) x0 m with _ | _
    · clear h
      go_enter Try.func62, Try.ntmps62
      go_wp2_with (go_at_call 63; refine (inRange_any _ _ _ hm).mono ?_; go_must (rintro e w1 ⟨rfl, rfl⟩))
      refine wp_loop_rounds 4 ?_
      repeat (rw [rounds_succ]; go_wp2_with (go_at_call 63; refine (inRange_any _ _ _ hm).mono ?_; go_must (rintro e w1 ⟨rfl, rfl⟩)))
      (refine bodyPost_ret (v := ?v) ?h rfl ⟨?e, ?b⟩; (case h => (simp only [results, Try.results62]; first | (go_simp; done) | (go_simp; rfl))); (case e => (rfl)); (case b => exact (by repeat (first | exact Below.refl _ _ | assumption | (refine Below.drew ?_) | (refine below_drewN ?_ _) | (refine Below.alloc ?_ (by first | (simp; done) | (simp; omega) | omega) _) | (refine Below.setCell ?_ (by first | (simp; done) | (simp; omega) | omega) _) | (refine Below.trans ?_ (Below.mono (by assumption) (by first | (simp; done) | (simp; omega) | omega)))))))
    rcases h1 : btw (-m) x1 m with _ | _
    · clear h
      go_enter Try.func62, Try.ntmps62
      go_wp2_with (go_at_call 63; refine (inRange_any _ _ _ hm).mono ?_; go_must (rintro e w1 ⟨rfl, rfl⟩))
      refine wp_loop_rounds 4 ?_
      repeat (rw [rounds_succ]; go_wp2_with (go_at_call 63; refine (inRange_any _ _ _ hm).mono ?_; go_must (rintro e w1 ⟨rfl, rfl⟩)))
      (refine bodyPost_ret (v := ?v) ?h rfl ⟨?e, ?b⟩; (case h => (simp only [results, Try.results62]; first | (go_simp; done) | (go_simp; rfl))); (case e => (rfl)); (case b => exact (by repeat (first | exact Below.refl _ _ | assumption | (refine Below.drew ?_) | (refine below_drewN ?_ _) | (refine Below.alloc ?_ (by first | (simp; done) | (simp; omega) | omega) _) | (refine Below.setCell ?_ (by first | (simp; done) | (simp; omega) | omega) _) | (refine Below.trans ?_ (Below.mono (by assumption) (by first | (simp; done) | (simp; omega) | omega)))))))
    by_cases z1 : x1 = 0
    rotate_left
    · clear h
      go_enter Try.func62, Try.ntmps62
      go_wp2_with (go_at_call 63; refine (inRange_any _ _ _ hm).mono ?_; go_must (rintro e w1 ⟨rfl, rfl⟩))
      refine wp_loop_rounds 4 ?_
      repeat (rw [rounds_succ]; go_wp2_with (go_at_call 63; refine (inRange_any _ _ _ hm).mono ?_; go_must (rintro e w1 ⟨rfl, rfl⟩)))
      (refine bodyPost_ret (v := ?v) ?h rfl ⟨?e, ?b⟩; (case h => (simp only [results, Try.results62]; first | (go_simp; done) | (go_simp; rfl))); (case e => (rfl)); (case b => exact (by repeat (first | exact Below.refl _ _ | assumption | (refine Below.drew ?_) | (refine below_drewN ?_ _) | (refine Below.alloc ?_ (by first | (simp; done) | (simp; omega) | omega) _) | (refine Below.setCell ?_ (by first | (simp; done) | (simp; omega) | omega) _) | (refine Below.trans ?_ (Below.mono (by assumption) (by first | (simp; done) | (simp; omega) | omega)))))))
    subst z1
    rcases h2 : btw (-m) x2 m with _ | _
    · clear h
      go_enter Try.func62, Try.ntmps62
      go_wp2_with (go_at_call 63; refine (inRange_any _ _ _ hm).mono ?_; go_must (rintro e w1 ⟨rfl, rfl⟩))
      refine wp_loop_rounds 4 ?_
      repeat (rw [rounds_succ]; go_wp2_with (go_at_call 63; refine (inRange_any _ _ _ hm).mono ?_; go_must (rintro e w1 ⟨rfl, rfl⟩)))
      (refine bodyPost_ret (v := ?v) ?h rfl ⟨?e, ?b⟩; (case h => (simp only [results, Try.results62]; first | (go_simp; done) | (go_simp; rfl))); (case e => (rfl)); (case b => exact (by repeat (first | exact Below.refl _ _ | assumption | (refine Below.drew ?_) | (refine below_drewN ?_ _) | (refine Below.alloc ?_ (by first | (simp; done) | (simp; omega) | omega) _) | (refine Below.setCell ?_ (by first | (simp; done) | (simp; omega) | omega) _) | (refine Below.trans ?_ (Below.mono (by assumption) (by first | (simp; done) | (simp; omega) | omega)))))))
    by_cases z2 : x2 = 0
    rotate_left
    · clear h
      go_enter Try.func62, Try.ntmps62
      go_wp2_with (go_at_call 63; refine (inRange_any _ _ _ hm).mono ?_; go_must (rintro e w1 ⟨rfl, rfl⟩))
      refine wp_loop_rounds 4 ?_
      repeat (rw [rounds_succ]; go_wp2_with (go_at_call 63; refine (inRange_any _ _ _ hm).mono ?_; go_must (rintro e w1 ⟨rfl, rfl⟩)))
      (refine bodyPost_ret (v := ?v) ?h rfl ⟨?e, ?b⟩; (case h => (simp only [results, Try.results62]; first | (go_simp; done) | (go_simp; rfl))); (case e => (rfl)); (case b => exact (by repeat (first | exact Below.refl _ _ | assumption | (refine Below.drew ?_) | (refine below_drewN ?_ _) | (refine Below.alloc ?_ (by first | (simp; done) | (simp; omega) | omega) _) | (refine Below.setCell ?_ (by first | (simp; done) | (simp; omega) | omega) _) | (refine Below.trans ?_ (Below.mono (by assumption) (by first | (simp; done) | (simp; omega) | omega)))))))
    subst z2
    exact absurd h (by simp [flatB, *] <;> simp [btw])
  · -- dimension 2
    rcases h0 : btw (-m) x0 m with _ | _
    · clear h
      go_enter Try.func62, Try.ntmps62
      go_wp2_with (go_at_call 63; refine (inRange_any _ _ _ hm).mono ?_; go_must (rintro e w1 ⟨rfl, rfl⟩))
      refine wp_loop_rounds 4 ?_
      repeat (rw [rounds_succ]; go_wp2_with (go_at_call 63; refine (inRange_any _ _ _ hm).mono ?_; go_must (rintro e w1 ⟨rfl, rfl⟩)))
      (refine bodyPost_ret (v := ?v) ?h rfl ⟨?e, ?b⟩; (case h => (simp only [results, Try.results62]; first | (go_simp; done) | (go_simp; rfl))); (case e => (rfl)); (case b => exact (by repeat (first | exact Below.refl _ _ | assumption | (refine Below.drew ?_) | (refine below_drewN ?_ _) | (refine Below.alloc ?_ (by first | (simp; done) | (simp; omega) | omega) _) | (refine Below.setCell ?_ (by first | (simp; done) | (simp; omega) | omega) _) | (refine Below.trans ?_ (Below.mono (by assumption) (by first | (simp; done) | (simp; omega) | omega)))))))
    rcases h1 : btw (-m) x1 m with _ | _
    · clear h
      go_enter Try.func62, Try.ntmps62
      go_wp2_with (go_at_call 63; refine (inRange_any _ _ _ hm).mono ?_; go_must (rintro e w1 ⟨rfl, rfl⟩))
      refine wp_loop_rounds 4 ?_
      repeat (rw [rounds_succ]; go_wp2_with (go_at_call 63; refine (inRange_any _ _ _ hm).mono ?_; go_must (rintro e w1 ⟨rfl, rfl⟩)))
      (refine bodyPost_ret (v := ?v) ?h rfl ⟨?e, ?b⟩; (case h => (simp only [results, Try.results62]; first | (go_simp; done) | (go_simp; rfl))); (case e => (rfl)); (case b => exact (by repeat (first | exact Below.refl _ _ | assumption | (refine Below.drew ?_) | (refine below_drewN ?_ _) | (refine Below.alloc ?_ (by first | (simp; done) | (simp; omega) | omega) _) | (refine Below.setCell ?_ (by first | (simp; done) | (simp; omega) | omega) _) | (refine Below.trans ?_ (Below.mono (by assumption) (by first | (simp; done) | (simp; omega) | omega)))))))
    rcases h2 : btw (-m) x2 m with _ | _
    · clear h
      go_enter Try.func62, Try.ntmps62
      go_wp2_with (go_at_call 63; refine (inRange_any _ _ _ hm).mono ?_; go_must (rintro e w1 ⟨rfl, rfl⟩))
      refine wp_loop_rounds 4 ?_
      repeat (rw [rounds_succ]; go_wp2_with (go_at_call 63; refine (inRange_any _ _ _ hm).mono ?_; go_must (rintro e w1 ⟨rfl, rfl⟩)))
      (refine bodyPost_ret (v := ?v) ?h rfl ⟨?e, ?b⟩; (case h => (simp only [results, Try.results62]; first | (go_simp; done) | (go_simp; rfl))); (case e => (rfl)); (case b => exact (by repeat (first | exact Below.refl _ _ | assumption | (refine Below.drew ?_) | (refine below_drewN ?_ _) | (refine Below.alloc ?_ (by first | (simp; done) | (simp; omega) | omega) _) | (refine Below.setCell ?_ (by first | (simp; done) | (simp; omega) | omega) _) | (refine Below.trans ?_ (Below.mono (by assumption) (by first | (simp; done) | (simp; omega) | omega)))))))
    by_cases z2 : x2 = 0
    rotate_left
    · clear h
      go_enter Try.func62, Try.ntmps62
      go_wp2_with (go_at_call 63; refine (inRange_any _ _ _ hm).mono ?_; go_must (rintro e w1 ⟨rfl, rfl⟩))
      refine wp_loop_rounds 4 ?_
      repeat (rw [rounds_succ]; go_wp2_with (go_at_call 63; refine (inRange_any _ _ _ hm).mono ?_; go_must (rintro e w1 ⟨rfl, rfl⟩)))
      (refine bodyPost_ret (v := ?v) ?h rfl ⟨?e, ?b⟩; (case h => (simp only [results, Try.results62]; first | (go_simp; done) | (go_simp; rfl))); (case e => (rfl)); (case b => exact (by repeat (first | exact Below.refl _ _ | assumption | (refine Below.drew ?_) | (refine below_drewN ?_ _) | (refine Below.alloc ?_ (by first | (simp; done) | (simp; omega) | omega) _) | (refine Below.setCell ?_ (by first | (simp; done) | (simp; omega) | omega) _) | (refine Below.trans ?_ (Below.mono (by assumption) (by first | (simp; done) | (simp; omega) | omega)))))))
    subst z2
    exact absurd h (by simp [flatB, *] <;> simp [btw])
  · -- dimension 3
    rcases h0 : btw (-m) x0 m with _ | _
    · clear h
      go_enter Try.func62, Try.ntmps62
      go_wp2_with (go_at_call 63; refine (inRange_any _ _ _ hm).mono ?_; go_must (rintro e w1 ⟨rfl, rfl⟩))
      refine wp_loop_rounds 4 ?_
      repeat (rw [rounds_succ]; go_wp2_with (go_at_call 63; refine (inRange_any _ _ _ hm).mono ?_; go_must (rintro e w1 ⟨rfl, rfl⟩)))
      (refine bodyPost_ret (v := ?v) ?h rfl ⟨?e, ?b⟩; (case h => (simp only [results, Try.results62]; first | (go_simp; done) | (go_simp; rfl))); (case e => (rfl)); (case b => exact (by repeat (first | exact Below.refl _ _ | assumption | (refine Below.drew ?_) | (refine below_drewN ?_ _) | (refine Below.alloc ?_ (by first | (simp; done) | (simp; omega) | omega) _) | (refine Below.setCell ?_ (by first | (simp; done) | (simp; omega) | omega) _) | (refine Below.trans ?_ (Below.mono (by assumption) (by first | (simp; done) | (simp; omega) | omega)))))))
    rcases h1 : btw (-m) x1 m with _ | _
    · clear h
      go_enter Try.func62, Try.ntmps62
      go_wp2_with (go_at_call 63; refine (inRange_any _ _ _ hm).mono ?_; go_must (rintro e w1 ⟨rfl, rfl⟩))
      refine wp_loop_rounds 4 ?_
      repeat (rw [rounds_succ]; go_wp2_with (go_at_call 63; refine (inRange_any _ _ _ hm).mono ?_; go_must (rintro e w1 ⟨rfl, rfl⟩)))
      (refine bodyPost_ret (v := ?v) ?h rfl ⟨?e, ?b⟩; (case h => (simp only [results, Try.results62]; first | (go_simp; done) | (go_simp; rfl))); (case e => (rfl)); (case b => exact (by repeat (first | exact Below.refl _ _ | assumption | (refine Below.drew ?_) | (refine below_drewN ?_ _) | (refine Below.alloc ?_ (by first | (simp; done) | (simp; omega) | omega) _) | (refine Below.setCell ?_ (by first | (simp; done) | (simp; omega) | omega) _) | (refine Below.trans ?_ (Below.mono (by assumption) (by first | (simp; done) | (simp; omega) | omega)))))))
    rcases h2 : btw (-m) x2 m with _ | _
    · clear h
      go_enter Try.func62, Try.ntmps62
      go_wp2_with (go_at_call 63; refine (inRange_any _ _ _ hm).mono ?_; go_must (rintro e w1 ⟨rfl, rfl⟩))
      refine wp_loop_rounds 4 ?_
      repeat (rw [rounds_succ]; go_wp2_with (go_at_call 63; refine (inRange_any _ _ _ hm).mono ?_; go_must (rintro e w1 ⟨rfl, rfl⟩)))
      (refine bodyPost_ret (v := ?v) ?h rfl ⟨?e, ?b⟩; (case h => (simp only [results, Try.results62]; first | (go_simp; done) | (go_simp; rfl))); (case e => (rfl)); (case b => exact (by repeat (first | exact Below.refl _ _ | assumption | (refine Below.drew ?_) | (refine below_drewN ?_ _) | (refine Below.alloc ?_ (by first | (simp; done) | (simp; omega) | omega) _) | (refine Below.setCell ?_ (by first | (simp; done) | (simp; omega) | omega) _) | (refine Below.trans ?_ (Below.mono (by assumption) (by first | (simp; done) | (simp; omega) | omega)))))))
    exact absurd h (by simp [flatB, *] <;> simp [btw])
set_option maxHeartbeats 4000000 in
set_option maxRecDepth 100000 in
theorem flat_good1 (x0 m : Int) (w : World) (hm : 0 ≤ m ∧ m ≤ 100000) (h0 : btw (-m) x0 m = true) :
    Calls Try.prog 62 #[.agg #[.int .i64 (x0), .int .i64 (0), .int .i64 (0)], .int .i64 (1), .int .i64 (m)] w fun e w' => e = .returned (.bool true) ∧ Below w.heap.size w w' := by
  have bz : btw (-m) 0 m = true := by simp [btw]; omega
  go_enter Try.func62, Try.ntmps62
  go_wp2_with (go_at_call 63; refine (inRange_any _ _ _ hm).mono ?_; go_must (rintro e w1 ⟨rfl, rfl⟩))
  refine wp_loop_rounds 4 ?_
  repeat (rw [rounds_succ]; go_wp2_with (go_at_call 63; refine (inRange_any _ _ _ hm).mono ?_; go_must (rintro e w1 ⟨rfl, rfl⟩)))
  (refine bodyPost_ret (v := ?v) ?h rfl ⟨?e, ?b⟩; (case h => (simp only [results, Try.results62]; first | (go_simp; done) | (go_simp; rfl))); (case e => (rfl)); (case b => exact (by repeat (first | exact Below.refl _ _ | assumption | (refine Below.drew ?_) | (refine below_drewN ?_ _) | (refine Below.alloc ?_ (by first | (simp; done) | (simp; omega) | omega) _) | (refine Below.setCell ?_ (by first | (simp; done) | (simp; omega) | omega) _) | (refine Below.trans ?_ (Below.mono (by assumption) (by first | (simp; done) | (simp; omega) | omega)))))))
set_option maxHeartbeats 4000000 in
set_option maxRecDepth 100000 in
theorem flat_good2 (x0 x1 m : Int) (w : World) (hm : 0 ≤ m ∧ m ≤ 100000) (h0 : btw (-m) x0 m = true) (h1 : btw (-m) x1 m = true) :
    Calls Try.prog 62 #[.agg #[.int .i64 (x0), .int .i64 (x1), .int .i64 (0)], .int .i64 (2), .int .i64 (m)] w fun e w' => e = .returned (.bool true) ∧ Below w.heap.size w w' := by
  have bz : btw (-m) 0 m = true := by simp [btw]; omega
  go_enter Try.func62, Try.ntmps62
  go_wp2_with (go_at_call 63; refine (inRange_any _ _ _ hm).mono ?_; go_must (rintro e w1 ⟨rfl, rfl⟩))
  refine wp_loop_rounds 4 ?_
  repeat (rw [rounds_succ]; go_wp2_with (go_at_call 63; refine (inRange_any _ _ _ hm).mono ?_; go_must (rintro e w1 ⟨rfl, rfl⟩)))
  (refine bodyPost_ret (v := ?v) ?h rfl ⟨?e, ?b⟩; (case h => (simp only [results, Try.results62]; first | (go_simp; done) | (go_simp; rfl))); (case e => (rfl)); (case b => exact (by repeat (first | exact Below.refl _ _ | assumption | (refine Below.drew ?_) | (refine below_drewN ?_ _) | (refine Below.alloc ?_ (by first | (simp; done) | (simp; omega) | omega) _) | (refine Below.setCell ?_ (by first | (simp; done) | (simp; omega) | omega) _) | (refine Below.trans ?_ (Below.mono (by assumption) (by first | (simp; done) | (simp; omega) | omega)))))))
set_option maxHeartbeats 4000000 in
set_option maxRecDepth 100000 in
theorem flat_good3 (x0 x1 x2 m : Int) (w : World) (hm : 0 ≤ m ∧ m ≤ 100000) (h0 : btw (-m) x0 m = true) (h1 : btw (-m) x1 m = true) (h2 : btw (-m) x2 m = true) :
    Calls Try.prog 62 #[.agg #[.int .i64 (x0), .int .i64 (x1), .int .i64 (x2)], .int .i64 (3), .int .i64 (m)] w fun e w' => e = .returned (.bool true) ∧ Below w.heap.size w w' := by
  go_enter Try.func62, Try.ntmps62
  go_wp2_with (go_at_call 63; refine (inRange_any _ _ _ hm).mono ?_; go_must (rintro e w1 ⟨rfl, rfl⟩))
  refine wp_loop_rounds 4 ?_
  repeat (rw [rounds_succ]; go_wp2_with (go_at_call 63; refine (inRange_any _ _ _ hm).mono ?_; go_must (rintro e w1 ⟨rfl, rfl⟩)))
  (refine bodyPost_ret (v := ?v) ?h rfl ⟨?e, ?b⟩; (case h => (simp only [results, Try.results62]; first | (go_simp; done) | (go_simp; rfl))); (case e => (rfl)); (case b => exact (by repeat (first | exact Below.refl _ _ | assumption | (refine Below.drew ?_) | (refine below_drewN ?_ _) | (refine Below.alloc ?_ (by first | (simp; done) | (simp; omega) | omega) _) | (refine Below.setCell ?_ (by first | (simp; done) | (simp; omega) | omega) _) | (refine Below.trans ?_ (Below.mono (by assumption) (by first | (simp; done) | (simp; omega) | omega)))))))
theorem flat_pad {n x0 x1 x2 m : Int} (hn : btw 1 n 3 = true) (h : flatB n x0 x1 x2 m = true) : (n = 1 ∧ x1 = 0 ∧ x2 = 0 ∧ btw (-m) x0 m = true) ∨ (n = 2 ∧ x2 = 0 ∧ btw (-m) x0 m = true ∧ btw (-m) x1 m = true) ∨ (n = 3 ∧ btw (-m) x0 m = true ∧ btw (-m) x1 m = true ∧ btw (-m) x2 m = true) := by
  obtain rfl | rfl | rfl : n = 1 ∨ n = 2 ∨ n = 3 := by have := btw_out hn; omega
  · simp [flatB] at h; simp [h]
  · simp [flatB] at h; simp [h]
  · simp [flatB] at h; simp [h]
theorem flat_any (n x0 x1 x2 m : Int) (w : World) (hm : 0 ≤ m ∧ m ≤ 100000) (hn : btw 1 n 3 = true) :
    Calls Try.prog 62 #[.agg #[.int .i64 (x0), .int .i64 (x1), .int .i64 (x2)], .int .i64 (n), .int .i64 (m)] w fun e w' => e = .returned (.bool (flatB n x0 x1 x2 m)) ∧ Below w.heap.size w w' := by
  rcases h : flatB n x0 x1 x2 m with _ | _
  · exact flat_bad n x0 x1 x2 m w hm hn h
  · obtain ⟨rfl, rfl, rfl, a⟩ | ⟨rfl, rfl, a, b⟩ | ⟨rfl, a, b, c⟩ := flat_pad hn h
    · exact flat_good1 x0 m w hm a
    · exact flat_good2 x0 x1 m w hm a b
    · exact flat_good3 x0 x1 x2 m w hm a b c
theorem Flat_any (n x0 x1 x2 m : Int) (w : World) (hm : 0 ≤ m ∧ m ≤ 100000) (hn : btw 1 n 3 = true) :
    Calls Try.prog 98 #[.agg #[.int .i64 (x0), .int .i64 (x1), .int .i64 (x2)], .int .i64 (n), .int .i64 (m)] w fun e w' => e = .returned (.bool (flatB n x0 x1 x2 m)) ∧ Below w.heap.size w w' := by
  go_enter Try.func98, Try.ntmps98
  go_wp2_with (go_at_call 62; refine (flat_any _ _ _ _ _ _ hm hn).mono ?_; go_must ((first | (have h0 := hb1; clear h0; rintro e w2 ⟨rfl, hb2⟩; obtain ⟨hc2, hf2⟩ := bcell hb2; have hz2 := hb2.size; (try simp at hz2); (first | have z := z10 hz2 | have z := z9 hz2 | have z := z8 hz2 | have z := z7 hz2 | have z := z6 hz2 | have z := z5 hz2 | have z := z4 hz2 | have z := z3 hz2 | have z := z2 hz2 | have z := z1 hz2 | skip); have hq := Nat.le_trans hz1 (show w1.heap.size ≤ w2.heap.size by omega); (first | have z := z10 hq | have z := z9 hq | have z := z8 hq | have z := z7 hq | have z := z6 hq | have z := z5 hq | have z := z4 hq | have z := z3 hq | have z := z2 hq | have z := z1 hq | skip)) | (rintro e w1 ⟨rfl, hb1⟩; obtain ⟨hc1, hf1⟩ := bcell hb1; have hz1 := hb1.size; (try simp at hz1); (first | have z := z10 hz1 | have z := z9 hz1 | have z := z8 hz1 | have z := z7 hz1 | have z := z6 hz1 | have z := z5 hz1 | have z := z4 hz1 | have z := z3 hz1 | have z := z2 hz1 | have z := z1 hz1 | skip)))))
  go_ret
  exact ⟨rfl, by repeat (first | exact Below.refl _ _ | assumption | (refine Below.drew ?_) | (refine below_drewN ?_ _) | (refine Below.alloc ?_ (by first | (simp; done) | (simp; omega) | omega) _) | (refine Below.setCell ?_ (by first | (simp; done) | (simp; omega) | omega) _) | (refine Below.trans ?_ (Below.mono (by assumption) (by first | (simp; done) | (simp; omega) | omega))))⟩
end Go.Proofs.Ytndfdgdahinkpaa
