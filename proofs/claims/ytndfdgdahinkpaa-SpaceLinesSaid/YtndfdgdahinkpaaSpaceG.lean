/- The walks of the cell of a point, in package space. -/
import Derived.Test.YtndfdgdahinkpaaSpaceF
namespace Go.Proofs.Ytndfdgdahinkpaa
open Go.RowKit
def cw (pi pk uk ui : Int) : Int := wrap64 (pi - wrap64 (wrap64 (pk * uk) * ui))
set_option maxHeartbeats 4000000 in
set_option maxRecDepth 100000 in
theorem cell10 (x0 x1 x2 p0 p1 p2 : Int) (w : World) :
    Calls Try.prog 39 #[.agg #[.int .i64 (1), .int .i64 (0), .int .i64 (x0), .int .i64 (x1), .int .i64 (x2)], .agg #[.int .i64 (p0), .int .i64 (p1), .int .i64 (p2)]] w fun e w' => e = .returned (.agg #[.int .i64 (0), .int .i64 (0)]) ∧ Below w.heap.size w w' := by
  go_enter Try.func39, Try.ntmps39
  go_wp2_with go_region
  refine wp_loop_rounds 2 ?_
  repeat (rw [rounds_succ]; go_wp2_with go_region)
  (refine bodyPost_ret (v := ?v) ?h rfl ⟨?e, ?b⟩; (case h => (simp only [results, Try.results39]; first | (go_simp; done) | (go_simp; rfl))); (case e => (rfl)); (case b => exact (by repeat (first | exact Below.refl _ _ | assumption | (refine Below.drew ?_) | (refine below_drewN ?_ _) | (refine Below.alloc ?_ (by first | (simp; done) | (simp; omega) | omega) _) | (refine Below.setCell ?_ (by first | (simp; done) | (simp; omega) | omega) _) | (refine Below.trans ?_ (Below.mono (by assumption) (by first | (simp; done) | (simp; omega) | omega)))))))
set_option maxHeartbeats 4000000 in
set_option maxRecDepth 100000 in
theorem cell20 (x0 x1 x2 p0 p1 p2 : Int) (w : World) :
    Calls Try.prog 39 #[.agg #[.int .i64 (2), .int .i64 (0), .int .i64 (x0), .int .i64 (x1), .int .i64 (x2)], .agg #[.int .i64 (p0), .int .i64 (p1), .int .i64 (p2)]] w fun e w' => e = .returned (.agg #[.int .i64 (cw p1 p0 x0 x1), .int .i64 (0)]) ∧ Below w.heap.size w w' := by
  go_enter Try.func39, Try.ntmps39
  go_wp2_with go_region
  refine wp_loop_rounds 3 ?_
  repeat (rw [rounds_succ]; go_wp2_with go_region)
  (refine bodyPost_ret (v := ?v) ?h rfl ⟨?e, ?b⟩; (case h => (simp only [results, Try.results39]; first | (go_simp; done) | (go_simp; rfl))); (case e => (rfl)); (case b => exact (by repeat (first | exact Below.refl _ _ | assumption | (refine Below.drew ?_) | (refine below_drewN ?_ _) | (refine Below.alloc ?_ (by first | (simp; done) | (simp; omega) | omega) _) | (refine Below.setCell ?_ (by first | (simp; done) | (simp; omega) | omega) _) | (refine Below.trans ?_ (Below.mono (by assumption) (by first | (simp; done) | (simp; omega) | omega)))))))
set_option maxHeartbeats 4000000 in
set_option maxRecDepth 100000 in
theorem cell21 (x0 x1 x2 p0 p1 p2 : Int) (w : World) :
    Calls Try.prog 39 #[.agg #[.int .i64 (2), .int .i64 (1), .int .i64 (x0), .int .i64 (x1), .int .i64 (x2)], .agg #[.int .i64 (p0), .int .i64 (p1), .int .i64 (p2)]] w fun e w' => e = .returned (.agg #[.int .i64 (cw p0 p1 x1 x0), .int .i64 (0)]) ∧ Below w.heap.size w w' := by
  go_enter Try.func39, Try.ntmps39
  go_wp2_with go_region
  refine wp_loop_rounds 3 ?_
  repeat (rw [rounds_succ]; go_wp2_with go_region)
  (refine bodyPost_ret (v := ?v) ?h rfl ⟨?e, ?b⟩; (case h => (simp only [results, Try.results39]; first | (go_simp; done) | (go_simp; rfl))); (case e => (rfl)); (case b => exact (by repeat (first | exact Below.refl _ _ | assumption | (refine Below.drew ?_) | (refine below_drewN ?_ _) | (refine Below.alloc ?_ (by first | (simp; done) | (simp; omega) | omega) _) | (refine Below.setCell ?_ (by first | (simp; done) | (simp; omega) | omega) _) | (refine Below.trans ?_ (Below.mono (by assumption) (by first | (simp; done) | (simp; omega) | omega)))))))
set_option maxHeartbeats 4000000 in
set_option maxRecDepth 100000 in
theorem cell30 (x0 x1 x2 p0 p1 p2 : Int) (w : World) :
    Calls Try.prog 39 #[.agg #[.int .i64 (3), .int .i64 (0), .int .i64 (x0), .int .i64 (x1), .int .i64 (x2)], .agg #[.int .i64 (p0), .int .i64 (p1), .int .i64 (p2)]] w fun e w' => e = .returned (.agg #[.int .i64 (cw p1 p0 x0 x1), .int .i64 (cw p2 p0 x0 x2)]) ∧ Below w.heap.size w w' := by
  go_enter Try.func39, Try.ntmps39
  go_wp2_with go_region
  refine wp_loop_rounds 4 ?_
  repeat (rw [rounds_succ]; go_wp2_with go_region)
  (refine bodyPost_ret (v := ?v) ?h rfl ⟨?e, ?b⟩; (case h => (simp only [results, Try.results39]; first | (go_simp; done) | (go_simp; rfl))); (case e => (rfl)); (case b => exact (by repeat (first | exact Below.refl _ _ | assumption | (refine Below.drew ?_) | (refine below_drewN ?_ _) | (refine Below.alloc ?_ (by first | (simp; done) | (simp; omega) | omega) _) | (refine Below.setCell ?_ (by first | (simp; done) | (simp; omega) | omega) _) | (refine Below.trans ?_ (Below.mono (by assumption) (by first | (simp; done) | (simp; omega) | omega)))))))
set_option maxHeartbeats 4000000 in
set_option maxRecDepth 100000 in
theorem cell31 (x0 x1 x2 p0 p1 p2 : Int) (w : World) :
    Calls Try.prog 39 #[.agg #[.int .i64 (3), .int .i64 (1), .int .i64 (x0), .int .i64 (x1), .int .i64 (x2)], .agg #[.int .i64 (p0), .int .i64 (p1), .int .i64 (p2)]] w fun e w' => e = .returned (.agg #[.int .i64 (cw p0 p1 x1 x0), .int .i64 (cw p2 p1 x1 x2)]) ∧ Below w.heap.size w w' := by
  go_enter Try.func39, Try.ntmps39
  go_wp2_with go_region
  refine wp_loop_rounds 4 ?_
  repeat (rw [rounds_succ]; go_wp2_with go_region)
  (refine bodyPost_ret (v := ?v) ?h rfl ⟨?e, ?b⟩; (case h => (simp only [results, Try.results39]; first | (go_simp; done) | (go_simp; rfl))); (case e => (rfl)); (case b => exact (by repeat (first | exact Below.refl _ _ | assumption | (refine Below.drew ?_) | (refine below_drewN ?_ _) | (refine Below.alloc ?_ (by first | (simp; done) | (simp; omega) | omega) _) | (refine Below.setCell ?_ (by first | (simp; done) | (simp; omega) | omega) _) | (refine Below.trans ?_ (Below.mono (by assumption) (by first | (simp; done) | (simp; omega) | omega)))))))
set_option maxHeartbeats 4000000 in
set_option maxRecDepth 100000 in
theorem cell32 (x0 x1 x2 p0 p1 p2 : Int) (w : World) :
    Calls Try.prog 39 #[.agg #[.int .i64 (3), .int .i64 (2), .int .i64 (x0), .int .i64 (x1), .int .i64 (x2)], .agg #[.int .i64 (p0), .int .i64 (p1), .int .i64 (p2)]] w fun e w' => e = .returned (.agg #[.int .i64 (cw p0 p2 x2 x0), .int .i64 (cw p1 p2 x2 x1)]) ∧ Below w.heap.size w w' := by
  go_enter Try.func39, Try.ntmps39
  go_wp2_with go_region
  refine wp_loop_rounds 4 ?_
  repeat (rw [rounds_succ]; go_wp2_with go_region)
  (refine bodyPost_ret (v := ?v) ?h rfl ⟨?e, ?b⟩; (case h => (simp only [results, Try.results39]; first | (go_simp; done) | (go_simp; rfl))); (case e => (rfl)); (case b => exact (by repeat (first | exact Below.refl _ _ | assumption | (refine Below.drew ?_) | (refine below_drewN ?_ _) | (refine Below.alloc ?_ (by first | (simp; done) | (simp; omega) | omega) _) | (refine Below.setCell ?_ (by first | (simp; done) | (simp; omega) | omega) _) | (refine Below.trans ?_ (Below.mono (by assumption) (by first | (simp; done) | (simp; omega) | omega)))))))
end Go.Proofs.Ytndfdgdahinkpaa
