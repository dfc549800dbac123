/- The walks of the cell of a point, in package space. The walks of the reference's Fold. Conditions: none. -/
import Derived.Test.YtnejicklenhpeaaGreatSpaceR
namespace Go.Proofs.YtnejicklenhpeaaGreat
open Go.RowKit
def cw (pi pk uk ui : Int) : Int := wrap64 (pi - wrap64 (wrap64 (pk * uk) * ui))
set_option maxHeartbeats 4000000 in
set_option maxRecDepth 100000 in
theorem cell10 (x0 x1 x2 p0 p1 p2 : Int) (w : World) :
    Calls Tryz.prog 108 #[.agg #[.int .i64 (1), .int .i64 (0), .int .i64 (x0), .int .i64 (x1), .int .i64 (x2)], .agg #[.int .i64 (p0), .int .i64 (p1), .int .i64 (p2)]] w fun e w' => e = .returned (.agg #[.int .i64 (0), .int .i64 (0)]) ∧ Below w.heap.size w w' := by
  go_enter Tryz.func108, Tryz.ntmps108
  go_wp2_with go_region
  refine wp_loop_rounds 2 ?_
  repeat (rw [rounds_succ]; go_wp2_with go_region)
  (refine bodyPost_ret (v := ?v) ?h rfl ⟨?e, ?b⟩; (case h => (simp only [results, Tryz.results108]; first | (go_simp; done) | (go_simp; rfl))); (case e => (rfl)); (case b => exact (by repeat (first | exact Below.refl _ _ | assumption | (refine Below.drew ?_) | (refine below_drewN ?_ _) | (refine Below.alloc ?_ (by first | (simp; done) | (simp; omega) | omega) _) | (refine Below.setCell ?_ (by first | (simp; done) | (simp; omega) | omega) _) | (refine Below.trans ?_ (Below.mono (by assumption) (by first | (simp; done) | (simp; omega) | omega)))))))
set_option maxHeartbeats 4000000 in
set_option maxRecDepth 100000 in
theorem cell20 (x0 x1 x2 p0 p1 p2 : Int) (w : World) :
    Calls Tryz.prog 108 #[.agg #[.int .i64 (2), .int .i64 (0), .int .i64 (x0), .int .i64 (x1), .int .i64 (x2)], .agg #[.int .i64 (p0), .int .i64 (p1), .int .i64 (p2)]] w fun e w' => e = .returned (.agg #[.int .i64 (cw p1 p0 x0 x1), .int .i64 (0)]) ∧ Below w.heap.size w w' := by
  go_enter Tryz.func108, Tryz.ntmps108
  go_wp2_with go_region
  refine wp_loop_rounds 3 ?_
  repeat (rw [rounds_succ]; go_wp2_with go_region)
  (refine bodyPost_ret (v := ?v) ?h rfl ⟨?e, ?b⟩; (case h => (simp only [results, Tryz.results108]; first | (go_simp; done) | (go_simp; rfl))); (case e => (rfl)); (case b => exact (by repeat (first | exact Below.refl _ _ | assumption | (refine Below.drew ?_) | (refine below_drewN ?_ _) | (refine Below.alloc ?_ (by first | (simp; done) | (simp; omega) | omega) _) | (refine Below.setCell ?_ (by first | (simp; done) | (simp; omega) | omega) _) | (refine Below.trans ?_ (Below.mono (by assumption) (by first | (simp; done) | (simp; omega) | omega)))))))
set_option maxHeartbeats 4000000 in
set_option maxRecDepth 100000 in
theorem cell21 (x0 x1 x2 p0 p1 p2 : Int) (w : World) :
    Calls Tryz.prog 108 #[.agg #[.int .i64 (2), .int .i64 (1), .int .i64 (x0), .int .i64 (x1), .int .i64 (x2)], .agg #[.int .i64 (p0), .int .i64 (p1), .int .i64 (p2)]] w fun e w' => e = .returned (.agg #[.int .i64 (cw p0 p1 x1 x0), .int .i64 (0)]) ∧ Below w.heap.size w w' := by
  go_enter Tryz.func108, Tryz.ntmps108
  go_wp2_with go_region
  refine wp_loop_rounds 3 ?_
  repeat (rw [rounds_succ]; go_wp2_with go_region)
  (refine bodyPost_ret (v := ?v) ?h rfl ⟨?e, ?b⟩; (case h => (simp only [results, Tryz.results108]; first | (go_simp; done) | (go_simp; rfl))); (case e => (rfl)); (case b => exact (by repeat (first | exact Below.refl _ _ | assumption | (refine Below.drew ?_) | (refine below_drewN ?_ _) | (refine Below.alloc ?_ (by first | (simp; done) | (simp; omega) | omega) _) | (refine Below.setCell ?_ (by first | (simp; done) | (simp; omega) | omega) _) | (refine Below.trans ?_ (Below.mono (by assumption) (by first | (simp; done) | (simp; omega) | omega)))))))
set_option maxHeartbeats 4000000 in
set_option maxRecDepth 100000 in
theorem cell30 (x0 x1 x2 p0 p1 p2 : Int) (w : World) :
    Calls Tryz.prog 108 #[.agg #[.int .i64 (3), .int .i64 (0), .int .i64 (x0), .int .i64 (x1), .int .i64 (x2)], .agg #[.int .i64 (p0), .int .i64 (p1), .int .i64 (p2)]] w fun e w' => e = .returned (.agg #[.int .i64 (cw p1 p0 x0 x1), .int .i64 (cw p2 p0 x0 x2)]) ∧ Below w.heap.size w w' := by
  go_enter Tryz.func108, Tryz.ntmps108
  go_wp2_with go_region
  refine wp_loop_rounds 4 ?_
  repeat (rw [rounds_succ]; go_wp2_with go_region)
  (refine bodyPost_ret (v := ?v) ?h rfl ⟨?e, ?b⟩; (case h => (simp only [results, Tryz.results108]; first | (go_simp; done) | (go_simp; rfl))); (case e => (rfl)); (case b => exact (by repeat (first | exact Below.refl _ _ | assumption | (refine Below.drew ?_) | (refine below_drewN ?_ _) | (refine Below.alloc ?_ (by first | (simp; done) | (simp; omega) | omega) _) | (refine Below.setCell ?_ (by first | (simp; done) | (simp; omega) | omega) _) | (refine Below.trans ?_ (Below.mono (by assumption) (by first | (simp; done) | (simp; omega) | omega)))))))
set_option maxHeartbeats 4000000 in
set_option maxRecDepth 100000 in
theorem cell31 (x0 x1 x2 p0 p1 p2 : Int) (w : World) :
    Calls Tryz.prog 108 #[.agg #[.int .i64 (3), .int .i64 (1), .int .i64 (x0), .int .i64 (x1), .int .i64 (x2)], .agg #[.int .i64 (p0), .int .i64 (p1), .int .i64 (p2)]] w fun e w' => e = .returned (.agg #[.int .i64 (cw p0 p1 x1 x0), .int .i64 (cw p2 p1 x1 x2)]) ∧ Below w.heap.size w w' := by
  go_enter Tryz.func108, Tryz.ntmps108
  go_wp2_with go_region
  refine wp_loop_rounds 4 ?_
  repeat (rw [rounds_succ]; go_wp2_with go_region)
  (refine bodyPost_ret (v := ?v) ?h rfl ⟨?e, ?b⟩; (case h => (simp only [results, Tryz.results108]; first | (go_simp; done) | (go_simp; rfl))); (case e => (rfl)); (case b => exact (by repeat (first | exact Below.refl _ _ | assumption | (refine Below.drew ?_) | (refine below_drewN ?_ _) | (refine Below.alloc ?_ (by first | (simp; done) | (simp; omega) | omega) _) | (refine Below.setCell ?_ (by first | (simp; done) | (simp; omega) | omega) _) | (refine Below.trans ?_ (Below.mono (by assumption) (by first | (simp; done) | (simp; omega) | omega)))))))
set_option maxHeartbeats 4000000 in
set_option maxRecDepth 100000 in
theorem cell32 (x0 x1 x2 p0 p1 p2 : Int) (w : World) :
    Calls Tryz.prog 108 #[.agg #[.int .i64 (3), .int .i64 (2), .int .i64 (x0), .int .i64 (x1), .int .i64 (x2)], .agg #[.int .i64 (p0), .int .i64 (p1), .int .i64 (p2)]] w fun e w' => e = .returned (.agg #[.int .i64 (cw p0 p2 x2 x0), .int .i64 (cw p1 p2 x2 x1)]) ∧ Below w.heap.size w w' := by
  go_enter Tryz.func108, Tryz.ntmps108
  go_wp2_with go_region
  refine wp_loop_rounds 4 ?_
  repeat (rw [rounds_succ]; go_wp2_with go_region)
  (refine bodyPost_ret (v := ?v) ?h rfl ⟨?e, ?b⟩; (case h => (simp only [results, Tryz.results108]; first | (go_simp; done) | (go_simp; rfl))); (case e => (rfl)); (case b => exact (by repeat (first | exact Below.refl _ _ | assumption | (refine Below.drew ?_) | (refine below_drewN ?_ _) | (refine Below.alloc ?_ (by first | (simp; done) | (simp; omega) | omega) _) | (refine Below.setCell ?_ (by first | (simp; done) | (simp; omega) | omega) _) | (refine Below.trans ?_ (Below.mono (by assumption) (by first | (simp; done) | (simp; omega) | omega)))))))
end Go.Proofs.YtnejicklenhpeaaGreat
namespace Go.Proofs.YtnejicklenhpeaaGreat
open Go.RowKit
theorem raxis_gen (n x0 x1 x2 k : Int) (w : World) (h : (btw 1 n 3 && flatB n x0 x1 x2 3) = true) (hk : findK n x0 x1 x2 = k) :
    Calls Tryz.prog 111 #[.int .i64 (n), .agg #[.int .i64 (x0), .int .i64 (x1), .int .i64 (x2)]] w fun e w' => e = .returned (.int .i64 (k)) ∧ Below w.heap.size w w' := by
  subst hk
  exact raxis_any n x0 x1 x2 w h
theorem newFold_gen (n x0 x1 x2 k : Int) (w : World) (h : validB n x0 x1 x2 = true) (hk : findK n x0 x1 x2 = k) :
    Calls Tryz.prog 106 #[.int .i64 (n), .agg #[.int .i64 (x0), .int .i64 (x1), .int .i64 (x2)]] w fun e w' => e = .returned (.tuple #[.agg #[.int .i64 (n), .int .i64 (k), .int .i64 (x0), .int .i64 (x1), .int .i64 (x2)], .bool true]) ∧ Below w.heap.size w w' := by
  subst hk
  exact newFold_good n x0 x1 x2 w h
set_option maxHeartbeats 4000000 in
set_option maxRecDepth 100000 in
theorem Fold10 (x0 p0 : Int) (w : World) (h : (btw 1 1 3 && flatB 1 x0 0 0 3) = true) (hk : findK 1 x0 0 0 = 0) :
    Calls Tryz.prog 55 #[.int .i64 (1), .agg #[.int .i64 (x0), .int .i64 (0), .int .i64 (0)], .agg #[.int .i64 (p0), .int .i64 (0), .int .i64 (0)]] w fun e w' => e = .returned (.agg #[.int .i64 (0), .int .i64 (0)]) ∧ Below w.heap.size w w' := by
  go_enter Tryz.func55, Tryz.ntmps55
  go_wp2_with (go_at_call 111; refine (raxis_gen _ _ _ _ _ _ h hk).mono ?_; go_must ((first | (have h0 := hb1; clear h0; rintro e w2 ⟨rfl, hb2⟩; obtain ⟨hc2, hf2⟩ := bcell hb2; have hz2 := hb2.size; (try simp at hz2); (first | have z := z10 hz2 | have z := z9 hz2 | have z := z8 hz2 | have z := z7 hz2 | have z := z6 hz2 | have z := z5 hz2 | have z := z4 hz2 | have z := z3 hz2 | have z := z2 hz2 | have z := z1 hz2 | skip); have hq := Nat.le_trans hz1 (show w1.heap.size ≤ w2.heap.size by omega); (first | have z := z10 hq | have z := z9 hq | have z := z8 hq | have z := z7 hq | have z := z6 hq | have z := z5 hq | have z := z4 hq | have z := z3 hq | have z := z2 hq | have z := z1 hq | skip)) | (rintro e w1 ⟨rfl, hb1⟩; obtain ⟨hc1, hf1⟩ := bcell hb1; have hz1 := hb1.size; (try simp at hz1); (first | have z := z10 hz1 | have z := z9 hz1 | have z := z8 hz1 | have z := z7 hz1 | have z := z6 hz1 | have z := z5 hz1 | have z := z4 hz1 | have z := z3 hz1 | have z := z2 hz1 | have z := z1 hz1 | skip)))))
  refine wp_loop_rounds 4 ?_
  repeat (rw [rounds_succ]; go_wp2_with go_region)
  (refine bodyPost_ret (v := ?v) ?h rfl ⟨?e, ?b⟩; (case h => (simp only [results, Tryz.results55]; first | (go_simp; done) | (go_simp; rfl))); (case e => (rfl)); (case b => exact (by repeat (first | exact Below.refl _ _ | assumption | (refine Below.drew ?_) | (refine below_drewN ?_ _) | (refine Below.alloc ?_ (by first | (simp; done) | (simp; omega) | omega) _) | (refine Below.setCell ?_ (by first | (simp; done) | (simp; omega) | omega) _) | (refine Below.trans ?_ (Below.mono (by assumption) (by first | (simp; done) | (simp; omega) | omega)))))))
set_option maxHeartbeats 4000000 in
set_option maxRecDepth 100000 in
theorem Fold20 (x0 x1 p0 p1 : Int) (w : World) (h : (btw 1 2 3 && flatB 2 x0 x1 0 3) = true) (hk : findK 2 x0 x1 0 = 0) :
    Calls Tryz.prog 55 #[.int .i64 (2), .agg #[.int .i64 (x0), .int .i64 (x1), .int .i64 (0)], .agg #[.int .i64 (p0), .int .i64 (p1), .int .i64 (0)]] w fun e w' => e = .returned (.agg #[.int .i64 (cw p1 p0 x0 x1), .int .i64 (0)]) ∧ Below w.heap.size w w' := by
  go_enter Tryz.func55, Tryz.ntmps55
  go_wp2_with (go_at_call 111; refine (raxis_gen _ _ _ _ _ _ h hk).mono ?_; go_must ((first | (have h0 := hb1; clear h0; rintro e w2 ⟨rfl, hb2⟩; obtain ⟨hc2, hf2⟩ := bcell hb2; have hz2 := hb2.size; (try simp at hz2); (first | have z := z10 hz2 | have z := z9 hz2 | have z := z8 hz2 | have z := z7 hz2 | have z := z6 hz2 | have z := z5 hz2 | have z := z4 hz2 | have z := z3 hz2 | have z := z2 hz2 | have z := z1 hz2 | skip); have hq := Nat.le_trans hz1 (show w1.heap.size ≤ w2.heap.size by omega); (first | have z := z10 hq | have z := z9 hq | have z := z8 hq | have z := z7 hq | have z := z6 hq | have z := z5 hq | have z := z4 hq | have z := z3 hq | have z := z2 hq | have z := z1 hq | skip)) | (rintro e w1 ⟨rfl, hb1⟩; obtain ⟨hc1, hf1⟩ := bcell hb1; have hz1 := hb1.size; (try simp at hz1); (first | have z := z10 hz1 | have z := z9 hz1 | have z := z8 hz1 | have z := z7 hz1 | have z := z6 hz1 | have z := z5 hz1 | have z := z4 hz1 | have z := z3 hz1 | have z := z2 hz1 | have z := z1 hz1 | skip)))))
  refine wp_loop_rounds 4 ?_
  repeat (rw [rounds_succ]; go_wp2_with go_region)
  (refine bodyPost_ret (v := ?v) ?h rfl ⟨?e, ?b⟩; (case h => (simp only [results, Tryz.results55]; first | (go_simp; done) | (go_simp; rfl))); (case e => (rfl)); (case b => exact (by repeat (first | exact Below.refl _ _ | assumption | (refine Below.drew ?_) | (refine below_drewN ?_ _) | (refine Below.alloc ?_ (by first | (simp; done) | (simp; omega) | omega) _) | (refine Below.setCell ?_ (by first | (simp; done) | (simp; omega) | omega) _) | (refine Below.trans ?_ (Below.mono (by assumption) (by first | (simp; done) | (simp; omega) | omega)))))))
set_option maxHeartbeats 4000000 in
set_option maxRecDepth 100000 in
theorem Fold21 (x0 x1 p0 p1 : Int) (w : World) (h : (btw 1 2 3 && flatB 2 x0 x1 0 3) = true) (hk : findK 2 x0 x1 0 = 1) :
    Calls Tryz.prog 55 #[.int .i64 (2), .agg #[.int .i64 (x0), .int .i64 (x1), .int .i64 (0)], .agg #[.int .i64 (p0), .int .i64 (p1), .int .i64 (0)]] w fun e w' => e = .returned (.agg #[.int .i64 (cw p0 p1 x1 x0), .int .i64 (0)]) ∧ Below w.heap.size w w' := by
  go_enter Tryz.func55, Tryz.ntmps55
  go_wp2_with (go_at_call 111; refine (raxis_gen _ _ _ _ _ _ h hk).mono ?_; go_must ((first | (have h0 := hb1; clear h0; rintro e w2 ⟨rfl, hb2⟩; obtain ⟨hc2, hf2⟩ := bcell hb2; have hz2 := hb2.size; (try simp at hz2); (first | have z := z10 hz2 | have z := z9 hz2 | have z := z8 hz2 | have z := z7 hz2 | have z := z6 hz2 | have z := z5 hz2 | have z := z4 hz2 | have z := z3 hz2 | have z := z2 hz2 | have z := z1 hz2 | skip); have hq := Nat.le_trans hz1 (show w1.heap.size ≤ w2.heap.size by omega); (first | have z := z10 hq | have z := z9 hq | have z := z8 hq | have z := z7 hq | have z := z6 hq | have z := z5 hq | have z := z4 hq | have z := z3 hq | have z := z2 hq | have z := z1 hq | skip)) | (rintro e w1 ⟨rfl, hb1⟩; obtain ⟨hc1, hf1⟩ := bcell hb1; have hz1 := hb1.size; (try simp at hz1); (first | have z := z10 hz1 | have z := z9 hz1 | have z := z8 hz1 | have z := z7 hz1 | have z := z6 hz1 | have z := z5 hz1 | have z := z4 hz1 | have z := z3 hz1 | have z := z2 hz1 | have z := z1 hz1 | skip)))))
  refine wp_loop_rounds 4 ?_
  repeat (rw [rounds_succ]; go_wp2_with go_region)
  (refine bodyPost_ret (v := ?v) ?h rfl ⟨?e, ?b⟩; (case h => (simp only [results, Tryz.results55]; first | (go_simp; done) | (go_simp; rfl))); (case e => (rfl)); (case b => exact (by repeat (first | exact Below.refl _ _ | assumption | (refine Below.drew ?_) | (refine below_drewN ?_ _) | (refine Below.alloc ?_ (by first | (simp; done) | (simp; omega) | omega) _) | (refine Below.setCell ?_ (by first | (simp; done) | (simp; omega) | omega) _) | (refine Below.trans ?_ (Below.mono (by assumption) (by first | (simp; done) | (simp; omega) | omega)))))))
set_option maxHeartbeats 4000000 in
set_option maxRecDepth 100000 in
theorem Fold30 (x0 x1 x2 p0 p1 p2 : Int) (w : World) (h : (btw 1 3 3 && flatB 3 x0 x1 x2 3) = true) (hk : findK 3 x0 x1 x2 = 0) :
    Calls Tryz.prog 55 #[.int .i64 (3), .agg #[.int .i64 (x0), .int .i64 (x1), .int .i64 (x2)], .agg #[.int .i64 (p0), .int .i64 (p1), .int .i64 (p2)]] w fun e w' => e = .returned (.agg #[.int .i64 (cw p1 p0 x0 x1), .int .i64 (cw p2 p0 x0 x2)]) ∧ Below w.heap.size w w' := by
  go_enter Tryz.func55, Tryz.ntmps55
  go_wp2_with (go_at_call 111; refine (raxis_gen _ _ _ _ _ _ h hk).mono ?_; go_must ((first | (have h0 := hb1; clear h0; rintro e w2 ⟨rfl, hb2⟩; obtain ⟨hc2, hf2⟩ := bcell hb2; have hz2 := hb2.size; (try simp at hz2); (first | have z := z10 hz2 | have z := z9 hz2 | have z := z8 hz2 | have z := z7 hz2 | have z := z6 hz2 | have z := z5 hz2 | have z := z4 hz2 | have z := z3 hz2 | have z := z2 hz2 | have z := z1 hz2 | skip); have hq := Nat.le_trans hz1 (show w1.heap.size ≤ w2.heap.size by omega); (first | have z := z10 hq | have z := z9 hq | have z := z8 hq | have z := z7 hq | have z := z6 hq | have z := z5 hq | have z := z4 hq | have z := z3 hq | have z := z2 hq | have z := z1 hq | skip)) | (rintro e w1 ⟨rfl, hb1⟩; obtain ⟨hc1, hf1⟩ := bcell hb1; have hz1 := hb1.size; (try simp at hz1); (first | have z := z10 hz1 | have z := z9 hz1 | have z := z8 hz1 | have z := z7 hz1 | have z := z6 hz1 | have z := z5 hz1 | have z := z4 hz1 | have z := z3 hz1 | have z := z2 hz1 | have z := z1 hz1 | skip)))))
  refine wp_loop_rounds 4 ?_
  repeat (rw [rounds_succ]; go_wp2_with go_region)
  (refine bodyPost_ret (v := ?v) ?h rfl ⟨?e, ?b⟩; (case h => (simp only [results, Tryz.results55]; first | (go_simp; done) | (go_simp; rfl))); (case e => (rfl)); (case b => exact (by repeat (first | exact Below.refl _ _ | assumption | (refine Below.drew ?_) | (refine below_drewN ?_ _) | (refine Below.alloc ?_ (by first | (simp; done) | (simp; omega) | omega) _) | (refine Below.setCell ?_ (by first | (simp; done) | (simp; omega) | omega) _) | (refine Below.trans ?_ (Below.mono (by assumption) (by first | (simp; done) | (simp; omega) | omega)))))))
set_option maxHeartbeats 4000000 in
set_option maxRecDepth 100000 in
theorem Fold31 (x0 x1 x2 p0 p1 p2 : Int) (w : World) (h : (btw 1 3 3 && flatB 3 x0 x1 x2 3) = true) (hk : findK 3 x0 x1 x2 = 1) :
    Calls Tryz.prog 55 #[.int .i64 (3), .agg #[.int .i64 (x0), .int .i64 (x1), .int .i64 (x2)], .agg #[.int .i64 (p0), .int .i64 (p1), .int .i64 (p2)]] w fun e w' => e = .returned (.agg #[.int .i64 (cw p0 p1 x1 x0), .int .i64 (cw p2 p1 x1 x2)]) ∧ Below w.heap.size w w' := by
  go_enter Tryz.func55, Tryz.ntmps55
  go_wp2_with (go_at_call 111; refine (raxis_gen _ _ _ _ _ _ h hk).mono ?_; go_must ((first | (have h0 := hb1; clear h0; rintro e w2 ⟨rfl, hb2⟩; obtain ⟨hc2, hf2⟩ := bcell hb2; have hz2 := hb2.size; (try simp at hz2); (first | have z := z10 hz2 | have z := z9 hz2 | have z := z8 hz2 | have z := z7 hz2 | have z := z6 hz2 | have z := z5 hz2 | have z := z4 hz2 | have z := z3 hz2 | have z := z2 hz2 | have z := z1 hz2 | skip); have hq := Nat.le_trans hz1 (show w1.heap.size ≤ w2.heap.size by omega); (first | have z := z10 hq | have z := z9 hq | have z := z8 hq | have z := z7 hq | have z := z6 hq | have z := z5 hq | have z := z4 hq | have z := z3 hq | have z := z2 hq | have z := z1 hq | skip)) | (rintro e w1 ⟨rfl, hb1⟩; obtain ⟨hc1, hf1⟩ := bcell hb1; have hz1 := hb1.size; (try simp at hz1); (first | have z := z10 hz1 | have z := z9 hz1 | have z := z8 hz1 | have z := z7 hz1 | have z := z6 hz1 | have z := z5 hz1 | have z := z4 hz1 | have z := z3 hz1 | have z := z2 hz1 | have z := z1 hz1 | skip)))))
  refine wp_loop_rounds 4 ?_
  repeat (rw [rounds_succ]; go_wp2_with go_region)
  (refine bodyPost_ret (v := ?v) ?h rfl ⟨?e, ?b⟩; (case h => (simp only [results, Tryz.results55]; first | (go_simp; done) | (go_simp; rfl))); (case e => (rfl)); (case b => exact (by repeat (first | exact Below.refl _ _ | assumption | (refine Below.drew ?_) | (refine below_drewN ?_ _) | (refine Below.alloc ?_ (by first | (simp; done) | (simp; omega) | omega) _) | (refine Below.setCell ?_ (by first | (simp; done) | (simp; omega) | omega) _) | (refine Below.trans ?_ (Below.mono (by assumption) (by first | (simp; done) | (simp; omega) | omega)))))))
set_option maxHeartbeats 4000000 in
set_option maxRecDepth 100000 in
theorem Fold32 (x0 x1 x2 p0 p1 p2 : Int) (w : World) (h : (btw 1 3 3 && flatB 3 x0 x1 x2 3) = true) (hk : findK 3 x0 x1 x2 = 2) :
    Calls Tryz.prog 55 #[.int .i64 (3), .agg #[.int .i64 (x0), .int .i64 (x1), .int .i64 (x2)], .agg #[.int .i64 (p0), .int .i64 (p1), .int .i64 (p2)]] w fun e w' => e = .returned (.agg #[.int .i64 (cw p0 p2 x2 x0), .int .i64 (cw p1 p2 x2 x1)]) ∧ Below w.heap.size w w' := by
  go_enter Tryz.func55, Tryz.ntmps55
  go_wp2_with (go_at_call 111; refine (raxis_gen _ _ _ _ _ _ h hk).mono ?_; go_must ((first | (have h0 := hb1; clear h0; rintro e w2 ⟨rfl, hb2⟩; obtain ⟨hc2, hf2⟩ := bcell hb2; have hz2 := hb2.size; (try simp at hz2); (first | have z := z10 hz2 | have z := z9 hz2 | have z := z8 hz2 | have z := z7 hz2 | have z := z6 hz2 | have z := z5 hz2 | have z := z4 hz2 | have z := z3 hz2 | have z := z2 hz2 | have z := z1 hz2 | skip); have hq := Nat.le_trans hz1 (show w1.heap.size ≤ w2.heap.size by omega); (first | have z := z10 hq | have z := z9 hq | have z := z8 hq | have z := z7 hq | have z := z6 hq | have z := z5 hq | have z := z4 hq | have z := z3 hq | have z := z2 hq | have z := z1 hq | skip)) | (rintro e w1 ⟨rfl, hb1⟩; obtain ⟨hc1, hf1⟩ := bcell hb1; have hz1 := hb1.size; (try simp at hz1); (first | have z := z10 hz1 | have z := z9 hz1 | have z := z8 hz1 | have z := z7 hz1 | have z := z6 hz1 | have z := z5 hz1 | have z := z4 hz1 | have z := z3 hz1 | have z := z2 hz1 | have z := z1 hz1 | skip)))))
  refine wp_loop_rounds 4 ?_
  repeat (rw [rounds_succ]; go_wp2_with go_region)
  (refine bodyPost_ret (v := ?v) ?h rfl ⟨?e, ?b⟩; (case h => (simp only [results, Tryz.results55]; first | (go_simp; done) | (go_simp; rfl))); (case e => (rfl)); (case b => exact (by repeat (first | exact Below.refl _ _ | assumption | (refine Below.drew ?_) | (refine below_drewN ?_ _) | (refine Below.alloc ?_ (by first | (simp; done) | (simp; omega) | omega) _) | (refine Below.setCell ?_ (by first | (simp; done) | (simp; omega) | omega) _) | (refine Below.trans ?_ (Below.mono (by assumption) (by first | (simp; done) | (simp; omega) | omega)))))))
end Go.Proofs.YtnejicklenhpeaaGreat
