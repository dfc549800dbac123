/- The walks of the reference's functions of layer 6 on single cells. -/
import Derived.Test.YtnejicklenhpeaaGreatFoldA
namespace Go.Proofs.YtnejicklenhpeaaGreat
open Go.RowKit
theorem rsize_any (c0 c1 : Int) (w : World) :
    Calls Tryz.prog 62 #[.agg #[.int .i64 (c0), .int .i64 (c1)]] w fun e w' => e = .returned (.bool (eachB c0 c1 1 8)) ∧ Below w.heap.size w w' := by
  by_cases t1 : c0 < 1 <;> by_cases t2 : 8 < c0 <;> by_cases t3 : c1 < 1 <;> by_cases t4 : 8 < c1
  all_goals try omega
  all_goals
    go_enter Tryz.func62, Tryz.ntmps62
    go_wp2
    all_goals go_ret
    all_goals exact ⟨ret_bool (by rw [Bool.eq_iff_iff]; simp only [eachB, decide_eq_true_eq, Bool.false_eq_true, false_iff, true_iff]; omega), by repeat (first | exact Below.refl _ _ | assumption | (refine Below.drew ?_) | (refine below_drewN ?_ _) | (refine Below.alloc ?_ (by first | (simp; done) | (simp; omega) | omega) _) | (refine Below.setCell ?_ (by first | (simp; done) | (simp; omega) | omega) _) | (refine Below.trans ?_ (Below.mono (by assumption) (by first | (simp; done) | (simp; omega) | omega))))⟩
theorem rdown_any (n d : Int) (w : World) (h1 : 1 ≤ d) (h2 : d ≤ 8) (h5 : -1000 ≤ n) (h6 : n ≤ 1000) :
    Calls Tryz.prog 110 #[.int .i64 (n), .int .i64 (d)] w fun e w' => e = .returned (.int .i64 (n / d)) ∧ w' = w := by
  obtain ⟨⟨b1, b2⟩, b3, b4⟩ := tdiv_bd n d h1 h2 h5 h6
  have e1 : wrap64 (n.tdiv d) = n.tdiv d := IntWalk.wrap64_in _ ⟨by omega, by omega⟩
  have e2 : wrap64 (n.tdiv d * d) = n.tdiv d * d := IntWalk.wrap64_in _ ⟨by omega, by omega⟩
  have e3 : wrap64 (n.tdiv d - 1) = n.tdiv d - 1 := IntWalk.wrap64_in _ ⟨by omega, by omega⟩
  have e4 : d ≠ 0 := by omega
  by_cases t : n < n.tdiv d * d
  · go_enter Tryz.func110, Tryz.ntmps110
    go_wp2
    go_ret
    exact ⟨ret_int (down_law n d h1 t), rfl⟩
  · go_enter Tryz.func110, Tryz.ntmps110
    go_wp2
    go_ret
    exact ⟨ret_int (down_ge n d h1 (by omega)), rfl⟩
theorem rmul_law (c f : Int) (h1 : 1 ≤ f) (h2 : f ≤ 8) (h5 : -1000 ≤ c) (h6 : c ≤ 1000) : wrap64 (c - wrap64 (f * (c / f))) = c % f := by
  have a := Int.emod_nonneg c (show f ≠ 0 by omega)
  have b := Int.emod_lt_of_pos c (show 0 < f by omega)
  have e := Int.mul_ediv_add_emod c f
  rw [IntWalk.wrap64_in (f * (c / f)) ⟨by omega, by omega⟩, IntWalk.wrap64_in _ ⟨by omega, by omega⟩]
  omega
set_option maxRecDepth 100000 in
theorem rhome_any (c0 c1 f0 f1 : Int) (w : World) (h1 : 1 ≤ f0) (h2 : f0 ≤ 8) (h3 : 1 ≤ f1) (h4 : f1 ≤ 8) (h5 : -1000 ≤ c0) (h6 : c0 ≤ 1000) (h7 : -1000 ≤ c1) (h8 : c1 ≤ 1000) :
    Calls Tryz.prog 54 #[.agg #[.int .i64 (c0), .int .i64 (c1)], .agg #[.int .i64 (f0), .int .i64 (f1)]] w fun e w' => e = .returned (.agg #[.int .i64 (c0 % f0), .int .i64 (c1 % f1)]) ∧ Below w.heap.size w w' := by
  go_enter Tryz.func54, Tryz.ntmps54
  go_wp2
  (refine stilld 23 (by kernel_rfl) (by kernel_rfl) ?_; simp only [List.take_succ_cons, List.take_zero, List.drop_succ_cons, List.drop_zero]; repeat (first | still_step | (refine wpStill_step (fun K hK => ?_); go_simp; refine ⟨_, (by first | exact rdown_any _ _ _ h1 h2 h5 h6 | exact rdown_any _ _ _ h3 h4 h7 h8), hK _ ?_⟩; clear hK K)); (try refine wpStill_nil ?_))
  go_wp2
  (refine bodyPost_ret (v := ?v) ?h rfl ⟨?e, ?b⟩; (case h => (simp only [results, Tryz.results54]; first | (go_simp; done) | (go_simp; rfl))); (case e => (rw [rmul_law c0 f0 h1 h2 h5 h6, rmul_law c1 f1 h3 h4 h7 h8])); (case b => exact (by repeat (first | exact Below.refl _ _ | assumption | (refine Below.drew ?_) | (refine below_drewN ?_ _) | (refine Below.alloc ?_ (by first | (simp; done) | (simp; omega) | omega) _) | (refine Below.setCell ?_ (by first | (simp; done) | (simp; omega) | omega) _) | (refine Below.trans ?_ (Below.mono (by assumption) (by first | (simp; done) | (simp; omega) | omega)))))))
set_option maxRecDepth 100000 in
theorem rblock_any (c0 c1 f0 f1 : Int) (w : World) (h1 : 1 ≤ f0) (h2 : f0 ≤ 8) (h3 : 1 ≤ f1) (h4 : f1 ≤ 8) (h5 : -1000 ≤ c0) (h6 : c0 ≤ 1000) (h7 : -1000 ≤ c1) (h8 : c1 ≤ 1000) :
    Calls Tryz.prog 102 #[.agg #[.int .i64 (c0), .int .i64 (c1)], .agg #[.int .i64 (f0), .int .i64 (f1)]] w fun e w' => e = .returned (.agg #[.int .i64 (c0 / f0), .int .i64 (c1 / f1)]) ∧ Below w.heap.size w w' := by
  go_enter Tryz.func102, Tryz.ntmps102
  go_wp2
  (refine stilld 11 (by kernel_rfl) (by kernel_rfl) ?_; simp only [List.take_succ_cons, List.take_zero, List.drop_succ_cons, List.drop_zero]; repeat (first | still_step | (refine wpStill_step (fun K hK => ?_); go_simp; refine ⟨_, (by first | exact rdown_any _ _ _ h1 h2 h5 h6 | exact rdown_any _ _ _ h3 h4 h7 h8), hK _ ?_⟩; clear hK K)); (try refine wpStill_nil ?_))
  go_wp2
  (refine bodyPost_ret (v := ?v) ?h rfl ⟨?e, ?b⟩; (case h => (simp only [results, Tryz.results102]; first | (go_simp; done) | (go_simp; rfl))); (case e => (rfl)); (case b => exact (by repeat (first | exact Below.refl _ _ | assumption | (refine Below.drew ?_) | (refine below_drewN ?_ _) | (refine Below.alloc ?_ (by first | (simp; done) | (simp; omega) | omega) _) | (refine Below.setCell ?_ (by first | (simp; done) | (simp; omega) | omega) _) | (refine Below.trans ?_ (Below.mono (by assumption) (by first | (simp; done) | (simp; omega) | omega)))))))
end Go.Proofs.YtnejicklenhpeaaGreat
