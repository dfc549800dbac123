/- The walks of package fold's small functions and of its reference's: what each returns, for cells and sizes in range. -/
import Derived.Test.YtnejicklenhpeaaGreatKitA
namespace Go.Proofs.YtnejicklenhpeaaGreat
open Go.RowKit
def eachB (c0 c1 lo hi : Int) : Bool := decide (lo ≤ c0 ∧ lo ≤ c1 ∧ c0 ≤ hi ∧ c1 ≤ hi)
def askedB (c0 c1 f0 f1 : Int) : Bool := eachB f0 f1 1 8 && eachB c0 c1 (-1000) 1000
theorem askedB_out {c0 c1 f0 f1 : Int} (h : askedB c0 c1 f0 f1 = true) : (1 ≤ f0 ∧ f0 ≤ 8 ∧ 1 ≤ f1 ∧ f1 ≤ 8) ∧ (-1000 ≤ c0 ∧ c0 ≤ 1000 ∧ -1000 ≤ c1 ∧ c1 ≤ 1000) := by
  simp only [askedB, eachB, Bool.and_eq_true, decide_eq_true_eq] at h; omega
theorem mod_law (c f : Int) (h1 : 1 ≤ f) (h2 : f ≤ 8) : (wrap64 (c.tmod f + f)).tmod f = c % f := by
  have a := Int.lt_tmod_of_pos c (show 0 < f by omega)
  have b := Int.tmod_lt_of_pos c (show 0 < f by omega)
  rw [IntWalk.wrap64_in _ ⟨by omega, by omega⟩, Int.tmod_eq_emod_of_nonneg (by omega), Int.add_emod_right]
  have := Int.tmod_add_mul_tdiv c f
  rw [show c.tmod f = c + f * (-(c.tdiv f)) by rw [Int.mul_neg]; omega, Int.add_mul_emod_self_left]
theorem div_bd (c f : Int) (h1 : 1 ≤ f) (h2 : f ≤ 8) (h5 : -1000 ≤ c) (h6 : c ≤ 1000) : -1000 ≤ c / f ∧ c / f ≤ 1000 := by
  obtain rfl | rfl | rfl | rfl | rfl | rfl | rfl | rfl : f = 1 ∨ f = 2 ∨ f = 3 ∨ f = 4 ∨ f = 5 ∨ f = 6 ∨ f = 7 ∨ f = 8 := by omega
  all_goals omega
theorem div_law (c f : Int) (h1 : 1 ≤ f) (h2 : f ≤ 8) (h5 : -1000 ≤ c) (h6 : c ≤ 1000) : wrap64 ((wrap64 (c - (wrap64 (c.tmod f + f)).tmod f)).tdiv f) = c / f := by
  rw [mod_law c f h1 h2]
  have a := Int.emod_nonneg c (show f ≠ 0 by omega)
  have b := Int.emod_lt_of_pos c (show 0 < f by omega)
  have e := Int.mul_ediv_add_emod c f
  have bd := div_bd c f h1 h2 h5 h6
  rw [IntWalk.wrap64_in (c - c % f) ⟨by omega, by omega⟩, show c - c % f = f * (c / f) by omega, Int.mul_tdiv_cancel_left _ (by omega), IntWalk.wrap64_in _ ⟨by omega, by omega⟩]
theorem down_law (n d : Int) (hd : 1 ≤ d) (h : n < n.tdiv d * d) : n.tdiv d - 1 = n / d := by
  by_cases h0 : 0 ≤ n
  · rw [Int.tdiv_eq_ediv_of_nonneg h0] at h
    have := Int.ediv_mul_le n (show d ≠ 0 by omega); omega
  · have e : n.tdiv d = -((-n) / d) := by rw [← Int.tdiv_eq_ediv_of_nonneg (by omega)]; simp [Int.neg_tdiv]
    rw [e] at h ⊢
    have h1 := Int.emod_add_mul_ediv (-n) d
    have h2 := Int.emod_nonneg (-n) (show d ≠ 0 by omega)
    have h3 := Int.emod_lt_of_pos (-n) (show 0 < d by omega)
    have h4 : -(-n / d) * d = - (d * (-n / d)) := by rw [Int.neg_mul, Int.mul_comm]
    rw [h4] at h
    symm
    rw [Int.ediv_eq_iff_of_pos (by omega)]
    have h5 : (-(-n / d) - 1) * d = - (d * (-n / d)) - d := by rw [Int.sub_mul, h4]; omega
    have h6 : (-(-n / d) - 1 + 1) * d = - (d * (-n / d)) := by rw [Int.sub_add_cancel, h4]
    omega

theorem tdiv_bd (c f : Int) (h1 : 1 ≤ f) (h2 : f ≤ 8) (h5 : -1000 ≤ c) (h6 : c ≤ 1000) : (-1000 ≤ c.tdiv f ∧ c.tdiv f ≤ 1000) ∧ -8000 ≤ c.tdiv f * f ∧ c.tdiv f * f ≤ 8000 := by
  by_cases h0 : 0 ≤ c
  · rw [Int.tdiv_eq_ediv_of_nonneg h0]
    obtain rfl | rfl | rfl | rfl | rfl | rfl | rfl | rfl : f = 1 ∨ f = 2 ∨ f = 3 ∨ f = 4 ∨ f = 5 ∨ f = 6 ∨ f = 7 ∨ f = 8 := by omega
    all_goals omega
  · have e : c.tdiv f = -((-c) / f) := by rw [← Int.tdiv_eq_ediv_of_nonneg (by omega)]; simp [Int.neg_tdiv]
    rw [e]
    obtain rfl | rfl | rfl | rfl | rfl | rfl | rfl | rfl : f = 1 ∨ f = 2 ∨ f = 3 ∨ f = 4 ∨ f = 5 ∨ f = 6 ∨ f = 7 ∨ f = 8 := by omega
    all_goals omega
theorem down_ge (n d : Int) (hd : 1 ≤ d) (h : n.tdiv d * d ≤ n) : n.tdiv d = n / d := by
  by_cases h0 : 0 ≤ n
  · rw [Int.tdiv_eq_ediv_of_nonneg h0]
  · have e : n.tdiv d = -((-n) / d) := by rw [← Int.tdiv_eq_ediv_of_nonneg (by omega)]; simp [Int.neg_tdiv]
    rw [e] at h ⊢
    have h1 := Int.emod_add_mul_ediv (-n) d
    have h2 := Int.emod_nonneg (-n) (show d ≠ 0 by omega)
    have h4 : -(-n / d) * d = - (d * (-n / d)) := by rw [Int.neg_mul, Int.mul_comm]
    rw [h4] at h
    symm
    rw [Int.ediv_eq_iff_of_pos (by omega)]
    have h6 : (-(-n / d) + 1) * d = - (d * (-n / d)) + d := by rw [Int.add_mul, h4]; omega
    omega
theorem each_any (c0 c1 lo hi : Int) (w : World) :
    Calls Tryz.prog 131 #[.agg #[.int .i64 (c0), .int .i64 (c1)], .int .i64 (lo), .int .i64 (hi)] w fun e w' => e = .returned (.bool (eachB c0 c1 lo hi)) ∧ Below w.heap.size w w' := by
  go_enter Tryz.func131, Tryz.ntmps131
  go_wp2
  all_goals go_ret
  all_goals exact ⟨ret_bool (by rw [Bool.eq_iff_iff]; simp only [eachB, decide_eq_true_eq, Bool.false_eq_true, false_iff]; try omega), by repeat (first | exact Below.refl _ _ | assumption | (refine Below.drew ?_) | (refine below_drewN ?_ _) | (refine Below.alloc ?_ (by first | (simp; done) | (simp; omega) | omega) _) | (refine Below.setCell ?_ (by first | (simp; done) | (simp; omega) | omega) _) | (refine Below.trans ?_ (Below.mono (by assumption) (by first | (simp; done) | (simp; omega) | omega))))⟩
theorem size_any (c0 c1 : Int) (w : World) :
    Calls Tryz.prog 97 #[.agg #[.int .i64 (c0), .int .i64 (c1)]] w fun e w' => e = .returned (.bool (eachB c0 c1 1 8)) ∧ Below w.heap.size w w' := by
  go_enter Tryz.func97, Tryz.ntmps97
  go_wp2_with (go_at_call 131; refine (each_any _ _ _ _ _).mono ?_; go_must ((first | (have h0 := hb1; clear h0; rintro e w2 ⟨rfl, hb2⟩; obtain ⟨hc2, hf2⟩ := bcell hb2; have hz2 := hb2.size; (try simp at hz2); (first | have z := z10 hz2 | have z := z9 hz2 | have z := z8 hz2 | have z := z7 hz2 | have z := z6 hz2 | have z := z5 hz2 | have z := z4 hz2 | have z := z3 hz2 | have z := z2 hz2 | have z := z1 hz2 | skip); have hq := Nat.le_trans hz1 (show w1.heap.size ≤ w2.heap.size by omega); (first | have z := z10 hq | have z := z9 hq | have z := z8 hq | have z := z7 hq | have z := z6 hq | have z := z5 hq | have z := z4 hq | have z := z3 hq | have z := z2 hq | have z := z1 hq | skip)) | (rintro e w1 ⟨rfl, hb1⟩; obtain ⟨hc1, hf1⟩ := bcell hb1; have hz1 := hb1.size; (try simp at hz1); (first | have z := z10 hz1 | have z := z9 hz1 | have z := z8 hz1 | have z := z7 hz1 | have z := z6 hz1 | have z := z5 hz1 | have z := z4 hz1 | have z := z3 hz1 | have z := z2 hz1 | have z := z1 hz1 | skip)))))
  go_ret
  exact ⟨rfl, by repeat (first | exact Below.refl _ _ | assumption | (refine Below.drew ?_) | (refine below_drewN ?_ _) | (refine Below.alloc ?_ (by first | (simp; done) | (simp; omega) | omega) _) | (refine Below.setCell ?_ (by first | (simp; done) | (simp; omega) | omega) _) | (refine Below.trans ?_ (Below.mono (by assumption) (by first | (simp; done) | (simp; omega) | omega))))⟩
theorem asked_any (c0 c1 f0 f1 : Int) (w : World) :
    Calls Tryz.prog 78 #[.agg #[.int .i64 (c0), .int .i64 (c1)], .agg #[.int .i64 (f0), .int .i64 (f1)]] w fun e w' => e = .returned (.bool (askedB c0 c1 f0 f1)) ∧ Below w.heap.size w w' := by
  cases hs : eachB f0 f1 1 8
  all_goals
    go_enter Tryz.func78, Tryz.ntmps78
    go_wp2_with (first | (go_at_call 131; refine (each_any _ _ _ _ _).mono ?_; go_must ((first | (have h0 := hb1; clear h0; rintro e w2 ⟨rfl, hb2⟩; obtain ⟨hc2, hf2⟩ := bcell hb2; have hz2 := hb2.size; (try simp at hz2); (first | have z := z10 hz2 | have z := z9 hz2 | have z := z8 hz2 | have z := z7 hz2 | have z := z6 hz2 | have z := z5 hz2 | have z := z4 hz2 | have z := z3 hz2 | have z := z2 hz2 | have z := z1 hz2 | skip); have hq := Nat.le_trans hz1 (show w1.heap.size ≤ w2.heap.size by omega); (first | have z := z10 hq | have z := z9 hq | have z := z8 hq | have z := z7 hq | have z := z6 hq | have z := z5 hq | have z := z4 hq | have z := z3 hq | have z := z2 hq | have z := z1 hq | skip)) | (rintro e w1 ⟨rfl, hb1⟩; obtain ⟨hc1, hf1⟩ := bcell hb1; have hz1 := hb1.size; (try simp at hz1); (first | have z := z10 hz1 | have z := z9 hz1 | have z := z8 hz1 | have z := z7 hz1 | have z := z6 hz1 | have z := z5 hz1 | have z := z4 hz1 | have z := z3 hz1 | have z := z2 hz1 | have z := z1 hz1 | skip))))) | (go_at_call 97; refine (size_any _ _ _).mono ?_; go_must ((first | (have h0 := hb1; clear h0; rintro e w2 ⟨rfl, hb2⟩; obtain ⟨hc2, hf2⟩ := bcell hb2; have hz2 := hb2.size; (try simp at hz2); (first | have z := z10 hz2 | have z := z9 hz2 | have z := z8 hz2 | have z := z7 hz2 | have z := z6 hz2 | have z := z5 hz2 | have z := z4 hz2 | have z := z3 hz2 | have z := z2 hz2 | have z := z1 hz2 | skip); have hq := Nat.le_trans hz1 (show w1.heap.size ≤ w2.heap.size by omega); (first | have z := z10 hq | have z := z9 hq | have z := z8 hq | have z := z7 hq | have z := z6 hq | have z := z5 hq | have z := z4 hq | have z := z3 hq | have z := z2 hq | have z := z1 hq | skip)) | (rintro e w1 ⟨rfl, hb1⟩; obtain ⟨hc1, hf1⟩ := bcell hb1; have hz1 := hb1.size; (try simp at hz1); (first | have z := z10 hz1 | have z := z9 hz1 | have z := z8 hz1 | have z := z7 hz1 | have z := z6 hz1 | have z := z5 hz1 | have z := z4 hz1 | have z := z3 hz1 | have z := z2 hz1 | have z := z1 hz1 | skip))))))
    go_ret
    exact ⟨by simp [askedB, hs], by repeat (first | exact Below.refl _ _ | assumption | (refine Below.drew ?_) | (refine below_drewN ?_ _) | (refine Below.alloc ?_ (by first | (simp; done) | (simp; omega) | omega) _) | (refine Below.setCell ?_ (by first | (simp; done) | (simp; omega) | omega) _) | (refine Below.trans ?_ (Below.mono (by assumption) (by first | (simp; done) | (simp; omega) | omega))))⟩
theorem ix2_0 (a b : Value) (w : World) : (Instr.index 31 (.agg #[a, b]) (.int .i64 0)).run Tryz.prog w = .ok a w := by kernel_rfl
theorem ix2_1 (a b : Value) (w : World) : (Instr.index 31 (.agg #[a, b]) (.int .i64 1)).run Tryz.prog w = .ok b w := by kernel_rfl
set_option maxHeartbeats 1000000 in
theorem split_any (c0 c1 f0 f1 : Int) (w : World) (h1 : 1 ≤ f0) (h2 : f0 ≤ 8) (h3 : 1 ≤ f1) (h4 : f1 ≤ 8) (h5 : -1000 ≤ c0) (h6 : c0 ≤ 1000) (h7 : -1000 ≤ c1) (h8 : c1 ≤ 1000) :
    Calls Tryz.prog 51 #[.agg #[.int .i64 (c0), .int .i64 (c1)], .agg #[.int .i64 (f0), .int .i64 (f1)]] w fun e w' => e = .returned (.tuple #[.agg #[.int .i64 (c0 / f0), .int .i64 (c1 / f1)], .agg #[.int .i64 (c0 % f0), .int .i64 (c1 % f1)]]) ∧ Below w.heap.size w w' := by
  have i0 := ix2_0
  have i1 := ix2_1
  go_enter Tryz.func51, Tryz.ntmps51
  go_wp2
  refine wp_loop_rounds 3 ?_
  rw [rounds_succ]
  go_wp2
  go_region
  go_wp2
  go_region
  go_wp2
  rw [rounds_succ]
  go_wp2
  go_region
  go_wp2
  go_region
  go_wp2
  rw [rounds_succ]
  go_wp2
  go_region
  go_wp2
  (refine bodyPost_ret (v := ?v) ?h rfl ⟨?e, ?b⟩; (case h => (simp only [results, Tryz.results51]; first | (go_simp; done) | (go_simp; rfl))); (case e => (rw [div_law c0 f0 h1 h2 h5 h6, div_law c1 f1 h3 h4 h7 h8, mod_law c0 f0 h1 h2, mod_law c1 f1 h3 h4])); (case b => exact (by repeat (first | exact Below.refl _ _ | assumption | (refine Below.drew ?_) | (refine below_drewN ?_ _) | (refine Below.alloc ?_ (by first | (simp; done) | (simp; omega) | omega) _) | (refine Below.setCell ?_ (by first | (simp; done) | (simp; omega) | omega) _) | (refine Below.trans ?_ (Below.mono (by assumption) (by first | (simp; done) | (simp; omega) | omega)))))))
theorem Home_no (c0 c1 f0 f1 : Int) (w : World) (h : askedB c0 c1 f0 f1 = false) :
    Calls Tryz.prog 29 #[.agg #[.int .i64 (c0), .int .i64 (c1)], .agg #[.int .i64 (f0), .int .i64 (f1)]] w fun e w' => e = .returned (.tuple #[.agg #[.int .i64 (0), .int .i64 (0)], .int .i64 2]) ∧ Below w.heap.size w w' := by
  go_enter Tryz.func29, Tryz.ntmps29
  go_wp2_with (first | (go_at_call 78; refine (asked_any _ _ _ _ _).mono ?_; go_must ((first | (have h0 := hb1; clear h0; rintro e w2 ⟨rfl, hb2⟩; obtain ⟨hc2, hf2⟩ := bcell hb2; have hz2 := hb2.size; (try simp at hz2); (first | have z := z10 hz2 | have z := z9 hz2 | have z := z8 hz2 | have z := z7 hz2 | have z := z6 hz2 | have z := z5 hz2 | have z := z4 hz2 | have z := z3 hz2 | have z := z2 hz2 | have z := z1 hz2 | skip); have hq := Nat.le_trans hz1 (show w1.heap.size ≤ w2.heap.size by omega); (first | have z := z10 hq | have z := z9 hq | have z := z8 hq | have z := z7 hq | have z := z6 hq | have z := z5 hq | have z := z4 hq | have z := z3 hq | have z := z2 hq | have z := z1 hq | skip)) | (rintro e w1 ⟨rfl, hb1⟩; obtain ⟨hc1, hf1⟩ := bcell hb1; have hz1 := hb1.size; (try simp at hz1); (first | have z := z10 hz1 | have z := z9 hz1 | have z := z8 hz1 | have z := z7 hz1 | have z := z6 hz1 | have z := z5 hz1 | have z := z4 hz1 | have z := z3 hz1 | have z := z2 hz1 | have z := z1 hz1 | skip))))))
  (refine bodyPost_ret (v := ?v) ?h rfl ⟨?e, ?b⟩; (case h => (simp only [results, Tryz.results29]; first | (go_simp; done) | (go_simp; rfl))); (case e => (rfl)); (case b => exact (by repeat (first | exact Below.refl _ _ | assumption | (refine Below.drew ?_) | (refine below_drewN ?_ _) | (refine Below.alloc ?_ (by first | (simp; done) | (simp; omega) | omega) _) | (refine Below.setCell ?_ (by first | (simp; done) | (simp; omega) | omega) _) | (refine Below.trans ?_ (Below.mono (by assumption) (by first | (simp; done) | (simp; omega) | omega)))))))
end Go.Proofs.YtnejicklenhpeaaGreat
