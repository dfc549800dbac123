/- The law SpaceFills: its walk. -/
import Derived.Test.YtndfdgdahinkpaaGreatFillA
import Derived.Test.YtndfdgdahinkpaaGreatCelN
namespace Go.Proofs.YtndfdgdahinkpaaGreat
open Go.RowKit Go.WideMaps
set_option linter.unusedVariables false
theorem safe_out {r : RecD} {s : SchedD} {u : P3} (h : safeB r s u = true) : clashL r s u = none := by
  simp only [safeB, Bool.and_eq_true, decide_eq_true_eq, Option.isNone_iff_eq_none] at h
  exact h.2
theorem safe_good {r : RecD} {s : SchedD} {u : P3} (hn : 0 < (ptsL r.n r.l).length) : goodB r s u = safeB r s u := by
  unfold goodB safeB; rw [decide_eq_true hn, Bool.true_and]
theorem fill_use {r : RecD} {s : SchedD} {u : P3} (ha : askS r s u = 0) (hl : latErr r s = 0) : ∃ q1 q2 : Nat, useV r s u = .tuple #[.agg #[.int .i64 (q1 : Int), .int .i64 (q2 : Int)], .int .i64 0] ∧ 1 ≤ q1 ∧ 1 ≤ q2 ∧ q1 ≤ 1000000000 ∧ q2 ≤ 1000000000 ∧ (safeB r s u = true → q1 ≤ q2) := by
  have hn : 0 < useN r := lat_ne hl
  have hc := cellsL_pos (u := u) (lat_ne hl)
  have hc2 := cellsL_len r u
  have hnp : (ptsL r.n r.l).length ≤ 1000 := (validR_out (askS_ok ha).1).2.1
  obtain ⟨la, h1, h2, h3⟩ := latI_bd hl
  have hd : 0 < useD r s u := by unfold useD; rw [h1]; exact Nat.mul_pos hc h2
  have hdm : useD r s u ≤ 1000 * 2081 := by unfold useD; rw [h1]; exact Nat.mul_le_mul (by omega) h3
  have hnm : useN r ≤ 1000 := hnp
  have hg : 0 < Nat.gcd (useN r) (useD r s u) := Nat.gcd_pos_of_pos_left _ hn
  refine ⟨_, _, useV_ok (show useErr r s u = 0 by unfold useErr; rw [if_pos ha, hl]), ?_, ?_, ?_, ?_, fun h => Nat.div_le_div_right (fill_le hl (safe_out h))⟩
  · exact Nat.div_pos (Nat.le_of_dvd hn (Nat.gcd_dvd_left _ _)) hg
  · exact Nat.div_pos (Nat.le_of_dvd hd (Nat.gcd_dvd_right _ _)) hg
  · have := Nat.div_le_self (useN r) (Nat.gcd (useN r) (useD r s u)); omega
  · have := Nat.div_le_self (useD r s u) (Nat.gcd (useN r) (useD r s u)); omega
theorem askS_askD' {r : RecD} {s : SchedD} {u : P3} (h : askS r s u = 0) : askD r s = 0 := askD_ok (askS_ok h).2.1
theorem fill_best {r : RecD} {s : SchedD} {u : P3} (ha : askS r s u = 0) (hl : latErr r s = 0) :
    (bestV r s = .tuple #[.agg #[.int .i64 0, .int .i64 0, .int .i64 0], .int .i64 5] ∧ (safeB r s u && smallB u) = false) ∨
    ∃ b : P3, bestV r s = .tuple #[.agg #[.int .i64 b.1, .int .i64 b.2.1, .int .i64 b.2.2], .int .i64 0] ∧ safeB r s b = true ∧ askS r s b = 0 ∧ ((safeB r s u && smallB u) = true → (cellsL r b).length ≤ (cellsL r u).length) := by
  have hd : askD r s = 0 := askS_askD' ha
  by_cases h : (bestTo r s 27).2 = 0
  · left
    have he : bestErr r s = 5 := by unfold bestErr; rw [if_pos hd, if_pos h]
    refine ⟨by unfold bestV; rw [he]; rfl, ?_⟩
    cases hx : (safeB r s u && smallB u)
    · rfl
    · rw [Bool.and_eq_true] at hx
      exact absurd h (best_least hx.2 ((safe_good (lat_ne hl)).trans hx.1)).1
  · right
    have he : bestErr r s = 0 := by unfold bestErr; rw [if_pos hd, if_neg h]
    obtain ⟨h1, h2⟩ := (best_law r s 27).2 h
    refine ⟨(bestTo r s 27).1, by unfold bestV; rw [he]; rfl, (safe_good (lat_ne hl)).symm.trans h1, ?_, fun hx => ?_⟩
    · unfold goodB at h1; simp at h1; exact h1.1
    · rw [Bool.and_eq_true] at hx
      exact (best_least hx.2 ((safe_good (lat_ne hl)).trans hx.1)).2
set_option maxHeartbeats 40000000 in
set_option maxRecDepth 100000 in
theorem SpaceFills_any (r : RecD) (s : SchedD) (u : P3) (w : World) (hr : RecRd w r) (hs : SchedRd w s) :
    Calls Tryz.prog 6 #[.agg #[.int .i64 r.n, r.lv, r.vv], .agg #[.int .i64 s.f.1, .int .i64 s.f.2.1, .int .i64 s.f.2.2, s.ov], .agg #[.int .i64 u.1, .int .i64 u.2.1, .int .i64 u.2.2]] w fun e w' => e = .returned (.bool true) ∧ Below w.heap.size w w' := by
  have HR := Lib.hid hr
  have HS := Lib.hid hs
  clear hr hs
  have HWD := Lib.hid (fun (W : World) (h : RecRd W r) (h2 : SchedRd W s) => Wide4_l r s W h h2)
  have HAS := Lib.hid (fun (W : World) (h : RecRd W r) (h2 : SchedRd W s) => AskedSched_l r s u W h h2)
  have HSF := Lib.hid (fun (W : World) (h : RecRd W r) (h2 : SchedRd W s) => Safe_l r s u W h h2)
  have HUS := Lib.hid (fun (W : World) (h : RecRd W r) (h2 : SchedRd W s) => Used_l r s u W h h2)
  obtain ⟨W0, hW0⟩ : ∃ W : World, ((w.alloc (Obj.cells #[.int .i64 r.n, r.lv, r.vv] 27)).alloc (Obj.cells #[.int .i64 s.f.1, .int .i64 s.f.2.1, .int .i64 s.f.2.2, s.ov] 32)).alloc (Obj.cells #[.int .i64 u.1, .int .i64 u.2.1, .int .i64 u.2.2] 29) = W := ⟨_, rfl⟩
  have kw0 : Below w.heap.size w W0 := by rw [← hW0]; exact (by repeat (first | exact Below.refl _ _ | assumption | (refine Below.drew ?_) | (refine below_drewN ?_ _) | (refine Below.alloc ?_ (by first | (simp; done) | (simp; omega) | omega) _) | (refine Below.setCell ?_ (by first | (simp; done) | (simp; omega) | omega) _) | (refine Below.trans ?_ (Below.mono (by assumption) (by first | (simp; done) | (simp; omega) | omega)))))
  have ks0 : W0.heap.size = w.heap.size + 3 := by rw [← hW0]; simp
  have RD0 := Lib.hid (show ∀ V, Below W0.heap.size W0 V → V.cell? ⟨w.heap.size, 0, none⟩ = some (.int .i64 r.n) ∧ V.cell? ⟨w.heap.size, 1, none⟩ = some (r.lv) ∧ V.cell? ⟨w.heap.size, 2, none⟩ = some (r.vv) ∧ V.cell? ⟨w.heap.size + 1, 0, none⟩ = some (.int .i64 s.f.1) ∧ V.cell? ⟨w.heap.size + 1, 1, none⟩ = some (.int .i64 s.f.2.1) ∧ V.cell? ⟨w.heap.size + 1, 2, none⟩ = some (.int .i64 s.f.2.2) ∧ V.cell? ⟨w.heap.size + 1, 3, none⟩ = some (s.ov) ∧ V.cell? ⟨w.heap.size + 1 + 1, 0, none⟩ = some (.int .i64 u.1) ∧ V.cell? ⟨w.heap.size + 1 + 1, 1, none⟩ = some (.int .i64 u.2.1) ∧ V.cell? ⟨w.heap.size + 1 + 1, 2, none⟩ = some (.int .i64 u.2.2) from fun V h => by
      refine ⟨(h.cell (p := ⟨w.heap.size, 0, none⟩) (by simp; omega)).trans ?_, (h.cell (p := ⟨w.heap.size, 1, none⟩) (by simp; omega)).trans ?_, (h.cell (p := ⟨w.heap.size, 2, none⟩) (by simp; omega)).trans ?_, (h.cell (p := ⟨w.heap.size + 1, 0, none⟩) (by simp; omega)).trans ?_, (h.cell (p := ⟨w.heap.size + 1, 1, none⟩) (by simp; omega)).trans ?_, (h.cell (p := ⟨w.heap.size + 1, 2, none⟩) (by simp; omega)).trans ?_, (h.cell (p := ⟨w.heap.size + 1, 3, none⟩) (by simp; omega)).trans ?_, (h.cell (p := ⟨w.heap.size + 1 + 1, 0, none⟩) (by simp; omega)).trans ?_, (h.cell (p := ⟨w.heap.size + 1 + 1, 1, none⟩) (by simp; omega)).trans ?_, (h.cell (p := ⟨w.heap.size + 1 + 1, 2, none⟩) (by simp; omega)).trans ?_⟩ <;> (subst hW0; go_simp))
  have HW0 := Lib.hid hW0; have KW0 := Lib.hid kw0; clear hW0 kw0
  cases hwd : wide4B r s
  rotate_left
  · have HV := Lib.hid hwd; clear hwd
    go_enter Tryz.func6, Tryz.ntmps6
    go_wp2_with (first | (go_at_call 7; rw [HW0.out]; refine (HWD.out _ (HR.out.below KW0.out) (HS.out.below KW0.out)).mono ?_; go_must (rintro e w1 ⟨rfl, hb1⟩; have K0 := hb1; have HB1 := Lib.hid hb1; clear hb1; obtain ⟨k0_0, k0_1, k0_2, k0_3, k0_4, k0_5, k0_6, k0_7, k0_8, k0_9⟩ := RD0.out _ K0; rw [HV.out])) | (go_at_call 8; refine (sane04 _).mono ?_; go_must (rintro e w2 ⟨rfl, hb2⟩; have K' := (by first | exact below_at K0 (by have := K0.size; omega) hb2 | exact below_at K0 (by have := K0.size; omega) (by repeat (first | exact Below.refl _ _ | assumption | (refine Below.drew ?_) | (refine below_drewN ?_ _) | (refine Below.alloc ?_ (by first | (simp; done) | (simp; omega) | omega) _) | (refine Below.setCell ?_ (by first | (simp; done) | (simp; omega) | omega) _) | (refine Below.trans ?_ (Below.mono (by assumption) (by first | (simp; done) | (simp; omega) | omega))))) : Below W0.heap.size W0 w2); have HB2 := Lib.hid hb2; clear K0 hb2; (try clear k0_0); (try clear k0_1); (try clear k0_2); (try clear k0_3); (try clear k0_4); (try clear k0_5); (try clear k0_6); (try clear k0_7); (try clear k0_8); (try clear k0_9); have K0 := K'; clear K'; obtain ⟨k0_0, k0_1, k0_2, k0_3, k0_4, k0_5, k0_6, k0_7, k0_8, k0_9⟩ := RD0.out _ K0)))
    go_ret
    exact ⟨rfl, (KW0.out.trans (K0.mono (by omega)))⟩
  have HV := Lib.hid hwd; clear hwd
  by_cases ha : askS r s u = 0
  rotate_left
  · have hnz : (askS r s u != 0) = true := by simpa using ha
    clear ha
    generalize askS r s u = A at *
    go_enter Tryz.func6, Tryz.ntmps6
    go_wp2_with (first | (go_at_call 7; rw [HW0.out]; refine (HWD.out _ (HR.out.below KW0.out) (HS.out.below KW0.out)).mono ?_; go_must (rintro e w1 ⟨rfl, hb1⟩; have K0 := hb1; have HB1 := Lib.hid hb1; clear hb1; obtain ⟨k0_0, k0_1, k0_2, k0_3, k0_4, k0_5, k0_6, k0_7, k0_8, k0_9⟩ := RD0.out _ K0; rw [HV.out])) | (go_at_call 12; refine (HAS.out _ (HR.out.below (KW0.out.trans (K0.mono (by omega)))) (HS.out.below (KW0.out.trans (K0.mono (by omega))))).mono ?_; go_must (rintro e w2 ⟨rfl, hb2⟩; have K' := (by first | exact below_at K0 (by have := K0.size; omega) hb2 | exact below_at K0 (by have := K0.size; omega) (by repeat (first | exact Below.refl _ _ | assumption | (refine Below.drew ?_) | (refine below_drewN ?_ _) | (refine Below.alloc ?_ (by first | (simp; done) | (simp; omega) | omega) _) | (refine Below.setCell ?_ (by first | (simp; done) | (simp; omega) | omega) _) | (refine Below.trans ?_ (Below.mono (by assumption) (by first | (simp; done) | (simp; omega) | omega))))) : Below W0.heap.size W0 w2); have HB2 := Lib.hid hb2; clear K0 hb2; (try clear k0_0); (try clear k0_1); (try clear k0_2); (try clear k0_3); (try clear k0_4); (try clear k0_5); (try clear k0_6); (try clear k0_7); (try clear k0_8); (try clear k0_9); have K0 := K'; clear K'; obtain ⟨k0_0, k0_1, k0_2, k0_3, k0_4, k0_5, k0_6, k0_7, k0_8, k0_9⟩ := RD0.out _ K0; skip)) | (go_at_call 8; refine (sane04 _).mono ?_; go_must (rintro e w3 ⟨rfl, hb3⟩; have K' := (by first | exact below_at K0 (by have := K0.size; omega) hb3 | exact below_at K0 (by have := K0.size; omega) (by repeat (first | exact Below.refl _ _ | assumption | (refine Below.drew ?_) | (refine below_drewN ?_ _) | (refine Below.alloc ?_ (by first | (simp; done) | (simp; omega) | omega) _) | (refine Below.setCell ?_ (by first | (simp; done) | (simp; omega) | omega) _) | (refine Below.trans ?_ (Below.mono (by assumption) (by first | (simp; done) | (simp; omega) | omega))))) : Below W0.heap.size W0 w3); have HB3 := Lib.hid hb3; clear K0 hb3; (try clear k0_0); (try clear k0_1); (try clear k0_2); (try clear k0_3); (try clear k0_4); (try clear k0_5); (try clear k0_6); (try clear k0_7); (try clear k0_8); (try clear k0_9); have K0 := K'; clear K'; obtain ⟨k0_0, k0_1, k0_2, k0_3, k0_4, k0_5, k0_6, k0_7, k0_8, k0_9⟩ := RD0.out _ K0)))
    go_ret
    exact ⟨rfl, (KW0.out.trans (K0.mono (by omega)))⟩
  rw [ha] at HAS HSF
  have hao := askS_ok ha
  have hvo := validR_out hao.1
  have hdo := validD_out hvo.1
  rcases lat5 ha with h5 | h5
  rotate_left
  · have HAL := Lib.hid (fun (W : World) (hw : SlOf W W.heap.size 4 encI r.lv r.l) => rAll_l r.n r.l hdo.1 hdo.2.2 W r.lv hw)
    have hn : (ptsL r.n r.l).length = 0 := by
      unfold latErr at h5; rw [if_pos (askS_askD' ha)] at h5
      by_cases h : (ptsL r.n r.l).length = 0
      · exact h
      · rw [if_neg h] at h5; omega
    rw [useV_err (show useErr r s u = 5 by unfold useErr; rw [if_pos ha, h5]) (by omega)] at HUS
    clear ha h5 hao hvo hdo
    generalize safeB r s u = B at *
    generalize ptsL r.n r.l = L at *
    obtain rfl : L = [] := List.eq_nil_of_length_eq_zero hn
    clear hn
    go_enter Tryz.func6, Tryz.ntmps6
    go_upto_region 5 with (first | (go_at_call 7; rw [HW0.out]; refine (HWD.out _ (HR.out.below KW0.out) (HS.out.below KW0.out)).mono ?_; go_must (rintro e w1 ⟨rfl, hb1⟩; have K0 := hb1; have HB1 := Lib.hid hb1; clear hb1; obtain ⟨k0_0, k0_1, k0_2, k0_3, k0_4, k0_5, k0_6, k0_7, k0_8, k0_9⟩ := RD0.out _ K0; rw [HV.out])) | (go_at_call 12; refine (HAS.out _ (HR.out.below (KW0.out.trans (K0.mono (by omega)))) (HS.out.below (KW0.out.trans (K0.mono (by omega))))).mono ?_; go_must (rintro e w2 ⟨rfl, hb2⟩; have K' := (by first | exact below_at K0 (by have := K0.size; omega) hb2 | exact below_at K0 (by have := K0.size; omega) (by repeat (first | exact Below.refl _ _ | assumption | (refine Below.drew ?_) | (refine below_drewN ?_ _) | (refine Below.alloc ?_ (by first | (simp; done) | (simp; omega) | omega) _) | (refine Below.setCell ?_ (by first | (simp; done) | (simp; omega) | omega) _) | (refine Below.trans ?_ (Below.mono (by assumption) (by first | (simp; done) | (simp; omega) | omega))))) : Below W0.heap.size W0 w2); have HB2 := Lib.hid hb2; clear K0 hb2; (try clear k0_0); (try clear k0_1); (try clear k0_2); (try clear k0_3); (try clear k0_4); (try clear k0_5); (try clear k0_6); (try clear k0_7); (try clear k0_8); (try clear k0_9); have K0 := K'; clear K'; obtain ⟨k0_0, k0_1, k0_2, k0_3, k0_4, k0_5, k0_6, k0_7, k0_8, k0_9⟩ := RD0.out _ K0; skip)) | (go_at_call 23; refine (HSF.out _ (HR.out.below (KW0.out.trans (K0.mono (by omega)))) (HS.out.below (KW0.out.trans (K0.mono (by omega))))).mono ?_; go_must (rintro e w3 ⟨rfl, hb3⟩; have K' := (by first | exact below_at K0 (by have := K0.size; omega) hb3 | exact below_at K0 (by have := K0.size; omega) (by repeat (first | exact Below.refl _ _ | assumption | (refine Below.drew ?_) | (refine below_drewN ?_ _) | (refine Below.alloc ?_ (by first | (simp; done) | (simp; omega) | omega) _) | (refine Below.setCell ?_ (by first | (simp; done) | (simp; omega) | omega) _) | (refine Below.trans ?_ (Below.mono (by assumption) (by first | (simp; done) | (simp; omega) | omega))))) : Below W0.heap.size W0 w3); have HB3 := Lib.hid hb3; clear K0 hb3; (try clear k0_0); (try clear k0_1); (try clear k0_2); (try clear k0_3); (try clear k0_4); (try clear k0_5); (try clear k0_6); (try clear k0_7); (try clear k0_8); (try clear k0_9); have K0 := K'; clear K'; obtain ⟨k0_0, k0_1, k0_2, k0_3, k0_4, k0_5, k0_6, k0_7, k0_8, k0_9⟩ := RD0.out _ K0; skip)) | (go_at_call 19; refine (HUS.out _ (HR.out.below (KW0.out.trans (K0.mono (by omega)))) (HS.out.below (KW0.out.trans (K0.mono (by omega))))).mono ?_; go_must (rintro e w4 ⟨rfl, hb4⟩; have K' := (by first | exact below_at K0 (by have := K0.size; omega) hb4 | exact below_at K0 (by have := K0.size; omega) (by repeat (first | exact Below.refl _ _ | assumption | (refine Below.drew ?_) | (refine below_drewN ?_ _) | (refine Below.alloc ?_ (by first | (simp; done) | (simp; omega) | omega) _) | (refine Below.setCell ?_ (by first | (simp; done) | (simp; omega) | omega) _) | (refine Below.trans ?_ (Below.mono (by assumption) (by first | (simp; done) | (simp; omega) | omega))))) : Below W0.heap.size W0 w4); have HB4 := Lib.hid hb4; clear K0 hb4; (try clear k0_0); (try clear k0_1); (try clear k0_2); (try clear k0_3); (try clear k0_4); (try clear k0_5); (try clear k0_6); (try clear k0_7); (try clear k0_8); (try clear k0_9); have K0 := K'; clear K'; obtain ⟨k0_0, k0_1, k0_2, k0_3, k0_4, k0_5, k0_6, k0_7, k0_8, k0_9⟩ := RD0.out _ K0; skip)))
    have hs4 := K0.size
    have hq4 : w.heap.size + 1 + 1 + 1 ≤ w4.heap.size := (by omega)
    have zz := z3 hq4
    have HKA := Lib.hid (below_at KW0.out (by omega) (K0.alloc hs4 (Obj.cells #[.int .i64 0, .int .i64 0] 68)))
    go_wp2_with (first | (go_at_call 24; refine (HAL.out _ (HR.out.l.below HKA.out)).mono ?_; go_must (rintro e w5 ⟨⟨v5, rfl, hsl5⟩, hb5⟩; obtain ⟨pa, pc, hpe, -⟩ := hsl5.shape; subst hpe; clear hsl5)) | (go_at_call 8; refine (sane04 _).mono ?_; go_must (rintro e w9 ⟨rfl, hb9⟩)))
    go_ret
    exact ⟨rfl, below_at (below_at HKA.out HKA.out.size hb5) (by have := HKA.out.size; have := hb5.size; omega) hb9⟩
  have hae : askE r u = 0 := by unfold askE; rw [if_pos hao.1, if_pos hao.2.2.1]
  obtain ⟨la, hla, hl1, hl2⟩ := latI_bd h5
  obtain ⟨q1, q2, hus, hq1, hq2, hq1m, hq2m, hqs⟩ := fill_use ha h5
  have hbs : safeB r s u = true → (busyL r u : Int) ≤ (la : Int) := fun h => by rw [← hla]; exact busy_le h5 (safe_out h)
  have hfb := fill_best ha h5
  have HLV := Lib.hid (show latV r s = .tuple #[.int .i64 (la : Int), .int .i64 0] by unfold latV; rw [hla, h5])
  have HBU := Lib.hid (fun (W : World) (h : RecRd W r) => Busy_l r u W h)
  have HLA := Lib.hid (fun (W : World) (h : RecRd W r) (h2 : SchedRd W s) => rLatency_l r s W h h2)
  have HBE := Lib.hid (fun (W : World) (h : RecRd W r) (h2 : SchedRd W s) => Best_l r s W h h2)
  have HCU := Lib.hid (fun (W : World) (h : RecRd W r) => (Cells_l r u W h).mono (fun e w' h => (⟨by have := h.1; unfold CellsE at this; rw [if_pos hae, hae] at this; exact this, h.2⟩ : (∃ v, e = .returned (.tuple #[v, .int .i64 0]) ∧ SlOf w' w'.heap.size 2 encC v (cellsL r u)) ∧ Below W.heap.size W w')))
  have HSB := Lib.hid (fun (b : P3) (W : World) (h : RecRd W r) (h2 : SchedRd W s) => Safe_l r s b W h h2)
  have HCB := Lib.hid (fun (b : P3) (h0 : askS r s b = 0) (W : World) (h : RecRd W r) => (Cells_l r b W h).mono (fun e w' h => (⟨by
    have := h.1
    have hb0 : askE r b = 0 := by unfold askE; rw [if_pos hao.1, if_pos (askS_ok h0).2.2.1]
    unfold CellsE at this; rw [if_pos hb0, hb0] at this; exact this, h.2⟩ : (∃ v, e = .returned (.tuple #[v, .int .i64 0]) ∧ SlOf w' w'.heap.size 2 encC v (cellsL r b)) ∧ Below W.heap.size W w')))
  rw [hus] at HUS
  rw [busyV_ok hae] at HBU
  rw [HLV.out] at HLA
  clear hus ha h5 hao hvo hdo hla hl1 hl2 HLV
  generalize busyL r u = bu at *
  obtain ⟨b, e5, hbv, hbc⟩ : ∃ (b : P3) (e5 : Int), bestV r s = .tuple #[.agg #[.int .i64 b.1, .int .i64 b.2.1, .int .i64 b.2.2], .int .i64 e5] ∧ ((e5 = 5 ∧ (safeB r s u && smallB u) = false) ∨ (e5 = 0 ∧ safeB r s b = true ∧ askS r s b = 0 ∧ ((safeB r s u && smallB u) = true → (cellsL r b).length ≤ (cellsL r u).length))) := by
    rcases hfb with ⟨h1, h2⟩ | ⟨b, h1, h2, h3, h4⟩
    · exact ⟨(0, 0, 0), 5, h1, .inl ⟨rfl, h2⟩⟩
    · exact ⟨b, 0, h1, .inr ⟨rfl, h2, h3, h4⟩⟩
  rw [hbv] at HBE
  have HFB := Lib.hid hbc; clear hfb hbc hbv
  have HQS := Lib.hid hqs; have HBS := Lib.hid hbs; clear hqs hbs
  cases hsf : safeB r s u
  all_goals
    have HSU := Lib.hid hsf
    rw [hsf] at HSF
    have hcmp := Lib.hid (show (safeB r s u = true → q1 ≤ q2) ∧ (safeB r s u = true → (bu : Int) ≤ la) from ⟨HQS.out, HBS.out⟩)
    rw [hsf] at hcmp
    try (have hcm1 : q1 ≤ q2 := hcmp.out.1 rfl)
    try (have hcm2 : (bu : Int) ≤ (la : Int) := hcmp.out.2 rfl)
    clear hsf
    go_enter Tryz.func6, Tryz.ntmps6
    go_upto_region 5 with (first | (go_at_call 7; rw [HW0.out]; refine (HWD.out _ (HR.out.below KW0.out) (HS.out.below KW0.out)).mono ?_; go_must (rintro e w1 ⟨rfl, hb1⟩; have K0 := hb1; have HB1 := Lib.hid hb1; clear hb1; obtain ⟨k0_0, k0_1, k0_2, k0_3, k0_4, k0_5, k0_6, k0_7, k0_8, k0_9⟩ := RD0.out _ K0; rw [HV.out])) | (go_at_call 12; refine (HAS.out _ (HR.out.below (KW0.out.trans (K0.mono (by omega)))) (HS.out.below (KW0.out.trans (K0.mono (by omega))))).mono ?_; go_must (rintro e w2 ⟨rfl, hb2⟩; have K' := (by first | exact below_at K0 (by have := K0.size; omega) hb2 | exact below_at K0 (by have := K0.size; omega) (by repeat (first | exact Below.refl _ _ | assumption | (refine Below.drew ?_) | (refine below_drewN ?_ _) | (refine Below.alloc ?_ (by first | (simp; done) | (simp; omega) | omega) _) | (refine Below.setCell ?_ (by first | (simp; done) | (simp; omega) | omega) _) | (refine Below.trans ?_ (Below.mono (by assumption) (by first | (simp; done) | (simp; omega) | omega))))) : Below W0.heap.size W0 w2); have HB2 := Lib.hid hb2; clear K0 hb2; (try clear k0_0); (try clear k0_1); (try clear k0_2); (try clear k0_3); (try clear k0_4); (try clear k0_5); (try clear k0_6); (try clear k0_7); (try clear k0_8); (try clear k0_9); have K0 := K'; clear K'; obtain ⟨k0_0, k0_1, k0_2, k0_3, k0_4, k0_5, k0_6, k0_7, k0_8, k0_9⟩ := RD0.out _ K0; skip)) | (go_at_call 23; refine (HSF.out _ (HR.out.below (KW0.out.trans (K0.mono (by omega)))) (HS.out.below (KW0.out.trans (K0.mono (by omega))))).mono ?_; go_must (rintro e w3 ⟨rfl, hb3⟩; have K' := (by first | exact below_at K0 (by have := K0.size; omega) hb3 | exact below_at K0 (by have := K0.size; omega) (by repeat (first | exact Below.refl _ _ | assumption | (refine Below.drew ?_) | (refine below_drewN ?_ _) | (refine Below.alloc ?_ (by first | (simp; done) | (simp; omega) | omega) _) | (refine Below.setCell ?_ (by first | (simp; done) | (simp; omega) | omega) _) | (refine Below.trans ?_ (Below.mono (by assumption) (by first | (simp; done) | (simp; omega) | omega))))) : Below W0.heap.size W0 w3); have HB3 := Lib.hid hb3; clear K0 hb3; (try clear k0_0); (try clear k0_1); (try clear k0_2); (try clear k0_3); (try clear k0_4); (try clear k0_5); (try clear k0_6); (try clear k0_7); (try clear k0_8); (try clear k0_9); have K0 := K'; clear K'; obtain ⟨k0_0, k0_1, k0_2, k0_3, k0_4, k0_5, k0_6, k0_7, k0_8, k0_9⟩ := RD0.out _ K0; skip)) | (go_at_call 19; refine (HUS.out _ (HR.out.below (KW0.out.trans (K0.mono (by omega)))) (HS.out.below (KW0.out.trans (K0.mono (by omega))))).mono ?_; go_must (rintro e w4 ⟨rfl, hb4⟩; have K' := (by first | exact below_at K0 (by have := K0.size; omega) hb4 | exact below_at K0 (by have := K0.size; omega) (by repeat (first | exact Below.refl _ _ | assumption | (refine Below.drew ?_) | (refine below_drewN ?_ _) | (refine Below.alloc ?_ (by first | (simp; done) | (simp; omega) | omega) _) | (refine Below.setCell ?_ (by first | (simp; done) | (simp; omega) | omega) _) | (refine Below.trans ?_ (Below.mono (by assumption) (by first | (simp; done) | (simp; omega) | omega))))) : Below W0.heap.size W0 w4); have HB4 := Lib.hid hb4; clear K0 hb4; (try clear k0_0); (try clear k0_1); (try clear k0_2); (try clear k0_3); (try clear k0_4); (try clear k0_5); (try clear k0_6); (try clear k0_7); (try clear k0_8); (try clear k0_9); have K0 := K'; clear K'; obtain ⟨k0_0, k0_1, k0_2, k0_3, k0_4, k0_5, k0_6, k0_7, k0_8, k0_9⟩ := RD0.out _ K0; skip)))
    have hs4 := K0.size
    obtain ⟨W4, hW4⟩ : ∃ W : World, w4.alloc (Obj.cells #[.int .i64 (q1 : Int), .int .i64 (q2 : Int)] 68) = W := ⟨_, rfl⟩
    have kw4 : Below w4.heap.size w4 W4 := by rw [← hW4]; exact (by repeat (first | exact Below.refl _ _ | assumption | (refine Below.drew ?_) | (refine below_drewN ?_ _) | (refine Below.alloc ?_ (by first | (simp; done) | (simp; omega) | omega) _) | (refine Below.setCell ?_ (by first | (simp; done) | (simp; omega) | omega) _) | (refine Below.trans ?_ (Below.mono (by assumption) (by first | (simp; done) | (simp; omega) | omega)))))
    have ks4 : W4.heap.size = w4.heap.size + 1 := by rw [← hW4]; simp
    have RD4 := Lib.hid (show ∀ V, Below W4.heap.size W4 V → V.cell? ⟨w4.heap.size, 0, none⟩ = some (.int .i64 (q1 : Int)) ∧ V.cell? ⟨w4.heap.size, 1, none⟩ = some (.int .i64 (q2 : Int)) from fun V h => by
        refine ⟨(h.cell (p := ⟨w4.heap.size, 0, none⟩) (by simp; omega)).trans ?_, (h.cell (p := ⟨w4.heap.size, 1, none⟩) (by simp; omega)).trans ?_⟩ <;> (subst hW4; go_simp))
    have HW4 := Lib.hid hW4; have KW4 := Lib.hid kw4; clear hW4 kw4
    rw [HW4.out]
    have hs44 : w4.heap.size ≤ W4.heap.size := by omega
    have K' := K0.trans (KW4.out.mono hs4)
    clear K0; (try clear k0_0); (try clear k0_1); (try clear k0_2); (try clear k0_3); (try clear k0_4); (try clear k0_5); (try clear k0_6); (try clear k0_7); (try clear k0_8); (try clear k0_9)
    have K0 := K'; clear K'
    obtain ⟨k0_0, k0_1, k0_2, k0_3, k0_4, k0_5, k0_6, k0_7, k0_8, k0_9⟩ := RD0.out _ K0
    obtain ⟨y0, y1⟩ := RD4.out W4 (Below.refl _ _)
    go_upto_region 16 with (first | (go_at_call 25; refine (HBU.out _ (HR.out.below (KW0.out.trans (K0.mono (by omega))))).mono ?_; go_must (rintro e w5 ⟨rfl, hb5⟩; have K' := (by first | exact below_at K0 (by have := K0.size; omega) hb5 | exact below_at K0 (by have := K0.size; omega) (by repeat (first | exact Below.refl _ _ | assumption | (refine Below.drew ?_) | (refine below_drewN ?_ _) | (refine Below.alloc ?_ (by first | (simp; done) | (simp; omega) | omega) _) | (refine Below.setCell ?_ (by first | (simp; done) | (simp; omega) | omega) _) | (refine Below.trans ?_ (Below.mono (by assumption) (by first | (simp; done) | (simp; omega) | omega))))) : Below W0.heap.size W0 w5); have HB5 := Lib.hid hb5; clear K0 hb5; (try clear k0_0); (try clear k0_1); (try clear k0_2); (try clear k0_3); (try clear k0_4); (try clear k0_5); (try clear k0_6); (try clear k0_7); (try clear k0_8); (try clear k0_9); have K0 := K'; clear K'; obtain ⟨k0_0, k0_1, k0_2, k0_3, k0_4, k0_5, k0_6, k0_7, k0_8, k0_9⟩ := RD0.out _ K0; skip)) | (go_at_call 26; refine (HLA.out _ (HR.out.below (KW0.out.trans (K0.mono (by omega)))) (HS.out.below (KW0.out.trans (K0.mono (by omega))))).mono ?_; go_must (rintro e w6 ⟨rfl, hb6⟩; have K' := (by first | exact below_at K0 (by have := K0.size; omega) hb6 | exact below_at K0 (by have := K0.size; omega) (by repeat (first | exact Below.refl _ _ | assumption | (refine Below.drew ?_) | (refine below_drewN ?_ _) | (refine Below.alloc ?_ (by first | (simp; done) | (simp; omega) | omega) _) | (refine Below.setCell ?_ (by first | (simp; done) | (simp; omega) | omega) _) | (refine Below.trans ?_ (Below.mono (by assumption) (by first | (simp; done) | (simp; omega) | omega))))) : Below W0.heap.size W0 w6); have HB6 := Lib.hid hb6; clear K0 hb6; (try clear k0_0); (try clear k0_1); (try clear k0_2); (try clear k0_3); (try clear k0_4); (try clear k0_5); (try clear k0_6); (try clear k0_7); (try clear k0_8); (try clear k0_9); have K0 := K'; clear K'; obtain ⟨k0_0, k0_1, k0_2, k0_3, k0_4, k0_5, k0_6, k0_7, k0_8, k0_9⟩ := RD0.out _ K0; skip)) | (go_at_call 21; refine (HBE.out _ (HR.out.below (KW0.out.trans (K0.mono (by omega)))) (HS.out.below (KW0.out.trans (K0.mono (by omega))))).mono ?_; go_must (rintro e w7 ⟨rfl, hb7⟩; have K' := (by first | exact below_at K0 (by have := K0.size; omega) hb7 | exact below_at K0 (by have := K0.size; omega) (by repeat (first | exact Below.refl _ _ | assumption | (refine Below.drew ?_) | (refine below_drewN ?_ _) | (refine Below.alloc ?_ (by first | (simp; done) | (simp; omega) | omega) _) | (refine Below.setCell ?_ (by first | (simp; done) | (simp; omega) | omega) _) | (refine Below.trans ?_ (Below.mono (by assumption) (by first | (simp; done) | (simp; omega) | omega))))) : Below W0.heap.size W0 w7); have HB7 := Lib.hid hb7; clear K0 hb7; (try clear k0_0); (try clear k0_1); (try clear k0_2); (try clear k0_3); (try clear k0_4); (try clear k0_5); (try clear k0_6); (try clear k0_7); (try clear k0_8); (try clear k0_9); have K0 := K'; clear K'; obtain ⟨k0_0, k0_1, k0_2, k0_3, k0_4, k0_5, k0_6, k0_7, k0_8, k0_9⟩ := RD0.out _ K0; skip)))
    have hs7 := K0.size
    obtain ⟨W7, hW7⟩ : ∃ W : World, w7.alloc (Obj.cells #[.int .i64 b.1, .int .i64 b.2.1, .int .i64 b.2.2] 29) = W := ⟨_, rfl⟩
    have kw7 : Below w7.heap.size w7 W7 := by rw [← hW7]; exact (by repeat (first | exact Below.refl _ _ | assumption | (refine Below.drew ?_) | (refine below_drewN ?_ _) | (refine Below.alloc ?_ (by first | (simp; done) | (simp; omega) | omega) _) | (refine Below.setCell ?_ (by first | (simp; done) | (simp; omega) | omega) _) | (refine Below.trans ?_ (Below.mono (by assumption) (by first | (simp; done) | (simp; omega) | omega)))))
    have ks7 : W7.heap.size = w7.heap.size + 1 := by rw [← hW7]; simp
    have RD7 := Lib.hid (show ∀ V, Below W7.heap.size W7 V → V.cell? ⟨w7.heap.size, 0, none⟩ = some (.int .i64 b.1) ∧ V.cell? ⟨w7.heap.size, 1, none⟩ = some (.int .i64 b.2.1) ∧ V.cell? ⟨w7.heap.size, 2, none⟩ = some (.int .i64 b.2.2) from fun V h => by
        refine ⟨(h.cell (p := ⟨w7.heap.size, 0, none⟩) (by simp; omega)).trans ?_, (h.cell (p := ⟨w7.heap.size, 1, none⟩) (by simp; omega)).trans ?_, (h.cell (p := ⟨w7.heap.size, 2, none⟩) (by simp; omega)).trans ?_⟩ <;> (subst hW7; go_simp))
    have HW7 := Lib.hid hW7; have KW7 := Lib.hid kw7; clear hW7 kw7
    rw [HW7.out]
    have hs77 : w7.heap.size ≤ W7.heap.size := by omega
    have K' := K0.trans (KW7.out.mono hs7)
    clear K0; (try clear k0_0); (try clear k0_1); (try clear k0_2); (try clear k0_3); (try clear k0_4); (try clear k0_5); (try clear k0_6); (try clear k0_7); (try clear k0_8); (try clear k0_9)
    have K0 := K'; clear K'
    obtain ⟨k0_0, k0_1, k0_2, k0_3, k0_4, k0_5, k0_6, k0_7, k0_8, k0_9⟩ := RD0.out _ K0
    obtain ⟨z0, z1, z2⟩ := RD7.out W7 (Below.refl _ _)
    go_wp2_with fail
    go_loopw [14, 15] (fun t14 t15 wr => ((t15 = .int .i64 0 ∧ t14 = .bool true) ∨ (t15 = .int .i64 1 ∧ t14 = .bool (decide (-1 ≤ u.1 ∧ u.1 ≤ 1))) ∨ (t15 = .int .i64 2 ∧ t14 = .bool (decide (-1 ≤ u.1 ∧ u.1 ≤ 1) && decide (-1 ≤ u.2.1 ∧ u.2.1 ≤ 1))) ∨ (t15 = .int .i64 3 ∧ t14 = .bool (smallB u))) ∧ wr = W7) (fun _ t15 _ => (3 - intOf t15).toNat)
    case atStart => exact ⟨.inl ⟨rfl, rfl⟩, rfl⟩
    case round =>
      obtain ⟨hrel, rfl⟩ := hrel
      rcases hrel with ⟨rfl, rfl⟩ | ⟨rfl, rfl⟩ | ⟨rfl, rfl⟩ | ⟨rfl, rfl⟩
      · by_cases h1 : -1 ≤ u.1
        all_goals by_cases h2 : u.1 ≤ 1
        all_goals
          go_wp2
          go_roundw
          case rel => exact ⟨.inr (.inl ⟨rfl, by first | rfl | (simp [h1, h2]; done) | (simp [smallB, h1, h2]; done) | (simp [smallB, HPB.out, h1, h2]; done)⟩), by first | rfl | trivial⟩
          case measure => simp [intOf]
      · generalize hpb : decide (-1 ≤ u.1 ∧ u.1 ≤ 1) = B1
        have HPB := Lib.hid hpb
        cases B1
        all_goals clear hpb
        all_goals by_cases h1 : -1 ≤ u.2.1
        all_goals by_cases h2 : u.2.1 ≤ 1
        all_goals
          go_wp2
          go_roundw
          case rel => exact ⟨.inr (.inr (.inl ⟨rfl, by first | rfl | (simp [h1, h2]; done) | (simp [smallB, h1, h2]; done) | (simp [smallB, HPB.out, h1, h2]; done)⟩)), by first | rfl | trivial⟩
          case measure => simp [intOf]
      · generalize hpb : (decide (-1 ≤ u.1 ∧ u.1 ≤ 1) && decide (-1 ≤ u.2.1 ∧ u.2.1 ≤ 1)) = B1
        have HPB := Lib.hid hpb
        have HPC := Lib.hid (show smallB u = (B1 && decide (-1 ≤ u.2.2 ∧ u.2.2 ≤ 1)) by rw [← HPB.out]; unfold smallB; rw [Bool.and_assoc])
        cases B1
        all_goals clear hpb
        all_goals by_cases h1 : -1 ≤ u.2.2
        all_goals by_cases h2 : u.2.2 ≤ 1
        all_goals
          go_wp2
          go_roundw
          case rel => exact ⟨.inr (.inr (.inr ⟨rfl, by rw [HPC.out]; first | rfl | (simp [h1, h2]; done)⟩)), by first | rfl | trivial⟩
          case measure => simp [intOf]
      · generalize hsm : smallB u = M at *
        have hx := HFB.out
        rw [HSU.out] at hx
        rcases hx with ⟨rfl, hx⟩ | ⟨rfl, hb1, hb2, hb3⟩
        · cases M
          all_goals
            first
            | exact absurd hx (by decide)
            | (clear hx HCB HSB HCU HFB
               go_wp2_with (go_at_call 8; refine (sane04 _).mono ?_; go_must (rintro e w19 ⟨rfl, hb19⟩))
               go_ret
               exact ⟨rfl, below_at (KW0.out.trans (K0.mono (by omega))) (by have := K0.size; omega) hb19⟩)
        · have HSB2 := Lib.hid (fun (W : World) (h : RecRd W r) (h2 : SchedRd W s) => (by have := HSB.out b W h h2; rwa [hb1, hb2] at this : Calls Tryz.prog 23 #[.agg #[.int .i64 r.n, r.lv, r.vv], .agg #[.int .i64 s.f.1, .int .i64 s.f.2.1, .int .i64 s.f.2.2, s.ov], .agg #[.int .i64 b.1, .int .i64 b.2.1, .int .i64 b.2.2]] W fun e w' => e = .returned (.tuple #[.bool true, .int .i64 0]) ∧ Below W.heap.size W w'))
          have HCB2 := Lib.hid (HCB.out b hb2)
          obtain ⟨x0, x1, x2⟩ := RD7.out wr (Below.refl _ _)
          have RQ := Lib.hid RD7.out
          clear hb1 hb2 HCB HSB HFB
          generalize cellsL r b = cb at *
          generalize cellsL r u = cu at *
          cases M
          all_goals
            try (have hle : (cb.length : Int) ≤ (cu.length : Int) := by have := hb3 rfl; omega)
            clear hb3
            go_upto_region 25 with (first | (go_at_call 23; refine (HSB2.out _ (HR.out.below (KW0.out.trans (K0.mono (by omega)))) (HS.out.below (KW0.out.trans (K0.mono (by omega))))).mono ?_; go_must (rintro e w18 ⟨rfl, hb18⟩; obtain ⟨f0, f1, f2⟩ := RQ.out _ hb18; have K' := below_at K0 (by have := K0.size; omega) hb18; clear K0; (try clear k0_0); (try clear k0_1); (try clear k0_2); (try clear k0_3); (try clear k0_4); (try clear k0_5); (try clear k0_6); (try clear k0_7); (try clear k0_8); (try clear k0_9); have K0 := K'; clear K'; obtain ⟨k0_0, k0_1, k0_2, k0_3, k0_4, k0_5, k0_6, k0_7, k0_8, k0_9⟩ := RD0.out _ K0; clear hb18)) | (go_at_call 27; refine (HCB2.out _ (HR.out.below (KW0.out.trans (K0.mono (by omega))))).mono ?_; go_must (rintro e w19 ⟨⟨v19, rfl, hsl19⟩, hb19⟩; obtain ⟨pa19, pc19, hpe, -⟩ := hsl19.shape; subst hpe; clear hsl19; have K' := below_at K0 (by have := K0.size; omega) hb19; clear K0; (try clear k0_0); (try clear k0_1); (try clear k0_2); (try clear k0_3); (try clear k0_4); (try clear k0_5); (try clear k0_6); (try clear k0_7); (try clear k0_8); (try clear k0_9); have K0 := K'; clear K'; obtain ⟨k0_0, k0_1, k0_2, k0_3, k0_4, k0_5, k0_6, k0_7, k0_8, k0_9⟩ := RD0.out _ K0; clear hb19)))
            go_wp2_with (first | (go_at_call 27; refine (HCU.out _ (HR.out.below (KW0.out.trans (K0.mono (by omega))))).mono ?_; go_must (rintro e w20 ⟨⟨v20, rfl, hsl20⟩, hb20⟩; obtain ⟨pa20, pc20, hpe, -⟩ := hsl20.shape; subst hpe; clear hsl20; have K' := below_at K0 (by have := K0.size; omega) hb20; clear K0; (try clear k0_0); (try clear k0_1); (try clear k0_2); (try clear k0_3); (try clear k0_4); (try clear k0_5); (try clear k0_6); (try clear k0_7); (try clear k0_8); (try clear k0_9); have K0 := K'; clear K'; obtain ⟨k0_0, k0_1, k0_2, k0_3, k0_4, k0_5, k0_6, k0_7, k0_8, k0_9⟩ := RD0.out _ K0; clear hb20)) | (go_at_call 8; refine (sane04 _).mono ?_; go_must (rintro e w21 ⟨rfl, hb21⟩)))
            go_ret
            exact ⟨rfl, below_at (KW0.out.trans (K0.mono (by omega))) (by have := K0.size; omega) hb21⟩
end Go.Proofs.YtndfdgdahinkpaaGreat
