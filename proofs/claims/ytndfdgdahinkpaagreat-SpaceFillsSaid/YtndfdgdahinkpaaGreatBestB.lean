/- The direction with the fewest cells: the reference's Best: its walk. -/
import Derived.Test.YtndfdgdahinkpaaGreatBestA
namespace Go.Proofs.YtndfdgdahinkpaaGreat
open Go.RowKit Go.WideMaps
set_option linter.unusedVariables false
theorem dirK_at {a b c : Nat} (hb : b < 3) (hc : c < 3) {x y z : Int} (hx : x = (a : Int) - 1) (hy : y = (b : Int) - 1) (hz : z = (c : Int) - 1) : dirK (a * 9 + b * 3 + c) = (x, y, z) := by
  subst hx hy hz
  unfold dirK
  refine Prod.ext ?_ (Prod.ext ?_ ?_)
  · show (((a * 9 + b * 3 + c) / 9 : Nat) : Int) - 1 = (a : Int) - 1
    omega
  · show (((a * 9 + b * 3 + c) / 3 % 3 : Nat) : Int) - 1 = (b : Int) - 1
    omega
  · show (((a * 9 + b * 3 + c) % 3 : Nat) : Int) - 1 = (c : Int) - 1
    omega
theorem bestTo_none {r : RecD} {s : SchedD} (h : (ptsL r.n r.l).length = 0) (k : Nat) : bestTo r s k = ((0, 0, 0), 0) := by
  induction k with
  | zero => rfl
  | succ k ih =>
    rw [bestTo_succ, ih]
    exact step_bad (by unfold goodB; rw [h]; simp) _
set_option maxHeartbeats 4000000 in
set_option maxRecDepth 100000 in
theorem rBest_l (r : RecD) (s : SchedD) (w : World) (hr : RecRd w r) (hs : SchedRd w s) :
    Calls Tryz.prog 22 #[.agg #[.int .i64 r.n, r.lv, r.vv], .agg #[.int .i64 s.f.1, .int .i64 s.f.2.1, .int .i64 s.f.2.2, s.ov]] w fun x w' => x = .returned (bestV r s) ∧ Below w.heap.size w w' := by
  have HR := Lib.hid hr
  have HS := Lib.hid hs
  clear hr hs
  have HRV := Lib.hid (fun (W : World) (h : RecRd W r) => Valid2_l r W h)
  have HSV := Lib.hid (fun (W : World) (h : RecRd W r) (h2 : SchedRd W s) => rsValid_l r s W h h2)
  obtain ⟨W0, hW0⟩ : ∃ W : World, ((w.alloc (Obj.cells #[.int .i64 r.n, r.lv, r.vv] 27)).alloc (Obj.cells #[.int .i64 s.f.1, .int .i64 s.f.2.1, .int .i64 s.f.2.2, s.ov] 32)).alloc (Obj.cells #[.int .i64 0, .int .i64 0, .int .i64 0] 29) = W := ⟨_, rfl⟩
  have kw0 : Below w.heap.size w W0 := by rw [← hW0]; exact (by repeat (first | exact Below.refl _ _ | assumption | (refine Below.drew ?_) | (refine below_drewN ?_ _) | (refine Below.alloc ?_ (by first | (simp; done) | (simp; omega) | omega) _) | (refine Below.setCell ?_ (by first | (simp; done) | (simp; omega) | omega) _) | (refine Below.trans ?_ (Below.mono (by assumption) (by first | (simp; done) | (simp; omega) | omega)))))
  have ks0 : W0.heap.size = w.heap.size + 3 := by rw [← hW0]; simp
  have RD0 := Lib.hid (show ∀ V, Below W0.heap.size W0 V → V.cell? ⟨w.heap.size, 0, none⟩ = some (.int .i64 r.n) ∧ V.cell? ⟨w.heap.size, 1, none⟩ = some (r.lv) ∧ V.cell? ⟨w.heap.size, 2, none⟩ = some (r.vv) ∧ V.cell? ⟨w.heap.size + 1, 0, none⟩ = some (.int .i64 s.f.1) ∧ V.cell? ⟨w.heap.size + 1, 1, none⟩ = some (.int .i64 s.f.2.1) ∧ V.cell? ⟨w.heap.size + 1, 2, none⟩ = some (.int .i64 s.f.2.2) ∧ V.cell? ⟨w.heap.size + 1, 3, none⟩ = some (s.ov) ∧ V.cell? ⟨w.heap.size + 1 + 1, 0, none⟩ = some (.int .i64 0) ∧ V.cell? ⟨w.heap.size + 1 + 1, 1, none⟩ = some (.int .i64 0) ∧ V.cell? ⟨w.heap.size + 1 + 1, 2, none⟩ = some (.int .i64 0) from fun V h => by
      refine ⟨(h.cell (p := ⟨w.heap.size, 0, none⟩) (by simp; omega)).trans ?_, (h.cell (p := ⟨w.heap.size, 1, none⟩) (by simp; omega)).trans ?_, (h.cell (p := ⟨w.heap.size, 2, none⟩) (by simp; omega)).trans ?_, (h.cell (p := ⟨w.heap.size + 1, 0, none⟩) (by simp; omega)).trans ?_, (h.cell (p := ⟨w.heap.size + 1, 1, none⟩) (by simp; omega)).trans ?_, (h.cell (p := ⟨w.heap.size + 1, 2, none⟩) (by simp; omega)).trans ?_, (h.cell (p := ⟨w.heap.size + 1, 3, none⟩) (by simp; omega)).trans ?_, (h.cell (p := ⟨w.heap.size + 1 + 1, 0, none⟩) (by simp; omega)).trans ?_, (h.cell (p := ⟨w.heap.size + 1 + 1, 1, none⟩) (by simp; omega)).trans ?_, (h.cell (p := ⟨w.heap.size + 1 + 1, 2, none⟩) (by simp; omega)).trans ?_⟩ <;> (subst hW0; go_simp))
  have HW0 := Lib.hid hW0; have KW0 := Lib.hid kw0; clear hW0 kw0
  have FZ := Lib.hid (show ∀ V, Below W0.heap.size W0 V → ∀ b o, b < W0.heap.size → V.frozen? ⟨b, o, none⟩ = _ from fun V h b o hb => (bcellB h).2 b o hb)
  by_cases ha : askD r s = 0
  rotate_left
  · have HV := Lib.hid (show bestV r s = .tuple #[.agg #[.int .i64 0, .int .i64 0, .int .i64 0], .int .i64 (askD r s)] by
      have : bestErr r s = askD r s := by unfold bestErr; rw [if_neg ha]
      unfold bestV; rw [this, if_neg ha]; rfl)
    rw [HV.out]
    cases hv : validR r.n r.l r.vars
    · have HE := Lib.hid (show askD r s = 20 by unfold askD; rw [hv]; rfl)
      rw [HE.out]
      rw [hv] at HRV
      clear ha hv HE HV
      go_enter Tryz.func22, Tryz.ntmps22
      go_wp2_with (go_at_call 42; rw [HW0.out]; refine (HRV.out _ (HR.out.below KW0.out)).mono ?_; go_must (rintro e w1 ⟨rfl, hb1⟩; have K0 := hb1; have HB1 := Lib.hid hb1; clear hb1; obtain ⟨k0_0, k0_1, k0_2, k0_3, k0_4, k0_5, k0_6, k0_7, k0_8, k0_9⟩ := RD0.out _ K0; have hfz := FZ.out _ K0; rw [← HW0.out] at hfz))
      have KX := (KW0.out.trans (K0.mono (by omega)))
      refine bodyPost_ret (v := .tuple #[.agg #[.int .i64 0, .int .i64 0, .int .i64 0], .int .i64 20]) (by simp only [results, Tryz.results22]; first | (go_simp; done) | (go_simp; rfl)) rfl ⟨rfl, ?_⟩
      exact (by (repeat (first | (with_reducible refine Below.setCell ?_ (by first | (simp; done) | (simp; omega) | omega) _) | (with_reducible refine Below.drew ?_) | (with_reducible refine below_drewN ?_ _))); with_reducible exact KX)
    · have hsb : schedB r s = false := by
        cases h : schedB r s
        · rfl
        · exact absurd (askD_ok h) ha
      have HE := Lib.hid (show askD r s = 30 by
        unfold askD; rw [if_pos hv]; rw [if_neg]; intro h; exact absurd (show schedB r s = true by simp only [schedB, Bool.and_eq_true]; exact ⟨hv, h⟩) (by rw [hsb]; simp))
      rw [HE.out]
      rw [hv] at HRV
      rw [hsb] at HSV
      clear ha hv HE HV hsb
      go_enter Tryz.func22, Tryz.ntmps22
      go_wp2_with (first | (go_at_call 42; rw [HW0.out]; refine (HRV.out _ (HR.out.below KW0.out)).mono ?_; go_must (rintro e w1 ⟨rfl, hb1⟩; have K0 := hb1; have HB1 := Lib.hid hb1; clear hb1; obtain ⟨k0_0, k0_1, k0_2, k0_3, k0_4, k0_5, k0_6, k0_7, k0_8, k0_9⟩ := RD0.out _ K0; skip)) | (go_at_call 43; refine (HSV.out _ (HR.out.below (KW0.out.trans (K0.mono (by omega)))) (HS.out.below (KW0.out.trans (K0.mono (by omega))))).mono ?_; go_must (rintro e w2 ⟨rfl, hb2⟩; have K' := (by first | exact below_at K0 (by have := K0.size; omega) hb2 | exact below_at K0 (by have := K0.size; omega) (by repeat (first | exact Below.refl _ _ | assumption | (refine Below.drew ?_) | (refine below_drewN ?_ _) | (refine Below.alloc ?_ (by first | (simp; done) | (simp; omega) | omega) _) | (refine Below.setCell ?_ (by first | (simp; done) | (simp; omega) | omega) _) | (refine Below.trans ?_ (Below.mono (by assumption) (by first | (simp; done) | (simp; omega) | omega))))) : Below W0.heap.size W0 w2); have HB2 := Lib.hid hb2; clear K0 hb2; (try clear k0_0); (try clear k0_1); (try clear k0_2); (try clear k0_3); (try clear k0_4); (try clear k0_5); (try clear k0_6); (try clear k0_7); (try clear k0_8); (try clear k0_9); have K0 := K'; clear K'; obtain ⟨k0_0, k0_1, k0_2, k0_3, k0_4, k0_5, k0_6, k0_7, k0_8, k0_9⟩ := RD0.out _ K0; have hfz := FZ.out _ K0; rw [← HW0.out] at hfz)))
      have KX := (KW0.out.trans (K0.mono (by omega)))
      refine bodyPost_ret (v := .tuple #[.agg #[.int .i64 0, .int .i64 0, .int .i64 0], .int .i64 30]) (by simp only [results, Tryz.results22]; first | (go_simp; done) | (go_simp; rfl)) rfl ⟨rfl, ?_⟩
      exact (by (repeat (first | (with_reducible refine Below.setCell ?_ (by first | (simp; done) | (simp; omega) | omega) _) | (with_reducible refine Below.drew ?_) | (with_reducible refine below_drewN ?_ _))); with_reducible exact KX)
  have hao := askD_out ha
  have hvo := validR_out hao.1
  have hdo := validD_out hvo.1
  rw [hao.1] at HRV
  rw [hao.2] at HSV
  have HEV := Lib.hid (show bestErr r s = if (bestTo r s 27).2 = 0 then 5 else 0 by unfold bestErr; rw [if_pos ha])
  clear ha
  have HBD := Lib.hid (fun k => bestTo_bd r s hao.1 k)
  have HAL := Lib.hid (fun (W : World) (hw : SlOf W W.heap.size 4 encI r.lv r.l) => rAll_l r.n r.l hdo.1 hdo.2.2 W r.lv hw)
  have hsW : w.heap.size ≤ W0.heap.size := by omega
  have hnp : (ptsL r.n r.l).length ≤ 1000 := hvo.2.1
  by_cases hn : (ptsL r.n r.l).length = 0
  · have HV := Lib.hid (show bestV r s = .tuple #[.agg #[.int .i64 0, .int .i64 0, .int .i64 0], .int .i64 5] by
      have : bestErr r s = 5 := by rw [HEV.out, bestTo_none hn]; rfl
      unfold bestV; rw [this]; rfl)
    clear HEV HBD hvo hdo hao
    generalize ptsL r.n r.l = L at *
    obtain rfl : L = [] := List.eq_nil_of_length_eq_zero hn
    clear hn
    go_enter Tryz.func22, Tryz.ntmps22
    go_upto_region 7 with (first | (go_at_call 42; rw [HW0.out]; refine (HRV.out _ (HR.out.below KW0.out)).mono ?_; go_must (rintro e w1 ⟨rfl, hb1⟩; have K0 := hb1; have HB1 := Lib.hid hb1; clear hb1; obtain ⟨k0_0, k0_1, k0_2, k0_3, k0_4, k0_5, k0_6, k0_7, k0_8, k0_9⟩ := RD0.out _ K0; skip)) | (go_at_call 43; refine (HSV.out _ (HR.out.below (KW0.out.trans (K0.mono (by omega)))) (HS.out.below (KW0.out.trans (K0.mono (by omega))))).mono ?_; go_must (rintro e w2 ⟨rfl, hb2⟩; have K' := (by first | exact below_at K0 (by have := K0.size; omega) hb2 | exact below_at K0 (by have := K0.size; omega) (by repeat (first | exact Below.refl _ _ | assumption | (refine Below.drew ?_) | (refine below_drewN ?_ _) | (refine Below.alloc ?_ (by first | (simp; done) | (simp; omega) | omega) _) | (refine Below.setCell ?_ (by first | (simp; done) | (simp; omega) | omega) _) | (refine Below.trans ?_ (Below.mono (by assumption) (by first | (simp; done) | (simp; omega) | omega))))) : Below W0.heap.size W0 w2); have HB2 := Lib.hid hb2; clear K0 hb2; (try clear k0_0); (try clear k0_1); (try clear k0_2); (try clear k0_3); (try clear k0_4); (try clear k0_5); (try clear k0_6); (try clear k0_7); (try clear k0_8); (try clear k0_9); have K0 := K'; clear K'; obtain ⟨k0_0, k0_1, k0_2, k0_3, k0_4, k0_5, k0_6, k0_7, k0_8, k0_9⟩ := RD0.out _ K0; skip)))
    have KK0 := Lib.hid K0
    have hs2 := K0.size
    clear K0; (try clear k0_0); (try clear k0_1); (try clear k0_2); (try clear k0_3); (try clear k0_4); (try clear k0_5); (try clear k0_6); (try clear k0_7); (try clear k0_8); (try clear k0_9)
    obtain ⟨W2, hW2⟩ : ∃ W : World, w2.alloc (Obj.cells #[.int .i64 0, .int .i64 0, .int .i64 0] 29) = W := ⟨_, rfl⟩
    have kw2 : Below w2.heap.size w2 W2 := by rw [← hW2]; exact (by repeat (first | exact Below.refl _ _ | assumption | (refine Below.drew ?_) | (refine below_drewN ?_ _) | (refine Below.alloc ?_ (by first | (simp; done) | (simp; omega) | omega) _) | (refine Below.setCell ?_ (by first | (simp; done) | (simp; omega) | omega) _) | (refine Below.trans ?_ (Below.mono (by assumption) (by first | (simp; done) | (simp; omega) | omega)))))
    have ks2 : W2.heap.size = w2.heap.size + 1 := by rw [← hW2]; simp
    have RD2 := Lib.hid (show ∀ V, Below W2.heap.size W2 V → V.cell? ⟨w2.heap.size, 0, none⟩ = some (.int .i64 0) ∧ V.cell? ⟨w2.heap.size, 1, none⟩ = some (.int .i64 0) ∧ V.cell? ⟨w2.heap.size, 2, none⟩ = some (.int .i64 0) from fun V h => by
        refine ⟨(h.cell (p := ⟨w2.heap.size, 0, none⟩) (by simp; omega)).trans ?_, (h.cell (p := ⟨w2.heap.size, 1, none⟩) (by simp; omega)).trans ?_, (h.cell (p := ⟨w2.heap.size, 2, none⟩) (by simp; omega)).trans ?_⟩ <;> (subst hW2; go_simp))
    have HW2 := Lib.hid hW2; have KW2 := Lib.hid kw2; clear hW2 kw2
    rw [HW2.out]
    have K0 := KK0.out.trans (KW2.out.mono hs2)
    obtain ⟨k0_0, k0_1, k0_2, k0_3, k0_4, k0_5, k0_6, k0_7, k0_8, k0_9⟩ := RD0.out _ K0
    have HKW := Lib.hid (KW0.out.trans (K0.mono hsW))
    have KQ0 := Lib.hid K0
    have hsq := K0.size
    clear K0
    have FZ2 := Lib.hid (show ∀ V, Below W2.heap.size W2 V → (V.cell? ⟨w2.heap.size, 0, none⟩ = some (.int .i64 0) ∧ V.cell? ⟨w2.heap.size, 1, none⟩ = some (.int .i64 0) ∧ V.cell? ⟨w2.heap.size, 2, none⟩ = some (.int .i64 0)) ∧ (∀ b o, b < W0.heap.size → V.frozen? ⟨b, o, none⟩ = W0.frozen? ⟨b, o, none⟩) from fun V h => ⟨RD2.out V h, FZ.out V (below_at KQ0.out hsq h)⟩)
    go_wp2_with (go_at_call 24; refine (HAL.out _ (HR.out.l.below HKW.out)).mono ?_; go_must (rintro e w5 ⟨⟨v5, rfl, hsl5⟩, hb5⟩; obtain ⟨pa, pc, hpe, -⟩ := hsl5.shape; subst hpe; clear hsl5; obtain ⟨⟨z0, z1, z2⟩, hfz⟩ := FZ2.out _ hb5; rw [← HW0.out] at hfz; have K5 := below_at KQ0.out hsq hb5; obtain ⟨-, -, -, -, -, -, -, y0, y1, y2⟩ := RD0.out _ K5))
    have KX := KW0.out.trans (K5.mono hsW)
    refine bodyPost_ret (v := .tuple #[.agg #[.int .i64 0, .int .i64 0, .int .i64 0], .int .i64 5]) (by simp only [results, Tryz.results22]; first | (go_simp; done) | (go_simp; rfl)) rfl ⟨by rw [HV.out], ?_⟩
    exact (by (repeat (first | (with_reducible refine Below.setCell ?_ (by first | (simp; done) | (simp; omega) | omega) _) | (with_reducible refine Below.drew ?_) | (with_reducible refine below_drewN ?_ _))); with_reducible exact KX)
  have hn2 : (((ptsL r.n r.l).length : Int) == 0) = false := by rw [beq_eq_false_iff_ne]; omega
  have HCX := Lib.hid (fun (d : P3) (e : Ending) (w' : World) (h : CellsR r d e w') => show ∃ v, e = .returned v ∧ SlOf w' w'.heap.size 2 encC v (cellsL r d) from h)
  have HLN := Lib.hid (show 0 < (ptsL r.n r.l).length by omega)
  generalize hL : ptsL r.n r.l = L at HAL HLN hn2
  have HLL := Lib.hid hL; clear hL
  clear hn hnp
  go_enter Tryz.func22, Tryz.ntmps22
  go_upto_region 7 with (first | (go_at_call 42; rw [HW0.out]; refine (HRV.out _ (HR.out.below KW0.out)).mono ?_; go_must (rintro e w1 ⟨rfl, hb1⟩; have K0 := hb1; have HB1 := Lib.hid hb1; clear hb1; obtain ⟨k0_0, k0_1, k0_2, k0_3, k0_4, k0_5, k0_6, k0_7, k0_8, k0_9⟩ := RD0.out _ K0; skip)) | (go_at_call 43; refine (HSV.out _ (HR.out.below (KW0.out.trans (K0.mono (by omega)))) (HS.out.below (KW0.out.trans (K0.mono (by omega))))).mono ?_; go_must (rintro e w2 ⟨rfl, hb2⟩; have K' := (by first | exact below_at K0 (by have := K0.size; omega) hb2 | exact below_at K0 (by have := K0.size; omega) (by repeat (first | exact Below.refl _ _ | assumption | (refine Below.drew ?_) | (refine below_drewN ?_ _) | (refine Below.alloc ?_ (by first | (simp; done) | (simp; omega) | omega) _) | (refine Below.setCell ?_ (by first | (simp; done) | (simp; omega) | omega) _) | (refine Below.trans ?_ (Below.mono (by assumption) (by first | (simp; done) | (simp; omega) | omega))))) : Below W0.heap.size W0 w2); have HB2 := Lib.hid hb2; clear K0 hb2; (try clear k0_0); (try clear k0_1); (try clear k0_2); (try clear k0_3); (try clear k0_4); (try clear k0_5); (try clear k0_6); (try clear k0_7); (try clear k0_8); (try clear k0_9); have K0 := K'; clear K'; obtain ⟨k0_0, k0_1, k0_2, k0_3, k0_4, k0_5, k0_6, k0_7, k0_8, k0_9⟩ := RD0.out _ K0; skip)))
  have KK0 := Lib.hid K0
  have hs2 := K0.size
  clear K0; (try clear k0_0); (try clear k0_1); (try clear k0_2); (try clear k0_3); (try clear k0_4); (try clear k0_5); (try clear k0_6); (try clear k0_7); (try clear k0_8); (try clear k0_9)
  obtain ⟨W2, hW2⟩ : ∃ W : World, w2.alloc (Obj.cells #[.int .i64 0, .int .i64 0, .int .i64 0] 29) = W := ⟨_, rfl⟩
  have kw2 : Below w2.heap.size w2 W2 := by rw [← hW2]; exact (by repeat (first | exact Below.refl _ _ | assumption | (refine Below.drew ?_) | (refine below_drewN ?_ _) | (refine Below.alloc ?_ (by first | (simp; done) | (simp; omega) | omega) _) | (refine Below.setCell ?_ (by first | (simp; done) | (simp; omega) | omega) _) | (refine Below.trans ?_ (Below.mono (by assumption) (by first | (simp; done) | (simp; omega) | omega)))))
  have ks2 : W2.heap.size = w2.heap.size + 1 := by rw [← hW2]; simp
  have RD2 := Lib.hid (show ∀ V, Below W2.heap.size W2 V → V.cell? ⟨w2.heap.size, 0, none⟩ = some (.int .i64 0) ∧ V.cell? ⟨w2.heap.size, 1, none⟩ = some (.int .i64 0) ∧ V.cell? ⟨w2.heap.size, 2, none⟩ = some (.int .i64 0) from fun V h => by
      refine ⟨(h.cell (p := ⟨w2.heap.size, 0, none⟩) (by simp; omega)).trans ?_, (h.cell (p := ⟨w2.heap.size, 1, none⟩) (by simp; omega)).trans ?_, (h.cell (p := ⟨w2.heap.size, 2, none⟩) (by simp; omega)).trans ?_⟩ <;> (subst hW2; go_simp))
  have HW2 := Lib.hid hW2; have KW2 := Lib.hid kw2; clear hW2 kw2
  rw [HW2.out]
  have K0 := KK0.out.trans (KW2.out.mono hs2)
  obtain ⟨k0_0, k0_1, k0_2, k0_3, k0_4, k0_5, k0_6, k0_7, k0_8, k0_9⟩ := RD0.out _ K0
  have HKW := Lib.hid (KW0.out.trans (K0.mono hsW))
  have KQ0 := Lib.hid K0
  have hsq := K0.size
  clear K0
  go_wp2_with (go_at_call 24; refine (HAL.out _ (HR.out.l.below HKW.out)).mono ?_; go_must (rintro e w5 ⟨⟨v5, rfl, hsl5⟩, hb5⟩; obtain ⟨pa, pc, hpe, -⟩ := hsl5.shape; subst hpe; clear hsl5))
  have HB5 := Lib.hid (show Below (w2.heap.size + 1) (w2.alloc (Obj.cells #[.int .i64 0, .int .i64 0, .int .i64 0] 29)) w5 by rw [HW2.out]; exact hb5.mono (by omega))
  clear hb5
  have RB := Lib.hid (show ∀ (p : P3) (V : World), Below (w2.heap.size + 1) (w2.alloc (Obj.cells #[.int .i64 p.1, .int .i64 p.2.1, .int .i64 p.2.2] 29)) V → (V.cell? ⟨w2.heap.size, 0, none⟩ = some (.int .i64 p.1) ∧ V.cell? ⟨w2.heap.size, 1, none⟩ = some (.int .i64 p.2.1) ∧ V.cell? ⟨w2.heap.size, 2, none⟩ = some (.int .i64 p.2.2)) ∧ Below w2.heap.size w2 V ∧ (∀ b o, b < w2.heap.size + 1 → V.frozen? ⟨b, o, none⟩ = (w2.alloc (Obj.cells #[.int .i64 p.1, .int .i64 p.2.1, .int .i64 p.2.2] 29)).frozen? ⟨b, o, none⟩) from fun p V h => by
    refine ⟨⟨(h.cell (p := ⟨w2.heap.size, 0, none⟩) (by simp)).trans ?_, (h.cell (p := ⟨w2.heap.size, 1, none⟩) (by simp)).trans ?_, (h.cell (p := ⟨w2.heap.size, 2, none⟩) (by simp)).trans ?_⟩, ((Below.refl _ _).alloc (Nat.le_refl _) _).trans (h.mono (by omega)), ?_⟩
    · go_simp
    · go_simp
    · go_simp
    · intro b o hb; exact h.frozen (p := ⟨b, o, none⟩) hb)
  go_loopw [7, 8] (fun t7 t8 wr => ∃ (x : Int) (a : Nat), t8 = .int .i64 x ∧ x = (a : Int) - 1 ∧ a ≤ 3 ∧ t7 = .int .i64 ((bestTo r s (a * 9)).2 : Nat) ∧ Below (w2.heap.size + 1) (w2.alloc (Obj.cells #[.int .i64 (bestTo r s (a * 9)).1.1, .int .i64 (bestTo r s (a * 9)).1.2.1, .int .i64 (bestTo r s (a * 9)).1.2.2] 29)) wr) (fun _ t8 _ => (2 - intOf t8).toNat)
  case atStart => exact ⟨-1, 0, rfl, by omega, by omega, rfl, HB5.out⟩
  case round =>
    obtain ⟨x, a, rfl, hx, ha3, rfl, hb⟩ := hrel
    have hsr := hb.size
    simp at hsr
    have HB := Lib.hid hb
    by_cases hxl : x ≤ 1
    rotate_left
    · have hae : a * 9 = 27 := by omega
      rw [hae] at HB ⊢
      obtain ⟨⟨p0, p1, p2⟩, hb2, hfb⟩ := RB.out _ _ HB.out
      clear hb hae
      have K0 := below_at KK0.out hs2 hb2
      have hfz := FZ.out _ K0
      rw [← HW0.out] at hfz
      obtain ⟨k0_0, k0_1, k0_2, k0_3, k0_4, k0_5, k0_6, k0_7, k0_8, k0_9⟩ := RD0.out _ K0
      have KX := KW0.out.trans (K0.mono hsW)
      by_cases hf : (bestTo r s 27).2 = 0
      · have HV := Lib.hid (show bestV r s = .tuple #[.agg #[.int .i64 0, .int .i64 0, .int .i64 0], .int .i64 5] by
          have : bestErr r s = 5 := by rw [HEV.out, if_pos hf]
          unfold bestV; rw [this]; rfl)
        have hz : (((bestTo r s 27).2 : Int) == 0) = true := by rw [beq_iff_eq]; omega
        clear hf
        generalize (bestTo r s 27).2 = f at *
        go_wp2
        refine bodyPost_ret (v := .tuple #[.agg #[.int .i64 0, .int .i64 0, .int .i64 0], .int .i64 5]) (by simp only [results, Tryz.results22]; first | (go_simp; done) | (go_simp; rfl)) rfl ⟨by rw [HV.out], ?_⟩
        exact (by (repeat (first | (with_reducible refine Below.setCell ?_ (by first | (simp; done) | (simp; omega) | omega) _) | (with_reducible refine Below.drew ?_) | (with_reducible refine below_drewN ?_ _))); with_reducible exact KX)
      · have HV := Lib.hid (show bestV r s = .tuple #[.agg #[.int .i64 (bestTo r s 27).1.1, .int .i64 (bestTo r s 27).1.2.1, .int .i64 (bestTo r s 27).1.2.2], .int .i64 0] by
          have : bestErr r s = 0 := by rw [HEV.out, if_neg hf]
          unfold bestV; rw [this]; rfl)
        have hz : (((bestTo r s 27).2 : Int) == 0) = false := by rw [beq_eq_false_iff_ne]; omega
        clear hf
        generalize bestTo r s 27 = st at *
        obtain ⟨⟨s0, s1, s2⟩, f⟩ := st
        simp only at HV p0 p1 p2 hz
        go_wp2
        refine bodyPost_ret (v := .tuple #[.agg #[.int .i64 s0, .int .i64 s1, .int .i64 s2], .int .i64 0]) (by simp only [results, Tryz.results22]; first | (go_simp; done) | (go_simp; rfl)) rfl ⟨by rw [HV.out], ?_⟩
        exact (by (repeat (first | (with_reducible refine Below.setCell ?_ (by first | (simp; done) | (simp; omega) | omega) _) | (with_reducible refine Below.drew ?_) | (with_reducible refine below_drewN ?_ _))); with_reducible exact KX)
    have HXX := Lib.hid (And.intro hx ha3)
    have hx1 : -1 ≤ x := by omega
    clear hx ha3 hb
    go_wp2
    go_loopw [7, 9] (fun t7 t9 wr => ∃ (y : Int) (b : Nat), t9 = .int .i64 y ∧ y = (b : Int) - 1 ∧ b ≤ 3 ∧ t7 = .int .i64 ((bestTo r s (a * 9 + b * 3)).2 : Nat) ∧ Below (w2.heap.size + 1) (w2.alloc (Obj.cells #[.int .i64 (bestTo r s (a * 9 + b * 3)).1.1, .int .i64 (bestTo r s (a * 9 + b * 3)).1.2.1, .int .i64 (bestTo r s (a * 9 + b * 3)).1.2.2] 29)) wr) (fun _ t9 _ => (2 - intOf t9).toNat)
    case atStart => exact ⟨-1, 0, rfl, by omega, by omega, rfl, HB.out⟩
    case round =>
      obtain ⟨y, b, rfl, hy, hb3, rfl, hb⟩ := hrel
      have hsr := hb.size
      simp at hsr
      have HB2 := Lib.hid hb
      by_cases hyl : y ≤ 1
      rotate_left
      · have HAE := Lib.hid (show a * 9 + b * 3 = (a + 1) * 9 by omega)
        clear hb
        go_wp2
        go_roundw
        case rel => exact ⟨x + 1, a + 1, rfl, by have := HXX.out.1; omega, by have := HXX.out.1; omega, by rw [← HAE.out], by rw [← HAE.out]; exact HB2.out⟩
        case measure => simp only [intOf]; omega
      have HYY := Lib.hid (And.intro hy hb3)
      have hy1 : -1 ≤ y := by omega
      clear hy hb3 hb
      go_wp2
      go_loopw [7, 10] (fun t7 t10 wr => ∃ (z : Int) (c : Nat), t10 = .int .i64 z ∧ z = (c : Int) - 1 ∧ c ≤ 3 ∧ t7 = .int .i64 ((bestTo r s (a * 9 + b * 3 + c)).2 : Nat) ∧ Below (w2.heap.size + 1) (w2.alloc (Obj.cells #[.int .i64 (bestTo r s (a * 9 + b * 3 + c)).1.1, .int .i64 (bestTo r s (a * 9 + b * 3 + c)).1.2.1, .int .i64 (bestTo r s (a * 9 + b * 3 + c)).1.2.2] 29)) wr) (fun _ t10 _ => (2 - intOf t10).toNat)
      case atStart => exact ⟨-1, 0, rfl, by omega, by omega, rfl, HB2.out⟩
      case round =>
        obtain ⟨z, c, rfl, hz, hc3, rfl, hb⟩ := hrel
        have hsr := hb.size
        simp at hsr
        have HB3 := Lib.hid hb
        by_cases hzl : z ≤ 1
        rotate_left
        · have HAE := Lib.hid (show a * 9 + b * 3 + c = a * 9 + (b + 1) * 3 by omega)
          clear hb
          go_wp2
          go_roundw
          case rel => exact ⟨y + 1, b + 1, rfl, by have := HYY.out.1; omega, by have := HYY.out.1; omega, by rw [← HAE.out], by rw [← HAE.out]; exact HB3.out⟩
          case measure => simp only [intOf]; omega
        have hz1 : -1 ≤ z := by omega
        have HDK := Lib.hid (show dirK (a * 9 + b * 3 + c) = (x, y, z) from dirK_at (by have := HYY.out.1; omega) (by omega) HXX.out.1 HYY.out.1 hz)
        have HST := Lib.hid (show bestTo r s (a * 9 + b * 3 + (c + 1)) = bestStep r s (bestTo r s (a * 9 + b * 3 + c)) (x, y, z) by rw [← Nat.add_assoc, bestTo_succ, HDK.out])
        have hbd := HBD.out (a * 9 + b * 3 + c)
        have HNX := Lib.hid (show z + 1 = ((c + 1 : Nat) : Int) - 1 ∧ c + 1 ≤ 3 by omega)
        obtain ⟨⟨p0, p1, p2⟩, hb2, hfb⟩ := RB.out _ _ HB3.out
        clear hz hc3 hb
        generalize bestTo r s (a * 9 + b * 3 + c) = st at *
        obtain ⟨sp, sf⟩ := st
        simp only at *
        go_upto_region 19 with fail
        obtain ⟨W1, hW1⟩ : ∃ W : World, wr.alloc (Obj.cells #[.int .i64 x, .int .i64 y, .int .i64 z] 29) = W := ⟨_, rfl⟩
        have kw1 : Below wr.heap.size wr W1 := by rw [← hW1]; exact (by repeat (first | exact Below.refl _ _ | assumption | (refine Below.drew ?_) | (refine below_drewN ?_ _) | (refine Below.alloc ?_ (by first | (simp; done) | (simp; omega) | omega) _) | (refine Below.setCell ?_ (by first | (simp; done) | (simp; omega) | omega) _) | (refine Below.trans ?_ (Below.mono (by assumption) (by first | (simp; done) | (simp; omega) | omega)))))
        have ks1 : W1.heap.size = wr.heap.size + 1 := by rw [← hW1]; simp
        have RD1 := Lib.hid (show ∀ V, Below W1.heap.size W1 V → V.cell? ⟨wr.heap.size, 0, none⟩ = some (.int .i64 x) ∧ V.cell? ⟨wr.heap.size, 1, none⟩ = some (.int .i64 y) ∧ V.cell? ⟨wr.heap.size, 2, none⟩ = some (.int .i64 z) from fun V h => by
            refine ⟨(h.cell (p := ⟨wr.heap.size, 0, none⟩) (by simp; omega)).trans ?_, (h.cell (p := ⟨wr.heap.size, 1, none⟩) (by simp; omega)).trans ?_, (h.cell (p := ⟨wr.heap.size, 2, none⟩) (by simp; omega)).trans ?_⟩ <;> (subst hW1; go_simp))
        have HW1 := Lib.hid hW1; have KW1 := Lib.hid kw1; clear hW1 kw1
        rw [HW1.out]
        have hsx : wr.heap.size ≤ W1.heap.size := by omega
        have K0 := (below_at KK0.out hs2 hb2).trans (KW1.out.mono (by omega))
        obtain ⟨k0_0, k0_1, k0_2, k0_3, k0_4, k0_5, k0_6, k0_7, k0_8, k0_9⟩ := RD0.out _ K0
        have hKQ := below_at KW0.out hsW K0
        have HRQ := Lib.hid (fun (V : World) (h : Below W1.heap.size W1 V) => HR.out.below (below_at hKQ (by have := K0.size; omega) h))
        have HSQ := Lib.hid (fun (V : World) (h : Below W1.heap.size W1 V) => HS.out.below (below_at hKQ (by have := K0.size; omega) h))
        have HCQ := Lib.hid (fun (V : World) (h : Below W1.heap.size W1 V) => RD0.out V (below_at K0 K0.size h))
        have HRD := Lib.hid RD1.out
        have HVD := Lib.hid (show Calls Tryz.prog 58 #[.int .i64 r.n, .agg #[.int .i64 x, .int .i64 y, .int .i64 z]] W1 fun e w' => e = .returned (.bool (dirB r.n (x, y, z))) ∧ Below W1.heap.size W1 w' from rValid_any r.n x y z W1)
        have HW7 := Lib.hid (fun (V : World) (h : Below W1.heap.size W1 V) => HB3.out.trans ((below_at KW1.out hsx h).mono (show w2.heap.size + 1 ≤ wr.heap.size by omega)))
        obtain ⟨e0, e1, e2⟩ := HRD.out W1 (Below.refl _ _)
        clear hKQ K0
        cases hd : dirB r.n (x, y, z)
        · have HSB := Lib.hid (show (sp, sf) = bestStep r s (sp, sf) (x, y, z) from (step_bad (by unfold goodB; rw [askS_dir hao.1 hao.2, hd]; rfl) _).symm)
          rw [hd] at HVD
          clear hd
          go_wp2_with (go_at_call 58; refine HVD.out.mono ?_; go_must (rintro e w6 ⟨rfl, hb6⟩))
          go_roundw
          case rel => exact ⟨z + 1, c + 1, rfl, HNX.out.1, HNX.out.2, by rw [HST.out, ← HSB.out], by rw [HST.out, ← HSB.out]; exact HW7.out _ hb6⟩
          case measure => simp only [intOf]; omega
        have ha : askS r s (x, y, z) = 0 := by rw [askS_dir hao.1 hao.2, hd]; rfl
        have hae : askE r (x, y, z) = 0 := by unfold askE; rw [if_pos hao.1, if_pos hd]
        have HCL := Lib.hid (fun (W : World) (h : RecRd W r) => rclash_l r s (x, y, z) ha W h)
        have HCE := Lib.hid (fun (W : World) (h : RecRd W r) => rcells_l r (x, y, z) hae W h)
        have HC4 := Lib.hid (HCX.out (x, y, z))
        have hcl := cellsL_len r (x, y, z)
        have hnp : (ptsL r.n r.l).length ≤ 1000 := (validR_out hao.1).2.1
        have hnn : 0 < (ptsL r.n r.l).length := by rw [HLL.out]; exact HLN.out
        rw [hd] at HVD
        clear hd hae
        cases hc : clashL r s (x, y, z) with
        | some q =>
          have HSB := Lib.hid (show (sp, sf) = bestStep r s (sp, sf) (x, y, z) from (step_bad (by unfold goodB; rw [hc]; simp) _).symm)
          rw [hc] at HCL
          obtain ⟨qi, qk⟩ := q
          simp only [rclashV, clashPts, elV] at HCL
          generalize (ptsL r.n r.l).getD qi (0, 0, 0) = c1 at *
          generalize (ptsL r.n r.l).getD qk (0, 0, 0) = c2 at *
          clear ha hc hcl hnp hnn
          go_wp2_with (first | (go_at_call 58; refine HVD.out.mono ?_; go_must (rintro e w6 ⟨rfl, hb6⟩; obtain ⟨k0, k1, k2, k3, k4, k5, k6, k7, k8, k9⟩ := HCQ.out _ hb6; obtain ⟨f0, f1, f2⟩ := HRD.out _ hb6; have HB6 := Lib.hid hb6; clear hb6)) | (go_at_call 59; refine (HCL.out _ (HRQ.out _ HB6.out)).mono ?_; go_must (rintro e w7 ⟨rfl, hb7⟩; have HB7 := Lib.hid (below_at HB6.out HB6.out.size hb7); have hs7 := HB7.out.size; clear hb7)))
          go_roundw
          case rel => exact ⟨z + 1, c + 1, rfl, HNX.out.1, HNX.out.2, by rw [HST.out, ← HSB.out], by rw [HST.out, ← HSB.out]; exact HW7.out _ ((HB7.out.alloc (by omega) _).alloc (by simp; omega) _)⟩
          case measure => simp only [intOf]; omega
        | none =>
          have HG := Lib.hid (show goodB r s (x, y, z) = true by unfold goodB; rw [hc, decide_eq_true ha, decide_eq_true hnn]; rfl)
          rw [hc] at HCL
          simp only [rclashV, clashPts, elV] at HCL
          clear ha hc hnn
          by_cases hq : sf = 0 ∨ (cellsL r (x, y, z)).length < sf
          · have HSB := Lib.hid (step_take HG.out (st := (sp, sf)) hq)
            generalize cellsL r (x, y, z) = CL at *
            have hq' : (((sf : Int) == 0) = true) ∨ ((((sf : Int) == 0) = false) ∧ (CL.length : Int) < (sf : Int)) := by
              rcases hq with hq | hq
              · left; rw [beq_iff_eq]; omega
              · right; refine ⟨?_, by omega⟩; rw [beq_eq_false_iff_ne]; omega
            clear hq
            rcases hq' with hq | ⟨hq, hq2⟩
            all_goals
              go_wp2_with (first | (go_at_call 58; refine HVD.out.mono ?_; go_must (rintro e w6 ⟨rfl, hb6⟩; obtain ⟨k0, k1, k2, k3, k4, k5, k6, k7, k8, k9⟩ := HCQ.out _ hb6; obtain ⟨f0, f1, f2⟩ := HRD.out _ hb6; have HB6 := Lib.hid hb6; clear hb6)) | (go_at_call 59; refine (HCL.out _ (HRQ.out _ HB6.out)).mono ?_; go_must (rintro e w7 ⟨rfl, hb7⟩; have HB7 := Lib.hid (below_at HB6.out HB6.out.size hb7); have hs7 := HB7.out.size; clear hb7; have HE7 := Lib.hid ((HB7.out.alloc (by omega) (Obj.cells #[.int .i64 0, .int .i64 0, .int .i64 0, .int .i64 0] 55)).alloc (by simp; omega) (Obj.cells #[.int .i64 0, .int .i64 0, .int .i64 0, .int .i64 0] 55)); obtain ⟨k0, k1, k2, k3, k4, k5, k6, k7, k8, k9⟩ := HCQ.out _ HB7.out; obtain ⟨g0, g1, g2⟩ := HRD.out _ HB7.out; have q2 := z2 (show w.heap.size + 1 + 1 ≤ w7.heap.size by omega); have q1 := z1 (show wr.heap.size + 1 ≤ w7.heap.size by omega))) | (go_at_call 55; refine (HCE.out _ (HRQ.out _ HE7.out)).mono ?_; go_must (rintro e w8 ⟨hce, hb8⟩; obtain ⟨cv, rfl, hcs⟩ := HC4.out _ _ hce; obtain ⟨ca, cc, hcv, -⟩ := hcs.shape; subst hcv; clear hcs hce; have HB8 := Lib.hid (below_at HE7.out HE7.out.size hb8); clear hb8; obtain ⟨y0, y1, y2⟩ := HRD.out _ HB8.out; have HX7 := Lib.hid (HW7.out _ HB8.out); obtain ⟨⟨z0, z1, z2⟩, hz2, hfz⟩ := RB.out _ _ HX7.out)))
              go_roundw
              case rel => exact ⟨z + 1, c + 1, rfl, HNX.out.1, HNX.out.2, by rw [HST.out, HSB.out], by
                rw [HST.out, HSB.out]
                have := below_setBoth (below_setBoth (below_setBoth HX7.out ⟨w2.heap.size, 0, none⟩ (.int .i64 x)) ⟨w2.heap.size, 1, none⟩ (.int .i64 y)) ⟨w2.heap.size, 2, none⟩ (.int .i64 z)
                rw [alloc_set3] at this
                exact this⟩
              case measure => simp only [intOf]; omega
          · have HSB := Lib.hid (step_keep (r := r) (s := s) (d := (x, y, z)) (st := (sp, sf)) hq)
            generalize cellsL r (x, y, z) = CL at *
            have hq1 : ((sf : Int) == 0) = false := by rw [beq_eq_false_iff_ne]; omega
            have hq2 : ¬ ((CL.length : Int) < (sf : Int)) := by omega
            go_wp2_with (first | (go_at_call 58; refine HVD.out.mono ?_; go_must (rintro e w6 ⟨rfl, hb6⟩; obtain ⟨k0, k1, k2, k3, k4, k5, k6, k7, k8, k9⟩ := HCQ.out _ hb6; obtain ⟨f0, f1, f2⟩ := HRD.out _ hb6; have HB6 := Lib.hid hb6; clear hb6)) | (go_at_call 59; refine (HCL.out _ (HRQ.out _ HB6.out)).mono ?_; go_must (rintro e w7 ⟨rfl, hb7⟩; have HB7 := Lib.hid (below_at HB6.out HB6.out.size hb7); have hs7 := HB7.out.size; clear hb7; have HE7 := Lib.hid ((HB7.out.alloc (by omega) (Obj.cells #[.int .i64 0, .int .i64 0, .int .i64 0, .int .i64 0] 55)).alloc (by simp; omega) (Obj.cells #[.int .i64 0, .int .i64 0, .int .i64 0, .int .i64 0] 55)); obtain ⟨k0, k1, k2, k3, k4, k5, k6, k7, k8, k9⟩ := HCQ.out _ HB7.out; obtain ⟨g0, g1, g2⟩ := HRD.out _ HB7.out; have q2 := z2 (show w.heap.size + 1 + 1 ≤ w7.heap.size by omega); have q1 := z1 (show wr.heap.size + 1 ≤ w7.heap.size by omega))) | (go_at_call 55; refine (HCE.out _ (HRQ.out _ HE7.out)).mono ?_; go_must (rintro e w8 ⟨hce, hb8⟩; obtain ⟨cv, rfl, hcs⟩ := HC4.out _ _ hce; obtain ⟨ca, cc, hcv, -⟩ := hcs.shape; subst hcv; clear hcs hce; have HB8 := Lib.hid (below_at HE7.out HE7.out.size hb8); clear hb8)))
            go_roundw
            case rel => exact ⟨z + 1, c + 1, rfl, HNX.out.1, HNX.out.2, by rw [HST.out, HSB.out], by rw [HST.out, HSB.out]; exact HW7.out _ HB8.out⟩
            case measure => simp only [intOf]; omega
end Go.Proofs.YtndfdgdahinkpaaGreat
