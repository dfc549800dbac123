/- The moves of all arguments: the reference's Move and Moves: their walks. -/
import Derived.Test.YtndfdgdahinkpaaCelK
namespace Go.Proofs.Ytndfdgdahinkpaa
open Go.RowKit Go.Lib
set_option linter.unusedVariables false
set_option maxHeartbeats 4000000 in
set_option maxRecDepth 100000 in
theorem Move_l (r : RecD) (u : P3) (a : ArgD) (hd : dirB r.n u = true) (hf : flatB r.n a.at_.1 a.at_.2.1 a.at_.2.2 3 = true) (hb : (-80 ≤ (cellC r.n u a.at_).1 ∧ (cellC r.n u a.at_).1 ≤ 80) ∧ (-80 ≤ (cellC r.n u a.at_).2 ∧ (cellC r.n u a.at_).2 ≤ 80)) (w : World) :
    Calls Try.prog 61 #[.agg #[.int .i64 r.n, r.lv, r.vv], .agg #[.int .i64 u.1, .int .i64 u.2.1, .int .i64 u.2.2], .agg #[.int .i64 a.var, .int .i64 a.at_.1, .int .i64 a.at_.2.1, .int .i64 a.at_.2.2]] w fun e w' => e = .returned (.agg #[.int .i64 (moveC r.n u a).1, .int .i64 (moveC r.n u a).2]) ∧ Below w.heap.size w w' := by
  have HF := Lib.hid (fun (W : World) => rFold_l r.n u a.at_ hd 3 hf W)
  have HM := Lib.hid (show moveC r.n u a = (-(cellC r.n u a.at_).1, -(cellC r.n u a.at_).2) from rfl)
  clear hd hf
  generalize moveC r.n u a = m at *
  generalize cellC r.n u a.at_ = c at *
  obtain ⟨c0, c1⟩ := c
  simp only at hb HF HM
  obtain ⟨⟨b0, b1⟩, b2, b3⟩ := hb
  obtain ⟨W0, hW0⟩ : ∃ W : World, (((w.alloc (Obj.cells #[.int .i64 r.n, r.lv, r.vv] 27)).alloc (Obj.cells #[.int .i64 u.1, .int .i64 u.2.1, .int .i64 u.2.2] 29)).alloc (Obj.cells #[.int .i64 a.var, .int .i64 a.at_.1, .int .i64 a.at_.2.1, .int .i64 a.at_.2.2] 123)).alloc (Obj.cells #[.int .i64 0, .int .i64 0] 31) = W := ⟨_, rfl⟩
  have kw0 : Below w.heap.size w W0 := by rw [← hW0]; exact (by repeat (first | exact Below.refl _ _ | assumption | (refine Below.drew ?_) | (refine below_drewN ?_ _) | (refine Below.alloc ?_ (by first | (simp; done) | (simp; omega) | omega) _) | (refine Below.setCell ?_ (by first | (simp; done) | (simp; omega) | omega) _) | (refine Below.trans ?_ (Below.mono (by assumption) (by first | (simp; done) | (simp; omega) | omega)))))
  have ks0 : W0.heap.size = w.heap.size + 4 := by rw [← hW0]; simp
  have RD0 := Lib.hid (show ∀ V, Below W0.heap.size W0 V → V.cell? ⟨w.heap.size, 0, none⟩ = some (.int .i64 r.n) ∧ V.cell? ⟨w.heap.size, 1, none⟩ = some (r.lv) ∧ V.cell? ⟨w.heap.size, 2, none⟩ = some (r.vv) ∧ V.cell? ⟨w.heap.size + 1, 0, none⟩ = some (.int .i64 u.1) ∧ V.cell? ⟨w.heap.size + 1, 1, none⟩ = some (.int .i64 u.2.1) ∧ V.cell? ⟨w.heap.size + 1, 2, none⟩ = some (.int .i64 u.2.2) ∧ V.cell? ⟨w.heap.size + 1 + 1, 0, none⟩ = some (.int .i64 a.var) ∧ V.cell? ⟨w.heap.size + 1 + 1, 1, none⟩ = some (.int .i64 a.at_.1) ∧ V.cell? ⟨w.heap.size + 1 + 1, 2, none⟩ = some (.int .i64 a.at_.2.1) ∧ V.cell? ⟨w.heap.size + 1 + 1, 3, none⟩ = some (.int .i64 a.at_.2.2) ∧ V.cell? ⟨w.heap.size + 1 + 1 + 1, 0, none⟩ = some (.int .i64 0) ∧ V.cell? ⟨w.heap.size + 1 + 1 + 1, 1, none⟩ = some (.int .i64 0) from fun V h => by
      refine ⟨(h.cell (p := ⟨w.heap.size, 0, none⟩) (by simp; omega)).trans ?_, (h.cell (p := ⟨w.heap.size, 1, none⟩) (by simp; omega)).trans ?_, (h.cell (p := ⟨w.heap.size, 2, none⟩) (by simp; omega)).trans ?_, (h.cell (p := ⟨w.heap.size + 1, 0, none⟩) (by simp; omega)).trans ?_, (h.cell (p := ⟨w.heap.size + 1, 1, none⟩) (by simp; omega)).trans ?_, (h.cell (p := ⟨w.heap.size + 1, 2, none⟩) (by simp; omega)).trans ?_, (h.cell (p := ⟨w.heap.size + 1 + 1, 0, none⟩) (by simp; omega)).trans ?_, (h.cell (p := ⟨w.heap.size + 1 + 1, 1, none⟩) (by simp; omega)).trans ?_, (h.cell (p := ⟨w.heap.size + 1 + 1, 2, none⟩) (by simp; omega)).trans ?_, (h.cell (p := ⟨w.heap.size + 1 + 1, 3, none⟩) (by simp; omega)).trans ?_, (h.cell (p := ⟨w.heap.size + 1 + 1 + 1, 0, none⟩) (by simp; omega)).trans ?_, (h.cell (p := ⟨w.heap.size + 1 + 1 + 1, 1, none⟩) (by simp; omega)).trans ?_⟩ <;> (subst hW0; go_simp))
  have HW0 := Lib.hid hW0; have KW0 := Lib.hid kw0; clear hW0 kw0
  go_enter Try.func61, Try.ntmps61
  go_wp2_with (go_at_call 60; rw [HW0.out]; refine (HF.out _).mono ?_; go_must (rintro e w1 ⟨rfl, hb1⟩; have K0 := hb1; have HB1 := Lib.hid hb1; clear hb1; obtain ⟨k0_0, k0_1, k0_2, k0_3, k0_4, k0_5, k0_6, k0_7, k0_8, k0_9, k0_10, k0_11⟩ := RD0.out _ K0; have hs1 := K0.size; have hfz := fun b o (h : b < W0.heap.size) => (bcellB K0).2 b o h; rw [← HW0.out] at hfz; have zz := z4 (show w.heap.size + 1 + 1 + 1 + 1 ≤ w1.heap.size by omega)))
  have KX := KW0.out.trans (K0.mono (by omega))
  refine bodyPost_ret (v := .agg #[.int .i64 (-c0), .int .i64 (-c1)]) (by simp only [results, Try.results61]; first | (go_simp; done) | (go_simp; rfl)) rfl ⟨by rw [HM.out], ?_⟩
  refine Below.alloc ?_ (by first | (simp; done) | (simp; omega)) _
  exact (by (repeat (first | (with_reducible refine Below.setCell ?_ (by first | (simp; done) | (simp; omega) | omega) _) | (with_reducible refine Below.drew ?_) | (with_reducible refine below_drewN ?_ _))); with_reducible exact KX)
set_option maxHeartbeats 4000000 in
set_option maxRecDepth 100000 in
theorem rMoves_l (r : RecD) (u : P3) (w : World) (hr : RecRd w r) :
    Calls Try.prog 34 #[.agg #[.int .i64 r.n, r.lv, r.vv], .agg #[.int .i64 u.1, .int .i64 u.2.1, .int .i64 u.2.2]] w fun e w' => MovesR r u e w' ∧ Below w.heap.size w w' := by
  have HR := Lib.hid hr
  clear hr
  have HAS := Lib.hid (fun (W : World) (h : RecRd W r) => Asked_l r u W h)
  obtain ⟨W0, hW0⟩ : ∃ W : World, (w.alloc (Obj.cells #[.int .i64 r.n, r.lv, r.vv] 27)).alloc (Obj.cells #[.int .i64 u.1, .int .i64 u.2.1, .int .i64 u.2.2] 29) = W := ⟨_, rfl⟩
  have kw0 : Below w.heap.size w W0 := by rw [← hW0]; exact (by repeat (first | exact Below.refl _ _ | assumption | (refine Below.drew ?_) | (refine below_drewN ?_ _) | (refine Below.alloc ?_ (by first | (simp; done) | (simp; omega) | omega) _) | (refine Below.setCell ?_ (by first | (simp; done) | (simp; omega) | omega) _) | (refine Below.trans ?_ (Below.mono (by assumption) (by first | (simp; done) | (simp; omega) | omega)))))
  have ks0 : W0.heap.size = w.heap.size + 2 := by rw [← hW0]; simp
  have RD0 := Lib.hid (show ∀ V, Below W0.heap.size W0 V → V.cell? ⟨w.heap.size, 0, none⟩ = some (.int .i64 r.n) ∧ V.cell? ⟨w.heap.size, 1, none⟩ = some (r.lv) ∧ V.cell? ⟨w.heap.size, 2, none⟩ = some (r.vv) ∧ V.cell? ⟨w.heap.size + 1, 0, none⟩ = some (.int .i64 u.1) ∧ V.cell? ⟨w.heap.size + 1, 1, none⟩ = some (.int .i64 u.2.1) ∧ V.cell? ⟨w.heap.size + 1, 2, none⟩ = some (.int .i64 u.2.2) from fun V h => by
      refine ⟨(h.cell (p := ⟨w.heap.size, 0, none⟩) (by simp; omega)).trans ?_, (h.cell (p := ⟨w.heap.size, 1, none⟩) (by simp; omega)).trans ?_, (h.cell (p := ⟨w.heap.size, 2, none⟩) (by simp; omega)).trans ?_, (h.cell (p := ⟨w.heap.size + 1, 0, none⟩) (by simp; omega)).trans ?_, (h.cell (p := ⟨w.heap.size + 1, 1, none⟩) (by simp; omega)).trans ?_, (h.cell (p := ⟨w.heap.size + 1, 2, none⟩) (by simp; omega)).trans ?_⟩ <;> (subst hW0; go_simp))
  have HW0 := Lib.hid hW0; have KW0 := Lib.hid kw0; clear hW0 kw0
  by_cases ha : askE r u = 0
  rotate_left
  · have HE := Lib.hid (fun w' => movesR_err (rfl : askE r u = askE r u) ha w')
    have hnz : (askE r u != 0) = true := by simpa using ha
    clear ha
    generalize hA : askE r u = A at *
    have HA := Lib.hid hA; clear hA
    go_enter Try.func34, Try.ntmps34
    go_wp2_with (go_at_call 25; rw [HW0.out]; refine (HAS.out _ (HR.out.below KW0.out)).mono ?_; go_must (rintro e w1 ⟨rfl, hb1⟩; have K0 := hb1; have HB1 := Lib.hid hb1; clear hb1; obtain ⟨k0_0, k0_1, k0_2, k0_3, k0_4, k0_5⟩ := RD0.out _ K0; skip))
    go_ret2
    exact ⟨HE.out _, below_at KW0.out (by omega) K0⟩
  have HA := Lib.hid ha
  have HAO := Lib.hid (askE_ok ha)
  have HY := Lib.hid (fun (w' : World) (v : Value) (hs : RowsSl w' 2 encC v (movesL r u)) => movesR_ok ha hs)
  have hnv : r.vars.length ≤ 4 := (validR_out HAO.out.1).2.2.1.2
  have HMV := Lib.hid (fun (v : VarD) (hv : v ∈ r.vars) (a : ArgD) (ha : a ∈ v.args) (W : World) => Move_l r u a HAO.out.2 (arg_flat HAO.out.1 hv ha).1 (arg_cell HAO.out.1 HAO.out.2 hv ha) W)
  have HML := Lib.hid (show movesL r u = r.vars.map (fun v => v.args.map (moveC r.n u)) from rfl)
  have HAN := Lib.hid (fun (v : VarD) (hv : v ∈ r.vars) => arg_len HAO.out.1 hv)
  clear ha
  obtain ⟨va, vc, gv, ov, hve, hlv, hcv, hxv⟩ := SlOf.at (enc := encV) (fun _ => rfl) un_vars sz_vars HR.out.vars
  have HVX := Lib.hid hxv; clear hxv
  unfold maxLen at hcv
  generalize moveC r.n u = M at *
  have HVE := Lib.hid hve; clear hve
  go_enter Try.func34, Try.ntmps34
  go_wp2_with (go_at_call 25; rw [HW0.out]; refine (HAS.out _ (HR.out.below KW0.out)).mono ?_; go_must (rintro e w1 ⟨rfl, hb1⟩; have K0 := hb1; have HB1 := Lib.hid hb1; clear hb1; obtain ⟨k0_0, k0_1, k0_2, k0_3, k0_4, k0_5⟩ := RD0.out _ K0; rw [HA.out]))
  (try clear k0_0); (try clear k0_1); (try clear k0_2); (try clear k0_3); (try clear k0_4); (try clear k0_5)
  have hs1 := HB1.out.size
  have hww : w.heap.size ≤ w1.heap.size := by omega
  have HKW := Lib.hid (below_at KW0.out (by omega) HB1.out)
  have RV := Lib.hid (show ∀ V, Below w1.heap.size w1 V → V.cell? ⟨w.heap.size, 0, none⟩ = some (.int .i64 r.n) ∧ V.cell? ⟨w.heap.size, 1, none⟩ = some r.lv ∧ V.cell? ⟨w.heap.size, 2, none⟩ = some (.slice va r.vars.length vc) ∧ V.cell? ⟨w.heap.size + 1, 0, none⟩ = some (.int .i64 u.1) ∧ V.cell? ⟨w.heap.size + 1, 1, none⟩ = some (.int .i64 u.2.1) ∧ V.cell? ⟨w.heap.size + 1, 2, none⟩ = some (.int .i64 u.2.2) from fun V h => by have := RD0.out V (below_at HB1.out hs1 h); rwa [HVE.out] at this)
  have hw01 : w.heap.size + 1 < w1.heap.size := by omega
  clear K0 ks0 RD0
  go_loopw [7, 8] (fun t7 t8 wr => ∃ (i : Nat) (vs : List Value), i ≤ r.vars.length ∧ vs.length = i ∧ t8 = .int .i64 (i : Nat) ∧ Hid (OwnOf wr w1.heap.size 64 1 encW t7 vs) ∧ Hid (RowsOf wr 2 encC t7.ownBlock vs ((r.vars.take i).map (fun v => v.args.map M))) ∧ Below w1.heap.size w1 wr) (fun _ t8 _ => r.vars.length - (intOf t8).toNat)
  case atStart => exact ⟨0, [], Nat.zero_le _, rfl, rfl, Lib.hid (OwnOf.nil _ _ _ _ _), Lib.hid (RowsOf.nil _ _ _ _), Below.refl _ _⟩
  case round =>
    obtain ⟨i, vs, hi, hvs, rfl, HO, HRW, hb⟩ := hrel
    have hs := hb.size
    obtain ⟨k0, k1, k2, k3, k4, k5⟩ := RV.out wr hb
    by_cases hlt : i < r.vars.length
    rotate_left
    · have hie : i = r.vars.length := by omega
      have HF := Lib.hid (show RowsSl wr 2 encC u7 (movesL r u) from ⟨vs, HO.out.sl, by rw [HML.out, List.length_map]; omega, fun j x l h1 h2 => HRW.out.row j x l h1 (by rw [HML.out] at h2; rw [hie, List.take_length]; exact h2)⟩)
      go_wp2
      go_ret2
      exact ⟨HY.out _ _ HF.out, HKW.out.trans (hb.mono hww)⟩
    obtain ⟨-, hii, hg, hc⟩ := HVX.out i hlt
    have hmem : r.vars[i] ∈ r.vars := List.getElem_mem hlt
    have HVR := Lib.hid (HR.out.each r.vars[i] hmem)
    have HMV2 := Lib.hid (HMV.out r.vars[i] hmem)
    have hal := HAN.out r.vars[i] hmem
    have RC := Lib.hid (show ∀ V, Below w.heap.size w V → V.cell? ⟨gv, ov + 7 * i + 2, none⟩ = some r.vars[i].argsV from fun V h => (h.cell (p := ⟨gv, ov + 7 * i + 2, none⟩) hg).trans (hc 2 (by omega)))
    clear hc
    have HT := Lib.hid (show (r.vars.take (i + 1)).map (fun v => v.args.map M) = (r.vars.take i).map (fun v => v.args.map M) ++ [r.vars[i].args.map M] by rw [List.take_succ_eq_append_getElem hlt, List.map_append]; rfl)
    have HLT := Lib.hid hlt
    have hilt : (i : Int) < (r.vars.length : Int) := by omega
    clear hmem
    generalize (r.vars.take i).map (fun v => v.args.map M) = LL at *
    generalize r.vars[i] = x at *
    obtain ⟨s, op, av, args, i0, i1, i2, i3⟩ := x
    have hvr := HVR.out.1
    simp only at hvr hal HMV2 HT RC
    obtain ⟨aa, ac, ga, oa, rfl, hla, hca, hxa⟩ := SlOf.at (enc := encA) (fun _ => rfl) un_va sz_va2 hvr
    have HAX := Lib.hid hxa
    unfold maxLen at hca
    clear hxa hvr HVR
    have hgv : gv < w1.heap.size := by omega
    go_wp2
    have HB := Lib.hid hb
    clear k0 k1 k2 k3 k4 k5 hb
    obtain ⟨wo, rfl⟩ : ∃ x : World, x = wr := ⟨_, rfl⟩
    go_loopw [9, 10] (fun t9 t10 wr => ∃ k : Nat, k ≤ args.length ∧ t10 = .int .i64 (k : Nat) ∧ Hid (OwnOf wr wo.heap.size 31 2 encC t9 ((args.take k).map M)) ∧ Below wo.heap.size wo wr) (fun _ t10 _ => args.length - (intOf t10).toNat)
    case atStart => exact ⟨0, Nat.zero_le _, rfl, Lib.hid (OwnOf.nil _ _ _ _ _), Below.refl _ _⟩
    case round =>
      obtain ⟨k, hk, rfl, HOI, hb⟩ := hrel
      have hs2 := hb.size
      have hk1 : Below w1.heap.size w1 wr := below_at HB.out hs hb
      obtain ⟨k0, k1, k2, k3, k4, k5⟩ := RV.out wr hk1
      have hq := RC.out wr (HKW.out.trans (hk1.mono hww))
      by_cases hltk : k < args.length
      rotate_left
      · have hke : k = args.length := by omega
        have HOL := Lib.hid (show OwnOf wr wo.heap.size 31 2 encC u9 (args.map M) by have := HOI.out; rwa [hke, List.take_length] at this)
        obtain ⟨la, lc, hle⟩ := HOL.out.shape
        rw [List.length_map] at hle
        subst hle
        have HO2 := Lib.hid (HO.out.kept hb)
        have HR2 := Lib.hid (HRW.out.kept hb)
        have hw1r : w1.heap.size ≤ wr.heap.size := by omega
        go_wp2_with (at_builtin; refine wpList_push rfl _ _ _ rfl slRw HO2.out rfl rfl (by first | rfl | simp) rfl rfl (by omega) (by omega) (by omega) ?_; intro g5 c5 w6 hown6 hg6 hat6)
        go_roundw
        case rel =>
          refine ⟨i + 1, vs ++ [.slice la args.length lc], HLT.out, by simp; omega, by simp, Lib.hid (OwnOf.snoc (l := vs) (x := Value.slice la args.length lc) (enc := encW) (by rw [← hvs]; simpa [encW] using hown6) rfl), Lib.hid ?_, OwnOf.push hk1 HO2.out (Nat.le_refl _) (by omega) hg6⟩
          rw [HT.out]
          exact HR2.out.push HOL.out.sl (fun g e => ⟨(HOL.out.lt g e).2, fun e2 => by have := (HOL.out.lt g e).1; have := (HO.out.lt g e2).2; omega⟩) hg6 hat6
        case measure => simp only [intOf]; have := HLT.out; omega
      obtain ⟨-, hik, hg2, hc⟩ := HAX.out k hltk
      have AC := Lib.hid (show ∀ V, Below w.heap.size w V → V.cell? ⟨ga, oa + 4 * k, none⟩ = some (.int .i64 args[k].var) ∧ V.cell? ⟨ga, oa + 4 * k + 1, none⟩ = some (.int .i64 args[k].at_.1) ∧ V.cell? ⟨ga, oa + 4 * k + 2, none⟩ = some (.int .i64 args[k].at_.2.1) ∧ V.cell? ⟨ga, oa + 4 * k + 3, none⟩ = some (.int .i64 args[k].at_.2.2) from fun V h => ⟨(h.cell (p := ⟨ga, oa + 4 * k, none⟩) hg2).trans (hc 0 (by omega)), (h.cell (p := ⟨ga, oa + 4 * k + 1, none⟩) hg2).trans (hc 1 (by omega)), (h.cell (p := ⟨ga, oa + 4 * k + 2, none⟩) hg2).trans (hc 2 (by omega)), (h.cell (p := ⟨ga, oa + 4 * k + 3, none⟩) hg2).trans (hc 3 (by omega))⟩)
      clear hc
      have HTK := Lib.hid (show (args.take (k + 1)).map M = (args.take k).map M ++ [M args[k]] by rw [List.take_succ_eq_append_getElem hltk, List.map_append]; rfl)
      have HLK2 := Lib.hid hltk
      have hacc : ((args.take k).map M).length + 1 ≤ 1073741824 := by rw [List.length_map, List.length_take]; omega
      have hkl : (k : Int) < (args.length : Int) := by omega
      have HSK := Lib.hid (fun (W : World) => HMV2.out args[k] (List.getElem_mem hltk) W)
      generalize (args.take k).map M = D at *
      generalize args[k] = y at *
      generalize M y = m at *
      obtain ⟨yv, y0, y1, y2⟩ := y
      obtain ⟨m0, m1⟩ := m
      simp only at HSK AC
      obtain ⟨da, dc, hde⟩ := HOI.out.shape
      subst hde
      obtain ⟨c0, c1, c2, c3⟩ := AC.out wr (HKW.out.trans (hk1.mono hww))
      have hwo : w1.heap.size ≤ wr.heap.size := by omega
      have SX := Lib.hid (show ∀ V, Below wo.heap.size wr V → Below wo.heap.size wr V ∧ (V.cell? ⟨w.heap.size, 0, none⟩ = some (.int .i64 r.n) ∧ V.cell? ⟨w.heap.size, 1, none⟩ = some r.lv ∧ V.cell? ⟨w.heap.size, 2, none⟩ = some (.slice va r.vars.length vc) ∧ V.cell? ⟨w.heap.size + 1, 0, none⟩ = some (.int .i64 u.1) ∧ V.cell? ⟨w.heap.size + 1, 1, none⟩ = some (.int .i64 u.2.1) ∧ V.cell? ⟨w.heap.size + 1, 2, none⟩ = some (.int .i64 u.2.2)) ∧ V.cell? ⟨gv, ov + 7 * i + 2, none⟩ = some (.slice aa args.length ac) ∧ V.cell? ⟨ga, oa + 4 * k, none⟩ = some (.int .i64 yv) ∧ V.cell? ⟨ga, oa + 4 * k + 1, none⟩ = some (.int .i64 y0) ∧ V.cell? ⟨ga, oa + 4 * k + 2, none⟩ = some (.int .i64 y1) ∧ V.cell? ⟨ga, oa + 4 * k + 3, none⟩ = some (.int .i64 y2) from fun V h => by
        have h1 : Below w1.heap.size w1 V := hk1.trans (h.mono hs)
        have h2 := HKW.out.trans (h1.mono hww)
        exact ⟨h, RV.out V h1, RC.out V h2, AC.out V h2⟩)
      go_wp2_with fail
      go_region_held3 (fun w' => Below wo.heap.size wr w' ∧ (w'.cell? ⟨w.heap.size, 0, none⟩ = some (.int .i64 r.n) ∧ w'.cell? ⟨w.heap.size, 1, none⟩ = some r.lv ∧ w'.cell? ⟨w.heap.size, 2, none⟩ = some (.slice va r.vars.length vc) ∧ w'.cell? ⟨w.heap.size + 1, 0, none⟩ = some (.int .i64 u.1) ∧ w'.cell? ⟨w.heap.size + 1, 1, none⟩ = some (.int .i64 u.2.1) ∧ w'.cell? ⟨w.heap.size + 1, 2, none⟩ = some (.int .i64 u.2.2)) ∧ w'.cell? ⟨gv, ov + 7 * i + 2, none⟩ = some (.slice aa args.length ac) ∧ w'.cell? ⟨ga, oa + 4 * k, none⟩ = some (.int .i64 yv) ∧ w'.cell? ⟨ga, oa + 4 * k + 1, none⟩ = some (.int .i64 y0) ∧ w'.cell? ⟨ga, oa + 4 * k + 2, none⟩ = some (.int .i64 y1) ∧ w'.cell? ⟨ga, oa + 4 * k + 3, none⟩ = some (.int .i64 y2)) ((refine SX.out _ ?_; first | exact hbE | exact (Below.mono (show Below wr.heap.size wr _ from (by repeat (first | (with_reducible exact Below.refl _ _) | (with_reducible assumption) | (with_reducible refine Below.drew ?_) | (with_reducible refine Below.setCell ?_ (by first | (simp; done) | (simp; omega) | omega) _) | (with_reducible refine Below.alloc ?_ (by first | (simp; done) | (simp; omega) | omega) _) | (with_reducible refine below_drewN ?_ _) | (refine Below.trans ?_ (Below.mono (by with_reducible assumption) (by first | (simp; done) | (simp; omega) | omega)))))) hs2))) (first | (go_at_call 61; rw [HVE.out] at HSK; refine (HSK.out _).mono ?_; go_must (rintro e w5 ⟨rfl, hb5⟩; have hw5 : Below wr.heap.size wr w5 := (by exact (by repeat (first | (with_reducible exact Below.refl _ _) | (with_reducible assumption) | (with_reducible refine Below.drew ?_) | (with_reducible refine Below.setCell ?_ (by first | (simp; done) | (simp; omega) | omega) _) | (with_reducible refine Below.alloc ?_ (by first | (simp; done) | (simp; omega) | omega) _) | (with_reducible refine below_drewN ?_ _) | (refine Below.trans ?_ (Below.mono (by with_reducible assumption) (by first | (simp; done) | (simp; omega) | omega)))))); have hs5 := hw5.size; have HO5 := Lib.hid (HOI.out.kept hw5); have hsz5 : wo.heap.size ≤ w5.heap.size := (by omega))) | (refine step_push rfl _ _ _ (by rfl) slCe HO5.out (by rfl) (by rfl) (heap_alloc_new _ _) rfl rfl hacc (by omega) hsz5 (World.grownBy_alloc _ _ _) ?_; intro g7 c7 w7 hown7 hg7 hat7; have hbE : Below wo.heap.size wr w7 := below_push (hw5.mono hs2) HO5.out (Nat.le_refl _) hsz5 hg7))
      go_wp2
      go_roundw
      case rel => exact ⟨k + 1, HLK2.out, by simp, Lib.hid (by rw [HTK.out]; exact OwnOf.snoc (enc := encC) (by simpa [encC] using hown7) rfl), hb.trans hbE⟩
      case measure => simp only [intOf]; have := HLK2.out; omega
end Go.Proofs.Ytndfdgdahinkpaa
