/- The reference's Loads: its walk. Conditions: none. -/
import Derived.Test.YtnejicklenhpeaaGreatFldG
namespace Go.Proofs.YtnejicklenhpeaaGreat
open Go.RowKit Go.Lib
set_option linter.unusedVariables false
theorem slInt : SlT Tryz.prog 39 3 (.int .i64 0) 1 8 := ⟨Tryz.underlying39, by kernel_rfl, rfl, by decide⟩
theorem keepS_grown {W V V' : World} {N g : Nat} (h : KeepS (fun b => b = g) N W V) (hg : V.grownBy V' (some g)) (hN : N ≤ V.heap.size) : KeepS (fun b => b = g) N W V' :=
  h.trans (KeepS.grown hg hN (fun r e => by cases e; exact .inl rfl))
set_option maxHeartbeats 8000000 in
set_option maxRecDepth 100000 in
theorem rLoads_l (r : RecD) (u : P3) (f : Int × Int) (w : World) (hr : RecRd w r) :
    Calls Tryz.prog 19 #[.agg #[.int .i64 r.n, r.lv, r.vv], .agg #[.int .i64 u.1, .int .i64 u.2.1, .int .i64 u.2.2], .agg #[.int .i64 f.1, .int .i64 f.2]] w fun e w' => LoadR r u f w.heap.size e w' ∧ Below w.heap.size w w' := by
  have HERR := Lib.hid (fun (k : Int) (h : cutE r u f = k) (hk : k ≠ 0) w' => loadR_err (lo := w.heap.size) h hk w')
  have HOK := Lib.hid (fun (h : cutE r u f = 0) w' v hs => loadR_ok (lo := w.heap.size) h w' v hs)
  have HR := Lib.hid hr
  clear hr
  have HAS := Lib.hid (fun (W : World) (h : RecRd W r) => rasked_l r u f W h)
  obtain ⟨W0, hW0⟩ : ∃ W : World, ((w.alloc (Obj.cells #[.int .i64 r.n, r.lv, r.vv] 27)).alloc (Obj.cells #[.int .i64 u.1, .int .i64 u.2.1, .int .i64 u.2.2] 29)).alloc (Obj.cells #[.int .i64 f.1, .int .i64 f.2] 31) = W := ⟨_, rfl⟩
  have kw0 : Below w.heap.size w W0 := by rw [← hW0]; exact (by repeat (first | exact Below.refl _ _ | assumption | (refine Below.drew ?_) | (refine below_drewN ?_ _) | (refine Below.alloc ?_ (by first | (simp; done) | (simp; omega) | omega) _) | (refine Below.setCell ?_ (by first | (simp; done) | (simp; omega) | omega) _) | (refine Below.trans ?_ (Below.mono (by assumption) (by first | (simp; done) | (simp; omega) | omega)))))
  have ks0 : W0.heap.size = w.heap.size + 3 := by rw [← hW0]; simp
  have RD0 := Lib.hid (show ∀ V, Below W0.heap.size W0 V → V.cell? ⟨w.heap.size, 0, none⟩ = some (.int .i64 r.n) ∧ V.cell? ⟨w.heap.size, 1, none⟩ = some (r.lv) ∧ V.cell? ⟨w.heap.size, 2, none⟩ = some (r.vv) ∧ V.cell? ⟨w.heap.size + 1, 0, none⟩ = some (.int .i64 u.1) ∧ V.cell? ⟨w.heap.size + 1, 1, none⟩ = some (.int .i64 u.2.1) ∧ V.cell? ⟨w.heap.size + 1, 2, none⟩ = some (.int .i64 u.2.2) ∧ V.cell? ⟨w.heap.size + 1 + 1, 0, none⟩ = some (.int .i64 f.1) ∧ V.cell? ⟨w.heap.size + 1 + 1, 1, none⟩ = some (.int .i64 f.2) from fun V h => by
      refine ⟨(h.cell (p := ⟨w.heap.size, 0, none⟩) (by simp; omega)).trans ?_, (h.cell (p := ⟨w.heap.size, 1, none⟩) (by simp; omega)).trans ?_, (h.cell (p := ⟨w.heap.size, 2, none⟩) (by simp; omega)).trans ?_, (h.cell (p := ⟨w.heap.size + 1, 0, none⟩) (by simp; omega)).trans ?_, (h.cell (p := ⟨w.heap.size + 1, 1, none⟩) (by simp; omega)).trans ?_, (h.cell (p := ⟨w.heap.size + 1, 2, none⟩) (by simp; omega)).trans ?_, (h.cell (p := ⟨w.heap.size + 1 + 1, 0, none⟩) (by simp; omega)).trans ?_, (h.cell (p := ⟨w.heap.size + 1 + 1, 1, none⟩) (by simp; omega)).trans ?_⟩ <;> (subst hW0; go_simp))
  have HW0 := Lib.hid hW0; have KW0 := Lib.hid kw0; clear hW0 kw0
  have hks : w.heap.size ≤ W0.heap.size := by omega
  by_cases hc : cutE r u f = 0
  rotate_left
  · have HE := Lib.hid (fun w' => HERR.out (cutE r u f) rfl hc w')
    have hnz : (cutE r u f != 0) = true := by simpa using hc
    clear hc
    generalize hA : cutE r u f = A at *
    go_enter Tryz.func19, Tryz.ntmps19
    go_wp2_with (go_at_call 47; rw [HW0.out]; refine (HAS.out _ (HR.out.below KW0.out)).mono ?_; go_must (rintro e w1 ⟨rfl, hb1⟩))
    go_ret2
    exact ⟨HE.out _, below_at KW0.out hks hb1⟩
  have HY := Lib.hid (fun w' v h => HOK.out hc w' v h)
  obtain ⟨hae, hz⟩ := cutE_ok hc
  have HEA := Lib.hid (fun (W : World) (h : RecRd W r) => each_l r u f false hae hz W h)
  obtain ⟨hvr, hdr⟩ := askE_ok hae
  have hfb : (1 ≤ f.1 ∧ f.1 ≤ 8) ∧ (1 ≤ f.2 ∧ f.2 ≤ 8) := by simp only [eachB, decide_eq_true_eq] at hz; omega
  have HFB := Lib.hid hfb
  have hvo := validR_out hvr
  have hdo := validD_out hvo.1
  have HAL := Lib.hid (fun (W : World) (hw : SlOf W W.heap.size 4 encI r.lv r.l) => rAll_l r.n r.l hdo.1 hdo.2.2 W r.lv hw)
  have HCP := Lib.hid (fun (p : P3) (hp : p ∈ ptsL r.n r.l) (W : World) => And.intro (rFold_l r.n u p hdr 20 (((mem_ptsL hdo.1 p).1 hp).1) W) (cell_small hdr (pts_sm hvr hp)))
  have HLD := Lib.hid (show loadsL r u f = cntL (homesL r u f) ((ptsL r.n r.l).map (hcG r u f)) from rfl)
  have HMD := Lib.hid (show sortC ((cellsL r u).map (eachF f false)) = homesL r u f from rfl)
  have HGG := Lib.hid (show ∀ p, hcG r u f p = homC f (cellC r.n u p) from fun p => rfl)
  have hlM : (homesL r u f).length ≤ 1000 := Nat.le_trans (sortC_len _) (by rw [List.length_map]; exact cellsL_len hae)
  have hlL : (ptsL r.n r.l).length ≤ 1000 := hvo.2.1
  have HHS := Lib.hid (show ∀ t ∈ homesL r u f, wf2 t from fun t ht => by
    unfold homesL at ht
    rw [mem_sortC, List.mem_map] at ht
    obtain ⟨c, -, rfl⟩ := ht
    have h := HFB.out
    have d3 := Int.emod_nonneg c.1 (show f.1 ≠ 0 by omega)
    have d4 := Int.emod_nonneg c.2 (show f.2 ≠ 0 by omega)
    have d5 := Int.emod_lt_of_pos c.1 (show 0 < f.1 by omega)
    have d6 := Int.emod_lt_of_pos c.2 (show 0 < f.2 by omega)
    exact ⟨wf_sm (show _ ≤ c.1 % f.1 ∧ c.1 % f.1 ≤ _ by omega), wf_sm (show _ ≤ c.2 % f.2 ∧ c.2 % f.2 ≤ _ by omega)⟩)
  clear hfb hz hvr hdr hae hvo hdo HERR HOK
  have hmm := @run_makeMap Tryz.prog
  go_enter Tryz.func19, Tryz.ntmps19
  go_wp2_with (first | (go_at_call 47; rw [HW0.out]; refine (HAS.out _ (HR.out.below KW0.out)).mono ?_; go_must (rintro e w1 ⟨rfl, hb1⟩; rw [hc]; obtain ⟨b0, b1, b2, b3, b4, b5, b6, b7⟩ := RD0.out w1 hb1; have HB1 := Lib.hid hb1; have hs1 := hb1.size; have zz := z1 (show w.heap.size + 1 ≤ w1.heap.size by omega); clear hb1)) | (go_at_call 38; refine (HAL.out _ (HR.out.l.below (below_at KW0.out hks ((HB1.out.alloc (by omega) _))))).mono ?_; go_must (rintro e w2 ⟨⟨v2, rfl, ho2⟩, hb2⟩; obtain ⟨pa, pc, hpe, -⟩ := ho2.shape; subst hpe; have HO2 := Lib.hid ho2; have HB2 := Lib.hid hb2; clear ho2 hb2)))
  clear hmm
  have HW2 := Lib.hid (show Below w1.heap.size w1 w2 from ((Below.refl _ w1).alloc (Nat.le_refl _) _).trans (HB2.out.mono (by simp)))
  have HM2 := Lib.hid (show CntCM w2 w1.heap.size 0 [] from MapV.kept (CntCM.made w1) HB2.out)
  have hw2 : w1.heap.size < w2.heap.size := by have := HB2.out.size; simp at this; omega
  generalize homesL r u f = M at *
  generalize hcG r u f = G at *
  obtain ⟨pa2, pc2, g, off, he, hlc, hcm, hx⟩ := SlOf.at (enc := encP) (fun _ => rfl) un_pts sz_pts HO2.out
  cases he
  have HX := Lib.hid hx
  clear hx HO2
  generalize ptsL r.n r.l = L at *
  go_loopw [11] (fun t11 wr => ∃ k n2 : Nat, k ≤ L.length ∧ n2 ≤ k ∧ t11 = .int .i64 (k : Int) ∧ Hid (CntCM wr w1.heap.size n2 ((L.take k).map G)) ∧ Hid (w2.grownBy wr (some w1.heap.size))) (fun t11 _ => L.length - (intOf t11).toNat)
  case atStart => exact ⟨0, 0, Nat.zero_le _, Nat.le_refl _, rfl, HM2, Lib.hid (grown_refl _ _)⟩
  case round =>
    clear b0 b1 b2 b3 b4 b5 b6 b7
    obtain ⟨k, n2, hk, hn2, rfl, HM, HG⟩ := hrel
    have hsg := HG.out.size
    have HBW := Lib.hid (HW2.out.grown HG.out (by omega) (fun r e => by cases e; exact Nat.le_refl _))
    by_cases hlt2 : k < L.length
    rotate_left
    · have hke : k = L.length := by omega
      subst hke
      rw [List.take_length] at HM
      clear HX HCP HFB HAL HM2
      obtain ⟨b0, b1, b2, b3, b4, b5, b6, b7⟩ := RD0.out wr (HB1.out.trans (HBW.out.mono hs1))
      have HBE := Lib.hid (below_at KW0.out hks (HB1.out.trans (HBW.out.mono hs1)))
      go_wp2_with (go_at_call 48; refine (HEA.out _ (HR.out.below HBE.out)).mono ?_; go_must (rintro e w4 ⟨⟨v4, rfl, hs4⟩, hb4⟩; rw [HMD.out] at hs4; obtain ⟨ma, mc, hme, -⟩ := hs4.shape; subst hme; have HS4 := Lib.hid hs4; have HB4 := Lib.hid hb4; clear hs4 hb4))
      have HM4 := Lib.hid (MapV.kept HM.out HB4.out)
      have hs5 := HB4.out.size
      obtain ⟨ma2, mc2, mg, mo, mhe, mlc, mcm, mx⟩ := SlOf.at (enc := encC) (fun _ => rfl) un_ce sz_ce HS4.out
      cases mhe
      have HX4 := Lib.hid mx
      clear mx HS4 b0 b1 b2 b3 b4 b5 b6 b7
      obtain ⟨wo, rfl⟩ : ∃ x : World, x = wr := ⟨_, rfl⟩
      generalize hK : L.map G = K at *
      go_loopw [12, 14] (fun t12 t14 wr => ∃ i : Nat, i ≤ M.length ∧ t14 = .int .i64 (i : Int) ∧ Hid (OwnI wr w4.heap.size t12 ((cntL M K).take i)) ∧ Hid (Below w4.heap.size w4 wr)) (fun _ t14 _ => M.length - (intOf t14).toNat)
      case atStart => exact ⟨0, Nat.zero_le _, rfl, Lib.hid (OwnOf.nil _ _ _ _ _), Lib.hid (Below.refl _ _)⟩
      case round =>
        obtain ⟨i, hi, rfl, HI, HB⟩ := hrel
        have hs6 := HB.out.size
        by_cases hlt3 : i < M.length
        rotate_left
        · have hie : i = M.length := by omega
          subst hie
          rw [List.take_of_length_le (by rw [cntL_len]; exact Nat.le_refl _)] at HI
          obtain ⟨ia, ic, hie⟩ := HI.out.shape
          subst hie
          have HE := Lib.hid (show OwnI wr w.heap.size (.slice ia (cntL M K).length ic) (loadsL r u f) from by rw [HLD.out]; exact OwnOf.mono HI.out (by omega))
          have HBF := Lib.hid (HBE.out.trans ((HB4.out.mono (by omega)).trans (HB.out.mono (by omega))))
          go_wp2_with fail
          go_ret2
          exact ⟨HY.out _ _ HE.out, HBF.out⟩
        have hil : (i : Int) < (M.length : Int) := by omega
        have hi0 : (0 : Int) ≤ (i : Int) := by omega
        obtain ⟨-, hix, hgw, hcl⟩ := HX4.out i hlt3
        have r0 : wr.cell? ⟨mg, mo + 2 * i, none⟩ = some (.int .i64 M[i].1) := (HB.out.cell (p := ⟨mg, mo + 2 * i + 0, none⟩) hgw).trans (hcl 0 (by omega))
        have r1 : wr.cell? ⟨mg, mo + 2 * i + 1, none⟩ = some (.int .i64 M[i].2) := (HB.out.cell (p := ⟨mg, mo + 2 * i + 1, none⟩) hgw).trans (hcl 1 (by omega))
        have hlk := CntCM.look HM4.out M[i] (HHS.out _ (List.getElem_mem hlt3)) wr HB.out
        have HT := Lib.hid (show (cntL M K).take (i + 1) = (cntL M K).take i ++ [((idxs K M[i]).length : Int)] by
          rw [List.take_succ_eq_append_getElem (by rw [cntL_len]; exact hlt3)]
          simp [cntL])
        have hTl : ((cntL M K).take i).length + 1 ≤ 1073741824 := by rw [List.length_take]; omega
        generalize (cntL M K).take i = T at *
        generalize (idxs K M[i]).length = N at *
        generalize M[i] = t at *
        obtain ⟨t0, t1⟩ := t
        simp only [ceV] at hlk r0 r1
        have HO := Lib.hid (show wr.ownsRow w4.heap.size 3 1 _ T.length (T.flatMap encInt) from HI.out)
        obtain ⟨ia, ic, hie⟩ := HI.out.shape
        subst hie
        clear hcl
        go_wp2_with (at_builtin; refine wpList_push rfl _ _ _ rfl slInt HO.out rfl rfl (by first | rfl | simp) rfl rfl hTl (by omega) (by omega) ?_; intro g5 c5 w6 hown6 hg6 hat6)
        go_roundw
        case rel => exact ⟨i + 1, hlt3, by simp, Lib.hid (by rw [HT.out]; exact OwnOf.snoc (l := T) (x := (N : Int)) (enc := encInt) (by simpa [encInt] using hown6) rfl), Lib.hid (HB.out.grown hg6 (by omega) (fun r e => (OwnOf.lt HI.out r e).1))⟩
        case measure => simp only [intOf]; omega
    have hkl : (k : Int) < (L.length : Int) := by omega
    have hk0 : (0 : Int) ≤ (k : Int) := by omega
    obtain ⟨-, hi, hgw, hcl⟩ := HX.out k hlt2
    have hc0 := hcl 0 (by omega)
    have hgb : g ≠ w1.heap.size := by
      intro e
      obtain ⟨o, h1, h2, -⟩ := MapV.isWalk HM2.out
      obtain ⟨o', h3, h4⟩ := cells_of_cell (hc0.trans (by rfl : (encP L[k])[0]? = some (.int .i64 L[k].1)))
      simp only [e] at h3
      rw [h1] at h3
      cases h3
      rw [h2] at h4; cases h4
    have hge := HG.out.block g hgw (fun e => hgb (Option.some.inj e))
    have rd := fun j hj => (World.cell?_of_block (a := ⟨g, off + 3 * k + j, none⟩) hge).trans (hcl j hj)
    have r0 : wr.cell? ⟨g, off + 3 * k, none⟩ = some (.int .i64 L[k].1) := rd 0 (by omega)
    have r1 : wr.cell? ⟨g, off + 3 * k + 1, none⟩ = some (.int .i64 L[k].2.1) := rd 1 (by omega)
    have r2 : wr.cell? ⟨g, off + 3 * k + 2, none⟩ = some (.int .i64 L[k].2.2) := rd 2 (by omega)
    clear rd hcl hc0 hge
    obtain ⟨b0, b1, b2, b3, b4, b5, b6, b7⟩ := RD0.out wr (HB1.out.trans (HBW.out.mono hs1))
    have HCK := Lib.hid (fun (W : World) => (HCP.out L[k] (List.getElem_mem hlt2) W).1)
    have hcs := (HCP.out L[k] (List.getElem_mem hlt2) wr).2
    have HT := Lib.hid (show (L.take (k + 1)).map G = (L.take k).map G ++ [G L[k]] by rw [List.take_succ_eq_append_getElem hlt2, List.map_append]; rfl)
    have hgg := HGG.out L[k]
    rw [hgg] at HT
    have hlK : ((L.take k).map G).length ≤ 1000 := by rw [List.length_map, List.length_take]; omega
    generalize (L.take k).map G = K at *
    generalize cellC r.n u L[k] = c at *
    generalize L[k] = p at *
    obtain ⟨p0, p1, p2⟩ := p
    obtain ⟨x0, x1⟩ := c
    simp only at r0 r1 r2 hcs HCK
    have HSP := Lib.hid (fun (W : World) => rhome_any x0 x1 f.1 f.2 W HFB.out.1.1 HFB.out.1.2 HFB.out.2.1 HFB.out.2.2 (by omega) (by omega) (by omega) (by omega))
    have hhe : homC f (x0, x1) = (x0 % f.1, x1 % f.2) := rfl
    rw [hhe] at HT
    have hd3 := Int.emod_nonneg x0 (show f.1 ≠ 0 by have := HFB.out.1.1; omega)
    have hd4 := Int.emod_nonneg x1 (show f.2 ≠ 0 by have := HFB.out.2.1; omega)
    have hd5 := Int.emod_lt_of_pos x0 (show 0 < f.1 by have := HFB.out.1.1; omega)
    have hd6 := Int.emod_lt_of_pos x1 (show 0 < f.2 by have := HFB.out.2.1; omega)
    have HWK := Lib.hid (show wf2 (x0 % f.1, x1 % f.2) from by
      have := HFB.out
      exact ⟨wf_sm (show _ ≤ x0 % f.1 ∧ x0 % f.1 ≤ _ by omega), wf_sm (show _ ≤ x1 % f.2 ∧ x1 % f.2 ≤ _ by omega)⟩)
    clear hcs hgg hhe hd3 hd4 hd5 hd6
    generalize hd0 : x0 % f.1 = d0 at *
    generalize hd1 : x1 % f.2 = d1 at *
    clear hd0 hd1
    have hgr : g < wr.heap.size := by omega
    have q0 : w.heap.size < wr.heap.size := by omega
    have q1 : w.heap.size + 1 < wr.heap.size := by omega
    have q2 : w.heap.size + 1 + 1 < wr.heap.size := by omega
    have qn0 : w.heap.size ≠ w1.heap.size := by omega
    have qn1 : w.heap.size + 1 ≠ w1.heap.size := by omega
    have qn2 : w.heap.size + 1 + 1 ≠ w1.heap.size := by omega
    have HCX := Lib.hid (fun (W : World) (kb : KeepS (fun b => b = w1.heap.size) wr.heap.size wr W) => And.intro ((World.cell?_of_block (a := ⟨w.heap.size, 0, none⟩) (kb.2 _ q0 qn0)).trans b0) (And.intro ((World.cell?_of_block (a := ⟨w.heap.size + 1, 0, none⟩) (kb.2 _ q1 qn1)).trans b3) (And.intro ((World.cell?_of_block (a := ⟨w.heap.size + 1, 1, none⟩) (kb.2 _ q1 qn1)).trans b4) (And.intro ((World.cell?_of_block (a := ⟨w.heap.size + 1, 2, none⟩) (kb.2 _ q1 qn1)).trans b5) (And.intro ((World.cell?_of_block (a := ⟨w.heap.size + 1 + 1, 0, none⟩) (kb.2 _ q2 qn2)).trans b6) (And.intro ((World.cell?_of_block (a := ⟨w.heap.size + 1 + 1, 1, none⟩) (kb.2 _ q2 qn2)).trans b7) (And.intro ((World.cell?_of_block (a := ⟨g, off + 3 * k, none⟩) (kb.2 _ hgr hgb)).trans r0) (And.intro ((World.cell?_of_block (a := ⟨g, off + 3 * k + 1, none⟩) (kb.2 _ hgr hgb)).trans r1) ((World.cell?_of_block (a := ⟨g, off + 3 * k + 2, none⟩) (kb.2 _ hgr hgb)).trans r2)))))))))
    have ew : IntKind.i64.wrap (((idxs K (d0, d1)).length : Int) + 1) = ((idxs K (d0, d1)).length : Int) + 1 := IntWalk.i64_in _ (by have := idxs_len K (d0, d1); omega)
    have hke := KeepS.refl (fun b => b = w1.heap.size) wr.heap.size wr
    have KR := Below.refl wr.heap.size wr
    clear b1 b2
    go_wp2_with fail
    go_region_held3 (fun w' => KeepS (fun b => b = w1.heap.size) wr.heap.size wr w' ∧ w'.cell? ⟨w.heap.size, 0, none⟩ = some (.int .i64 r.n) ∧ w'.cell? ⟨w.heap.size + 1, 0, none⟩ = some (.int .i64 u.1) ∧ w'.cell? ⟨w.heap.size + 1, 1, none⟩ = some (.int .i64 u.2.1) ∧ w'.cell? ⟨w.heap.size + 1, 2, none⟩ = some (.int .i64 u.2.2) ∧ w'.cell? ⟨w.heap.size + 1 + 1, 0, none⟩ = some (.int .i64 f.1) ∧ w'.cell? ⟨w.heap.size + 1 + 1, 1, none⟩ = some (.int .i64 f.2) ∧ w'.cell? ⟨g, off + 3 * k, none⟩ = some (.int .i64 p0) ∧ w'.cell? ⟨g, off + 3 * k + 1, none⟩ = some (.int .i64 p1) ∧ w'.cell? ⟨g, off + 3 * k + 2, none⟩ = some (.int .i64 p2)) (((refine (fun kb => ⟨kb, HCX.out _ kb⟩) (?_ : KeepS (fun b => b = w1.heap.size) wr.heap.size wr _); first | exact hke | exact hke7 | exact hke3))) (first | (go_at_call 55; refine (HCK.out _).mono ?_; go_must (rintro e w5 ⟨rfl, hb5⟩; have hbE : Below wr.heap.size wr w5 := (by exact (by repeat (first | (with_reducible exact Below.refl _ _) | (with_reducible assumption) | (with_reducible refine Below.drew ?_) | (with_reducible refine Below.setCell ?_ (by first | (simp; done) | (simp; omega) | omega) _) | (with_reducible refine Below.alloc ?_ (by first | (simp; done) | (simp; omega) | omega) _) | (with_reducible refine below_drewN ?_ _) | (refine Below.trans ?_ (Below.mono (by with_reducible assumption) (by first | (simp; done) | (simp; omega) | omega)))))); have HBE := Lib.hid hbE; have hke := KeepS.of_below (S := fun b => b = w1.heap.size) hbE; clear hb5 KR)) | (go_at_call 54; refine (HSP.out _).mono ?_; go_must (rintro e w6 ⟨rfl, hb6⟩; have hbE6 : Below wr.heap.size wr w6 := HBE.out.trans (hb6.mono HBE.out.size); have HB6 := Lib.hid hbE6; have hke := KeepS.of_below (S := fun b => b = w1.heap.size) hbE6; obtain ⟨st, w7, hr7, hg7, hl7, hst⟩ := CntCM.step (MapV.kept HM.out hbE6) (by omega) (d0, d1) HWK.out; obtain ⟨w3, hr3, hm3, hg3⟩ := hst w7 rfl; have hl6 := CntCM.look (MapV.kept HM.out hbE6) (d0, d1) HWK.out w6 (Below.refl _ _); have hke7 := keepS_grown hke hg7 hbE6.size; have hke3 := keepS_grown hke7 hg3 (Nat.le_trans hbE6.size hg7.size); have HM3 := Lib.hid hm3; have HG7 := Lib.hid hg7; have HG3 := Lib.hid hg3; simp only [ceV] at hr7 hl6 hl7; simp only [goInt] at hr3; clear hb6 hst hm3 hg7 hg3 hbE6)))
    all_goals (try go_wp2_with fail)
    all_goals go_roundw
    all_goals first
      | (case measure => simp only [intOf]; omega)
      | (case rel => exact ⟨k + 1, n2 + 1, hlt2, by omega, by simp, Lib.hid (by rw [HT.out]; exact HM3.out), Lib.hid (((HG.out.trans (grown_of _ HB6.out)).trans HG7.out).trans HG3.out)⟩)
end Go.Proofs.YtnejicklenhpeaaGreat
