/- The delays of all arguments: the program's and the reference's: their walks. -/
import Derived.Test.YtnejicklenhpeaaGreatSafeP
import Derived.Test.YtnejicklenhpeaaGreatCelK
import Derived.Test.YtnejicklenhpeaaGreatEvA
namespace Go.Proofs.YtnejicklenhpeaaGreat
open Go.RowKit
set_option linter.unusedVariables false
theorem times_l (a0 a1 a2 b0 b1 b2 : Int) (h0 : -1000000 ≤ a0 * b0 ∧ a0 * b0 ≤ 1000000) (h1 : -1000000 ≤ a1 * b1 ∧ a1 * b1 ≤ 1000000) (h2 : -1000000 ≤ a2 * b2 ∧ a2 * b2 ≤ 1000000) (w : World) :
    Calls Tryz.prog 192 #[.agg #[.int .i64 a0, .int .i64 a1, .int .i64 a2], .agg #[.int .i64 b0, .int .i64 b1, .int .i64 b2]] w fun e w' => e = .returned (.int .i64 (a0 * b0 + a1 * b1 + a2 * b2)) ∧ Below w.heap.size w w' := by
  obtain ⟨h3, h4⟩ := h0; obtain ⟨h5, h6⟩ := h1; obtain ⟨h7, h8⟩ := h2
  go_enter Tryz.func192, Tryz.ntmps192
  go_wp2
  go_ret
  exact ⟨rfl, by repeat (first | exact Below.refl _ _ | assumption | (refine Below.drew ?_) | (refine below_drewN ?_ _) | (refine Below.alloc ?_ (by first | (simp; done) | (simp; omega) | omega) _) | (refine Below.setCell ?_ (by first | (simp; done) | (simp; omega) | omega) _) | (refine Below.trans ?_ (Below.mono (by assumption) (by first | (simp; done) | (simp; omega) | omega))))⟩
/-- The delay of an argument of variable v. -/
def delayOf (s : SchedD) (v : Nat) (a : ArgD) : Int := s.off.getD v 0 - s.off.getD a.var.toNat 0 - dot3 s.f a.at_
def delaysL (r : RecD) (s : SchedD) : List (List Int) := r.vars.mapIdx (fun v x => x.args.map (delayOf s v))
def DelR (r : RecD) (s : SchedD) (e : Ending) (w' : World) : Prop := ∃ v, e = .returned v ∧ RowsSl w' 1 encInt v (delaysL r s)
theorem slRi : SlT Tryz.prog 171 39 (.slice none 0 0) 1 24 := ⟨Tryz.underlying171, by kernel_rfl, rfl, by decide⟩
theorem slIn2 : SlT Tryz.prog 39 3 (.int .i64 0) 1 8 := ⟨Tryz.underlying39, by kernel_rfl, rfl, by decide⟩
set_option maxHeartbeats 4000000 in
set_option maxRecDepth 100000 in
theorem delays_l (r : RecD) (s : SchedD) (hv : validR r.n r.l r.vars = true) (hsb : schedB r s = true) (w : World) (hr : RecRd w r) (hs : SchedRd w s) :
    Calls Tryz.prog 169 #[.agg #[.int .i64 r.n, r.lv, r.vv], .agg #[.int .i64 s.f.1, .int .i64 s.f.2.1, .int .i64 s.f.2.2, s.ov]] w fun e w' => DelR r s e w' ∧ Below w.heap.size w w' := by
  have hso := off_bd hsb
  have hfm := form_sm hsb
  have hnv : r.vars.length ≤ 4 := (validR_out hv).2.2.1.2
  have HAF := Lib.hid (fun (v : VarD) (hm : v ∈ r.vars) (a : ArgD) (ha : a ∈ v.args) => arg_flat hv hm ha)
  have HAN := Lib.hid (fun (v : VarD) (hm : v ∈ r.vars) => arg_len hv hm)
  have HOG := Lib.hid (fun v => off_get hsb v)
  have HY := Lib.hid (fun (e : Ending) (w' : World) (v : Value) (he : e = .returned v) (h : RowsSl w' 1 encInt v (delaysL r s)) => show DelR r s e w' from ⟨v, he, h⟩)
  have HML := Lib.hid (show delaysL r s = r.vars.mapIdx (fun v x => x.args.map (delayOf s v)) from rfl)
  have HDO := Lib.hid (fun (v : Nat) (a : ArgD) => show delayOf s v a = s.off.getD v 0 - s.off.getD a.var.toNat 0 - dot3 s.f a.at_ from rfl)
  have HTM := Lib.hid (fun (a : ArgD) (ha : Sm 3 a.at_) (W : World) => times_l s.f.1 s.f.2.1 s.f.2.2 a.at_.1 a.at_.2.1 a.at_.2.2 (by have := mul_bd hfm.1 ha.1; omega) (by have := mul_bd hfm.2.1 ha.2.1; omega) (by have := mul_bd hfm.2.2 ha.2.2; omega) W)
  have HDB := Lib.hid (fun (a : ArgD) (ha : Sm 3 a.at_) => show -81 ≤ dot3 s.f a.at_ ∧ dot3 s.f a.at_ ≤ 81 from by
    have := mul_bd hfm.1 ha.1; have := mul_bd hfm.2.1 ha.2.1; have := mul_bd hfm.2.2 ha.2.2
    unfold dot3; omega)
  have HR := Lib.hid hr
  have HS := Lib.hid hs
  obtain ⟨va, vc, gv, ov, hve, hlv, hcv, hxv⟩ := SlOf.at (enc := encV) (fun _ => rfl) un_vars sz_vars hr.vars
  obtain ⟨oa, oc, og, oo, hoe, hol, hom, hox⟩ := SlOf.at (enc := encInt) (fun _ => rfl) un_sf1 sz_sf1 hs
  have HVX := Lib.hid hxv; clear hxv
  have HOX := Lib.hid (show ∀ j, (hj : j < s.off.length) → (∀ W, (Instr.indexAt 39 (.slice oa s.off.length oc) (.int .i64 (j : Int))).run Tryz.prog W = .ok (.pointer (some ⟨og, oo + j, none⟩)) W) ∧ og < w.heap.size ∧ w.cell? ⟨og, oo + j, none⟩ = some (.int .i64 (s.off.getD j 0)) from fun j hj => by
    obtain ⟨-, h1, h2, h3⟩ := hox j hj
    have e : s.off.getD j 0 = s.off[j] := by rw [List.getD_eq_getElem?_getD, List.getElem?_eq_getElem hj]; rfl
    refine ⟨fun W => by simpa using h1 W, h2, ?_⟩
    have := h3 0 (Nat.lt_succ_self 0)
    rw [e]; simpa [encInt] using this)
  clear hox hr hs hv hsb hfm
  unfold maxLen at hcv hom
  have hsl : s.off.length = r.vars.length := hso.1
  clear hso
  have HSL := Lib.hid hsl; clear hsl
  have HVE := Lib.hid hve; have HOE := Lib.hid hoe; clear hve hoe
  generalize delayOf s = M at *
  obtain ⟨W0, hW0⟩ : ∃ W : World, (w.alloc (Obj.cells #[.int .i64 r.n, r.lv, r.vv] 27)).alloc (Obj.cells #[.int .i64 s.f.1, .int .i64 s.f.2.1, .int .i64 s.f.2.2, s.ov] 47) = W := ⟨_, rfl⟩
  have kw0 : Below w.heap.size w W0 := by rw [← hW0]; exact (by repeat (first | exact Below.refl _ _ | assumption | (refine Below.drew ?_) | (refine below_drewN ?_ _) | (refine Below.alloc ?_ (by first | (simp; done) | (simp; omega) | omega) _) | (refine Below.setCell ?_ (by first | (simp; done) | (simp; omega) | omega) _) | (refine Below.trans ?_ (Below.mono (by assumption) (by first | (simp; done) | (simp; omega) | omega)))))
  have ks0 : W0.heap.size = w.heap.size + 2 := by rw [← hW0]; simp
  have RD0 := Lib.hid (show ∀ V, Below W0.heap.size W0 V → V.cell? ⟨w.heap.size, 0, none⟩ = some (.int .i64 r.n) ∧ V.cell? ⟨w.heap.size, 1, none⟩ = some (r.lv) ∧ V.cell? ⟨w.heap.size, 2, none⟩ = some (r.vv) ∧ V.cell? ⟨w.heap.size + 1, 0, none⟩ = some (.int .i64 s.f.1) ∧ V.cell? ⟨w.heap.size + 1, 1, none⟩ = some (.int .i64 s.f.2.1) ∧ V.cell? ⟨w.heap.size + 1, 2, none⟩ = some (.int .i64 s.f.2.2) ∧ V.cell? ⟨w.heap.size + 1, 3, none⟩ = some (s.ov) from fun V h => by
      refine ⟨(h.cell (p := ⟨w.heap.size, 0, none⟩) (by simp; omega)).trans ?_, (h.cell (p := ⟨w.heap.size, 1, none⟩) (by simp; omega)).trans ?_, (h.cell (p := ⟨w.heap.size, 2, none⟩) (by simp; omega)).trans ?_, (h.cell (p := ⟨w.heap.size + 1, 0, none⟩) (by simp; omega)).trans ?_, (h.cell (p := ⟨w.heap.size + 1, 1, none⟩) (by simp; omega)).trans ?_, (h.cell (p := ⟨w.heap.size + 1, 2, none⟩) (by simp; omega)).trans ?_, (h.cell (p := ⟨w.heap.size + 1, 3, none⟩) (by simp; omega)).trans ?_⟩ <;> (subst hW0; go_simp))
  have HW0 := Lib.hid hW0; have KW0 := Lib.hid kw0; clear hW0 kw0
  have RV := Lib.hid (show ∀ V, Below W0.heap.size W0 V → V.cell? ⟨w.heap.size, 2, none⟩ = some (.slice va r.vars.length vc) ∧ V.cell? ⟨w.heap.size + 1, 0, none⟩ = some (.int .i64 s.f.1) ∧ V.cell? ⟨w.heap.size + 1, 1, none⟩ = some (.int .i64 s.f.2.1) ∧ V.cell? ⟨w.heap.size + 1, 2, none⟩ = some (.int .i64 s.f.2.2) ∧ V.cell? ⟨w.heap.size + 1, 3, none⟩ = some (.slice oa s.off.length oc) from fun V h => by
    obtain ⟨a0, a1, a2, a3⟩ := RD0.out V h
    rw [HVE.out] at a2
    obtain ⟨b0, b1, b2, b3⟩ := a3
    rw [HOE.out] at b3
    exact ⟨a2, b0, b1, b2, b3⟩)
  have hw0 : w.heap.size + 1 < W0.heap.size := by omega
  clear ks0 RD0
  have hk2 := (RV.out W0 (Below.refl _ _)).1
  rw [← HW0.out] at hk2
  go_enter Tryz.func169, Tryz.ntmps169
  go_wp2
  rw [HW0.out]
  clear hk2
  go_loopw [5, 14] (fun t5 t14 wr => ∃ (i : Nat) (vs : List Value), i ≤ r.vars.length ∧ vs.length = i ∧ t14 = .int .i64 (i : Nat) ∧ Hid (OwnOf wr W0.heap.size 39 1 encW t5 vs) ∧ Hid (RowsOf wr 1 encInt t5.ownBlock vs ((r.vars.take i).mapIdx (fun v x => x.args.map (M v)))) ∧ Below W0.heap.size W0 wr) (fun _ t14 _ => r.vars.length - (intOf t14).toNat)
  case atStart => exact ⟨0, [], Nat.zero_le _, rfl, rfl, Lib.hid (OwnOf.nil _ _ _ _ _), Lib.hid (RowsOf.nil _ _ _ _), Below.refl _ _⟩
  case round =>
    obtain ⟨i, vs, hi, hvs, rfl, HO, HRW, hb⟩ := hrel
    have hs := hb.size
    by_cases hlt : i < r.vars.length
    rotate_left
    · have hie : i = r.vars.length := by omega
      have HF := Lib.hid (show RowsSl wr 1 encInt u5 (delaysL r s) from ⟨vs, HO.out.sl, by rw [HML.out, List.length_mapIdx]; omega, fun j x l h1 h2 => HRW.out.row j x l h1 (by rw [HML.out] at h2; rw [hie, List.take_length]; exact h2)⟩)
      go_wp2
      refine bodyPost_ret (v := u5) (by simp only [results, Tryz.results169]; first | (go_simp; done) | (go_simp; rfl)) rfl ⟨HY.out _ _ _ rfl HF.out, KW0.out.trans (hb.mono (by omega))⟩
    obtain ⟨-, hii, hg, hc⟩ := HVX.out i hlt
    have hwr := below_at KW0.out (by omega) hb
    have rd := fun j hj => (hwr.cell (p := ⟨gv, ov + 7 * i + j, none⟩) hg).trans (hc j hj)
    clear hc
    have hmem : r.vars[i] ∈ r.vars := List.getElem_mem hlt
    have HVR := Lib.hid (HR.out.each r.vars[i] hmem)
    have HAF2 := Lib.hid (HAF.out r.vars[i] hmem)
    have hal := HAN.out r.vars[i] hmem
    have HT := Lib.hid (show (r.vars.take (i + 1)).mapIdx (fun v x => x.args.map (M v)) = (r.vars.take i).mapIdx (fun v x => x.args.map (M v)) ++ [r.vars[i].args.map (M i)] by rw [List.take_succ_eq_append_getElem hlt, List.mapIdx_concat, List.length_take, Nat.min_eq_left (by omega)])
    have HLT := Lib.hid hlt
    clear hmem
    generalize (r.vars.take i).mapIdx (fun v x => x.args.map (M v)) = LL at *
    generalize r.vars[i] = x at *
    obtain ⟨sn, op, av, args, i0, i1, i2, i3⟩ := x
    have hvr := HVR.out.1
    simp only at hvr hal HAF2 HT
    obtain ⟨aa, ac, ga, oa2, rfl, hla, hca, hxa⟩ := SlOf.at (enc := encA) (fun _ => rfl) un_va sz_va2 hvr
    have HAX := Lib.hid hxa
    unfold maxLen at hca
    clear hxa hvr HVR
    have r0 : wr.cell? ⟨gv, ov + 7 * i, none⟩ = some (.string sn) := rd 0 (by omega)
    have r1 : wr.cell? ⟨gv, ov + 7 * i + 1, none⟩ = some (.int .i64 op) := rd 1 (by omega)
    have r2 : wr.cell? ⟨gv, ov + 7 * i + 2, none⟩ = some (.slice aa args.length ac) := rd 2 (by omega)
    have r3 : wr.cell? ⟨gv, ov + 7 * i + 3, none⟩ = some (.int .i64 i0) := rd 3 (by omega)
    have r4 : wr.cell? ⟨gv, ov + 7 * i + 4, none⟩ = some (.int .i64 i1) := rd 4 (by omega)
    have r5 : wr.cell? ⟨gv, ov + 7 * i + 5, none⟩ = some (.int .i64 i2) := rd 5 (by omega)
    have r6 : wr.cell? ⟨gv, ov + 7 * i + 6, none⟩ = some (.int .i64 i3) := rd 6 (by omega)
    clear rd
    obtain ⟨W, hW⟩ : ∃ W : World, wr.alloc (Obj.cells #[.string sn, .int .i64 op, .slice aa args.length ac, .int .i64 i0, .int .i64 i1, .int .i64 i2, .int .i64 i3] 85) = W := ⟨_, rfl⟩
    have KR := Lib.hid (show Below wr.heap.size wr W by rw [← hW]; exact (by repeat (first | exact Below.refl _ _ | assumption | (refine Below.drew ?_) | (refine below_drewN ?_ _) | (refine Below.alloc ?_ (by first | (simp; done) | (simp; omega) | omega) _) | (refine Below.setCell ?_ (by first | (simp; done) | (simp; omega) | omega) _) | (refine Below.trans ?_ (Below.mono (by assumption) (by first | (simp; done) | (simp; omega) | omega))))))
    have kz : W.heap.size = wr.heap.size + 1 := by rw [← hW]; simp
    have HWW := Lib.hid hW; clear hW
    go_wp2_with fail
    rw [HWW.out]
    clear r0 r1 r2 r3 r4 r5 r6 hii
    have hsW : W0.heap.size ≤ W.heap.size := by omega
    have KB := Lib.hid (below_at hb hs KR.out)
    have KWB := Lib.hid (below_at hwr (by omega) KR.out)
    have hwW : w.heap.size ≤ W.heap.size := by omega
    have hsR : wr.heap.size ≤ W.heap.size := by omega
    clear kz HWW
    have HB := Lib.hid hb
    clear hb hwr hs
    obtain ⟨wo, rfl⟩ : ∃ x : World, x = wr := ⟨_, rfl⟩
    go_loopw [8, 22] (fun t8 t22 wr => ∃ k : Nat, k ≤ args.length ∧ t22 = .int .i64 (k : Nat) ∧ Hid (OwnOf wr W.heap.size 3 1 encInt t8 ((args.take k).map (M i))) ∧ Below W.heap.size W wr) (fun _ t22 _ => args.length - (intOf t22).toNat)
    case atStart => exact ⟨0, Nat.zero_le _, rfl, Lib.hid (OwnOf.nil _ _ _ _ _), Below.refl _ _⟩
    case round =>
      obtain ⟨k, hk, rfl, HOI, hb⟩ := hrel
      have hs := hb.size
      by_cases hltk : k < args.length
      rotate_left
      · have hke : k = args.length := by omega
        have HOL := Lib.hid (show OwnOf wr W.heap.size 3 1 encInt u8 (args.map (M i)) by have := HOI.out; rwa [hke, List.take_length] at this)
        obtain ⟨la, lc, hle⟩ := HOL.out.shape
        rw [List.length_map] at hle
        subst hle
        have hbo : Below wo.heap.size wo wr := below_at KR.out hsR hb
        have HO2 := Lib.hid (HO.out.kept hbo)
        have HR2 := Lib.hid (HRW.out.kept hbo)
        have hso := hbo.size
        have hw1r : W0.heap.size ≤ wr.heap.size := by omega
        go_wp2_with (at_builtin; refine wpList_push rfl _ _ _ rfl slRi HO2.out rfl rfl (by first | rfl | simp) rfl rfl (by omega) (by omega) (by omega) ?_; intro g5 c5 w6 hown6 hg6 hat6)
        go_roundw
        case rel =>
          refine ⟨i + 1, vs ++ [.slice la args.length lc], HLT.out, by simp; omega, by simp, Lib.hid (OwnOf.snoc (l := vs) (x := Value.slice la args.length lc) (enc := encW) (by rw [← hvs]; simpa [encW] using hown6) rfl), Lib.hid ?_, OwnOf.push (below_at KB.out hsW hb) HO2.out (Nat.le_refl _) (by omega) hg6⟩
          rw [HT.out]
          exact HR2.out.push HOL.out.sl (fun g e => ⟨(HOL.out.lt g e).2, fun e2 => by have := (HOL.out.lt g e).1; have := (HO.out.lt g e2).2; omega⟩) hg6 hat6
        case measure => simp only [intOf]; have := HLT.out; omega
      obtain ⟨-, hik, hg2, hc⟩ := HAX.out k hltk
      have hwr := below_at KWB.out hwW hb
      have rd := fun j hj => (hwr.cell (p := ⟨ga, oa2 + 4 * k + j, none⟩) hg2).trans (hc j hj)
      clear hc
      obtain ⟨haf, hav0, hav1⟩ := HAF2.out args[k] (List.getElem_mem hltk)
      have HTK := Lib.hid (show (args.take (k + 1)).map (M i) = (args.take k).map (M i) ++ [M i args[k]] by rw [List.take_succ_eq_append_getElem hltk, List.map_append]; rfl)
      have HLK2 := Lib.hid hltk
      have hacc : ((args.take k).map (M i)).length + 1 ≤ 1073741824 := by rw [List.length_map, List.length_take]; omega
      have hdb := HDB.out args[k] (flat_sm haf)
      have HSK := Lib.hid (HTM.out args[k] (flat_sm haf))
      have HDE := Lib.hid (HDO.out i args[k])
      have hkl : (k : Int) < (args.length : Int) := by omega
      clear haf
      generalize (args.take k).map (M i) = D at *
      generalize M i args[k] = m at *
      generalize args[k] = y at *
      obtain ⟨yv, y0, y1, y2⟩ := y
      simp only at hav0 hav1 hdb HSK HDE
      obtain ⟨j, rfl⟩ : ∃ j : Nat, yv = (j : Int) := ⟨yv.toNat, by omega⟩
      have hjl : j < s.off.length := by rw [HSL.out]; omega
      have hilo : i < s.off.length := by rw [HSL.out]; exact HLT.out
      obtain ⟨hix1, hog, hc1⟩ := HOX.out i hilo
      obtain ⟨hix2, -, hc2⟩ := HOX.out j hjl
      have ob1 := HOG.out i
      have ob2 := HOG.out j
      rw [Int.toNat_natCast] at HDE
      have hd3 : s.f.1 * y0 + s.f.2.1 * y1 + s.f.2.2 * y2 = dot3 s.f (y0, y1, y2) := rfl
      simp only [hd3] at HSK
      clear hd3
      generalize dot3 s.f (y0, y1, y2) = d at *
      generalize s.off.getD i 0 = oi at *
      generalize s.off.getD j 0 = oj at *
      have r0 : wr.cell? ⟨ga, oa2 + 4 * k, none⟩ = some (.int .i64 (j : Int)) := rd 0 (by omega)
      have r1 : wr.cell? ⟨ga, oa2 + 4 * k + 1, none⟩ = some (.int .i64 y0) := rd 1 (by omega)
      have r2 : wr.cell? ⟨ga, oa2 + 4 * k + 2, none⟩ = some (.int .i64 y1) := rd 2 (by omega)
      have r3 : wr.cell? ⟨ga, oa2 + 4 * k + 3, none⟩ = some (.int .i64 y2) := rd 3 (by omega)
      clear rd
      obtain ⟨W2, hW⟩ : ∃ W : World, wr.alloc (Obj.cells #[.int .i64 (j : Int), .int .i64 y0, .int .i64 y1, .int .i64 y2] 223) = W := ⟨_, rfl⟩
      have KR2 := Lib.hid (show Below wr.heap.size wr W2 by rw [← hW]; exact (by repeat (first | exact Below.refl _ _ | assumption | (refine Below.drew ?_) | (refine below_drewN ?_ _) | (refine Below.alloc ?_ (by first | (simp; done) | (simp; omega) | omega) _) | (refine Below.setCell ?_ (by first | (simp; done) | (simp; omega) | omega) _) | (refine Below.trans ?_ (Below.mono (by assumption) (by first | (simp; done) | (simp; omega) | omega))))))
      have kz2 : W2.heap.size = wr.heap.size + 1 := by rw [← hW]; simp
      have xv : W2.cell? ⟨wr.heap.size, 0, none⟩ = some (.int .i64 (j : Int)) := by subst hW; go_simp
      have x0 : W2.cell? ⟨wr.heap.size, 1, none⟩ = some (.int .i64 y0) := by subst hW; go_simp
      have x1 : W2.cell? ⟨wr.heap.size, 2, none⟩ = some (.int .i64 y1) := by subst hW; go_simp
      have x2 : W2.cell? ⟨wr.heap.size, 3, none⟩ = some (.int .i64 y2) := by subst hW; go_simp
      have KB2 := Lib.hid (below_at KB.out hsW (below_at hb hs KR2.out))
      have g1 : wr.heap.size < W2.heap.size := by omega
      have HW2 := Lib.hid hW; clear hW
      obtain ⟨da, dc, hde⟩ := HOI.out.shape
      subst hde
      have hsW2 : W0.heap.size ≤ W2.heap.size := by omega
      have S9 := Lib.hid (show ∀ V, Below W2.heap.size W2 V → (V.cell? ⟨wr.heap.size, 0, none⟩ = some (.int .i64 (j : Int)) ∧ V.cell? ⟨wr.heap.size, 1, none⟩ = some (.int .i64 y0) ∧ V.cell? ⟨wr.heap.size, 2, none⟩ = some (.int .i64 y1) ∧ V.cell? ⟨wr.heap.size, 3, none⟩ = some (.int .i64 y2)) ∧ (V.cell? ⟨w.heap.size, 2, none⟩ = some (.slice va r.vars.length vc) ∧ V.cell? ⟨w.heap.size + 1, 0, none⟩ = some (.int .i64 s.f.1) ∧ V.cell? ⟨w.heap.size + 1, 1, none⟩ = some (.int .i64 s.f.2.1) ∧ V.cell? ⟨w.heap.size + 1, 2, none⟩ = some (.int .i64 s.f.2.2) ∧ V.cell? ⟨w.heap.size + 1, 3, none⟩ = some (.slice oa s.off.length oc)) ∧ V.cell? ⟨og, oo + i, none⟩ = some (.int .i64 oi) ∧ V.cell? ⟨og, oo + j, none⟩ = some (.int .i64 oj) from fun V h => by
        have h1 := below_at KB2.out hsW2 h
        have h2 := below_at KW0.out (by omega) h1
        exact ⟨⟨(h.cell (p := ⟨wr.heap.size, 0, none⟩) g1).trans xv, (h.cell (p := ⟨wr.heap.size, 1, none⟩) g1).trans x0, (h.cell (p := ⟨wr.heap.size, 2, none⟩) g1).trans x1, (h.cell (p := ⟨wr.heap.size, 3, none⟩) g1).trans x2⟩, RV.out V h1, (h2.cell (p := ⟨og, oo + i, none⟩) hog).trans hc1, (h2.cell (p := ⟨og, oo + j, none⟩) hog).trans hc2⟩)
      go_wp2_with fail
      rw [HW2.out]
      clear r0 r1 r2 r3 hik x0 x1 x2 xv
      have hq1 : IntKind.i64.wrap (oi - oj) = oi - oj := IntWalk.i64_in _ (by omega)
      have hq2 : IntKind.i64.wrap (oi - oj - d) = oi - oj - d := IntWalk.i64_in _ (by omega)
      have hilo2 : (i : Int) < (s.off.length : Int) := by omega
      have hjl2 : (j : Int) < (s.off.length : Int) := by omega
      go_region_held3 (fun w' => Below W.heap.size W2 w' ∧ (w'.cell? ⟨wr.heap.size, 0, none⟩ = some (.int .i64 (j : Int)) ∧ w'.cell? ⟨wr.heap.size, 1, none⟩ = some (.int .i64 y0) ∧ w'.cell? ⟨wr.heap.size, 2, none⟩ = some (.int .i64 y1) ∧ w'.cell? ⟨wr.heap.size, 3, none⟩ = some (.int .i64 y2)) ∧ (w'.cell? ⟨w.heap.size, 2, none⟩ = some (.slice va r.vars.length vc) ∧ w'.cell? ⟨w.heap.size + 1, 0, none⟩ = some (.int .i64 s.f.1) ∧ w'.cell? ⟨w.heap.size + 1, 1, none⟩ = some (.int .i64 s.f.2.1) ∧ w'.cell? ⟨w.heap.size + 1, 2, none⟩ = some (.int .i64 s.f.2.2) ∧ w'.cell? ⟨w.heap.size + 1, 3, none⟩ = some (.slice oa s.off.length oc)) ∧ w'.cell? ⟨og, oo + i, none⟩ = some (.int .i64 oi) ∧ w'.cell? ⟨og, oo + j, none⟩ = some (.int .i64 oj)) ((first | exact hS7 | ((refine (fun kb => ⟨Below.mono kb (by omega), S9.out _ kb⟩) (?_ : Below W2.heap.size W2 _)); exact (by repeat (first | (with_reducible exact Below.refl _ _) | (with_reducible assumption) | (with_reducible refine Below.drew ?_) | (with_reducible refine Below.setCell ?_ (by first | (simp; done) | (simp; omega) | omega) _) | (with_reducible refine Below.alloc ?_ (by first | (simp; done) | (simp; omega) | omega) _) | (with_reducible refine below_drewN ?_ _) | (refine Below.trans ?_ (Below.mono (by with_reducible assumption) (by first | (simp; done) | (simp; omega) | omega)))))))) (first | (go_at_call 192; refine (HSK.out _).mono ?_; go_must (rintro e w5 ⟨rfl, hb5⟩; have hw5 : Below W2.heap.size W2 w5 := (by exact (by repeat (first | (with_reducible exact Below.refl _ _) | (with_reducible assumption) | (with_reducible refine Below.drew ?_) | (with_reducible refine Below.setCell ?_ (by first | (simp; done) | (simp; omega) | omega) _) | (with_reducible refine Below.alloc ?_ (by first | (simp; done) | (simp; omega) | omega) _) | (with_reducible refine below_drewN ?_ _) | (refine Below.trans ?_ (Below.mono (by with_reducible assumption) (by first | (simp; done) | (simp; omega) | omega)))))); have hs5 := hw5.size; have HO5 := Lib.hid (HOI.out.kept (below_at KR2.out (by omega) hw5)); have hsz5 : W.heap.size ≤ w5.heap.size := (by omega))) | (refine step_push rfl _ _ _ (by rfl) slIn2 HO5.out (by rfl) (by rfl) (heap_alloc_new _ _) rfl rfl hacc (by omega) hsz5 (World.grownBy_alloc _ _ _) ?_; intro g7 c7 w7 hown7 hg7 hat7; have hS7 : Below W.heap.size W2 w7 ∧ (w7.cell? ⟨wr.heap.size, 0, none⟩ = some (.int .i64 (j : Int)) ∧ w7.cell? ⟨wr.heap.size, 1, none⟩ = some (.int .i64 y0) ∧ w7.cell? ⟨wr.heap.size, 2, none⟩ = some (.int .i64 y1) ∧ w7.cell? ⟨wr.heap.size, 3, none⟩ = some (.int .i64 y2)) ∧ (w7.cell? ⟨w.heap.size, 2, none⟩ = some (.slice va r.vars.length vc) ∧ w7.cell? ⟨w.heap.size + 1, 0, none⟩ = some (.int .i64 s.f.1) ∧ w7.cell? ⟨w.heap.size + 1, 1, none⟩ = some (.int .i64 s.f.2.1) ∧ w7.cell? ⟨w.heap.size + 1, 2, none⟩ = some (.int .i64 s.f.2.2) ∧ w7.cell? ⟨w.heap.size + 1, 3, none⟩ = some (.slice oa s.off.length oc)) ∧ w7.cell? ⟨og, oo + i, none⟩ = some (.int .i64 oi) ∧ w7.cell? ⟨og, oo + j, none⟩ = some (.int .i64 oj) := (by obtain ⟨⟨q0, q1, q2, q3⟩, ⟨q4, q5, q6, q7, q8⟩, q9, q10⟩ := S9.out w5 hw5; exact ⟨below_push (hw5.mono (by omega)) HO5.out (Nat.le_refl _) hsz5 hg7, ⟨HOI.out.keepCell hg7 (.inr (Nat.le_refl _)) q0, HOI.out.keepCell hg7 (.inr (Nat.le_refl _)) q1, HOI.out.keepCell hg7 (.inr (Nat.le_refl _)) q2, HOI.out.keepCell hg7 (.inr (Nat.le_refl _)) q3⟩, ⟨HOI.out.keepCell hg7 (.inl (by omega)) q4, HOI.out.keepCell hg7 (.inl (by omega)) q5, HOI.out.keepCell hg7 (.inl (by omega)) q6, HOI.out.keepCell hg7 (.inl (by omega)) q7, HOI.out.keepCell hg7 (.inl (by omega)) q8⟩, HOI.out.keepCell hg7 (.inl (by omega)) q9, HOI.out.keepCell hg7 (.inl (by omega)) q10⟩)))
      clear hq1 hq2
      go_wp2
      go_roundw
      case rel => exact ⟨k + 1, HLK2.out, by simp, Lib.hid (by rw [HTK.out, HDE.out]; exact OwnOf.snoc (enc := encInt) (by simpa [encInt] using hown7) rfl), (below_at hb hs KR2.out).trans hS7.1⟩
      case measure => simp only [intOf]; have := HLK2.out; omega
set_option maxHeartbeats 4000000 in
set_option maxRecDepth 100000 in
theorem rdelays_l (r : RecD) (s : SchedD) (hv : validR r.n r.l r.vars = true) (hsb : schedB r s = true) (w : World) (hr : RecRd w r) (hs : SchedRd w s) :
    Calls Tryz.prog 164 #[.agg #[.int .i64 r.n, r.lv, r.vv], .agg #[.int .i64 s.f.1, .int .i64 s.f.2.1, .int .i64 s.f.2.2, s.ov]] w fun e w' => DelR r s e w' ∧ Below w.heap.size w w' := by
  have hso := off_bd hsb
  have hfm := form_sm hsb
  have hnv : r.vars.length ≤ 4 := (validR_out hv).2.2.1.2
  have HAF := Lib.hid (fun (v : VarD) (hm : v ∈ r.vars) (a : ArgD) (ha : a ∈ v.args) => arg_flat hv hm ha)
  have HAN := Lib.hid (fun (v : VarD) (hm : v ∈ r.vars) => arg_len hv hm)
  have HOG := Lib.hid (fun v => off_get hsb v)
  have HY := Lib.hid (fun (e : Ending) (w' : World) (v : Value) (he : e = .returned v) (h : RowsSl w' 1 encInt v (delaysL r s)) => show DelR r s e w' from ⟨v, he, h⟩)
  have HML := Lib.hid (show delaysL r s = r.vars.mapIdx (fun v x => x.args.map (delayOf s v)) from rfl)
  have HDO := Lib.hid (fun (v : Nat) (a : ArgD) => show delayOf s v a = s.off.getD v 0 - s.off.getD a.var.toNat 0 - dot3 s.f a.at_ from rfl)
  have HTM := Lib.hid (fun (a : ArgD) (ha : Sm 3 a.at_) (W : World) => rdot_l s.f.1 s.f.2.1 s.f.2.2 a.at_.1 a.at_.2.1 a.at_.2.2 (by have := mul_bd hfm.1 ha.1; omega) (by have := mul_bd hfm.2.1 ha.2.1; omega) (by have := mul_bd hfm.2.2 ha.2.2; omega) W)
  have HDB := Lib.hid (fun (a : ArgD) (ha : Sm 3 a.at_) => show -81 ≤ dot3 s.f a.at_ ∧ dot3 s.f a.at_ ≤ 81 from by
    have := mul_bd hfm.1 ha.1; have := mul_bd hfm.2.1 ha.2.1; have := mul_bd hfm.2.2 ha.2.2
    unfold dot3; omega)
  have HR := Lib.hid hr
  have HS := Lib.hid hs
  obtain ⟨va, vc, gv, ov, hve, hlv, hcv, hxv⟩ := SlOf.at (enc := encV) (fun _ => rfl) un_vars sz_vars hr.vars
  obtain ⟨oa, oc, og, oo, hoe, hol, hom, hox⟩ := SlOf.at (enc := encInt) (fun _ => rfl) un_sf1 sz_sf1 hs
  have HVX := Lib.hid hxv; clear hxv
  have HOX := Lib.hid (show ∀ j, (hj : j < s.off.length) → (∀ W, (Instr.indexAt 39 (.slice oa s.off.length oc) (.int .i64 (j : Int))).run Tryz.prog W = .ok (.pointer (some ⟨og, oo + j, none⟩)) W) ∧ og < w.heap.size ∧ w.cell? ⟨og, oo + j, none⟩ = some (.int .i64 (s.off.getD j 0)) from fun j hj => by
    obtain ⟨-, h1, h2, h3⟩ := hox j hj
    have e : s.off.getD j 0 = s.off[j] := by rw [List.getD_eq_getElem?_getD, List.getElem?_eq_getElem hj]; rfl
    refine ⟨fun W => by simpa using h1 W, h2, ?_⟩
    have := h3 0 (Nat.lt_succ_self 0)
    rw [e]; simpa [encInt] using this)
  clear hox hr hs hv hsb hfm
  unfold maxLen at hcv hom
  have hsl : s.off.length = r.vars.length := hso.1
  clear hso
  have HSL := Lib.hid hsl; clear hsl
  have HVE := Lib.hid hve; have HOE := Lib.hid hoe; clear hve hoe
  generalize delayOf s = M at *
  obtain ⟨W0, hW0⟩ : ∃ W : World, (w.alloc (Obj.cells #[.int .i64 r.n, r.lv, r.vv] 27)).alloc (Obj.cells #[.int .i64 s.f.1, .int .i64 s.f.2.1, .int .i64 s.f.2.2, s.ov] 47) = W := ⟨_, rfl⟩
  have kw0 : Below w.heap.size w W0 := by rw [← hW0]; exact (by repeat (first | exact Below.refl _ _ | assumption | (refine Below.drew ?_) | (refine below_drewN ?_ _) | (refine Below.alloc ?_ (by first | (simp; done) | (simp; omega) | omega) _) | (refine Below.setCell ?_ (by first | (simp; done) | (simp; omega) | omega) _) | (refine Below.trans ?_ (Below.mono (by assumption) (by first | (simp; done) | (simp; omega) | omega)))))
  have ks0 : W0.heap.size = w.heap.size + 2 := by rw [← hW0]; simp
  have RD0 := Lib.hid (show ∀ V, Below W0.heap.size W0 V → V.cell? ⟨w.heap.size, 0, none⟩ = some (.int .i64 r.n) ∧ V.cell? ⟨w.heap.size, 1, none⟩ = some (r.lv) ∧ V.cell? ⟨w.heap.size, 2, none⟩ = some (r.vv) ∧ V.cell? ⟨w.heap.size + 1, 0, none⟩ = some (.int .i64 s.f.1) ∧ V.cell? ⟨w.heap.size + 1, 1, none⟩ = some (.int .i64 s.f.2.1) ∧ V.cell? ⟨w.heap.size + 1, 2, none⟩ = some (.int .i64 s.f.2.2) ∧ V.cell? ⟨w.heap.size + 1, 3, none⟩ = some (s.ov) from fun V h => by
      refine ⟨(h.cell (p := ⟨w.heap.size, 0, none⟩) (by simp; omega)).trans ?_, (h.cell (p := ⟨w.heap.size, 1, none⟩) (by simp; omega)).trans ?_, (h.cell (p := ⟨w.heap.size, 2, none⟩) (by simp; omega)).trans ?_, (h.cell (p := ⟨w.heap.size + 1, 0, none⟩) (by simp; omega)).trans ?_, (h.cell (p := ⟨w.heap.size + 1, 1, none⟩) (by simp; omega)).trans ?_, (h.cell (p := ⟨w.heap.size + 1, 2, none⟩) (by simp; omega)).trans ?_, (h.cell (p := ⟨w.heap.size + 1, 3, none⟩) (by simp; omega)).trans ?_⟩ <;> (subst hW0; go_simp))
  have HW0 := Lib.hid hW0; have KW0 := Lib.hid kw0; clear hW0 kw0
  have RV := Lib.hid (show ∀ V, Below W0.heap.size W0 V → V.cell? ⟨w.heap.size, 2, none⟩ = some (.slice va r.vars.length vc) ∧ V.cell? ⟨w.heap.size + 1, 0, none⟩ = some (.int .i64 s.f.1) ∧ V.cell? ⟨w.heap.size + 1, 1, none⟩ = some (.int .i64 s.f.2.1) ∧ V.cell? ⟨w.heap.size + 1, 2, none⟩ = some (.int .i64 s.f.2.2) ∧ V.cell? ⟨w.heap.size + 1, 3, none⟩ = some (.slice oa s.off.length oc) from fun V h => by
    obtain ⟨a0, a1, a2, a3⟩ := RD0.out V h
    rw [HVE.out] at a2
    obtain ⟨b0, b1, b2, b3⟩ := a3
    rw [HOE.out] at b3
    exact ⟨a2, b0, b1, b2, b3⟩)
  have hw0 : w.heap.size + 1 < W0.heap.size := by omega
  clear ks0 RD0
  have hk2 := (RV.out W0 (Below.refl _ _)).1
  rw [← HW0.out] at hk2
  go_enter Tryz.func164, Tryz.ntmps164
  go_wp2
  rw [HW0.out]
  clear hk2
  go_loopw [5, 14] (fun t5 t14 wr => ∃ (i : Nat) (vs : List Value), i ≤ r.vars.length ∧ vs.length = i ∧ t14 = .int .i64 (i : Nat) ∧ Hid (OwnOf wr W0.heap.size 39 1 encW t5 vs) ∧ Hid (RowsOf wr 1 encInt t5.ownBlock vs ((r.vars.take i).mapIdx (fun v x => x.args.map (M v)))) ∧ Below W0.heap.size W0 wr) (fun _ t14 _ => r.vars.length - (intOf t14).toNat)
  case atStart => exact ⟨0, [], Nat.zero_le _, rfl, rfl, Lib.hid (OwnOf.nil _ _ _ _ _), Lib.hid (RowsOf.nil _ _ _ _), Below.refl _ _⟩
  case round =>
    obtain ⟨i, vs, hi, hvs, rfl, HO, HRW, hb⟩ := hrel
    have hs := hb.size
    by_cases hlt : i < r.vars.length
    rotate_left
    · have hie : i = r.vars.length := by omega
      have HF := Lib.hid (show RowsSl wr 1 encInt u5 (delaysL r s) from ⟨vs, HO.out.sl, by rw [HML.out, List.length_mapIdx]; omega, fun j x l h1 h2 => HRW.out.row j x l h1 (by rw [HML.out] at h2; rw [hie, List.take_length]; exact h2)⟩)
      go_wp2
      refine bodyPost_ret (v := u5) (by simp only [results, Tryz.results164]; first | (go_simp; done) | (go_simp; rfl)) rfl ⟨HY.out _ _ _ rfl HF.out, KW0.out.trans (hb.mono (by omega))⟩
    obtain ⟨-, hii, hg, hc⟩ := HVX.out i hlt
    have hwr := below_at KW0.out (by omega) hb
    have rd := fun j hj => (hwr.cell (p := ⟨gv, ov + 7 * i + j, none⟩) hg).trans (hc j hj)
    clear hc
    have hmem : r.vars[i] ∈ r.vars := List.getElem_mem hlt
    have HVR := Lib.hid (HR.out.each r.vars[i] hmem)
    have HAF2 := Lib.hid (HAF.out r.vars[i] hmem)
    have hal := HAN.out r.vars[i] hmem
    have HT := Lib.hid (show (r.vars.take (i + 1)).mapIdx (fun v x => x.args.map (M v)) = (r.vars.take i).mapIdx (fun v x => x.args.map (M v)) ++ [r.vars[i].args.map (M i)] by rw [List.take_succ_eq_append_getElem hlt, List.mapIdx_concat, List.length_take, Nat.min_eq_left (by omega)])
    have HLT := Lib.hid hlt
    clear hmem
    generalize (r.vars.take i).mapIdx (fun v x => x.args.map (M v)) = LL at *
    generalize r.vars[i] = x at *
    obtain ⟨sn, op, av, args, i0, i1, i2, i3⟩ := x
    have hvr := HVR.out.1
    simp only at hvr hal HAF2 HT
    obtain ⟨aa, ac, ga, oa2, rfl, hla, hca, hxa⟩ := SlOf.at (enc := encA) (fun _ => rfl) un_va sz_va2 hvr
    have HAX := Lib.hid hxa
    unfold maxLen at hca
    clear hxa hvr HVR
    have r0 : wr.cell? ⟨gv, ov + 7 * i, none⟩ = some (.string sn) := rd 0 (by omega)
    have r1 : wr.cell? ⟨gv, ov + 7 * i + 1, none⟩ = some (.int .i64 op) := rd 1 (by omega)
    have r2 : wr.cell? ⟨gv, ov + 7 * i + 2, none⟩ = some (.slice aa args.length ac) := rd 2 (by omega)
    have r3 : wr.cell? ⟨gv, ov + 7 * i + 3, none⟩ = some (.int .i64 i0) := rd 3 (by omega)
    have r4 : wr.cell? ⟨gv, ov + 7 * i + 4, none⟩ = some (.int .i64 i1) := rd 4 (by omega)
    have r5 : wr.cell? ⟨gv, ov + 7 * i + 5, none⟩ = some (.int .i64 i2) := rd 5 (by omega)
    have r6 : wr.cell? ⟨gv, ov + 7 * i + 6, none⟩ = some (.int .i64 i3) := rd 6 (by omega)
    clear rd
    obtain ⟨W, hW⟩ : ∃ W : World, wr.alloc (Obj.cells #[.string sn, .int .i64 op, .slice aa args.length ac, .int .i64 i0, .int .i64 i1, .int .i64 i2, .int .i64 i3] 85) = W := ⟨_, rfl⟩
    have KR := Lib.hid (show Below wr.heap.size wr W by rw [← hW]; exact (by repeat (first | exact Below.refl _ _ | assumption | (refine Below.drew ?_) | (refine below_drewN ?_ _) | (refine Below.alloc ?_ (by first | (simp; done) | (simp; omega) | omega) _) | (refine Below.setCell ?_ (by first | (simp; done) | (simp; omega) | omega) _) | (refine Below.trans ?_ (Below.mono (by assumption) (by first | (simp; done) | (simp; omega) | omega))))))
    have kz : W.heap.size = wr.heap.size + 1 := by rw [← hW]; simp
    have HWW := Lib.hid hW; clear hW
    go_wp2_with fail
    rw [HWW.out]
    clear r0 r1 r2 r3 r4 r5 r6 hii
    have hsW : W0.heap.size ≤ W.heap.size := by omega
    have KB := Lib.hid (below_at hb hs KR.out)
    have KWB := Lib.hid (below_at hwr (by omega) KR.out)
    have hwW : w.heap.size ≤ W.heap.size := by omega
    have hsR : wr.heap.size ≤ W.heap.size := by omega
    clear kz HWW
    have HB := Lib.hid hb
    clear hb hwr hs
    obtain ⟨wo, rfl⟩ : ∃ x : World, x = wr := ⟨_, rfl⟩
    go_loopw [8, 22] (fun t8 t22 wr => ∃ k : Nat, k ≤ args.length ∧ t22 = .int .i64 (k : Nat) ∧ Hid (OwnOf wr W.heap.size 3 1 encInt t8 ((args.take k).map (M i))) ∧ Below W.heap.size W wr) (fun _ t22 _ => args.length - (intOf t22).toNat)
    case atStart => exact ⟨0, Nat.zero_le _, rfl, Lib.hid (OwnOf.nil _ _ _ _ _), Below.refl _ _⟩
    case round =>
      obtain ⟨k, hk, rfl, HOI, hb⟩ := hrel
      have hs := hb.size
      by_cases hltk : k < args.length
      rotate_left
      · have hke : k = args.length := by omega
        have HOL := Lib.hid (show OwnOf wr W.heap.size 3 1 encInt u8 (args.map (M i)) by have := HOI.out; rwa [hke, List.take_length] at this)
        obtain ⟨la, lc, hle⟩ := HOL.out.shape
        rw [List.length_map] at hle
        subst hle
        have hbo : Below wo.heap.size wo wr := below_at KR.out hsR hb
        have HO2 := Lib.hid (HO.out.kept hbo)
        have HR2 := Lib.hid (HRW.out.kept hbo)
        have hso := hbo.size
        have hw1r : W0.heap.size ≤ wr.heap.size := by omega
        go_wp2_with (at_builtin; refine wpList_push rfl _ _ _ rfl slRi HO2.out rfl rfl (by first | rfl | simp) rfl rfl (by omega) (by omega) (by omega) ?_; intro g5 c5 w6 hown6 hg6 hat6)
        go_roundw
        case rel =>
          refine ⟨i + 1, vs ++ [.slice la args.length lc], HLT.out, by simp; omega, by simp, Lib.hid (OwnOf.snoc (l := vs) (x := Value.slice la args.length lc) (enc := encW) (by rw [← hvs]; simpa [encW] using hown6) rfl), Lib.hid ?_, OwnOf.push (below_at KB.out hsW hb) HO2.out (Nat.le_refl _) (by omega) hg6⟩
          rw [HT.out]
          exact HR2.out.push HOL.out.sl (fun g e => ⟨(HOL.out.lt g e).2, fun e2 => by have := (HOL.out.lt g e).1; have := (HO.out.lt g e2).2; omega⟩) hg6 hat6
        case measure => simp only [intOf]; have := HLT.out; omega
      obtain ⟨-, hik, hg2, hc⟩ := HAX.out k hltk
      have hwr := below_at KWB.out hwW hb
      have rd := fun j hj => (hwr.cell (p := ⟨ga, oa2 + 4 * k + j, none⟩) hg2).trans (hc j hj)
      clear hc
      obtain ⟨haf, hav0, hav1⟩ := HAF2.out args[k] (List.getElem_mem hltk)
      have HTK := Lib.hid (show (args.take (k + 1)).map (M i) = (args.take k).map (M i) ++ [M i args[k]] by rw [List.take_succ_eq_append_getElem hltk, List.map_append]; rfl)
      have HLK2 := Lib.hid hltk
      have hacc : ((args.take k).map (M i)).length + 1 ≤ 1073741824 := by rw [List.length_map, List.length_take]; omega
      have hdb := HDB.out args[k] (flat_sm haf)
      have HSK := Lib.hid (HTM.out args[k] (flat_sm haf))
      have HDE := Lib.hid (HDO.out i args[k])
      have hkl : (k : Int) < (args.length : Int) := by omega
      clear haf
      generalize (args.take k).map (M i) = D at *
      generalize M i args[k] = m at *
      generalize args[k] = y at *
      obtain ⟨yv, y0, y1, y2⟩ := y
      simp only at hav0 hav1 hdb HSK HDE
      obtain ⟨j, rfl⟩ : ∃ j : Nat, yv = (j : Int) := ⟨yv.toNat, by omega⟩
      have hjl : j < s.off.length := by rw [HSL.out]; omega
      have hilo : i < s.off.length := by rw [HSL.out]; exact HLT.out
      obtain ⟨hix1, hog, hc1⟩ := HOX.out i hilo
      obtain ⟨hix2, -, hc2⟩ := HOX.out j hjl
      have ob1 := HOG.out i
      have ob2 := HOG.out j
      rw [Int.toNat_natCast] at HDE
      have hd3 : s.f.1 * y0 + s.f.2.1 * y1 + s.f.2.2 * y2 = dot3 s.f (y0, y1, y2) := rfl
      simp only [hd3] at HSK
      clear hd3
      generalize dot3 s.f (y0, y1, y2) = d at *
      generalize s.off.getD i 0 = oi at *
      generalize s.off.getD j 0 = oj at *
      have r0 : wr.cell? ⟨ga, oa2 + 4 * k, none⟩ = some (.int .i64 (j : Int)) := rd 0 (by omega)
      have r1 : wr.cell? ⟨ga, oa2 + 4 * k + 1, none⟩ = some (.int .i64 y0) := rd 1 (by omega)
      have r2 : wr.cell? ⟨ga, oa2 + 4 * k + 2, none⟩ = some (.int .i64 y1) := rd 2 (by omega)
      have r3 : wr.cell? ⟨ga, oa2 + 4 * k + 3, none⟩ = some (.int .i64 y2) := rd 3 (by omega)
      clear rd
      obtain ⟨W2, hW⟩ : ∃ W : World, wr.alloc (Obj.cells #[.int .i64 (j : Int), .int .i64 y0, .int .i64 y1, .int .i64 y2] 223) = W := ⟨_, rfl⟩
      have KR2 := Lib.hid (show Below wr.heap.size wr W2 by rw [← hW]; exact (by repeat (first | exact Below.refl _ _ | assumption | (refine Below.drew ?_) | (refine below_drewN ?_ _) | (refine Below.alloc ?_ (by first | (simp; done) | (simp; omega) | omega) _) | (refine Below.setCell ?_ (by first | (simp; done) | (simp; omega) | omega) _) | (refine Below.trans ?_ (Below.mono (by assumption) (by first | (simp; done) | (simp; omega) | omega))))))
      have kz2 : W2.heap.size = wr.heap.size + 1 := by rw [← hW]; simp
      have xv : W2.cell? ⟨wr.heap.size, 0, none⟩ = some (.int .i64 (j : Int)) := by subst hW; go_simp
      have x0 : W2.cell? ⟨wr.heap.size, 1, none⟩ = some (.int .i64 y0) := by subst hW; go_simp
      have x1 : W2.cell? ⟨wr.heap.size, 2, none⟩ = some (.int .i64 y1) := by subst hW; go_simp
      have x2 : W2.cell? ⟨wr.heap.size, 3, none⟩ = some (.int .i64 y2) := by subst hW; go_simp
      have KB2 := Lib.hid (below_at KB.out hsW (below_at hb hs KR2.out))
      have g1 : wr.heap.size < W2.heap.size := by omega
      have HW2 := Lib.hid hW; clear hW
      obtain ⟨da, dc, hde⟩ := HOI.out.shape
      subst hde
      have hsW2 : W0.heap.size ≤ W2.heap.size := by omega
      have S9 := Lib.hid (show ∀ V, Below W2.heap.size W2 V → (V.cell? ⟨wr.heap.size, 0, none⟩ = some (.int .i64 (j : Int)) ∧ V.cell? ⟨wr.heap.size, 1, none⟩ = some (.int .i64 y0) ∧ V.cell? ⟨wr.heap.size, 2, none⟩ = some (.int .i64 y1) ∧ V.cell? ⟨wr.heap.size, 3, none⟩ = some (.int .i64 y2)) ∧ (V.cell? ⟨w.heap.size, 2, none⟩ = some (.slice va r.vars.length vc) ∧ V.cell? ⟨w.heap.size + 1, 0, none⟩ = some (.int .i64 s.f.1) ∧ V.cell? ⟨w.heap.size + 1, 1, none⟩ = some (.int .i64 s.f.2.1) ∧ V.cell? ⟨w.heap.size + 1, 2, none⟩ = some (.int .i64 s.f.2.2) ∧ V.cell? ⟨w.heap.size + 1, 3, none⟩ = some (.slice oa s.off.length oc)) ∧ V.cell? ⟨og, oo + i, none⟩ = some (.int .i64 oi) ∧ V.cell? ⟨og, oo + j, none⟩ = some (.int .i64 oj) from fun V h => by
        have h1 := below_at KB2.out hsW2 h
        have h2 := below_at KW0.out (by omega) h1
        exact ⟨⟨(h.cell (p := ⟨wr.heap.size, 0, none⟩) g1).trans xv, (h.cell (p := ⟨wr.heap.size, 1, none⟩) g1).trans x0, (h.cell (p := ⟨wr.heap.size, 2, none⟩) g1).trans x1, (h.cell (p := ⟨wr.heap.size, 3, none⟩) g1).trans x2⟩, RV.out V h1, (h2.cell (p := ⟨og, oo + i, none⟩) hog).trans hc1, (h2.cell (p := ⟨og, oo + j, none⟩) hog).trans hc2⟩)
      go_wp2_with fail
      rw [HW2.out]
      clear r0 r1 r2 r3 hik x0 x1 x2 xv
      have hq1 : IntKind.i64.wrap (oi - oj) = oi - oj := IntWalk.i64_in _ (by omega)
      have hq2 : IntKind.i64.wrap (oi - oj - d) = oi - oj - d := IntWalk.i64_in _ (by omega)
      have hilo2 : (i : Int) < (s.off.length : Int) := by omega
      have hjl2 : (j : Int) < (s.off.length : Int) := by omega
      go_region_held3 (fun w' => Below W.heap.size W2 w' ∧ (w'.cell? ⟨wr.heap.size, 0, none⟩ = some (.int .i64 (j : Int)) ∧ w'.cell? ⟨wr.heap.size, 1, none⟩ = some (.int .i64 y0) ∧ w'.cell? ⟨wr.heap.size, 2, none⟩ = some (.int .i64 y1) ∧ w'.cell? ⟨wr.heap.size, 3, none⟩ = some (.int .i64 y2)) ∧ (w'.cell? ⟨w.heap.size, 2, none⟩ = some (.slice va r.vars.length vc) ∧ w'.cell? ⟨w.heap.size + 1, 0, none⟩ = some (.int .i64 s.f.1) ∧ w'.cell? ⟨w.heap.size + 1, 1, none⟩ = some (.int .i64 s.f.2.1) ∧ w'.cell? ⟨w.heap.size + 1, 2, none⟩ = some (.int .i64 s.f.2.2) ∧ w'.cell? ⟨w.heap.size + 1, 3, none⟩ = some (.slice oa s.off.length oc)) ∧ w'.cell? ⟨og, oo + i, none⟩ = some (.int .i64 oi) ∧ w'.cell? ⟨og, oo + j, none⟩ = some (.int .i64 oj)) ((first | exact hS7 | ((refine (fun kb => ⟨Below.mono kb (by omega), S9.out _ kb⟩) (?_ : Below W2.heap.size W2 _)); exact (by repeat (first | (with_reducible exact Below.refl _ _) | (with_reducible assumption) | (with_reducible refine Below.drew ?_) | (with_reducible refine Below.setCell ?_ (by first | (simp; done) | (simp; omega) | omega) _) | (with_reducible refine Below.alloc ?_ (by first | (simp; done) | (simp; omega) | omega) _) | (with_reducible refine below_drewN ?_ _) | (refine Below.trans ?_ (Below.mono (by with_reducible assumption) (by first | (simp; done) | (simp; omega) | omega)))))))) (first | (go_at_call 137; refine (HSK.out _).mono ?_; go_must (rintro e w5 ⟨rfl, hb5⟩; have hw5 : Below W2.heap.size W2 w5 := (by exact (by repeat (first | (with_reducible exact Below.refl _ _) | (with_reducible assumption) | (with_reducible refine Below.drew ?_) | (with_reducible refine Below.setCell ?_ (by first | (simp; done) | (simp; omega) | omega) _) | (with_reducible refine Below.alloc ?_ (by first | (simp; done) | (simp; omega) | omega) _) | (with_reducible refine below_drewN ?_ _) | (refine Below.trans ?_ (Below.mono (by with_reducible assumption) (by first | (simp; done) | (simp; omega) | omega)))))); have hs5 := hw5.size; have HO5 := Lib.hid (HOI.out.kept (below_at KR2.out (by omega) hw5)); have hsz5 : W.heap.size ≤ w5.heap.size := (by omega))) | (refine step_push rfl _ _ _ (by rfl) slIn2 HO5.out (by rfl) (by rfl) (heap_alloc_new _ _) rfl rfl hacc (by omega) hsz5 (World.grownBy_alloc _ _ _) ?_; intro g7 c7 w7 hown7 hg7 hat7; have hS7 : Below W.heap.size W2 w7 ∧ (w7.cell? ⟨wr.heap.size, 0, none⟩ = some (.int .i64 (j : Int)) ∧ w7.cell? ⟨wr.heap.size, 1, none⟩ = some (.int .i64 y0) ∧ w7.cell? ⟨wr.heap.size, 2, none⟩ = some (.int .i64 y1) ∧ w7.cell? ⟨wr.heap.size, 3, none⟩ = some (.int .i64 y2)) ∧ (w7.cell? ⟨w.heap.size, 2, none⟩ = some (.slice va r.vars.length vc) ∧ w7.cell? ⟨w.heap.size + 1, 0, none⟩ = some (.int .i64 s.f.1) ∧ w7.cell? ⟨w.heap.size + 1, 1, none⟩ = some (.int .i64 s.f.2.1) ∧ w7.cell? ⟨w.heap.size + 1, 2, none⟩ = some (.int .i64 s.f.2.2) ∧ w7.cell? ⟨w.heap.size + 1, 3, none⟩ = some (.slice oa s.off.length oc)) ∧ w7.cell? ⟨og, oo + i, none⟩ = some (.int .i64 oi) ∧ w7.cell? ⟨og, oo + j, none⟩ = some (.int .i64 oj) := (by obtain ⟨⟨q0, q1, q2, q3⟩, ⟨q4, q5, q6, q7, q8⟩, q9, q10⟩ := S9.out w5 hw5; exact ⟨below_push (hw5.mono (by omega)) HO5.out (Nat.le_refl _) hsz5 hg7, ⟨HOI.out.keepCell hg7 (.inr (Nat.le_refl _)) q0, HOI.out.keepCell hg7 (.inr (Nat.le_refl _)) q1, HOI.out.keepCell hg7 (.inr (Nat.le_refl _)) q2, HOI.out.keepCell hg7 (.inr (Nat.le_refl _)) q3⟩, ⟨HOI.out.keepCell hg7 (.inl (by omega)) q4, HOI.out.keepCell hg7 (.inl (by omega)) q5, HOI.out.keepCell hg7 (.inl (by omega)) q6, HOI.out.keepCell hg7 (.inl (by omega)) q7, HOI.out.keepCell hg7 (.inl (by omega)) q8⟩, HOI.out.keepCell hg7 (.inl (by omega)) q9, HOI.out.keepCell hg7 (.inl (by omega)) q10⟩)))
      clear hq1 hq2
      go_wp2
      go_roundw
      case rel => exact ⟨k + 1, HLK2.out, by simp, Lib.hid (by rw [HTK.out, HDE.out]; exact OwnOf.snoc (enc := encInt) (by simpa [encInt] using hown7) rfl), (below_at hb hs KR2.out).trans hS7.1⟩
      case measure => simp only [intOf]; have := HLK2.out; omega
end Go.Proofs.YtnejicklenhpeaaGreat
