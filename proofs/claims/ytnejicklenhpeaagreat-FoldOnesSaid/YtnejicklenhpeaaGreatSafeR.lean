/- The reference's clash: its walk. Whether elements clash: the program's Safe and the reference's. The first two elements that clash: the program's Clash and the reference's. The first two elements that clash: the reference's Clash. Equality of elements and events, as the machine reckons it. Conditions: none. -/
import Derived.Test.YtnejicklenhpeaaGreatSafeQ
import Derived.Deep.CutRange
import Derived.Laws.StructEq
import Derived.Test.YtnejicklenhpeaaGreatRecAB
namespace Go.Proofs.YtnejicklenhpeaaGreat
open Go.RowKit Go.WideMaps
set_option maxHeartbeats 4000000 in
set_option maxRecDepth 100000 in
theorem rclash_l (r : RecD) (s : SchedD) (u : P3) (ha : askS r s u = 0) (w : World) (hr : RecRd w r) :
    Calls Tryz.prog 121 #[.agg #[.int .i64 r.n, r.lv, r.vv], .agg #[.int .i64 s.f.1, .int .i64 s.f.2.1, .int .i64 s.f.2.2, s.ov], .agg #[.int .i64 u.1, .int .i64 u.2.1, .int .i64 u.2.2]] w fun e w' => e = .returned (rclashV (ptsL r.n r.l) (clashL r s u)) ∧ Below w.heap.size w w' := by
  have hdo := validD_out (validR_out (askS_ok ha).1).1
  have HAL := Lib.hid (fun (W : World) (hw : SlOf W W.heap.size 4 encI r.lv r.l) => rAll_l r.n r.l hdo.1 hdo.2.2 W r.lv hw)
  have HSP := Lib.hid (fun p (hp : p ∈ ptsL r.n r.l) (W : World) => spotOf_l r s u p ha hp W)
  have HWF := Lib.hid (fun p (hp : p ∈ ptsL r.n r.l) => key_wf (u := u) ha hp)
  have HPL := Lib.hid (ptsL_len r.n r.l)
  have HCL := Lib.hid (show clashL r s u = clashF ((ptsL r.n r.l).map (keyS r s u)) from rfl)
  have HR := Lib.hid hr
  clear ha hdo hr
  generalize keyS r s u = F at *
  generalize clashL r s u = R at *
  have hmm := @run_makeMap Tryz.prog
  obtain ⟨W0, hW0⟩ : ∃ W : World, ((((w.alloc (Obj.cells #[.int .i64 r.n, r.lv, r.vv] 27)).alloc (Obj.cells #[.int .i64 s.f.1, .int .i64 s.f.2.1, .int .i64 s.f.2.2, s.ov] 47)).alloc (Obj.cells #[.int .i64 u.1, .int .i64 u.2.1, .int .i64 u.2.2] 29)).alloc (Obj.cells #[.int .i64 0, .int .i64 0, .int .i64 0, .int .i64 0] 51)).alloc (Obj.cells #[.int .i64 0, .int .i64 0, .int .i64 0, .int .i64 0] 51) = W := ⟨_, rfl⟩
  have kw0 : Below w.heap.size w W0 := by rw [← hW0]; exact (by repeat (first | exact Below.refl _ _ | assumption | (refine Below.drew ?_) | (refine below_drewN ?_ _) | (refine Below.alloc ?_ (by first | (simp; done) | (simp; omega) | omega) _) | (refine Below.setCell ?_ (by first | (simp; done) | (simp; omega) | omega) _) | (refine Below.trans ?_ (Below.mono (by assumption) (by first | (simp; done) | (simp; omega) | omega)))))
  have ks0 : W0.heap.size = w.heap.size + 5 := by rw [← hW0]; simp
  have RD0 := Lib.hid (show ∀ V, Below W0.heap.size W0 V → V.cell? ⟨w.heap.size, 0, none⟩ = some (.int .i64 r.n) ∧ V.cell? ⟨w.heap.size, 1, none⟩ = some (r.lv) ∧ V.cell? ⟨w.heap.size, 2, none⟩ = some (r.vv) ∧ V.cell? ⟨w.heap.size + 1, 0, none⟩ = some (.int .i64 s.f.1) ∧ V.cell? ⟨w.heap.size + 1, 1, none⟩ = some (.int .i64 s.f.2.1) ∧ V.cell? ⟨w.heap.size + 1, 2, none⟩ = some (.int .i64 s.f.2.2) ∧ V.cell? ⟨w.heap.size + 1, 3, none⟩ = some (s.ov) ∧ V.cell? ⟨w.heap.size + 1 + 1, 0, none⟩ = some (.int .i64 u.1) ∧ V.cell? ⟨w.heap.size + 1 + 1, 1, none⟩ = some (.int .i64 u.2.1) ∧ V.cell? ⟨w.heap.size + 1 + 1, 2, none⟩ = some (.int .i64 u.2.2) ∧ V.cell? ⟨w.heap.size + 1 + 1 + 1, 0, none⟩ = some (.int .i64 0) ∧ V.cell? ⟨w.heap.size + 1 + 1 + 1, 1, none⟩ = some (.int .i64 0) ∧ V.cell? ⟨w.heap.size + 1 + 1 + 1, 2, none⟩ = some (.int .i64 0) ∧ V.cell? ⟨w.heap.size + 1 + 1 + 1, 3, none⟩ = some (.int .i64 0) ∧ V.cell? ⟨w.heap.size + 1 + 1 + 1 + 1, 0, none⟩ = some (.int .i64 0) ∧ V.cell? ⟨w.heap.size + 1 + 1 + 1 + 1, 1, none⟩ = some (.int .i64 0) ∧ V.cell? ⟨w.heap.size + 1 + 1 + 1 + 1, 2, none⟩ = some (.int .i64 0) ∧ V.cell? ⟨w.heap.size + 1 + 1 + 1 + 1, 3, none⟩ = some (.int .i64 0) from fun V h => by
      refine ⟨(h.cell (p := ⟨w.heap.size, 0, none⟩) (by simp; omega)).trans ?_, (h.cell (p := ⟨w.heap.size, 1, none⟩) (by simp; omega)).trans ?_, (h.cell (p := ⟨w.heap.size, 2, none⟩) (by simp; omega)).trans ?_, (h.cell (p := ⟨w.heap.size + 1, 0, none⟩) (by simp; omega)).trans ?_, (h.cell (p := ⟨w.heap.size + 1, 1, none⟩) (by simp; omega)).trans ?_, (h.cell (p := ⟨w.heap.size + 1, 2, none⟩) (by simp; omega)).trans ?_, (h.cell (p := ⟨w.heap.size + 1, 3, none⟩) (by simp; omega)).trans ?_, (h.cell (p := ⟨w.heap.size + 1 + 1, 0, none⟩) (by simp; omega)).trans ?_, (h.cell (p := ⟨w.heap.size + 1 + 1, 1, none⟩) (by simp; omega)).trans ?_, (h.cell (p := ⟨w.heap.size + 1 + 1, 2, none⟩) (by simp; omega)).trans ?_, (h.cell (p := ⟨w.heap.size + 1 + 1 + 1, 0, none⟩) (by simp; omega)).trans ?_, (h.cell (p := ⟨w.heap.size + 1 + 1 + 1, 1, none⟩) (by simp; omega)).trans ?_, (h.cell (p := ⟨w.heap.size + 1 + 1 + 1, 2, none⟩) (by simp; omega)).trans ?_, (h.cell (p := ⟨w.heap.size + 1 + 1 + 1, 3, none⟩) (by simp; omega)).trans ?_, (h.cell (p := ⟨w.heap.size + 1 + 1 + 1 + 1, 0, none⟩) (by simp; omega)).trans ?_, (h.cell (p := ⟨w.heap.size + 1 + 1 + 1 + 1, 1, none⟩) (by simp; omega)).trans ?_, (h.cell (p := ⟨w.heap.size + 1 + 1 + 1 + 1, 2, none⟩) (by simp; omega)).trans ?_, (h.cell (p := ⟨w.heap.size + 1 + 1 + 1 + 1, 3, none⟩) (by simp; omega)).trans ?_⟩ <;> (subst hW0; go_simp))
  have HW0 := Lib.hid hW0; have KW0 := Lib.hid kw0; clear hW0 kw0
  go_enter Tryz.func121, Tryz.ntmps121
  go_wp2_with (go_at_call 38; rw [HW0.out]; refine (HAL.out _ (HR.out.l.below KW0.out)).mono ?_; go_must (rintro e w1 ⟨⟨v', rfl, hsl⟩, hb1⟩; have K0 := hb1; have HB1 := Lib.hid hb1; clear hb1; obtain ⟨k0_0, k0_1, k0_2, k0_3, k0_4, k0_5, k0_6, k0_7, k0_8, k0_9, k0_10, k0_11, k0_12, k0_13, k0_14, k0_15, k0_16, k0_17⟩ := RD0.out _ K0; have hs1 := K0.size; obtain ⟨pa, pc, hpv, -⟩ := hsl.shape; subst hpv))
  obtain ⟨qa, qc, g, off, hqe, hlc, hcm, hx⟩ := SlOf.at (enc := encP) (fun _ => rfl) un_pts sz_pts hsl
  have hqa : qa = pa := by cases hqe; rfl
  have hqc : qc = pc := by cases hqe; rfl
  subst hqa hqc
  clear hqe hsl
  unfold maxLen at hcm
  have HX := Lib.hid hx; clear hx
  have KK0 := Lib.hid K0; clear K0
  clear hmm; (try clear k0_0); (try clear k0_1); (try clear k0_2); (try clear k0_3); (try clear k0_4); (try clear k0_5); (try clear k0_6); (try clear k0_7); (try clear k0_8); (try clear k0_9); (try clear k0_10); (try clear k0_11); (try clear k0_12); (try clear k0_13); (try clear k0_14); (try clear k0_15); (try clear k0_16); (try clear k0_17)
  generalize hLe : ptsL r.n r.l = L at *
  have HLE := Lib.hid hLe; clear hLe
  go_loopw [12] (fun t12 wr => ∃ k n2 : Nat, k ≤ L.length ∧ t12 = .int .i64 (k : Nat) ∧ Hid (CntM wr (w1.heap.size + 1) k ((L.take k).map F)) ∧ Hid (SecM wr w1.heap.size n2 L ((L.take k).map F)) ∧ n2 ≤ k ∧ Below w1.heap.size w1 wr) (fun t12 _ => L.length - (intOf t12).toNat)
  case atStart => exact ⟨0, 0, Nat.zero_le _, rfl, Lib.hid (by simpa using CntM.made (w1.alloc (.map #[] 0))), Lib.hid ((SecM.made w1 L).kept ((Below.refl _ _).alloc (Nat.le_refl _) _)), Nat.le_refl _, by repeat (first | exact Below.refl _ _ | assumption | (refine Below.drew ?_) | (refine below_drewN ?_ _) | (refine Below.alloc ?_ (by first | (simp; done) | (simp; omega) | omega) _) | (refine Below.setCell ?_ (by first | (simp; done) | (simp; omega) | omega) _) | (refine Below.trans ?_ (Below.mono (by assumption) (by first | (simp; done) | (simp; omega) | omega))))⟩
  case round =>
    obtain ⟨k, n2, hk, rfl, HM, HN, hn2, hb⟩ := hrel
    have hs := hb.size
    have K0 := below_at KK0.out hs1 hb
    by_cases hlt : k < L.length
    rotate_left
    · have hke : k = L.length := by omega
      subst hke
      have HM2 := Lib.hid (show CntM wr (w1.heap.size + 1) L.length (L.map F) by have := HM.out; rwa [List.take_length] at this)
      have HN2 := Lib.hid (show SecM wr w1.heap.size n2 L (L.map F) by have := HN.out; rwa [List.take_length] at this)
      clear HM HN
      obtain ⟨wq, hwq⟩ : ∃ x : World, x = wr := ⟨_, rfl⟩
      subst hwq
      have KQ0 := Lib.hid K0
      clear K0
      go_wp2
      go_loopw [14] (fun t14 wr => ∃ i : Nat, i ≤ L.length ∧ t14 = .int .i64 (i : Nat) ∧ Hid (lone (L.map F) i) ∧ Below wq.heap.size wq wr) (fun t14 _ => L.length - (intOf t14).toNat)
      case atStart => exact ⟨0, Nat.zero_le _, rfl, Lib.hid (fun j a hj => by omega), Below.refl _ _⟩
      case round =>
        obtain ⟨i, hil, rfl, HLO, hb2⟩ := hrel
        have hs2 := hb2.size
        have hsq : W0.heap.size ≤ wq.heap.size := by omega
        have K0 := below_at KQ0.out hsq hb2
        by_cases hlt2 : i < L.length
        rotate_left
        · have HR := Lib.hid (show R = none by
            rw [HCL.out]
            refine clash_none ?_
            rw [List.length_map, show L.length = i by omega]
            exact HLO.out)
          obtain ⟨k0_0, k0_1, k0_2, k0_3, k0_4, k0_5, k0_6, k0_7, k0_8, k0_9, k0_10, k0_11, k0_12, k0_13, k0_14, k0_15, k0_16, k0_17⟩ := RD0.out _ K0
          have hfz := fun b o (h : b < W0.heap.size) => (bcellB K0).2 b o h
          rw [← HW0.out] at hfz
          have KW := KW0.out
          have HV := Lib.hid (show rclashV L none = .tuple #[.agg #[.int .i64 0, .int .i64 0, .int .i64 0, .int .i64 0], .agg #[.int .i64 0, .int .i64 0, .int .i64 0, .int .i64 0], .bool false] from rfl)
          go_wp2
          refine bodyPost_ret (v := .tuple #[.agg #[.int .i64 0, .int .i64 0, .int .i64 0, .int .i64 0], .agg #[.int .i64 0, .int .i64 0, .int .i64 0, .int .i64 0], .bool false]) (by simp only [results, Tryz.results121]; first | (go_simp; done) | (go_simp; rfl)) rfl (And.intro (by rw [HLE.out, HR.out, HV.out]) ?_)
          have KX := KW.trans (K0.mono (by omega))
          exact (by (repeat (first | (with_reducible refine Below.setCell ?_ (by first | (simp; done) | (simp; omega) | omega) _) | (with_reducible refine Below.drew ?_) | (with_reducible refine below_drewN ?_ _))); with_reducible exact KX)
        obtain ⟨-, hi, hg, hc⟩ := HX.out i hlt2
        have rd := fun j hj => ((hb.trans (hb2.mono hs)).cell (p := ⟨g, off + 3 * i + j, none⟩) hg).trans (hc j hj)
        clear hc
        have hmem : L[i] ∈ L := List.getElem_mem hlt2
        have HSK := Lib.hid (HSP.out L[i] hmem)
        have HWK := Lib.hid (HWF.out L[i] hmem)
        have HAT := Lib.hid (show (L.map F)[i]? = some (F L[i]) by rw [List.getElem?_map, List.getElem?_eq_getElem hlt2]; rfl)
        have HGD := Lib.hid (show L.getD i (0, 0, 0) = L[i] by simp [List.getD, hlt2])
        have HLT := Lib.hid hlt2
        clear hmem
        generalize L[i] = p at *
        generalize F p = a at *
        obtain ⟨p0, p1, p2⟩ := p
        obtain ⟨a0, a1, a2⟩ := a
        simp only at HSK
        have r0 : wr.cell? ⟨g, off + 3 * i, none⟩ = some (.int .i64 p0) := rd 0 (by omega)
        have r1 : wr.cell? ⟨g, off + 3 * i + 1, none⟩ = some (.int .i64 p1) := rd 1 (by omega)
        have r2 : wr.cell? ⟨g, off + 3 * i + 2, none⟩ = some (.int .i64 p2) := rd 2 (by omega)
        clear rd
        have hgr : g < wr.heap.size := by omega
        have PU := Lib.hid (show ∀ V, Below wr.heap.size wr V → V.cell? ⟨g, off + 3 * i, none⟩ = some (.int .i64 p0) ∧ V.cell? ⟨g, off + 3 * i + 1, none⟩ = some (.int .i64 p1) ∧ V.cell? ⟨g, off + 3 * i + 2, none⟩ = some (.int .i64 p2) from fun V h => ⟨(h.cell (p := ⟨g, off + 3 * i, none⟩) hgr).trans (by assumption), (h.cell (p := ⟨g, off + 3 * i + 1, none⟩) hgr).trans (by assumption), (h.cell (p := ⟨g, off + 3 * i + 2, none⟩) hgr).trans (by assumption)⟩)
        have KR0 := Lib.hid K0
        have hsW : W0.heap.size ≤ wr.heap.size := by omega
        clear K0
        go_wp2_with fail
        go_cut [14, 15] from 51 to 77 (fun t14 t15 wx => ∃ g8, t15 = .pointer (some ⟨g8, 0, none⟩) ∧ t14 = .int .i64 (i : Nat) ∧ wr.heap.size ≤ g8 ∧ g8 < wx.heap.size ∧ wx.cell? ⟨g8, 0, none⟩ = some (.int .i64 a0) ∧ wx.cell? ⟨g8, 1, none⟩ = some (.int .i64 a1) ∧ wx.cell? ⟨g8, 2, none⟩ = some (.int .i64 a2) ∧ Below wr.heap.size wr wx)
        case first =>
          clear r0 r1 r2
          go_region_held3 (fun w' => Below wr.heap.size wr w' ∧ (w'.cell? ⟨w.heap.size, 0, none⟩ = some (.int .i64 r.n) ∧ w'.cell? ⟨w.heap.size, 1, none⟩ = some (r.lv) ∧ w'.cell? ⟨w.heap.size, 2, none⟩ = some (r.vv) ∧ w'.cell? ⟨w.heap.size + 1, 0, none⟩ = some (.int .i64 s.f.1) ∧ w'.cell? ⟨w.heap.size + 1, 1, none⟩ = some (.int .i64 s.f.2.1) ∧ w'.cell? ⟨w.heap.size + 1, 2, none⟩ = some (.int .i64 s.f.2.2) ∧ w'.cell? ⟨w.heap.size + 1, 3, none⟩ = some (s.ov) ∧ w'.cell? ⟨w.heap.size + 1 + 1, 0, none⟩ = some (.int .i64 u.1) ∧ w'.cell? ⟨w.heap.size + 1 + 1, 1, none⟩ = some (.int .i64 u.2.1) ∧ w'.cell? ⟨w.heap.size + 1 + 1, 2, none⟩ = some (.int .i64 u.2.2) ∧ w'.cell? ⟨w.heap.size + 1 + 1 + 1, 0, none⟩ = some (.int .i64 0) ∧ w'.cell? ⟨w.heap.size + 1 + 1 + 1, 1, none⟩ = some (.int .i64 0) ∧ w'.cell? ⟨w.heap.size + 1 + 1 + 1, 2, none⟩ = some (.int .i64 0) ∧ w'.cell? ⟨w.heap.size + 1 + 1 + 1, 3, none⟩ = some (.int .i64 0) ∧ w'.cell? ⟨w.heap.size + 1 + 1 + 1 + 1, 0, none⟩ = some (.int .i64 0) ∧ w'.cell? ⟨w.heap.size + 1 + 1 + 1 + 1, 1, none⟩ = some (.int .i64 0) ∧ w'.cell? ⟨w.heap.size + 1 + 1 + 1 + 1, 2, none⟩ = some (.int .i64 0) ∧ w'.cell? ⟨w.heap.size + 1 + 1 + 1 + 1, 3, none⟩ = some (.int .i64 0)) ∧ (w'.cell? ⟨g, off + 3 * i, none⟩ = some (.int .i64 p0) ∧ w'.cell? ⟨g, off + 3 * i + 1, none⟩ = some (.int .i64 p1) ∧ w'.cell? ⟨g, off + 3 * i + 2, none⟩ = some (.int .i64 p2))) (((refine (fun kb => (⟨kb, RD0.out _ (below_at KR0.out hsW kb), PU.out _ kb⟩)) (?_ : Below wr.heap.size wr _); exact (by repeat (first | exact Below.refl _ _ | assumption | (refine Below.drew ?_) | (refine below_drewN ?_ _) | (refine Below.alloc ?_ (by first | (simp; done) | (simp; omega) | omega) _) | (refine Below.setCell ?_ (by first | (simp; done) | (simp; omega) | omega) _) | (refine Below.trans ?_ (Below.mono (by assumption) (by first | (simp; done) | (simp; omega) | omega)))))))) (first | (go_at_call 165; refine (HSK.out _).mono ?_; go_must (rintro e w5 ⟨rfl, hb5⟩; have hs5 := hb5.size; (try simp at hs5); obtain ⟨hc5, hf5⟩ := bcell hb5; (first | have z := z10 hs5 | have z := z9 hs5 | have z := z8 hs5 | have z := z7 hs5 | have z := z6 hs5 | have z := z5 hs5 | have z := z4 hs5 | have z := z3 hs5 | have z := z2 hs5 | have z := z1 hs5 | skip))))
          all_goals (try go_wp2_with fail)
          all_goals go_meet
          all_goals (refine ⟨_, rfl, rfl, by omega, by first | (simp; done) | (simp; omega), by go_simp, by go_simp, by go_simp, by repeat (first | exact Below.refl _ _ | assumption | (refine Below.drew ?_) | (refine below_drewN ?_ _) | (refine Below.alloc ?_ (by first | (simp; done) | (simp; omega) | omega) _) | (refine Below.setCell ?_ (by first | (simp; done) | (simp; omega) | omega) _) | (refine Below.trans ?_ (Below.mono (by assumption) (by first | (simp; done) | (simp; omega) | omega))))⟩)
        case rest =>
          obtain ⟨g8, rfl, rfl, hg8, hg8', y0, y1, y2, hbx⟩ := hcut
          have hbq := below_at hb2 hs2 hbx
          have hlk := CntM.look HM2.out (a0, a1, a2) HWK.out wc hbq
          have K0 := below_at KR0.out hsW hbx
          have h1 := clash_one HAT.out
          have HS := Lib.hid (fun h => lone_step HLO.out HAT.out h)
          have HCS := Lib.hid (fun b => clash_some (b := b) HLO.out HAT.out)
          have HSL := Lib.hid (fun (b : Nat) (hb : (idxs (L.map F) (a0, a1, a2))[1]? = some b) (V : World) (hV : V.heap[w1.heap.size]? = wq.heap[w1.heap.size]?) => SecM.look HN2.out (a0, a1, a2) HWK.out hb V hV)
          rw [← HCL.out] at HCS
          generalize idxs (L.map F) (a0, a1, a2) = I at *
          simp only [ptV] at hlk HSL
          clear r0 r1 r2
          by_cases h2 : I.length = 1
          · have HI := Lib.hid h2
            rw [h2] at hlk
            clear h1 h2
            go_wp2
            go_roundw
            case rel => exact ⟨i + 1, HLT.out, by simp, Lib.hid (HS.out (by rw [HI.out]; exact Nat.le_refl _)), hbq⟩
            case measure => simp only [intOf]; have := HLT.out; omega
          · have h3 : 1 < I.length := by omega
            have hI1 : I[1]? = some I[1] := List.getElem?_eq_getElem h3
            have HR := Lib.hid (HCS.out I[1] hI1)
            have hnb := hbq.block w1.heap.size HN2.out.lt
            have hls := HSL.out I[1] hI1 wc.drew hnb
            have hne : ∀ o, w1.heap.size ≠ (⟨w.heap.size + 1 + 1 + 1, o, none⟩ : Addr).block := fun o => by show w1.heap.size ≠ w.heap.size + 1 + 1 + 1; omega
            have hls2 := HSL.out I[1] hI1 ((((wc.setCell ⟨w.heap.size + 1 + 1 + 1, 0, none⟩ (.int .i64 0)).setCell ⟨w.heap.size + 1 + 1 + 1, 1, none⟩ (.int .i64 p0)).setCell ⟨w.heap.size + 1 + 1 + 1, 2, none⟩ (.int .i64 p1)).setCell ⟨w.heap.size + 1 + 1 + 1, 3, none⟩ (.int .i64 p2)).drew ((Below.heap_setCell _ _ _ _ (hne _)).trans ((Below.heap_setCell _ _ _ _ (hne _)).trans ((Below.heap_setCell _ _ _ _ (hne _)).trans ((Below.heap_setCell _ _ _ _ (hne _)).trans hnb))))
            clear hI1 h1 h2 HCS HSL
            generalize I[1] = b at *
            generalize I.length = n at *
            have h3' : (1 : Int) < (n : Int) := by omega
            generalize hq : L.getD b (0, 0, 0) = q at *
            have HQ := Lib.hid hq; clear hq
            obtain ⟨q0, q1, q2⟩ := q
            have x0 := PU.out wc hbx
            obtain ⟨r0, r1, r2⟩ := x0
            obtain ⟨k0_0, k0_1, k0_2, k0_3, k0_4, k0_5, k0_6, k0_7, k0_8, k0_9, k0_10, k0_11, k0_12, k0_13, k0_14, k0_15, k0_16, k0_17⟩ := RD0.out _ K0
            have hfz := fun b o (h : b < W0.heap.size) => (bcellB K0).2 b o h
            rw [← HW0.out] at hfz
            go_wp2_with fail
            go_region
            all_goals
              have KX := KW0.out.trans (K0.mono (by omega))
              go_wp2
              refine bodyPost_ret (v := .tuple #[.agg #[.int .i64 0, .int .i64 p0, .int .i64 p1, .int .i64 p2], .agg #[.int .i64 0, .int .i64 q0, .int .i64 q1, .int .i64 q2], .bool true]) (by simp only [results, Tryz.results121]; first | (go_simp; done) | (go_simp; rfl)) rfl ⟨by rw [HLE.out, HR.out]; simp only [rclashV, clashPts, HGD.out, HQ.out, elV], ?_⟩
              exact (by (repeat (first | (with_reducible refine Below.setCell ?_ (by first | (simp; done) | (simp; omega) | omega) _) | (with_reducible refine Below.drew ?_) | (with_reducible refine below_drewN ?_ _))); with_reducible exact KX)
    obtain ⟨-, hi, hg, hc⟩ := HX.out k hlt
    have rd := fun j hj => (hb.cell (p := ⟨g, off + 3 * k + j, none⟩) hg).trans (hc j hj)
    clear hc
    have hmem : L[k] ∈ L := List.getElem_mem hlt
    have HSK := Lib.hid (HSP.out L[k] hmem)
    have HWK := Lib.hid (HWF.out L[k] hmem)
    have HT := Lib.hid (show (L.take (k + 1)).map F = (L.take k).map F ++ [F L[k]] by rw [List.take_succ_eq_append_getElem hlt, List.map_append]; rfl)
    have HTL := Lib.hid (show ((L.take k).map F).length = k by rw [List.length_map, List.length_take]; omega)
    have HGD := Lib.hid (show L.getD k (0, 0, 0) = L[k] by simp [List.getD, hlt])
    have HKL := Lib.hid (show k ≤ 68921 by have := HPL.out; omega)
    have HLT := Lib.hid hlt
    clear hmem
    generalize (L.take k).map F = D at *
    generalize L[k] = p at *
    generalize F p = a at *
    obtain ⟨p0, p1, p2⟩ := p
    obtain ⟨a0, a1, a2⟩ := a
    simp only at HSK
    have r0 : wr.cell? ⟨g, off + 3 * k, none⟩ = some (.int .i64 p0) := rd 0 (by omega)
    have r1 : wr.cell? ⟨g, off + 3 * k + 1, none⟩ = some (.int .i64 p1) := rd 1 (by omega)
    have r2 : wr.cell? ⟨g, off + 3 * k + 2, none⟩ = some (.int .i64 p2) := rd 2 (by omega)
    clear rd
    have hgr : g < wr.heap.size := by omega
    have PT := Lib.hid (show ∀ V, Below wr.heap.size wr V → V.cell? ⟨g, off + 3 * k, none⟩ = some (.int .i64 p0) ∧ V.cell? ⟨g, off + 3 * k + 1, none⟩ = some (.int .i64 p1) ∧ V.cell? ⟨g, off + 3 * k + 2, none⟩ = some (.int .i64 p2) from fun V h => ⟨(h.cell (p := ⟨g, off + 3 * k, none⟩) hgr).trans (by assumption), (h.cell (p := ⟨g, off + 3 * k + 1, none⟩) hgr).trans (by assumption), (h.cell (p := ⟨g, off + 3 * k + 2, none⟩) hgr).trans (by assumption)⟩)
    have KR0 := Lib.hid K0
    have hsW : W0.heap.size ≤ wr.heap.size := by omega
    go_wp2_with fail
    go_cut [12, 13] from 21 to 50 (fun t12 t13 wx => ∃ g8, t13 = .pointer (some ⟨g8, 0, none⟩) ∧ t12 = .int .i64 (k : Nat) ∧ wr.heap.size ≤ g8 ∧ g8 < wx.heap.size ∧ wx.cell? ⟨g8, 0, none⟩ = some (.int .i64 a0) ∧ wx.cell? ⟨g8, 1, none⟩ = some (.int .i64 a1) ∧ wx.cell? ⟨g8, 2, none⟩ = some (.int .i64 a2) ∧ Below wr.heap.size wr wx)
    case first =>
      clear r0 r1 r2 K0
      go_region_held3 (fun w' => Below wr.heap.size wr w' ∧ (w'.cell? ⟨w.heap.size, 0, none⟩ = some (.int .i64 r.n) ∧ w'.cell? ⟨w.heap.size, 1, none⟩ = some (r.lv) ∧ w'.cell? ⟨w.heap.size, 2, none⟩ = some (r.vv) ∧ w'.cell? ⟨w.heap.size + 1, 0, none⟩ = some (.int .i64 s.f.1) ∧ w'.cell? ⟨w.heap.size + 1, 1, none⟩ = some (.int .i64 s.f.2.1) ∧ w'.cell? ⟨w.heap.size + 1, 2, none⟩ = some (.int .i64 s.f.2.2) ∧ w'.cell? ⟨w.heap.size + 1, 3, none⟩ = some (s.ov) ∧ w'.cell? ⟨w.heap.size + 1 + 1, 0, none⟩ = some (.int .i64 u.1) ∧ w'.cell? ⟨w.heap.size + 1 + 1, 1, none⟩ = some (.int .i64 u.2.1) ∧ w'.cell? ⟨w.heap.size + 1 + 1, 2, none⟩ = some (.int .i64 u.2.2) ∧ w'.cell? ⟨w.heap.size + 1 + 1 + 1, 0, none⟩ = some (.int .i64 0) ∧ w'.cell? ⟨w.heap.size + 1 + 1 + 1, 1, none⟩ = some (.int .i64 0) ∧ w'.cell? ⟨w.heap.size + 1 + 1 + 1, 2, none⟩ = some (.int .i64 0) ∧ w'.cell? ⟨w.heap.size + 1 + 1 + 1, 3, none⟩ = some (.int .i64 0) ∧ w'.cell? ⟨w.heap.size + 1 + 1 + 1 + 1, 0, none⟩ = some (.int .i64 0) ∧ w'.cell? ⟨w.heap.size + 1 + 1 + 1 + 1, 1, none⟩ = some (.int .i64 0) ∧ w'.cell? ⟨w.heap.size + 1 + 1 + 1 + 1, 2, none⟩ = some (.int .i64 0) ∧ w'.cell? ⟨w.heap.size + 1 + 1 + 1 + 1, 3, none⟩ = some (.int .i64 0)) ∧ (w'.cell? ⟨g, off + 3 * k, none⟩ = some (.int .i64 p0) ∧ w'.cell? ⟨g, off + 3 * k + 1, none⟩ = some (.int .i64 p1) ∧ w'.cell? ⟨g, off + 3 * k + 2, none⟩ = some (.int .i64 p2))) (((refine (fun kb => (⟨kb, RD0.out _ (below_at KR0.out hsW kb), PT.out _ kb⟩)) (?_ : Below wr.heap.size wr _); exact (by repeat (first | exact Below.refl _ _ | assumption | (refine Below.drew ?_) | (refine below_drewN ?_ _) | (refine Below.alloc ?_ (by first | (simp; done) | (simp; omega) | omega) _) | (refine Below.setCell ?_ (by first | (simp; done) | (simp; omega) | omega) _) | (refine Below.trans ?_ (Below.mono (by assumption) (by first | (simp; done) | (simp; omega) | omega)))))))) (first | (go_at_call 165; refine (HSK.out _).mono ?_; go_must (rintro e w5 ⟨rfl, hb5⟩; have hs5 := hb5.size; (try simp at hs5); obtain ⟨hc5, hf5⟩ := bcell hb5; (first | have z := z10 hs5 | have z := z9 hs5 | have z := z8 hs5 | have z := z7 hs5 | have z := z6 hs5 | have z := z5 hs5 | have z := z4 hs5 | have z := z3 hs5 | have z := z2 hs5 | have z := z1 hs5 | skip))))
      all_goals (try go_wp2_with fail)
      all_goals go_meet
      all_goals (refine ⟨_, rfl, rfl, by omega, by first | (simp; done) | (simp; omega), by go_simp, by go_simp, by go_simp, by repeat (first | exact Below.refl _ _ | assumption | (refine Below.drew ?_) | (refine below_drewN ?_ _) | (refine Below.alloc ?_ (by first | (simp; done) | (simp; omega) | omega) _) | (refine Below.setCell ?_ (by first | (simp; done) | (simp; omega) | omega) _) | (refine Below.trans ?_ (Below.mono (by assumption) (by first | (simp; done) | (simp; omega) | omega))))⟩)
    case rest =>
      obtain ⟨g8, rfl, rfl, hg8, hg8', y0, y1, y2, hbx⟩ := hcut
      have hsx := hbx.size
      have hlt1 := HM.out.lt
      have hbd : Below wr.heap.size wr wc.drew := hbx.drew
      obtain ⟨st, w2, hr, hg2, hl2, hst⟩ := CntM.step (MapV.kept HM.out hbd) (by have := HKL.out; omega) (a0, a1, a2) HWK.out
      obtain ⟨w3, hr3, hm3, hg3⟩ := hst w2 rfl
      have hlk := CntM.look (MapV.kept HM.out hbd) (a0, a1, a2) HWK.out wc.drew (Below.refl _ _)
      simp only [ptV] at hr hlk hl2
      simp only [goInt] at hr3
      have hil := idxs_len D (a0, a1, a2)
      rw [HTL.out] at hil
      have hil2 : (idxs D (a0, a1, a2)).length ≤ 1000000 := by have := HKL.out; omega
      have hs2 := hg2.size
      have hs3 := hg3.size
      have hsd : wc.drew.heap.size = wc.heap.size := by simp
      have hg8e : w3.heap[g8]? = wc.heap[g8]? := (hg3.block g8 (by omega) (by intro e; simp only [Option.some.injEq] at e; omega)).trans (hg2.block g8 (by omega) (by intro e; simp only [Option.some.injEq] at e; omega))
      have z0 := (World.cell?_of_block (a := ⟨g8, 0, none⟩) hg8e).trans y0
      have z1 := (World.cell?_of_block (a := ⟨g8, 1, none⟩) hg8e).trans y1
      have z2 := (World.cell?_of_block (a := ⟨g8, 2, none⟩) hg8e).trans y2
      have hB3 : Below w1.heap.size w1 w3 := ((below_at hb hs hbd).grown hg2 (by omega) (fun r e => by cases e; omega)).grown hg3 (by omega) (fun r e => by cases e; omega)
      have hN3 : SecM w3 w1.heap.size n2 L D := ((MapV.kept HN.out hbd).grown hg2 (by simp)).grown hg3 (by simp)
      have hpe : w3.heap[g]? = wr.heap[g]? := (hB3.block g hg).trans (hb.block g hg).symm
      have q0 := (World.cell?_of_block (a := ⟨g, off + 3 * k, none⟩) hpe).trans r0
      have q1 := (World.cell?_of_block (a := ⟨g, off + 3 * k + 1, none⟩) hpe).trans r1
      have q2 := (World.cell?_of_block (a := ⟨g, off + 3 * k + 2, none⟩) hpe).trans r2
      have hl3 := CntM.look hm3 (a0, a1, a2) HWK.out w3 (Below.refl _ _)
      rw [idxs_snoc, if_pos rfl, List.length_append, List.length_singleton] at hl3
      simp only [ptV] at hl3
      have HNE := Lib.hid (fun h => secF_snoc L D (a0, a1, a2) h)
      have HST := Lib.hid (fun (V : World) (hV : SecM V w1.heap.size n2 L D) (h1 : (idxs D (a0, a1, a2)).length = 1) => SecM.step hV (by have := HKL.out; omega) (a0, a1, a2) HWK.out h1 (p := (p0, p1, p2)) (by rw [HTL.out]; exact HGD.out))
      generalize (idxs D (a0, a1, a2)).length = n at *
      clear r0 r1 r2 hst
      go_wp2_with fail
      go_region
      all_goals
        clear hr hr3 hlk hl2
        by_cases hn1 : n = 1
        · subst hn1
          obtain ⟨w4, hr4, hm4, hg4⟩ := HST.out w3.drew (MapV.kept hN3 (Below.refl _ _).drew) rfl
          simp only [ptV] at hr4
          go_wp2_with fail
          go_region
          all_goals
            go_wp2
            go_roundw
            case rel => exact ⟨k + 1, n2 + 1, HLT.out, by simp, Lib.hid (by rw [HT.out]; exact (MapV.kept hm3 (Below.refl _ _).drew).grown hg4 (by simp)), Lib.hid (by rw [HT.out]; exact hm4), by omega, hB3.drew.grown hg4 (by simp; omega) (fun r e => by cases e; exact Nat.le_refl _)⟩
            case measure => simp only [intOf]; have := HLT.out; omega
        · go_wp2
          go_roundw
          case rel => exact ⟨k + 1, n2, HLT.out, by simp, Lib.hid (by rw [HT.out]; exact hm3), Lib.hid (by rw [HT.out]; unfold SecM; rw [HNE.out hn1]; exact hN3), by omega, hB3⟩
          case measure => simp only [intOf]; have := HLT.out; omega
end Go.Proofs.YtnejicklenhpeaaGreat
namespace Go.Proofs.YtnejicklenhpeaaGreat
open Go.RowKit Go.WideMaps
def safeB (r : RecD) (s : SchedD) (u : P3) : Bool := decide (askS r s u = 0) && (clashL r s u).isNone
theorem askS_cases (r : RecD) (s : SchedD) (u : P3) : askS r s u = 0 ∨ askS r s u = 40 ∨ askS r s u = 20 ∨ askS r s u = 30 := by
  unfold askS
  split
  · split
    · rcases askE_cases r u with h | h | h <;> simp [h]
    · simp
  · simp
end Go.Proofs.YtnejicklenhpeaaGreat
namespace Go.Proofs.YtnejicklenhpeaaGreat
open Go.RowKit Go.WideMaps
def clashErr (r : RecD) (s : SchedD) (u : P3) : Int := if askS r s u = 0 then (if (clashL r s u).isNone = true then 5 else 0) else askS r s u
def clashO (r : RecD) (s : SchedD) (u : P3) : Option (Nat × Nat) := if askS r s u = 0 then clashL r s u else none
/-- The two elements that clash, and the error. -/
def clashX (r : RecD) (s : SchedD) (u : P3) : P3 × P3 := ((clashPts (ptsL r.n r.l) (clashO r s u)).1, (clashPts (ptsL r.n r.l) (clashO r s u)).2.1)
def clashXV (r : RecD) (s : SchedD) (u : P3) : Value := .tuple #[elV (clashX r s u).1, elV (clashX r s u).2, .int .i64 (clashErr r s u)]
theorem clashXV_bad {r : RecD} {s : SchedD} {u : P3} (h : askS r s u ≠ 0) : clashXV r s u = .tuple #[.agg #[.int .i64 0, .int .i64 0, .int .i64 0, .int .i64 0], .agg #[.int .i64 0, .int .i64 0, .int .i64 0, .int .i64 0], .int .i64 (askS r s u)] := by
  unfold clashXV clashX clashO clashErr
  rw [if_neg h, if_neg h]; rfl
theorem clashXV_none {r : RecD} {s : SchedD} {u : P3} (h : askS r s u = 0) (hc : clashL r s u = none) : clashXV r s u = .tuple #[.agg #[.int .i64 0, .int .i64 0, .int .i64 0, .int .i64 0], .agg #[.int .i64 0, .int .i64 0, .int .i64 0, .int .i64 0], .int .i64 5] := by
  unfold clashXV clashX clashO clashErr
  rw [if_pos h, if_pos h, hc]; rfl
theorem clashXV_some {r : RecD} {s : SchedD} {u : P3} (h : askS r s u = 0) {i k : Nat} (hc : clashL r s u = some (i, k)) {a b : P3} (ha : (ptsL r.n r.l).getD i (0, 0, 0) = a) (hb : (ptsL r.n r.l).getD k (0, 0, 0) = b) : clashXV r s u = .tuple #[.agg #[.int .i64 0, .int .i64 a.1, .int .i64 a.2.1, .int .i64 a.2.2], .agg #[.int .i64 0, .int .i64 b.1, .int .i64 b.2.1, .int .i64 b.2.2], .int .i64 0] := by
  unfold clashXV clashX clashO clashErr
  rw [if_pos h, if_pos h, hc]
  simp only [clashPts, ha, hb, elV]
  rfl
theorem heap_at {w : World} {o : Obj} {n : Nat} (h : w.heap.size = n) : (w.alloc o).heap[n]? = some o := h ▸ heap_alloc_new w o
theorem ne_of_cells {W : World} {b g n : Nat} {v : Value} {cs : Array Value} {t : TypeId} (h : W.heap[b]? = some (.cells cs t)) (hc : W.cell? ⟨g, n, none⟩ = some v) (hn : cs.size ≤ n) : (g = b) = False ∧ (b = g) = False := by
  have : g ≠ b := by
    rintro rfl
    simp only [World.cell?, h] at hc
    simp at hc
    rw [Array.getElem?_eq_none hn] at hc
    cases hc
  exact ⟨eq_false this, eq_false (Ne.symm this)⟩
theorem ne_of_vals {W : World} {b g n : Nat} {v u : Value} (h : W.cell? ⟨b, n, none⟩ = some v) (hc : W.cell? ⟨g, n, none⟩ = some u) (hn : u ≠ v) : (g = b) = False ∧ (b = g) = False := by
  have : g ≠ b := by
    rintro rfl
    rw [h] at hc
    cases hc
    exact hn rfl
  exact ⟨eq_false this, eq_false (Ne.symm this)⟩
end Go.Proofs.YtnejicklenhpeaaGreat
namespace Go.Proofs.YtnejicklenhpeaaGreat
open Go.RowKit Go.WideMaps
end Go.Proofs.YtnejicklenhpeaaGreat
namespace Go.Proofs.YtnejicklenhpeaaGreat
open Go.RowKit
theorem eq_ptd (d : Nat) (p q : P3) (w : World) : (Op.equalIn (d + 2) 29 (.agg #[.int .i64 p.1, .int .i64 p.2.1, .int .i64 p.2.2]) (.agg #[.int .i64 q.1, .int .i64 q.2.1, .int .i64 q.2.2])).run Tryz.prog w = .ok (decide (p = q)) w := by
  obtain ⟨i, hi⟩ : ∃ i, Tryz.prog.info? 3 = some i := Option.isSome_iff_exists.mp (by kernel_rfl)
  rw [run_equalIn_array w (d + 1) (n := 3) (e := 3) _ _ Tryz.underlying29 hi]
  simp only [show Tryz.prog.cellsOf 3 = 1 by kernel_rfl]
  obtain ⟨a, b, c⟩ := p
  obtain ⟨x, e, f⟩ := q
  by_cases h1 : a = x <;> by_cases h2 : b = e <;> by_cases h3 : c = f <;> simp [Op.eqItems, List.range_succ, part3_0, part3_1, part3_2, eq_int d, h1, h2, h3]
theorem eq_celld (d : Nat) (a b x y : Int) (w : World) : (Op.equalIn (d + 2) 31 (.agg #[.int .i64 a, .int .i64 b]) (.agg #[.int .i64 x, .int .i64 y])).run Tryz.prog w = .ok (decide (a = x) && decide (b = y)) w := by
  obtain ⟨i, hi⟩ : ∃ i, Tryz.prog.info? 3 = some i := Option.isSome_iff_exists.mp (by kernel_rfl)
  rw [run_equalIn_array w (d + 1) (n := 2) (e := 3) _ _ Tryz.underlying31 hi]
  simp only [show Tryz.prog.cellsOf 3 = 1 by kernel_rfl]
  by_cases h1 : a = x <;> by_cases h2 : b = y <;> simp [Op.eqItems, List.range_succ, part2_0, part2_1, eq_int d, h1, h2]
abbrev ElD := Int × P3
def elD (e : ElD) : Value := .agg #[.int .i64 e.1, .int .i64 e.2.1, .int .i64 e.2.2.1, .int .i64 e.2.2.2]
theorem part_el0 (a x y z : Value) (w : World) : (part 3 #[a, x, y, z] 0).run Tryz.prog w = .ok a w := by kernel_rfl
theorem part_el1 (a x y z : Value) (w : World) : (part 29 #[a, x, y, z] 1).run Tryz.prog w = .ok (.agg #[x, y, z]) w := by kernel_rfl
theorem fields_el : Tryz.prog.underlying 51 = some (.struct (Tryz.prog.fieldsOf 51)) := by kernel_rfl
theorem eq_el (d : Nat) (a b : ElD) (w : World) : (Op.equalIn (d + 3) 51 (elD a) (elD b)).run Tryz.prog w = .ok (decide (a = b)) w := by
  unfold elD
  rw [run_equalIn_struct w (d + 2) 51 _ _ fields_el (by kernel_rfl)]
  obtain ⟨fs, hfs⟩ : ∃ fs, (Tryz.prog.fieldsOf 51).toList = fs := ⟨_, rfl⟩
  obtain ⟨v, p⟩ := a
  obtain ⟨u, q⟩ := b
  have e1 := Tryz.underlying51
  rw [fields_el] at e1
  simp only [Option.some.injEq, TypeDesc.struct.injEq] at e1
  rw [e1]
  by_cases h1 : v = u <;> by_cases h2 : p = q <;> simp [Op.eqFields, part_el0, part_el1, eq_int (d + 1), eq_ptd d, h1, h2]
structure EvD where
  t : Int
  c : Int × Int
  e : ElD
  deriving DecidableEq
def evD (x : EvD) : Value := .agg #[.int .i64 x.t, .int .i64 x.c.1, .int .i64 x.c.2, .int .i64 x.e.1, .int .i64 x.e.2.1, .int .i64 x.e.2.2.1, .int .i64 x.e.2.2.2]
theorem part_ev0 (t a b v x y z : Value) (w : World) : (part 3 #[t, a, b, v, x, y, z] 0).run Tryz.prog w = .ok t w := by kernel_rfl
theorem part_ev1 (t a b v x y z : Value) (w : World) : (part 31 #[t, a, b, v, x, y, z] 1).run Tryz.prog w = .ok (.agg #[a, b]) w := by kernel_rfl
theorem part_ev3 (t a b v x y z : Value) (w : World) : (part 51 #[t, a, b, v, x, y, z] 3).run Tryz.prog w = .ok (.agg #[v, x, y, z]) w := by kernel_rfl
theorem fields_ev : Tryz.prog.underlying 54 = some (.struct (Tryz.prog.fieldsOf 54)) := by kernel_rfl
theorem eq_ev (d : Nat) (a b : EvD) (w : World) : (Op.equalIn (d + 4) 54 (evD a) (evD b)).run Tryz.prog w = .ok (decide (a = b)) w := by
  unfold evD
  rw [run_equalIn_struct w (d + 3) 54 _ _ fields_ev (by kernel_rfl)]
  obtain ⟨t, ⟨c0, c1⟩, e⟩ := a
  obtain ⟨u, ⟨f0, f1⟩, f⟩ := b
  have e1 := Tryz.underlying54
  rw [fields_ev] at e1
  simp only [Option.some.injEq, TypeDesc.struct.injEq] at e1
  rw [e1]
  have e2 := eq_el d e f
  unfold elD at e2
  by_cases h4 : e = f
  · subst h4
    by_cases h1 : t = u <;> by_cases h2 : c0 = f0 <;> by_cases h3 : c1 = f1 <;> simp [Op.eqFields, part_ev0, part_ev1, part_ev3, eq_int (d + 2), eq_celld (d + 1), e2, h1, h2, h3]
  · by_cases h1 : t = u <;> by_cases h2 : c0 = f0 <;> by_cases h3 : c1 = f1 <;> simp [Op.eqFields, part_ev0, part_ev1, part_ev3, eq_int (d + 2), eq_celld (d + 1), e2, h1, h2, h3, h4]
end Go.Proofs.YtnejicklenhpeaaGreat
