/- The reference for recurrences: Valid; and the law's Wide: their walks. -/
import Derived.Test.YtndfdgdahinkpaaRecN
namespace Go.Proofs.Ytndfdgdahinkpaa
open Go.RowKit
theorem toList_one (t : ByteArray) (c : UInt8) : (t.toList == [c]) = true ↔ t = ⟨#[c]⟩ := by
  rw [beq_iff_eq, ByteArray.toList_eq]
  constructor
  · intro h
    exact WideShapes.bytes_inj (by rw [h])
  · rintro rfl; rfl
theorem Valid2_eq (n : Int) (l : List IneqD) (vs : List VarD) : validR n l vs = (validD n l && (decide ((ptsL n l).length ≤ 1000) && (decide (1 ≤ vs.length ∧ vs.length ≤ 4) && (vs.all (varB n vs.length) && decide (names vs).Nodup)))) := rfl
set_option maxHeartbeats 4000000 in
set_option maxRecDepth 100000 in
theorem Valid2_l (r : RecD) (w : World) (hr : RecRd w r) :
    Calls Try.prog 52 #[.agg #[.int .i64 r.n, r.lv, r.vv]] w fun e w' => e = .returned (.bool (validR r.n r.l r.vars)) ∧ Below w.heap.size w w' := by
  obtain ⟨hl, hvs, heach⟩ := hr
  obtain ⟨n, lv, l, vv, vs⟩ := r
  simp only at hl hvs heach ⊢
  have HL := Lib.hid hl; clear hl
  obtain ⟨va, vcap, vg, voff, rfl, hlc, hcm, hx⟩ := SlOf.at (enc := encV) (fun _ => rfl) un_vars sz_vars hvs
  have HX := Lib.hid hx; clear hx hvs
  have HE := Lib.hid heach; clear heach
  unfold maxLen at hcm
  have HCV := Lib.hid (fun (W : World) (hw : SlOf W W.heap.size 4 encI lv l) => rValidD_l n l W lv hw)
  obtain ⟨W0, hW0⟩ : ∃ W : World, w.alloc (Obj.cells #[.int .i64 n, lv, .slice va vs.length vcap] 27) = W := ⟨_, rfl⟩
  have kw : Below w.heap.size w W0 := by rw [← hW0]; exact (by repeat (first | exact Below.refl _ _ | assumption | (refine Below.drew ?_) | (refine below_drewN ?_ _) | (refine Below.alloc ?_ (by first | (simp; done) | (simp; omega) | omega) _) | (refine Below.setCell ?_ (by first | (simp; done) | (simp; omega) | omega) _) | (refine Below.trans ?_ (Below.mono (by assumption) (by first | (simp; done) | (simp; omega) | omega)))))
  have ks : W0.heap.size = w.heap.size + 1 := by rw [← hW0]; simp
  have y0 : W0.cell? ⟨w.heap.size, 0, none⟩ = some (.int .i64 n) := by subst hW0; go_simp
  have y1 : W0.cell? ⟨w.heap.size, 1, none⟩ = some lv := by subst hW0; go_simp
  have y2 : W0.cell? ⟨w.heap.size, 2, none⟩ = some (.slice va vs.length vcap) := by subst hW0; go_simp
  have HW := Lib.hid hW0; have KW := Lib.hid kw; clear hW0 kw
  have EV0 := Lib.hid (Valid2_eq n l vs)
  cases hd : validD n l
  · have EV := Lib.hid (show validR n l vs = false by rw [EV0.out, hd]; rfl)
    have HD := Lib.hid hd; clear hd EV0
    go_enter Try.func52, Try.ntmps52
    go_wp2_with (go_at_call 36; rw [HW.out]; refine (HCV.out _ (HL.out.below KW.out)).mono ?_; go_must (rintro e w1 ⟨rfl, hb1⟩; rw [HD.out]))
    go_ret
    exact ⟨ret_bool EV.out.symm, below_at KW.out (by omega) hb1⟩
  have HD := Lib.hid hd; clear hd
  have hdn := (validD_out HD.out).1
  have HSM := Lib.hid (validD_out HD.out).2.2
  have hln := ptsL_len n l
  have RD := Lib.hid (show ∀ V, Below W0.heap.size W0 V → V.cell? ⟨w.heap.size, 0, none⟩ = some (.int .i64 n) ∧ V.cell? ⟨w.heap.size, 1, none⟩ = some lv ∧ V.cell? ⟨w.heap.size, 2, none⟩ = some (.slice va vs.length vcap) from fun V h => ⟨(h.cell (p := ⟨w.heap.size, 0, none⟩) (by simp; omega)).trans y0, (h.cell (p := ⟨w.heap.size, 1, none⟩) (by simp; omega)).trans y1, (h.cell (p := ⟨w.heap.size, 2, none⟩) (by simp; omega)).trans y2⟩)
  clear y0 y1 y2
  by_cases h14 : 1 ≤ vs.length ∧ vs.length ≤ 4
  rotate_left
  · have EV := Lib.hid (show validR n l vs = false by rw [EV0.out]; simp [h14])
    clear EV0
    by_cases h1 : vs.length < 1
    all_goals
      go_enter Try.func52, Try.ntmps52
      go_wp2_with (go_at_call 36; rw [HW.out]; refine (HCV.out _ (HL.out.below KW.out)).mono ?_; go_must (rintro e w1 ⟨rfl, hb1⟩; rw [HD.out]; obtain ⟨k0, k1, k2⟩ := RD.out _ hb1))
      go_ret
      exact ⟨ret_bool EV.out.symm, below_at KW.out (by omega) hb1⟩
  obtain ⟨h1, h4⟩ := h14
  have HA := Lib.hid (fun (W : World) (hw : SlOf W W.heap.size 4 encI lv l) => rAll_l n l hdn HSM.out W lv hw)
  by_cases h1000 : (ptsL n l).length ≤ 1000
  rotate_left
  · have EV := Lib.hid (show validR n l vs = false by rw [EV0.out]; simp [h1000])
    clear EV0
    generalize hN : ptsL n l = L at *
    have HN := Lib.hid hN; clear hN
    go_enter Try.func52, Try.ntmps52
    go_wp2_with (first | (go_at_call 36; rw [HW.out]; refine (HCV.out _ (HL.out.below KW.out)).mono ?_; go_must (rintro e w1 ⟨rfl, hb1⟩; rw [HD.out]; obtain ⟨k0, k1, k2⟩ := RD.out _ hb1; have KA := Lib.hid (below_at KW.out (by omega) hb1))) | (go_at_call 37; refine (HA.out _ (SlOf.below HL.out KA.out)).mono ?_; go_must (rintro e w2 ⟨⟨v', rfl, hsl⟩, hb2⟩; obtain ⟨a', c', rfl, -⟩ := hsl.shape; clear hsl)))
    go_ret
    exact ⟨ret_bool EV.out.symm, below_at KA.out (by have := hb1.size; omega) hb2⟩
  have hd1 : decide ((vs.length : Int) < 1) = false := decide_eq_false (by omega)
  have hd4 : decide ((4 : Int) < (vs.length : Int)) = false := decide_eq_false (by omega)
  have hd5 : decide ((1000 : Int) < ((ptsL n l).length : Int)) = false := decide_eq_false (by omega)
  have EVY := Lib.hid (fun (h : okTo n vs.length vs vs.length) => validR_yes (l := l) h HD.out h1000 ⟨h1, h4⟩)
  clear EV0
  generalize hN : ptsL n l = L at *
  have HN := Lib.hid hN; clear hN
  go_enter Try.func52, Try.ntmps52
  go_wp2_with (first | (go_at_call 36; rw [HW.out]; refine (HCV.out _ (HL.out.below KW.out)).mono ?_; go_must (rintro e w1 ⟨rfl, hb1⟩; rw [HD.out]; obtain ⟨k0, k1, k2⟩ := RD.out _ hb1; have KA := Lib.hid (below_at KW.out (by omega) hb1))) | (go_at_call 37; refine (HA.out _ (SlOf.below HL.out KA.out)).mono ?_; go_must (rintro e w2 ⟨⟨v', rfl, hsl⟩, hb2⟩; obtain ⟨a', c', rfl, -⟩ := hsl.shape; clear hsl)))
  have K2 := below_at hb1 (by have := hb1.size; omega) hb2
  clear k0 k1 k2 hb1 hb2
  go_loopw [3] (fun t3 wr => ∃ k : Nat, k ≤ vs.length ∧ t3 = .int .i64 (k : Nat) ∧ Hid (okTo n vs.length vs k) ∧ Below W0.heap.size W0 wr) (fun t3 _ => vs.length - (intOf t3).toNat)
  case atStart => exact ⟨0, Nat.zero_le _, rfl, Lib.hid (okTo_0 _ _ _), K2⟩
  case round =>
    clear K2 KA
    obtain ⟨k, hk, rfl, HO, hb⟩ := hrel
    obtain ⟨k0, k1, k2⟩ := RD.out wr hb
    have hs := hb.size
    have KR := below_at KW.out (by omega) hb
    by_cases hlt : k < vs.length
    rotate_left
    · have HK := Lib.hid (show k = vs.length by omega)
      go_wp2
      go_ret
      refine ⟨ret_bool ?_, KR⟩
      have := HO.out
      rw [HK.out] at this
      exact (EVY.out this).symm
    obtain ⟨-, hi, hg, hc⟩ := HX.out k hlt
    have rd := fun j hj => (KR.cell (p := ⟨vg, voff + 7 * k + j, none⟩) hg).trans (hc j hj)
    clear hc
    have HVR := Lib.hid (HE.out vs[k] (List.getElem_mem hlt))
    have HVV := Lib.hid (show ∀ V, Below w.heap.size w V → Calls Try.prog 76 #[.agg #[.int .i64 n, lv, .slice va vs.length vcap], .agg #[.string vs[k].name, .int .i64 vs[k].op, vs[k].argsV, .int .i64 vs[k].i0, .int .i64 vs[k].i1, .int .i64 vs[k].i2, .int .i64 vs[k].i3]] V fun e w' => e = .returned (.bool (varB2 n vs.length vs[k])) ∧ Below V.heap.size V w' from
      fun V hV => validVar2_l n lv _ vs.length hdn ⟨va, vcap, rfl⟩ vs[k] V ⟨HVR.out.1.below hV, HVR.out.2⟩)
    have HN1 := Lib.hid (fun (h : varB n vs.length vs[k] = false) => validR_no1 (l := l) hlt h)
    have HN2 := Lib.hid (fun (h : vs[k].name ∈ names (vs.take k)) => validR_no2 (n := n) (l := l) hlt h)
    have HS := Lib.hid (fun (h1 : varB n vs.length vs[k] = true) (h2 : vs[k].name ∉ names (vs.take k)) => okTo_succ HO.out hlt h1 h2)
    have HVO := Lib.hid (varB_of n vs.length vs[k])
    have HSH := HVR.out.1.shape
    have HNM := Lib.hid HVR.out.2
    clear HVR HO
    generalize hxk : vs[k] = x at *
    clear hxk
    obtain ⟨s, op, av, args, i0, i1, i2, i3⟩ := x
    simp only at HVV HSH HNM HN2 HS HVO
    obtain ⟨aa, ac, rfl, -⟩ := HSH
    have r0 : wr.cell? ⟨vg, voff + 7 * k, none⟩ = some (.string s) := rd 0 (by omega)
    have r1 : wr.cell? ⟨vg, voff + 7 * k + 1, none⟩ = some (.int .i64 op) := rd 1 (by omega)
    have r2 : wr.cell? ⟨vg, voff + 7 * k + 2, none⟩ = some (.slice aa args.length ac) := rd 2 (by omega)
    have r3 : wr.cell? ⟨vg, voff + 7 * k + 3, none⟩ = some (.int .i64 i0) := rd 3 (by omega)
    have r4 : wr.cell? ⟨vg, voff + 7 * k + 4, none⟩ = some (.int .i64 i1) := rd 4 (by omega)
    have r5 : wr.cell? ⟨vg, voff + 7 * k + 5, none⟩ = some (.int .i64 i2) := rd 5 (by omega)
    have r6 : wr.cell? ⟨vg, voff + 7 * k + 6, none⟩ = some (.int .i64 i3) := rd 6 (by omega)
    clear rd
    have zq := z1 (show w.heap.size + 1 ≤ wr.heap.size by omega)
    by_cases hsz : s.size = 1
    rotate_left
    · have HR := Lib.hid (HN1.out (by rw [HVO.out]; simp [nameB, hsz]))
      go_wp2
      go_ret
      exact ⟨ret_bool HR.out.symm, below_at KR (by omega) (by repeat (first | exact Below.refl _ _ | assumption | (refine Below.drew ?_) | (refine below_drewN ?_ _) | (refine Below.alloc ?_ (by first | (simp; done) | (simp; omega) | omega) _) | (refine Below.setCell ?_ (by first | (simp; done) | (simp; omega) | omega) _) | (refine Below.trans ?_ (Below.mono (by assumption) (by first | (simp; done) | (simp; omega) | omega)))))⟩
    obtain ⟨c, rfl⟩ := size1 hsz
    have hcc : ((⟨#[c]⟩ : ByteArray)[0]'(by simp [ByteArray.size])) = c := rfl
    have HNB := Lib.hid (show nameB ⟨#[c]⟩ = (decide (97 ≤ (c.toNat : Int)) && decide ((c.toNat : Int) ≤ 122)) from rfl)
    by_cases hc1 : 97 ≤ (c.toNat : Int) ∧ (c.toNat : Int) ≤ 122
    rotate_left
    · have HR := Lib.hid (HN1.out (by rw [HVO.out, HNB.out]; simp; omega))
      by_cases hc2 : (c.toNat : Int) < 97
      all_goals
        go_wp2
        go_ret
        exact ⟨ret_bool HR.out.symm, below_at KR (by omega) (by repeat (first | exact Below.refl _ _ | assumption | (refine Below.drew ?_) | (refine below_drewN ?_ _) | (refine Below.alloc ?_ (by first | (simp; done) | (simp; omega) | omega) _) | (refine Below.setCell ?_ (by first | (simp; done) | (simp; omega) | omega) _) | (refine Below.trans ?_ (Below.mono (by assumption) (by first | (simp; done) | (simp; omega) | omega)))))⟩
    obtain ⟨hc1, hc2⟩ := hc1
    have HV2 := Lib.hid (show varB n vs.length ⟨⟨#[c]⟩, op, .slice aa args.length ac, args, i0, i1, i2, i3⟩ = varB2 n vs.length ⟨⟨#[c]⟩, op, .slice aa args.length ac, args, i0, i1, i2, i3⟩ by rw [HVO.out, HNB.out]; simp [hc1, hc2])
    clear HVO HNB hsz
    generalize hvb : varB2 n vs.length ⟨⟨#[c]⟩, op, .slice aa args.length ac, args, i0, i1, i2, i3⟩ = vb at *
    have HVB := Lib.hid hvb; clear hvb
    cases vb
    · have HR := Lib.hid (HN1.out HV2.out)
      go_wp2_with (first | (go_at_call 76; refine (HVV.out _ (by repeat (first | exact Below.refl _ _ | assumption | (refine Below.drew ?_) | (refine below_drewN ?_ _) | (refine Below.alloc ?_ (by first | (simp; done) | (simp; omega) | omega) _) | (refine Below.setCell ?_ (by first | (simp; done) | (simp; omega) | omega) _) | (refine Below.trans ?_ (Below.mono (by assumption) (by first | (simp; done) | (simp; omega) | omega)))))).mono ?_; go_must (rintro e w2 ⟨rfl, hb2⟩)))
      go_ret
      exact ⟨ret_bool HR.out.symm, below_at KR (by omega) (by repeat (first | exact Below.refl _ _ | assumption | (refine Below.drew ?_) | (refine below_drewN ?_ _) | (refine Below.alloc ?_ (by first | (simp; done) | (simp; omega) | omega) _) | (refine Below.setCell ?_ (by first | (simp; done) | (simp; omega) | omega) _) | (refine Below.trans ?_ (Below.mono (by assumption) (by first | (simp; done) | (simp; omega) | omega)))))⟩
    go_wp2_with (first | (go_at_call 76; refine (HVV.out _ (by repeat (first | exact Below.refl _ _ | assumption | (refine Below.drew ?_) | (refine below_drewN ?_ _) | (refine Below.alloc ?_ (by first | (simp; done) | (simp; omega) | omega) _) | (refine Below.setCell ?_ (by first | (simp; done) | (simp; omega) | omega) _) | (refine Below.trans ?_ (Below.mono (by assumption) (by first | (simp; done) | (simp; omega) | omega)))))).mono ?_; go_must (rintro e w2 ⟨rfl, hb2⟩)))
    have KR2 := Lib.hid (show Below wr.heap.size wr w2 from ((Below.refl wr.heap.size wr).alloc (Nat.le_refl _) _).trans (hb2.mono (by simp)))
    have q0 : w2.cell? ⟨wr.heap.size, 0, none⟩ = some (.string ⟨#[c]⟩) := (hb2.cell (p := ⟨wr.heap.size, 0, none⟩) (by simp)).trans (by go_simp)
    have hsw := hb2.size
    simp at hsw
    have hsw' : wr.heap.size ≤ w2.heap.size := by omega
    obtain ⟨w3, rfl⟩ : ∃ x : World, x = wr := ⟨_, rfl⟩
    have HB3 := Lib.hid hb; have HKR := Lib.hid KR
    clear hb KR hb2 r0 r1 r2 r3 r4 r5 r6 hi k0 k1 k2
    go_loopw [5] (fun t5 wr => ∃ j : Nat, j ≤ k ∧ t5 = .int .i64 (j : Nat) ∧ Hid (∀ i (h : i < vs.length), i < j → vs[i].name ≠ ⟨#[c]⟩) ∧ Below w2.heap.size w2 wr) (fun t5 _ => k - (intOf t5).toNat)
    case atStart => exact ⟨0, Nat.zero_le _, rfl, Lib.hid (fun i _ h => absurd h (by omega)), Below.refl _ _⟩
    case round =>
      obtain ⟨j, hj, rfl, HD, hb⟩ := hrel
      have hs4 := hb.size
      have KA4 := below_at KR2.out (by omega) hb
      obtain ⟨k0, k1, k2⟩ := RD.out wr (below_at HB3.out hs KA4)
      have q4 := (hb.cell (p := ⟨w3.heap.size, 0, none⟩) (by simp; omega)).trans q0
      by_cases hjk : j < k
      rotate_left
      · have HJ := Lib.hid (show j = k by omega)
        have HNX := Lib.hid (show (⟨#[c]⟩ : ByteArray) ∉ names (vs.take k) from fun hm => by
          unfold names at hm
          obtain ⟨y, hy, he⟩ := List.mem_map.1 hm
          obtain ⟨i, hi, rfl⟩ := List.getElem_of_mem hy
          rw [List.length_take] at hi
          rw [List.getElem_take] at he
          exact HD.out i (by omega) (by rw [HJ.out]; omega) he)
        go_wp2
        go_roundw
        case rel => exact ⟨k + 1, hlt, by simp, Lib.hid (HS.out HV2.out HNX.out), below_at HB3.out hs KA4⟩
        case measure => simp only [intOf]; omega
      have hjl : j < vs.length := by omega
      obtain ⟨-, hi, hg4, hc4⟩ := HX.out j hjl
      have r0 : wr.cell? ⟨vg, voff + 7 * j, none⟩ = some (.string vs[j].name) := ((below_at HKR.out (by omega) KA4).cell (p := ⟨vg, voff + 7 * j, none⟩) hg4).trans (hc4 0 (by omega))
      have HMM := Lib.hid (show vs[j].name = ⟨#[c]⟩ → (⟨#[c]⟩ : ByteArray) ∈ names (vs.take k) from fun h => by
        rw [← h]
        unfold names
        exact List.mem_map.2 ⟨vs[j], List.mem_take_iff_getElem.2 ⟨j, by omega, rfl⟩, rfl⟩)
      have HDS := Lib.hid (show vs[j].name ≠ ⟨#[c]⟩ → ∀ i (h : i < vs.length), i < j + 1 → vs[i].name ≠ ⟨#[c]⟩ from fun h i hi hij => by
        by_cases he : i = j
        · subst he; exact h
        · exact HD.out i hi (by omega))
      clear hc4
      generalize vs[j].name = t at *
      go_wp2
      go_quiet (fail)
      have HT1 := Lib.hid (toList_one t c)
      go_wp2
      · have ht : (t.toList == [c]) = true := by assumption
        go_ret
        exact ⟨ret_bool (HN2.out (HMM.out (HT1.out.1 ht))).symm, below_at HKR.out (by omega) (below_at KR2.out hsw' (below_drewN hb _))⟩
      · have ht : (t.toList == [c]) = false := by assumption
        go_roundw
        case rel => exact ⟨j + 1, by omega, by simp, Lib.hid (HDS.out (fun e => by rw [HT1.out.2 e] at ht; cases ht)), below_drewN hb _⟩
        case measure => simp only [intOf]; omega
end Go.Proofs.Ytndfdgdahinkpaa
