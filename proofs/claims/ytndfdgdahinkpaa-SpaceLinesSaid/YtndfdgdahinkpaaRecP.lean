/- The law's Wide: its walk. -/
import Derived.Test.YtndfdgdahinkpaaRecO
namespace Go.Proofs.Ytndfdgdahinkpaa
open Go.RowKit
def wideV (v : VarD) : Bool := decide (8 < v.args.length) || decide (20 < v.name.size)
def wideB (n : Int) (l : List IneqD) (vs : List VarD) (m : Nat) : Bool := (decide (8 < vs.length) || decide (12 < l.length)) || (vs.any wideV || (validD n l && (decide (m < (ptsL n l).length) && decide ((ptsL n l).length ≤ 1000))))
set_option maxHeartbeats 4000000 in
set_option maxRecDepth 100000 in
theorem Wide_l (r : RecD) (m : Nat) (hm : m ≤ 1000) (w : World) (hr : RecRd w r) :
    Calls Try.prog 9 #[.agg #[.int .i64 r.n, r.lv, r.vv], .int .i64 (m : Nat)] w fun e w' => e = .returned (.bool (wideB r.n r.l r.vars m)) ∧ Below w.heap.size w w' := by
  obtain ⟨hl, hvs, heach⟩ := hr
  obtain ⟨n, lv, l, vv, vs⟩ := r
  simp only at hl hvs heach ⊢
  have HL := Lib.hid hl
  obtain ⟨la, lc, rfl, hll⟩ := hl.shape
  clear hl
  obtain ⟨va, vcap, vg, voff, rfl, hlc, hcm, hx⟩ := SlOf.at (enc := encV) (fun _ => rfl) un_vars sz_vars hvs
  have HX := Lib.hid hx; clear hx hvs
  have HE := Lib.hid heach; clear heach
  unfold maxLen at hcm
  have HCV := Lib.hid (fun (W : World) (hw : SlOf W W.heap.size 4 encI (.slice la l.length lc) l) => rValidD_l n l W _ hw)
  obtain ⟨W0, hW0⟩ : ∃ W : World, w.alloc (Obj.cells #[.int .i64 n, .slice la l.length lc, .slice va vs.length vcap] 27) = W := ⟨_, rfl⟩
  have kw : Below w.heap.size w W0 := by rw [← hW0]; exact (by repeat (first | exact Below.refl _ _ | assumption | (refine Below.drew ?_) | (refine below_drewN ?_ _) | (refine Below.alloc ?_ (by first | (simp; done) | (simp; omega) | omega) _) | (refine Below.setCell ?_ (by first | (simp; done) | (simp; omega) | omega) _) | (refine Below.trans ?_ (Below.mono (by assumption) (by first | (simp; done) | (simp; omega) | omega)))))
  have ks : W0.heap.size = w.heap.size + 1 := by rw [← hW0]; simp
  have y0 : W0.cell? ⟨w.heap.size, 0, none⟩ = some (.int .i64 n) := by subst hW0; go_simp
  have y1 : W0.cell? ⟨w.heap.size, 1, none⟩ = some (.slice la l.length lc) := by subst hW0; go_simp
  have y2 : W0.cell? ⟨w.heap.size, 2, none⟩ = some (.slice va vs.length vcap) := by subst hW0; go_simp
  have HW := Lib.hid hW0; have KW := Lib.hid kw; clear hW0 kw
  have EV := Lib.hid (show wideB n l vs m = ((decide (8 < vs.length) || decide (12 < l.length)) || (vs.any wideV || (validD n l && (decide (m < (ptsL n l).length) && decide ((ptsL n l).length ≤ 1000))))) from rfl)
  generalize wideB n l vs m = R at *
  by_cases h8 : vs.length ≤ 8 ∧ l.length ≤ 12
  rotate_left
  · have HR := Lib.hid (show R = true by rw [EV.out]; have : 8 < vs.length ∨ 12 < l.length := by omega
                                         rcases this with h | h <;> simp [h])
    clear EV
    by_cases h9 : vs.length ≤ 8
    all_goals
      go_enter Try.func9, Try.ntmps9
      go_wp2
      go_ret
      exact ⟨ret_bool HR.out.symm, by repeat (first | exact Below.refl _ _ | assumption | (refine Below.drew ?_) | (refine below_drewN ?_ _) | (refine Below.alloc ?_ (by first | (simp; done) | (simp; omega) | omega) _) | (refine Below.setCell ?_ (by first | (simp; done) | (simp; omega) | omega) _) | (refine Below.trans ?_ (Below.mono (by assumption) (by first | (simp; done) | (simp; omega) | omega))))⟩
  obtain ⟨h8, h12⟩ := h8
  have EV2 := Lib.hid (EV.out.trans (by rw [decide_eq_false (show ¬ 8 < vs.length by omega), decide_eq_false (show ¬ 12 < l.length by omega), Bool.or_false, Bool.false_or]))
  clear EV
  have hd1 : decide ((8 : Int) < (vs.length : Int)) = false := decide_eq_false (by omega)
  have hd2 : decide ((12 : Int) < (l.length : Int)) = false := decide_eq_false (by omega)
  have RD := Lib.hid (show ∀ V, Below W0.heap.size W0 V → V.cell? ⟨w.heap.size, 0, none⟩ = some (.int .i64 n) ∧ V.cell? ⟨w.heap.size, 1, none⟩ = some (.slice la l.length lc) ∧ V.cell? ⟨w.heap.size, 2, none⟩ = some (.slice va vs.length vcap) from fun V h => ⟨(h.cell (p := ⟨w.heap.size, 0, none⟩) (by simp; omega)).trans y0, (h.cell (p := ⟨w.heap.size, 1, none⟩) (by simp; omega)).trans y1, (h.cell (p := ⟨w.heap.size, 2, none⟩) (by simp; omega)).trans y2⟩)
  clear y0 y1 y2
  go_enter Try.func9, Try.ntmps9
  go_wp2
  rw [HW.out]
  obtain ⟨k0, k1, k2⟩ := RD.out W0 (Below.refl _ _)
  go_loop [5] (fun t5 => ∃ k : Nat, k ≤ vs.length ∧ t5 = .int .i64 (k : Nat) ∧ Hid ((vs.take k).any wideV = false)) (fun t5 => vs.length - (intOf t5).toNat)
  case atStart => exact ⟨0, Nat.zero_le _, rfl, Lib.hid rfl⟩
  case round =>
    obtain ⟨k, hk, rfl, HO⟩ := hrel
    by_cases hlt : k < vs.length
    · obtain ⟨-, hi, hg, hc⟩ := HX.out k hlt
      have rd := fun j hj => (KW.out.cell (p := ⟨vg, voff + 7 * k + j, none⟩) hg).trans (hc j hj)
      clear hc
      have HVR := Lib.hid (HE.out vs[k] (List.getElem_mem hlt))
      have HT := Lib.hid (show wideV vs[k] = true → R = true from fun h => by
        rw [EV2.out, List.any_eq_true.2 ⟨_, List.getElem_mem hlt, h⟩]; rfl)
      have HS := Lib.hid (show wideV vs[k] = false → (vs.take (k + 1)).any wideV = false from fun h => by
        rw [List.take_succ_eq_append_getElem hlt, List.any_append, HO.out]; simp [h])
      have HSH := HVR.out.1.shape
      have hnm := HVR.out.2
      unfold maxLen at hnm
      clear HVR
      generalize hxk : vs[k] = x at *
      clear hxk
      obtain ⟨s, op, av, args, i0, i1, i2, i3⟩ := x
      simp only at HSH hnm
      obtain ⟨aa, ac, rfl, hal⟩ := HSH
      have r0 : W0.cell? ⟨vg, voff + 7 * k, none⟩ = some (.string s) := rd 0 (by omega)
      have r2 : W0.cell? ⟨vg, voff + 7 * k + 2, none⟩ = some (.slice aa args.length ac) := rd 2 (by omega)
      clear rd
      by_cases ha : args.length ≤ 8 ∧ s.size ≤ 20
      · obtain ⟨ha, hs⟩ := ha
        have HS2 := Lib.hid (HS.out (by simp only [wideV, Bool.or_eq_false_iff, decide_eq_false_iff_not]; omega))
        go_wp2
        go_round
        case rel => exact ⟨k + 1, hlt, by simp, HS2⟩
        case measure => simp only [intOf]; omega
      · have HR := Lib.hid (HT.out (by simp only [wideV, Bool.or_eq_true, decide_eq_true_eq]; omega))
        by_cases ha2 : args.length ≤ 8
        all_goals
          go_wp2
          go_ret
          exact ⟨ret_bool HR.out.symm, KW.out⟩
    have HK := Lib.hid (show k = vs.length by omega)
    have EV3 := Lib.hid (show R = (validD n l && (decide (m < (ptsL n l).length) && decide ((ptsL n l).length ≤ 1000))) by
      have := HO.out
      rw [HK.out, List.take_length] at this
      rw [EV2.out, this, Bool.false_or])
    clear HO EV2
    cases hd : validD n l
    · have HD := Lib.hid hd
      have HR := Lib.hid (show R = false by rw [EV3.out, hd]; rfl)
      clear hd EV3
      go_wp2_with (first | (go_at_call 36; refine (HCV.out _ (HL.out.below KW.out)).mono ?_; go_must (rintro e w1 ⟨rfl, hb1⟩; rw [HD.out])))
      go_ret
      exact ⟨ret_bool HR.out.symm, below_at KW.out (by omega) hb1⟩
    have HD := Lib.hid hd
    have EV4 := Lib.hid (EV3.out.trans (by rw [hd, Bool.true_and]))
    clear hd EV3
    have HA := Lib.hid (fun (W : World) (hw : SlOf W W.heap.size 4 encI (.slice la l.length lc) l) => rAll_l n l (validD_out HD.out).1 (validD_out HD.out).2.2 W _ hw)
    have hln := ptsL_len n l
    generalize ptsL n l = L at *
    clear k0 k1 k2
    obtain ⟨k0, k1, k2⟩ := RD.out W0 (Below.refl _ _)
    have K := Below.refl W0.heap.size W0
    by_cases hL : m < L.length
    all_goals by_cases hL2 : L.length ≤ 1000
    all_goals (try (exfalso; omega))
    all_goals
      go_wp2_with (first | (go_at_call 36; refine (HCV.out _ (HL.out.below (KW.out.trans (K.mono (by omega))))).mono ?_; go_must (rintro e w1 ⟨rfl, hb1⟩; rw [HD.out]; have K' := below_at K (by omega) hb1; clear K k0 k1 k2; have K := K'; clear K'; obtain ⟨k0, k1, k2⟩ := RD.out _ K)) | (go_at_call 37; refine (HA.out _ (HL.out.below (KW.out.trans (K.mono (by omega))))).mono ?_; go_must (rintro e w2 ⟨⟨v', rfl, hsl⟩, hb2⟩; obtain ⟨a', c', rfl, -⟩ := hsl.shape; clear hsl; have K' := below_at K (by have := K.size; omega) hb2; clear K k0 k1 k2; have K := K'; clear K'; obtain ⟨k0, k1, k2⟩ := RD.out _ K)))
      go_ret
      exact ⟨ret_bool (by rw [EV4.out]; simp [hL, hL2] <;> omega), KW.out.trans (K.mono (by omega))⟩
end Go.Proofs.Ytndfdgdahinkpaa
