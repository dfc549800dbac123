/- The reference's folded array: Events, Table, Latency: their walks. The law FoldTables: its walk. Conditions: none. -/
import Derived.Test.YtnejicklenhpeaaGreatFldP
import Derived.Test.YtnejicklenhpeaaGreatEvS
namespace Go.Proofs.YtnejicklenhpeaaGreat
open Go.RowKit Go.Lib
set_option linter.unusedVariables false
def FEvsR (r : RecD) (s : SchedD) (u : P3) (f : Int × Int) (e : Ending) (w' : World) : Prop := ∃ v l, e = .returned v ∧ SlOf w' w'.heap.size 7 encE v l ∧ l.Perm (fevsL r s u f) ∧ SortedE l
theorem fevsL_len (r : RecD) (s : SchedD) (u : P3) (f : Int × Int) : (fevsL r s u f).length = r.vars.length * (ptsL r.n r.l).length := by
  unfold fevsL; rw [List.length_map, evsL_len]
set_option maxHeartbeats 8000000 in
set_option maxRecDepth 100000 in
theorem rfEvents_l (r : RecD) (s : SchedD) (u : P3) (f : Int × Int) (ha : askS r s u = 0) (hz : eachB f.1 f.2 1 8 = true) (hvv : ∃ a c, r.vv = .slice a r.vars.length c) (fb : Nat) (w : World) (hs : SchedRd w s) (hf : FoldedAt w fb r s u f) :
    Calls Tryz.prog 79 #[.pointer (some ⟨fb, 0, none⟩)] w fun e w' => FEvsR r s u f e w' ∧ Below w.heap.size w w' := by
  have HS := Lib.hid hs
  have HF := Lib.hid hf
  have HVV := Lib.hid hvv
  obtain ⟨hlt, wb, bm, n, pv, mb, hc, hw, hm⟩ := hf
  have HWA := Lib.hid hw
  have y0 := hc 0 (by omega)
  change _ = some (Value.pointer (some ⟨wb, 0, none⟩)) at y0
  clear hs hvv hc hw hm
  have VD := Lib.hid (show ∀ V, Below w.heap.size w V → V.cell? ⟨fb, 0, none⟩ = some (.pointer (some ⟨wb, 0, none⟩)) from fun V h => (h.cell (p := ⟨fb, 0, none⟩) hlt).trans (by assumption))
  have hvo := validR_out (askS_ok ha).1
  have hnp : (ptsL r.n r.l).length ≤ 1000 := hvo.2.1
  have hnv : r.vars.length ≤ 4 := hvo.2.2.1.2
  have hsz : r.vars.length * (ptsL r.n r.l).length ≤ 4000 := Nat.mul_le_mul hnv hnp
  have HSZ := Lib.hid (fun (b bm n : Nat) (pv : Value) (W : World) (h : WorldAt W b bm n r pv (ptsL r.n r.l)) => Size_l r (by omega) HVV.out b bm n pv (ptsL r.n r.l) W h)
  have HEL := Lib.hid (fun (v k : Nat) (hv : v ≤ 1000000) (hk : k < (ptsL r.n r.l).length) (b bm n : Nat) (pv : Value) (W : World) (h : WorldAt W b bm n r pv (ptsL r.n r.l)) => Element_l r _ v k hv hk rfl b bm n pv (ptsL r.n r.l) W h)
  have HEV := Lib.hid (fun (v : Nat) (hv : v < r.vars.length) (p : P3) (hp : p ∈ ptsL r.n r.l) (W : World) (h2 : SchedRd W s) (h3 : FoldedAt W fb r s u f) => rFoldedEvent_l r s u f ha hz v hv p hp fb W h2 h3)
  have HAR := Lib.hid (fun (W : World) (v : Value) (h : SlOf W W.heap.size 7 encE v (fevsL r s u f)) => arranged_l _ (fevsL r s u f) (Nat.le_refl _) (by rw [fevsL_len]; omega) W v h)
  have HTK := Lib.hid (fun (v k : Nat) (hv : v < r.vars.length) (hk : k < (ptsL r.n r.l).length) => (show (fevsL r s u f).take (v * (ptsL r.n r.l).length + k + 1) = (fevsL r s u f).take (v * (ptsL r.n r.l).length + k) ++ [foldEv (blocksL r u f) f (evAt r s u v (ptsL r.n r.l)[k])] by unfold fevsL; rw [← List.map_take, ← List.map_take, evsL_take r s u v k hv hk, List.map_append]; rfl))
  clear ha hvo hz
  go_enter Tryz.func79, Tryz.ntmps79
  go_wp2_with fail
  go_loopw [3, 4] (fun t3 t4 wr => ∃ i : Nat, i ≤ r.vars.length * (ptsL r.n r.l).length ∧ t4 = .int .i64 (i : Nat) ∧ Hid (OwnE wr w.heap.size t3 ((fevsL r s u f).take i)) ∧ Below w.heap.size w wr) (fun _ t4 _ => r.vars.length * (ptsL r.n r.l).length - (intOf t4).toNat)
  case atStart => exact ⟨0, Nat.zero_le _, rfl, Lib.hid (OwnOf.nil _ _ _ _ _), Below.refl _ _⟩
  case round =>
    obtain ⟨i, hi, rfl, HO, hb⟩ := hrel
    have hsr := hb.size
    have y0 := VD.out wr hb
    have HSZ2 := Lib.hid (HSZ.out _ _ _ _ wr (HWA.out.below hb))
    by_cases hlt : i < r.vars.length * (ptsL r.n r.l).length
    rotate_left
    · have hie : i = r.vars.length * (ptsL r.n r.l).length := by omega
      have HO2 := Lib.hid (show OwnE wr w.heap.size u3 (fevsL r s u f) by have := HO.out; rwa [List.take_of_length_le (by rw [fevsL_len]; omega)] at this)
      generalize hN : r.vars.length * (ptsL r.n r.l).length = N at *
      subst hie
      go_wp2_with (first | (go_at_call 132; refine HSZ2.out.mono ?_; go_must (rintro e w2 ⟨rfl, hb2⟩; have HB2 := Lib.hid hb2; clear hb2)) | (go_at_call 134; refine (HAR.out _ _ ((HO2.out.kept HB2.out).sl)).mono ?_; go_must (rintro e w3 ⟨har, hb3⟩; obtain ⟨v3, l3, rfl, hsl3, hp3, ho3⟩ := har)))
      obtain ⟨oa, oc, hoe, -⟩ := hsl3.shape
      subst hoe
      have HSL3 := Lib.hid hsl3; clear hsl3
      have HP3 := Lib.hid hp3; have HO3 := Lib.hid ho3; clear hp3 ho3
      generalize hn3 : l3.length = n3 at *
      refine bodyPost_ret (v := .slice oa n3 oc) (by simp only [results, Tryz.results79]; first | (go_simp; done) | (go_simp; rfl)) rfl ⟨⟨_, l3, rfl, by have := HSL3.out; exact this, HP3.out, HO3.out⟩, ?_⟩
      have k2 := below_at hb hsr HB2.out
      exact below_at k2 (by have := HB2.out.size; omega) hb3
    obtain ⟨v, k, hv, hk, hik⟩ : ∃ v k, v < r.vars.length ∧ k < (ptsL r.n r.l).length ∧ i = v * (ptsL r.n r.l).length + k := by
      have h0 : 0 < (ptsL r.n r.l).length := by
        rcases Nat.eq_zero_or_pos (ptsL r.n r.l).length with h | h
        · rw [h, Nat.mul_zero] at hlt; omega
        · exact h
      refine ⟨i / (ptsL r.n r.l).length, i % (ptsL r.n r.l).length, Nat.div_lt_of_lt_mul (by rw [Nat.mul_comm]; exact hlt), Nat.mod_lt _ h0, ?_⟩
      rw [Nat.mul_comm]; exact (Nat.div_add_mod _ _).symm
    have HEL2 := Lib.hid (fun (W : World) (hW : Below w.heap.size w W) => HEL.out v k (by omega) hk _ _ _ _ W (HWA.out.below hW))
    have hgd : (ptsL r.n r.l).getD k (0, 0, 0) = (ptsL r.n r.l)[k] := by simp [List.getD, hk]
    rw [hgd, ← hik] at HEL2
    have HEV2 := Lib.hid (fun (W : World) (hW : Below w.heap.size w W) => HEV.out v hv (ptsL r.n r.l)[k] (List.getElem_mem hk) W (HS.out.below hW) (HF.out.below hW))
    have HT := Lib.hid (show (fevsL r s u f).take (i + 1) = (fevsL r s u f).take i ++ [foldEv (blocksL r u f) f (evAt r s u v (ptsL r.n r.l)[k])] by rw [hik]; exact HTK.out v k hv hk)
    have HLT := Lib.hid hlt
    have hacc : ((fevsL r s u f).take i).length + 1 ≤ 1073741824 := by rw [List.length_take, fevsL_len]; omega
    clear hgd hik
    generalize hN : r.vars.length * (ptsL r.n r.l).length = N at *
    generalize (fevsL r s u f).take i = D at *
    generalize (ptsL r.n r.l)[k] = p at *
    generalize foldEv (blocksL r u f) f (evAt r s u v p) = E at *
    obtain ⟨t, ⟨x, y⟩, ⟨ev, q0, q1, q2⟩⟩ := E
    obtain ⟨p0, p1, p2⟩ := p
    simp only [evD, elD] at HEL2 HEV2
    clear HSZ HEL HEV HAR HTK HF HS HWA
    go_wp2_with (first | (go_at_call 132; refine HSZ2.out.mono ?_; go_must (rintro e w2 ⟨rfl, hb2⟩; have hs2 := hb2.size; have hk2 : Below w.heap.size w w2 := below_at hb hsr hb2; have y2 := VD.out w2 hk2; have HB2 := Lib.hid hb2; clear hb2)) | (go_at_call 133; refine (HEL2.out w2 hk2).mono ?_; go_must (rintro e w5 ⟨rfl, hb5⟩; have hs5 := hb5.size; have hk5 : Below w.heap.size w w5 := below_at hk2 (by omega) hb5; have HB5 := Lib.hid hb5; clear hb5)) | (go_at_call 66; refine (HEV2.out w5 hk5).mono ?_; go_must (rintro e w6 ⟨rfl, hb6⟩; have hs6 := hb6.size; have hw6 : w.heap.size ≤ w6.heap.size := (by omega); have hbx : Below wr.heap.size wr w6 := (HB2.out.trans (HB5.out.mono hs2)).trans (hb6.mono (by omega)); have HO6 := Lib.hid (HO.out.kept hbx); clear hb6)) | (at_builtin; refine wpList_push rfl _ _ _ rfl slEvF HO6.out rfl rfl (by first | rfl | simp) rfl rfl hacc (by omega) hw6 ?_; intro g7 c7 w7 hown7 hg7 hat7; have hbE : Below w.heap.size wr w7 := below_push (hbx.mono hsr) HO6.out (Nat.le_refl _) hw6 hg7))
    go_roundw
    case rel => exact ⟨i + 1, HLT.out, by simp, Lib.hid (by rw [HT.out]; exact OwnOf.snoc (enc := encE) (by simpa [encE] using hown7) rfl), hb.trans hbE⟩
    case measure => simp only [intOf]; have := HLT.out; omega
set_option maxHeartbeats 4000000 in
set_option maxRecDepth 100000 in
theorem rfTable_l (r : RecD) (s : SchedD) (u : P3) (f : Int × Int) (w : World) (hr : RecRd w r) (hs : SchedRd w s) :
    Calls Tryz.prog 30 #[.agg #[.int .i64 r.n, r.lv, r.vv], .agg #[.int .i64 s.f.1, .int .i64 s.f.2.1, .int .i64 s.f.2.2, s.ov], .agg #[.int .i64 u.1, .int .i64 u.2.1, .int .i64 u.2.2], .agg #[.int .i64 f.1, .int .i64 f.2]] w fun e w' => FTabR r s u f e w' ∧ Below w.heap.size w w' := by
  have HR := Lib.hid hr
  have HS := Lib.hid hs
  have HVV := Lib.hid (show ∃ a c, r.vv = .slice a r.vars.length c by obtain ⟨a, c, h, -⟩ := hr.vars.shape; exact ⟨a, c, h⟩)
  clear hr hs
  have HAS := Lib.hid (fun (W : World) (h : RecRd W r) (h2 : SchedRd W s) => rfAsked_l r s u f W h h2)
  obtain ⟨W0, hW0⟩ : ∃ W : World, (((w.alloc (Obj.cells #[.int .i64 r.n, r.lv, r.vv] 27)).alloc (Obj.cells #[.int .i64 s.f.1, .int .i64 s.f.2.1, .int .i64 s.f.2.2, s.ov] 47)).alloc (Obj.cells #[.int .i64 u.1, .int .i64 u.2.1, .int .i64 u.2.2] 29)).alloc (Obj.cells #[.int .i64 f.1, .int .i64 f.2] 31) = W := ⟨_, rfl⟩
  have kw0 : Below w.heap.size w W0 := by rw [← hW0]; exact (by repeat (first | exact Below.refl _ _ | assumption | (refine Below.drew ?_) | (refine below_drewN ?_ _) | (refine Below.alloc ?_ (by first | (simp; done) | (simp; omega) | omega) _) | (refine Below.setCell ?_ (by first | (simp; done) | (simp; omega) | omega) _) | (refine Below.trans ?_ (Below.mono (by assumption) (by first | (simp; done) | (simp; omega) | omega)))))
  have ks0 : W0.heap.size = w.heap.size + 4 := by rw [← hW0]; simp
  have RD0 := Lib.hid (show ∀ V, Below W0.heap.size W0 V → V.cell? ⟨w.heap.size, 0, none⟩ = some (.int .i64 r.n) ∧ V.cell? ⟨w.heap.size, 1, none⟩ = some (r.lv) ∧ V.cell? ⟨w.heap.size, 2, none⟩ = some (r.vv) ∧ V.cell? ⟨w.heap.size + 1, 0, none⟩ = some (.int .i64 s.f.1) ∧ V.cell? ⟨w.heap.size + 1, 1, none⟩ = some (.int .i64 s.f.2.1) ∧ V.cell? ⟨w.heap.size + 1, 2, none⟩ = some (.int .i64 s.f.2.2) ∧ V.cell? ⟨w.heap.size + 1, 3, none⟩ = some (s.ov) ∧ V.cell? ⟨w.heap.size + 1 + 1, 0, none⟩ = some (.int .i64 u.1) ∧ V.cell? ⟨w.heap.size + 1 + 1, 1, none⟩ = some (.int .i64 u.2.1) ∧ V.cell? ⟨w.heap.size + 1 + 1, 2, none⟩ = some (.int .i64 u.2.2) ∧ V.cell? ⟨w.heap.size + 1 + 1 + 1, 0, none⟩ = some (.int .i64 f.1) ∧ V.cell? ⟨w.heap.size + 1 + 1 + 1, 1, none⟩ = some (.int .i64 f.2) from fun V h => by
      refine ⟨(h.cell (p := ⟨w.heap.size, 0, none⟩) (by simp; omega)).trans ?_, (h.cell (p := ⟨w.heap.size, 1, none⟩) (by simp; omega)).trans ?_, (h.cell (p := ⟨w.heap.size, 2, none⟩) (by simp; omega)).trans ?_, (h.cell (p := ⟨w.heap.size + 1, 0, none⟩) (by simp; omega)).trans ?_, (h.cell (p := ⟨w.heap.size + 1, 1, none⟩) (by simp; omega)).trans ?_, (h.cell (p := ⟨w.heap.size + 1, 2, none⟩) (by simp; omega)).trans ?_, (h.cell (p := ⟨w.heap.size + 1, 3, none⟩) (by simp; omega)).trans ?_, (h.cell (p := ⟨w.heap.size + 1 + 1, 0, none⟩) (by simp; omega)).trans ?_, (h.cell (p := ⟨w.heap.size + 1 + 1, 1, none⟩) (by simp; omega)).trans ?_, (h.cell (p := ⟨w.heap.size + 1 + 1, 2, none⟩) (by simp; omega)).trans ?_, (h.cell (p := ⟨w.heap.size + 1 + 1 + 1, 0, none⟩) (by simp; omega)).trans ?_, (h.cell (p := ⟨w.heap.size + 1 + 1 + 1, 1, none⟩) (by simp; omega)).trans ?_⟩ <;> (subst hW0; go_simp))
  have HW0 := Lib.hid hW0; have KW0 := Lib.hid kw0; clear hW0 kw0
  by_cases hc : foldE r s u f = 0
  rotate_left
  · have HE := Lib.hid (fun w' => ftabR_err (rfl : foldE r s u f = foldE r s u f) hc w')
    have hnz : (foldE r s u f != 0) = true := by simpa using hc
    clear hc
    generalize hA : foldE r s u f = A at *
    go_enter Tryz.func30, Tryz.ntmps30
    go_wp2_with (go_at_call 26; rw [HW0.out]; refine (HAS.out _ (HR.out.below KW0.out) (HS.out.below KW0.out)).mono ?_; go_must (rintro e w1 ⟨rfl, hb1⟩; have K0 := hb1; have HB1 := Lib.hid hb1; clear hb1; obtain ⟨k0_0, k0_1, k0_2, k0_3, k0_4, k0_5, k0_6, k0_7, k0_8, k0_9, k0_10, k0_11⟩ := RD0.out _ K0))
    go_ret2
    exact ⟨HE.out _, (KW0.out.trans (K0.mono (by omega)))⟩
  have HY := Lib.hid (fun (w' : World) (v : Value) (l : List EvD) h1 h2 h3 => ftabR_ok (w' := w') (v := v) (l := l) hc h1 h2 h3)
  have haz : askS r s u = 0 ∧ eachB f.1 f.2 1 8 = true := by
    unfold foldE at hc
    by_cases ha : askS r s u = 0
    · rw [if_pos ha] at hc
      refine ⟨ha, ?_⟩
      cases hz : eachB f.1 f.2 1 8
      · rw [hz] at hc; simp at hc
      · rfl
    · rw [if_neg ha] at hc; exact absurd hc ha
  obtain ⟨ha, hz⟩ := haz
  have HOF := Lib.hid (fun (W : World) (h : RecRd W r) => rfOf_l r s u f ha hz W h)
  have HEV := Lib.hid (fun (fb : Nat) (W : World) (h2 : SchedRd W s) (h3 : FoldedAt W fb r s u f) => rfEvents_l r s u f ha hz HVV.out fb W h2 h3)
  have HC := Lib.hid hc
  clear hc ha hz
  go_enter Tryz.func30, Tryz.ntmps30
  go_wp2_with (first | (go_at_call 26; rw [HW0.out]; refine (HAS.out _ (HR.out.below KW0.out) (HS.out.below KW0.out)).mono ?_; go_must (rintro e w1 ⟨rfl, hb1⟩; have K0 := hb1; have HB1 := Lib.hid hb1; clear hb1; obtain ⟨k0_0, k0_1, k0_2, k0_3, k0_4, k0_5, k0_6, k0_7, k0_8, k0_9, k0_10, k0_11⟩ := RD0.out _ K0; rw [HC.out])) | (go_at_call 65; refine (HOF.out _ (HR.out.below (KW0.out.trans (K0.mono (by omega))))).mono ?_; go_must (rintro e w2 ⟨⟨fb, rfl, hfa⟩, hb2⟩; have K' := (by first | exact below_at K0 (by have := K0.size; omega) hb2 | exact below_at K0 (by have := K0.size; omega) (by repeat (first | exact Below.refl _ _ | assumption | (refine Below.drew ?_) | (refine below_drewN ?_ _) | (refine Below.alloc ?_ (by first | (simp; done) | (simp; omega) | omega) _) | (refine Below.setCell ?_ (by first | (simp; done) | (simp; omega) | omega) _) | (refine Below.trans ?_ (Below.mono (by assumption) (by first | (simp; done) | (simp; omega) | omega))))) : Below W0.heap.size W0 w2); have HB2 := Lib.hid hb2; clear K0 hb2; (try clear k0_0); (try clear k0_1); (try clear k0_2); (try clear k0_3); (try clear k0_4); (try clear k0_5); (try clear k0_6); (try clear k0_7); (try clear k0_8); (try clear k0_9); (try clear k0_10); (try clear k0_11); have K0 := K'; clear K'; obtain ⟨k0_0, k0_1, k0_2, k0_3, k0_4, k0_5, k0_6, k0_7, k0_8, k0_9, k0_10, k0_11⟩ := RD0.out _ K0; have HFA := Lib.hid hfa; clear hfa)) | (go_at_call 79; refine (HEV.out fb _ (HS.out.below (KW0.out.trans (K0.mono (by omega)))) HFA.out).mono ?_; go_must (rintro e w3 ⟨⟨v3, l3, rfl, hsl3, hp3, ho3⟩, hb3⟩; have K' := (by first | exact below_at K0 (by have := K0.size; omega) hb3 | exact below_at K0 (by have := K0.size; omega) (by repeat (first | exact Below.refl _ _ | assumption | (refine Below.drew ?_) | (refine below_drewN ?_ _) | (refine Below.alloc ?_ (by first | (simp; done) | (simp; omega) | omega) _) | (refine Below.setCell ?_ (by first | (simp; done) | (simp; omega) | omega) _) | (refine Below.trans ?_ (Below.mono (by assumption) (by first | (simp; done) | (simp; omega) | omega))))) : Below W0.heap.size W0 w3); have HB3 := Lib.hid hb3; clear K0 hb3; (try clear k0_0); (try clear k0_1); (try clear k0_2); (try clear k0_3); (try clear k0_4); (try clear k0_5); (try clear k0_6); (try clear k0_7); (try clear k0_8); (try clear k0_9); (try clear k0_10); (try clear k0_11); have K0 := K'; clear K'; obtain ⟨k0_0, k0_1, k0_2, k0_3, k0_4, k0_5, k0_6, k0_7, k0_8, k0_9, k0_10, k0_11⟩ := RD0.out _ K0; obtain ⟨va, vc, hve, -⟩ := hsl3.shape; subst hve; have HSL := Lib.hid hsl3; have HPL := Lib.hid hp3; have HSO := Lib.hid ho3; clear hsl3 hp3 ho3)))
  go_ret2
  exact ⟨HY.out _ _ l3 HSL.out HPL.out HSO.out, (KW0.out.trans (K0.mono (by omega)))⟩
set_option maxHeartbeats 4000000 in
set_option maxRecDepth 100000 in
theorem rfLatency_l (r : RecD) (s : SchedD) (u : P3) (f : Int × Int) (w : World) (hr : RecRd w r) (hs : SchedRd w s) :
    Calls Tryz.prog 32 #[.agg #[.int .i64 r.n, r.lv, r.vv], .agg #[.int .i64 s.f.1, .int .i64 s.f.2.1, .int .i64 s.f.2.2, s.ov], .agg #[.int .i64 u.1, .int .i64 u.2.1, .int .i64 u.2.2], .agg #[.int .i64 f.1, .int .i64 f.2]] w fun e w' => FLatR r s u f e ∧ Below w.heap.size w w' := by
  have HR := Lib.hid hr
  have HS := Lib.hid hs
  clear hr hs
  have HFO := Lib.hid (fun (W : World) (h : RecRd W r) (h2 : SchedRd W s) => rfTable_l r s u f W h h2)
  obtain ⟨W0, hW0⟩ : ∃ W : World, (((w.alloc (Obj.cells #[.int .i64 r.n, r.lv, r.vv] 27)).alloc (Obj.cells #[.int .i64 s.f.1, .int .i64 s.f.2.1, .int .i64 s.f.2.2, s.ov] 47)).alloc (Obj.cells #[.int .i64 u.1, .int .i64 u.2.1, .int .i64 u.2.2] 29)).alloc (Obj.cells #[.int .i64 f.1, .int .i64 f.2] 31) = W := ⟨_, rfl⟩
  have kw0 : Below w.heap.size w W0 := by rw [← hW0]; exact (by repeat (first | exact Below.refl _ _ | assumption | (refine Below.drew ?_) | (refine below_drewN ?_ _) | (refine Below.alloc ?_ (by first | (simp; done) | (simp; omega) | omega) _) | (refine Below.setCell ?_ (by first | (simp; done) | (simp; omega) | omega) _) | (refine Below.trans ?_ (Below.mono (by assumption) (by first | (simp; done) | (simp; omega) | omega)))))
  have ks0 : W0.heap.size = w.heap.size + 4 := by rw [← hW0]; simp
  have RD0 := Lib.hid (show ∀ V, Below W0.heap.size W0 V → V.cell? ⟨w.heap.size, 0, none⟩ = some (.int .i64 r.n) ∧ V.cell? ⟨w.heap.size, 1, none⟩ = some (r.lv) ∧ V.cell? ⟨w.heap.size, 2, none⟩ = some (r.vv) ∧ V.cell? ⟨w.heap.size + 1, 0, none⟩ = some (.int .i64 s.f.1) ∧ V.cell? ⟨w.heap.size + 1, 1, none⟩ = some (.int .i64 s.f.2.1) ∧ V.cell? ⟨w.heap.size + 1, 2, none⟩ = some (.int .i64 s.f.2.2) ∧ V.cell? ⟨w.heap.size + 1, 3, none⟩ = some (s.ov) ∧ V.cell? ⟨w.heap.size + 1 + 1, 0, none⟩ = some (.int .i64 u.1) ∧ V.cell? ⟨w.heap.size + 1 + 1, 1, none⟩ = some (.int .i64 u.2.1) ∧ V.cell? ⟨w.heap.size + 1 + 1, 2, none⟩ = some (.int .i64 u.2.2) ∧ V.cell? ⟨w.heap.size + 1 + 1 + 1, 0, none⟩ = some (.int .i64 f.1) ∧ V.cell? ⟨w.heap.size + 1 + 1 + 1, 1, none⟩ = some (.int .i64 f.2) from fun V h => by
      refine ⟨(h.cell (p := ⟨w.heap.size, 0, none⟩) (by simp; omega)).trans ?_, (h.cell (p := ⟨w.heap.size, 1, none⟩) (by simp; omega)).trans ?_, (h.cell (p := ⟨w.heap.size, 2, none⟩) (by simp; omega)).trans ?_, (h.cell (p := ⟨w.heap.size + 1, 0, none⟩) (by simp; omega)).trans ?_, (h.cell (p := ⟨w.heap.size + 1, 1, none⟩) (by simp; omega)).trans ?_, (h.cell (p := ⟨w.heap.size + 1, 2, none⟩) (by simp; omega)).trans ?_, (h.cell (p := ⟨w.heap.size + 1, 3, none⟩) (by simp; omega)).trans ?_, (h.cell (p := ⟨w.heap.size + 1 + 1, 0, none⟩) (by simp; omega)).trans ?_, (h.cell (p := ⟨w.heap.size + 1 + 1, 1, none⟩) (by simp; omega)).trans ?_, (h.cell (p := ⟨w.heap.size + 1 + 1, 2, none⟩) (by simp; omega)).trans ?_, (h.cell (p := ⟨w.heap.size + 1 + 1 + 1, 0, none⟩) (by simp; omega)).trans ?_, (h.cell (p := ⟨w.heap.size + 1 + 1 + 1, 1, none⟩) (by simp; omega)).trans ?_⟩ <;> (subst hW0; go_simp))
  have HW0 := Lib.hid hW0; have KW0 := Lib.hid kw0; clear hW0 kw0
  by_cases hc : foldE r s u f = 0
  rotate_left
  · have HE := Lib.hid (show FLatR r s u f (.returned (.tuple #[.int .i64 0, .int .i64 (foldE r s u f)])) from .inl ⟨hc, rfl⟩)
    have hnz : (foldE r s u f != 0) = true := by simpa using hc
    have HA := Lib.hid hc
    clear hc
    generalize hA : foldE r s u f = A at *
    go_enter Tryz.func32, Tryz.ntmps32
    go_wp2_with (go_at_call 30; rw [HW0.out]; refine (HFO.out _ (HR.out.below KW0.out) (HS.out.below KW0.out)).mono ?_; go_must (rintro e w1 ⟨⟨v, l, rfl, hsl, hif⟩, hb1⟩; have K0 := hb1; have HB1 := Lib.hid hb1; clear hb1; obtain ⟨k0_0, k0_1, k0_2, k0_3, k0_4, k0_5, k0_6, k0_7, k0_8, k0_9, k0_10, k0_11⟩ := RD0.out _ K0; rw [hA]; rw [hA, if_neg HA.out] at hif; subst hif; obtain ⟨va, vc, hve, -⟩ := hsl.shape; subst hve; clear hsl))
    go_ret2
    exact ⟨HE.out, (KW0.out.trans (K0.mono (by omega)))⟩
  have HC := Lib.hid hc
  have HY := Lib.hid (fun (l : List EvD) (h1 : l.Perm (fevsL r s u f) ∧ SortedE l) => (show FLatR r s u f (.returned (.tuple #[.int .i64 (latT l), .int .i64 (if l.length = 0 then 5 else 0)])) from .inr ⟨hc, l, h1, rfl⟩))
  have HTM := Lib.hid (fun (l : List EvD) (h1 : l.Perm (fevsL r s u f) ∧ SortedE l) (x : EvD) (hx : x ∈ l) => fev_time hc (h1.1.mem_iff.1 hx))
  clear hc
  go_enter Tryz.func32, Tryz.ntmps32
  go_upto_if 21 with (go_at_call 30; rw [HW0.out]; refine (HFO.out _ (HR.out.below KW0.out) (HS.out.below KW0.out)).mono ?_; go_must (rintro e w1 ⟨⟨v, l, rfl, hsl, hif⟩, hb1⟩; have K0 := hb1; have HB1 := Lib.hid hb1; clear hb1; obtain ⟨k0_0, k0_1, k0_2, k0_3, k0_4, k0_5, k0_6, k0_7, k0_8, k0_9, k0_10, k0_11⟩ := RD0.out _ K0; rw [HC.out]; rw [HC.out, if_pos rfl] at hif; obtain ⟨va, vc, hve, -⟩ := hsl.shape; subst hve; have HSL := Lib.hid hsl; have HPL := Lib.hid hif; clear hsl hif))
  have HV := Lib.hid (HY.out l HPL.out)
  cases hl : l.length with
  | zero =>
    rw [hl] at HV
    obtain rfl : l = [] := List.eq_nil_of_length_eq_zero hl
    go_wp2_with fail
    go_ret2
    exact ⟨HV.out, (KW0.out.trans (K0.mono (by omega)))⟩
  | succ m =>
    have hlm := latT_at hl
    rw [if_neg (show ¬ l.length = 0 by omega), hlm] at HV
    have t0 := HTM.out l HPL.out l[0] (List.getElem_mem (by omega))
    have t1 := HTM.out l HPL.out l[m] (List.getElem_mem (by omega))
    obtain ⟨xa, xc, g, off, he, hlc, hcm, hx⟩ := SlOf.at (enc := encE) (fun _ => rfl) un_evF sz_evF HSL.out
    cases he
    unfold maxLen at hcm
    obtain ⟨-, i0, -, c0⟩ := hx 0 (by omega)
    obtain ⟨-, i1, -, c1⟩ := hx m (by omega)
    have r0 : w1.cell? ⟨g, off + 7 * 0, none⟩ = some (.int .i64 (l[0]'(by omega)).t) := c0 0 (by omega)
    have r1 : w1.cell? ⟨g, off + 7 * m, none⟩ = some (.int .i64 (l[m]'(by omega)).t) := c1 0 (by omega)
    simp only [Int.natCast_zero, Nat.mul_zero, Nat.add_zero] at i0 r0
    clear hx c0 c1 HSL HPL hlm HTM HY
    generalize (l[0]'(by omega)).t = z0 at *
    generalize (l[m]'(by omega)).t = z1' at *
    (try rw [hl])
    (try simp only [hl] at i0 i1)
    have e0 : IntKind.i64.wrap (((m + 1 : Nat) : Int) - 1) = (m : Int) := by rw [IntWalk.i64_in _ (by omega)]; omega
    have e0' : IntKind.i64.wrap ((m : Int) + 1 - 1) = (m : Int) := by rw [IntWalk.i64_in _ (by omega)]; omega
    have e1 : IntKind.i64.wrap (z1' - z0) = z1' - z0 := IntWalk.i64_in _ (by omega)
    have e2 : IntKind.i64.wrap (z1' - z0 + 1) = z1' - z0 + 1 := IntWalk.i64_in _ (by omega)
    clear t0 t1
    go_wp2_with fail
    go_quiet (fail)
    go_wp2_with fail
    go_ret2
    exact ⟨HV.out, ((KW0.out.trans (K0.mono (by omega)))).trans (below_drewN (Below.refl _ _) _)⟩
end Go.Proofs.YtnejicklenhpeaaGreat
namespace Go.Proofs.YtnejicklenhpeaaGreat
open Go.RowKit Go.Lib
set_option linter.unusedVariables false
def wide6B (r : RecD) (s : SchedD) : Bool := wide4B r s || wideB r.n r.l r.vars 80
set_option maxHeartbeats 4000000 in
set_option maxRecDepth 100000 in
theorem Wide6_l (r : RecD) (s : SchedD) (u : P3) (w : World) (hr : RecRd w r) (hs : SchedRd w s) :
    Calls Tryz.prog 23 #[.agg #[.int .i64 r.n, r.lv, r.vv, .int .i64 s.f.1, .int .i64 s.f.2.1, .int .i64 s.f.2.2, s.ov, .int .i64 u.1, .int .i64 u.2.1, .int .i64 u.2.2]] w fun e w' => e = .returned (.bool (wide6B r s)) ∧ Below w.heap.size w w' := by
  have HR := Lib.hid hr
  have HS := Lib.hid hs
  clear hr hs
  have HWD := Lib.hid (fun (W : World) (h : RecRd W r) (h2 : SchedRd W s) => Wide4_l r s W h h2)
  have HW2 := Lib.hid (fun (W : World) (h : RecRd W r) => Wide_l r 80 (by omega) W h)
  have HE := Lib.hid (show wide6B r s = (wide4B r s || wideB r.n r.l r.vars 80) from rfl)
  obtain ⟨W0, hW0⟩ : ∃ W : World, w.alloc (Obj.cells #[.int .i64 r.n, r.lv, r.vv, .int .i64 s.f.1, .int .i64 s.f.2.1, .int .i64 s.f.2.2, s.ov, .int .i64 u.1, .int .i64 u.2.1, .int .i64 u.2.2] 49) = W := ⟨_, rfl⟩
  have kw0 : Below w.heap.size w W0 := by rw [← hW0]; exact (by repeat (first | exact Below.refl _ _ | assumption | (refine Below.drew ?_) | (refine below_drewN ?_ _) | (refine Below.alloc ?_ (by first | (simp; done) | (simp; omega) | omega) _) | (refine Below.setCell ?_ (by first | (simp; done) | (simp; omega) | omega) _) | (refine Below.trans ?_ (Below.mono (by assumption) (by first | (simp; done) | (simp; omega) | omega)))))
  have ks0 : W0.heap.size = w.heap.size + 1 := by rw [← hW0]; simp
  have RD0 := Lib.hid (show ∀ V, Below W0.heap.size W0 V → V.cell? ⟨w.heap.size, 0, none⟩ = some (.int .i64 r.n) ∧ V.cell? ⟨w.heap.size, 1, none⟩ = some (r.lv) ∧ V.cell? ⟨w.heap.size, 2, none⟩ = some (r.vv) ∧ V.cell? ⟨w.heap.size, 3, none⟩ = some (.int .i64 s.f.1) ∧ V.cell? ⟨w.heap.size, 4, none⟩ = some (.int .i64 s.f.2.1) ∧ V.cell? ⟨w.heap.size, 5, none⟩ = some (.int .i64 s.f.2.2) ∧ V.cell? ⟨w.heap.size, 6, none⟩ = some (s.ov) ∧ V.cell? ⟨w.heap.size, 7, none⟩ = some (.int .i64 u.1) ∧ V.cell? ⟨w.heap.size, 8, none⟩ = some (.int .i64 u.2.1) ∧ V.cell? ⟨w.heap.size, 9, none⟩ = some (.int .i64 u.2.2) from fun V h => by
      refine ⟨(h.cell (p := ⟨w.heap.size, 0, none⟩) (by simp; omega)).trans ?_, (h.cell (p := ⟨w.heap.size, 1, none⟩) (by simp; omega)).trans ?_, (h.cell (p := ⟨w.heap.size, 2, none⟩) (by simp; omega)).trans ?_, (h.cell (p := ⟨w.heap.size, 3, none⟩) (by simp; omega)).trans ?_, (h.cell (p := ⟨w.heap.size, 4, none⟩) (by simp; omega)).trans ?_, (h.cell (p := ⟨w.heap.size, 5, none⟩) (by simp; omega)).trans ?_, (h.cell (p := ⟨w.heap.size, 6, none⟩) (by simp; omega)).trans ?_, (h.cell (p := ⟨w.heap.size, 7, none⟩) (by simp; omega)).trans ?_, (h.cell (p := ⟨w.heap.size, 8, none⟩) (by simp; omega)).trans ?_, (h.cell (p := ⟨w.heap.size, 9, none⟩) (by simp; omega)).trans ?_⟩ <;> (subst hW0; go_simp))
  have HW0 := Lib.hid hW0; have KW0 := Lib.hid kw0; clear hW0 kw0
  generalize wideB r.n r.l r.vars 80 = B at *
  cases h4 : wide4B r s
  all_goals
    have HV := Lib.hid h4
    rw [h4] at HE
    clear h4
    go_enter Tryz.func23, Tryz.ntmps23
    go_wp2_with (first | (go_at_call 57; rw [HW0.out]; refine (HWD.out _ (HR.out.below KW0.out) (HS.out.below KW0.out)).mono ?_; go_must (rintro e w1 ⟨rfl, hb1⟩; have K0 := hb1; have HB1 := Lib.hid hb1; clear hb1; obtain ⟨k0_0, k0_1, k0_2, k0_3, k0_4, k0_5, k0_6, k0_7, k0_8, k0_9⟩ := RD0.out _ K0; rw [HV.out])) | (go_at_call 11; refine (HW2.out _ (HR.out.below (KW0.out.trans (K0.mono (by omega))))).mono ?_; go_must (rintro e w2 ⟨rfl, hb2⟩; have K' := (by first | exact below_at K0 (by have := K0.size; omega) hb2 | exact below_at K0 (by have := K0.size; omega) (by repeat (first | exact Below.refl _ _ | assumption | (refine Below.drew ?_) | (refine below_drewN ?_ _) | (refine Below.alloc ?_ (by first | (simp; done) | (simp; omega) | omega) _) | (refine Below.setCell ?_ (by first | (simp; done) | (simp; omega) | omega) _) | (refine Below.trans ?_ (Below.mono (by assumption) (by first | (simp; done) | (simp; omega) | omega))))) : Below W0.heap.size W0 w2); have HB2 := Lib.hid hb2; clear K0 hb2; (try clear k0_0); (try clear k0_1); (try clear k0_2); (try clear k0_3); (try clear k0_4); (try clear k0_5); (try clear k0_6); (try clear k0_7); (try clear k0_8); (try clear k0_9); have K0 := K'; clear K'; obtain ⟨k0_0, k0_1, k0_2, k0_3, k0_4, k0_5, k0_6, k0_7, k0_8, k0_9⟩ := RD0.out _ K0)))
    go_ret
    exact ⟨by rw [HE.out]; simp, (KW0.out.trans (K0.mono (by omega)))⟩
theorem fLat_shape {r : RecD} {s : SchedD} {u : P3} {f : Int × Int} {e : Ending} (h : FLatR r s u f e) : ∃ a b, e = .returned (.tuple #[.int .i64 a, .int .i64 b]) := by
  rcases h with ⟨-, rfl⟩ | ⟨-, l, -, rfl⟩
  · exact ⟨_, _, rfl⟩
  · exact ⟨_, _, rfl⟩
set_option maxHeartbeats 16000000 in
set_option maxRecDepth 100000 in
theorem FoldTables_any (r : RecD) (s : SchedD) (u : P3) (f : Int × Int) (w : World) (hr : RecRd w r) (hs : SchedRd w s) :
    Calls Tryz.prog 6 #[.agg #[.int .i64 r.n, r.lv, r.vv, .int .i64 s.f.1, .int .i64 s.f.2.1, .int .i64 s.f.2.2, s.ov, .int .i64 u.1, .int .i64 u.2.1, .int .i64 u.2.2], .agg #[.int .i64 f.1, .int .i64 f.2]] w fun e w' => e = .returned (.bool true) ∧ Below w.heap.size w w' := by
  have HR := Lib.hid hr
  have HS := Lib.hid hs
  clear hr hs
  have HWD := Lib.hid (fun (W : World) (h : RecRd W r) (h2 : SchedRd W s) => Wide6_l r s u W h h2)
  obtain ⟨W0, hW0⟩ : ∃ W : World, (w.alloc (Obj.cells #[.int .i64 r.n, r.lv, r.vv, .int .i64 s.f.1, .int .i64 s.f.2.1, .int .i64 s.f.2.2, s.ov, .int .i64 u.1, .int .i64 u.2.1, .int .i64 u.2.2] 49)).alloc (Obj.cells #[.int .i64 f.1, .int .i64 f.2] 31) = W := ⟨_, rfl⟩
  have kw0 : Below w.heap.size w W0 := by rw [← hW0]; exact (by repeat (first | exact Below.refl _ _ | assumption | (refine Below.drew ?_) | (refine below_drewN ?_ _) | (refine Below.alloc ?_ (by first | (simp; done) | (simp; omega) | omega) _) | (refine Below.setCell ?_ (by first | (simp; done) | (simp; omega) | omega) _) | (refine Below.trans ?_ (Below.mono (by assumption) (by first | (simp; done) | (simp; omega) | omega)))))
  have ks0 : W0.heap.size = w.heap.size + 2 := by rw [← hW0]; simp
  have RD0 := Lib.hid (show ∀ V, Below W0.heap.size W0 V → V.cell? ⟨w.heap.size, 0, none⟩ = some (.int .i64 r.n) ∧ V.cell? ⟨w.heap.size, 1, none⟩ = some (r.lv) ∧ V.cell? ⟨w.heap.size, 2, none⟩ = some (r.vv) ∧ V.cell? ⟨w.heap.size, 3, none⟩ = some (.int .i64 s.f.1) ∧ V.cell? ⟨w.heap.size, 4, none⟩ = some (.int .i64 s.f.2.1) ∧ V.cell? ⟨w.heap.size, 5, none⟩ = some (.int .i64 s.f.2.2) ∧ V.cell? ⟨w.heap.size, 6, none⟩ = some (s.ov) ∧ V.cell? ⟨w.heap.size, 7, none⟩ = some (.int .i64 u.1) ∧ V.cell? ⟨w.heap.size, 8, none⟩ = some (.int .i64 u.2.1) ∧ V.cell? ⟨w.heap.size, 9, none⟩ = some (.int .i64 u.2.2) ∧ V.cell? ⟨w.heap.size + 1, 0, none⟩ = some (.int .i64 f.1) ∧ V.cell? ⟨w.heap.size + 1, 1, none⟩ = some (.int .i64 f.2) from fun V h => by
      refine ⟨(h.cell (p := ⟨w.heap.size, 0, none⟩) (by simp; omega)).trans ?_, (h.cell (p := ⟨w.heap.size, 1, none⟩) (by simp; omega)).trans ?_, (h.cell (p := ⟨w.heap.size, 2, none⟩) (by simp; omega)).trans ?_, (h.cell (p := ⟨w.heap.size, 3, none⟩) (by simp; omega)).trans ?_, (h.cell (p := ⟨w.heap.size, 4, none⟩) (by simp; omega)).trans ?_, (h.cell (p := ⟨w.heap.size, 5, none⟩) (by simp; omega)).trans ?_, (h.cell (p := ⟨w.heap.size, 6, none⟩) (by simp; omega)).trans ?_, (h.cell (p := ⟨w.heap.size, 7, none⟩) (by simp; omega)).trans ?_, (h.cell (p := ⟨w.heap.size, 8, none⟩) (by simp; omega)).trans ?_, (h.cell (p := ⟨w.heap.size, 9, none⟩) (by simp; omega)).trans ?_, (h.cell (p := ⟨w.heap.size + 1, 0, none⟩) (by simp; omega)).trans ?_, (h.cell (p := ⟨w.heap.size + 1, 1, none⟩) (by simp; omega)).trans ?_⟩ <;> (subst hW0; go_simp))
  have HW0 := Lib.hid hW0; have KW0 := Lib.hid kw0; clear hW0 kw0
  cases hwd : wide6B r s
  rotate_left
  · have HV := Lib.hid hwd; clear hwd
    go_enter Tryz.func6, Tryz.ntmps6
    go_wp2_with (first | (go_at_call 23; rw [HW0.out]; refine (HWD.out _ (HR.out.below KW0.out) (HS.out.below KW0.out)).mono ?_; go_must (rintro e w1 ⟨rfl, hb1⟩; have K0 := hb1; have HB1 := Lib.hid hb1; clear hb1; obtain ⟨k0_0, k0_1, k0_2, k0_3, k0_4, k0_5, k0_6, k0_7, k0_8, k0_9, k0_10, k0_11⟩ := RD0.out _ K0; rw [HV.out])) | (go_at_call 12; refine (sane_any _).mono ?_; go_must (rintro e w9 ⟨rfl, hb9⟩; have K' := (by first | exact below_at K0 (by have := K0.size; omega) hb9 | exact below_at K0 (by have := K0.size; omega) (by repeat (first | exact Below.refl _ _ | assumption | (refine Below.drew ?_) | (refine below_drewN ?_ _) | (refine Below.alloc ?_ (by first | (simp; done) | (simp; omega) | omega) _) | (refine Below.setCell ?_ (by first | (simp; done) | (simp; omega) | omega) _) | (refine Below.trans ?_ (Below.mono (by assumption) (by first | (simp; done) | (simp; omega) | omega))))) : Below W0.heap.size W0 w9); have HB9 := Lib.hid hb9; clear K0 hb9; (try clear k0_0); (try clear k0_1); (try clear k0_2); (try clear k0_3); (try clear k0_4); (try clear k0_5); (try clear k0_6); (try clear k0_7); (try clear k0_8); (try clear k0_9); (try clear k0_10); (try clear k0_11); have K0 := K'; clear K'; obtain ⟨k0_0, k0_1, k0_2, k0_3, k0_4, k0_5, k0_6, k0_7, k0_8, k0_9, k0_10, k0_11⟩ := RD0.out _ K0)))
    go_ret
    exact ⟨rfl, (KW0.out.trans (K0.mono (by omega)))⟩
  have HV := Lib.hid hwd; clear hwd
  have HT1 := Lib.hid (fun (W : World) (h : RecRd W r) (h2 : SchedRd W s) => fTable_l r s u f W h h2)
  have HT2 := Lib.hid (fun (W : World) (h : RecRd W r) (h2 : SchedRd W s) => rfTable_l r s u f W h h2)
  have HL1 := Lib.hid (fun (W : World) (h : RecRd W r) (h2 : SchedRd W s) => fLatency_l r s u f W h h2)
  have HL2 := Lib.hid (fun (W : World) (h : RecRd W r) (h2 : SchedRd W s) => rfLatency_l r s u f W h h2)
  have HU := Lib.hid (show ∀ l m : List EvD, (if foldE r s u f = 0 then l.Perm (fevsL r s u f) ∧ SortedE l else l = []) → (if foldE r s u f = 0 then m.Perm (fevsL r s u f) ∧ SortedE m else m = []) → l = m from fun l m h1 h2 => by
    by_cases h : foldE r s u f = 0
    · rw [if_pos h] at h1 h2
      exact sorted_same (h1.1.trans h2.1.symm) h1.2 h2.2
    · rw [if_neg h] at h1 h2
      rw [h1, h2])
  have HSM := Lib.hid (fun (l : List EvD) (W : World) (v1 v2 : Value) (h1 : SlOf W W.heap.size 7 encE v1 l) (h2 : SlOf W W.heap.size 7 encE v2 l) => by have := SameEvents_l l l W v1 v2 h1 h2; rwa [decide_eq_true rfl] at this)
  go_enter Tryz.func6, Tryz.ntmps6
  go_wp2_with (first | (go_at_call 23; rw [HW0.out]; refine (HWD.out _ (HR.out.below KW0.out) (HS.out.below KW0.out)).mono ?_; go_must (rintro e w1 ⟨rfl, hb1⟩; have K0 := hb1; have HB1 := Lib.hid hb1; clear hb1; obtain ⟨k0_0, k0_1, k0_2, k0_3, k0_4, k0_5, k0_6, k0_7, k0_8, k0_9, k0_10, k0_11⟩ := RD0.out _ K0; rw [HV.out])) | (go_at_call 27; refine (HT1.out _ (HR.out.below (KW0.out.trans (K0.mono (by omega)))) (HS.out.below (KW0.out.trans (K0.mono (by omega))))).mono ?_; go_must (rintro e w2 ⟨⟨v1, l1, rfl, hs1, hp1⟩, hb2⟩; have K' := (by first | exact below_at K0 (by have := K0.size; omega) hb2 | exact below_at K0 (by have := K0.size; omega) (by repeat (first | exact Below.refl _ _ | assumption | (refine Below.drew ?_) | (refine below_drewN ?_ _) | (refine Below.alloc ?_ (by first | (simp; done) | (simp; omega) | omega) _) | (refine Below.setCell ?_ (by first | (simp; done) | (simp; omega) | omega) _) | (refine Below.trans ?_ (Below.mono (by assumption) (by first | (simp; done) | (simp; omega) | omega))))) : Below W0.heap.size W0 w2); have HB2 := Lib.hid hb2; clear K0 hb2; (try clear k0_0); (try clear k0_1); (try clear k0_2); (try clear k0_3); (try clear k0_4); (try clear k0_5); (try clear k0_6); (try clear k0_7); (try clear k0_8); (try clear k0_9); (try clear k0_10); (try clear k0_11); have K0 := K'; clear K'; obtain ⟨k0_0, k0_1, k0_2, k0_3, k0_4, k0_5, k0_6, k0_7, k0_8, k0_9, k0_10, k0_11⟩ := RD0.out _ K0; have HS1 := Lib.hid hs1; have HP1 := Lib.hid hp1; clear hs1 hp1)) | (go_at_call 30; refine (HT2.out _ (HR.out.below (KW0.out.trans (K0.mono (by omega)))) (HS.out.below (KW0.out.trans (K0.mono (by omega))))).mono ?_; go_must (rintro e w3 ⟨⟨v2, l2, rfl, hs2, hp2⟩, hb3⟩; have K' := (by first | exact below_at K0 (by have := K0.size; omega) hb3 | exact below_at K0 (by have := K0.size; omega) (by repeat (first | exact Below.refl _ _ | assumption | (refine Below.drew ?_) | (refine below_drewN ?_ _) | (refine Below.alloc ?_ (by first | (simp; done) | (simp; omega) | omega) _) | (refine Below.setCell ?_ (by first | (simp; done) | (simp; omega) | omega) _) | (refine Below.trans ?_ (Below.mono (by assumption) (by first | (simp; done) | (simp; omega) | omega))))) : Below W0.heap.size W0 w3); have HB3 := Lib.hid hb3; clear K0 hb3; (try clear k0_0); (try clear k0_1); (try clear k0_2); (try clear k0_3); (try clear k0_4); (try clear k0_5); (try clear k0_6); (try clear k0_7); (try clear k0_8); (try clear k0_9); (try clear k0_10); (try clear k0_11); have K0 := K'; clear K'; obtain ⟨k0_0, k0_1, k0_2, k0_3, k0_4, k0_5, k0_6, k0_7, k0_8, k0_9, k0_10, k0_11⟩ := RD0.out _ K0; have HS2 := Lib.hid ((HU.out l2 l1 hp2 HP1.out) ▸ hs2); have HS11 := Lib.hid (HS1.out.below HB3.out); clear hs2 hp2)) | (go_at_call 31; refine (HL1.out _ (HR.out.below (KW0.out.trans (K0.mono (by omega)))) (HS.out.below (KW0.out.trans (K0.mono (by omega))))).mono ?_; go_must (rintro e w4 ⟨hl4, hb4⟩; have K' := (by first | exact below_at K0 (by have := K0.size; omega) hb4 | exact below_at K0 (by have := K0.size; omega) (by repeat (first | exact Below.refl _ _ | assumption | (refine Below.drew ?_) | (refine below_drewN ?_ _) | (refine Below.alloc ?_ (by first | (simp; done) | (simp; omega) | omega) _) | (refine Below.setCell ?_ (by first | (simp; done) | (simp; omega) | omega) _) | (refine Below.trans ?_ (Below.mono (by assumption) (by first | (simp; done) | (simp; omega) | omega))))) : Below W0.heap.size W0 w4); have HB4 := Lib.hid hb4; clear K0 hb4; (try clear k0_0); (try clear k0_1); (try clear k0_2); (try clear k0_3); (try clear k0_4); (try clear k0_5); (try clear k0_6); (try clear k0_7); (try clear k0_8); (try clear k0_9); (try clear k0_10); (try clear k0_11); have K0 := K'; clear K'; obtain ⟨k0_0, k0_1, k0_2, k0_3, k0_4, k0_5, k0_6, k0_7, k0_8, k0_9, k0_10, k0_11⟩ := RD0.out _ K0; obtain ⟨a4, b4, rfl⟩ := fLat_shape hl4; have HL4 := Lib.hid hl4; clear hl4)) | (go_at_call 32; refine (HL2.out _ (HR.out.below (KW0.out.trans (K0.mono (by omega)))) (HS.out.below (KW0.out.trans (K0.mono (by omega))))).mono ?_; go_must (rintro e w5 ⟨hl5, hb5⟩; have K' := (by first | exact below_at K0 (by have := K0.size; omega) hb5 | exact below_at K0 (by have := K0.size; omega) (by repeat (first | exact Below.refl _ _ | assumption | (refine Below.drew ?_) | (refine below_drewN ?_ _) | (refine Below.alloc ?_ (by first | (simp; done) | (simp; omega) | omega) _) | (refine Below.setCell ?_ (by first | (simp; done) | (simp; omega) | omega) _) | (refine Below.trans ?_ (Below.mono (by assumption) (by first | (simp; done) | (simp; omega) | omega))))) : Below W0.heap.size W0 w5); have HB5 := Lib.hid hb5; clear K0 hb5; (try clear k0_0); (try clear k0_1); (try clear k0_2); (try clear k0_3); (try clear k0_4); (try clear k0_5); (try clear k0_6); (try clear k0_7); (try clear k0_8); (try clear k0_9); (try clear k0_10); (try clear k0_11); have K0 := K'; clear K'; obtain ⟨k0_0, k0_1, k0_2, k0_3, k0_4, k0_5, k0_6, k0_7, k0_8, k0_9, k0_10, k0_11⟩ := RD0.out _ K0; have he5 := fLatR_same HL4.out hl5; subst he5; clear hl5; have HS12 := Lib.hid ((HS11.out.below HB4.out).below HB5.out); have HS22 := Lib.hid ((HS2.out.below HB4.out).below HB5.out))) | (go_at_call 33; refine (HSM.out _ _ _ _ HS12.out HS22.out).mono ?_; go_must (rintro e w6 ⟨rfl, hb6⟩; have K' := (by first | exact below_at K0 (by have := K0.size; omega) hb6 | exact below_at K0 (by have := K0.size; omega) (by repeat (first | exact Below.refl _ _ | assumption | (refine Below.drew ?_) | (refine below_drewN ?_ _) | (refine Below.alloc ?_ (by first | (simp; done) | (simp; omega) | omega) _) | (refine Below.setCell ?_ (by first | (simp; done) | (simp; omega) | omega) _) | (refine Below.trans ?_ (Below.mono (by assumption) (by first | (simp; done) | (simp; omega) | omega))))) : Below W0.heap.size W0 w6); have HB6 := Lib.hid hb6; clear K0 hb6; (try clear k0_0); (try clear k0_1); (try clear k0_2); (try clear k0_3); (try clear k0_4); (try clear k0_5); (try clear k0_6); (try clear k0_7); (try clear k0_8); (try clear k0_9); (try clear k0_10); (try clear k0_11); have K0 := K'; clear K'; obtain ⟨k0_0, k0_1, k0_2, k0_3, k0_4, k0_5, k0_6, k0_7, k0_8, k0_9, k0_10, k0_11⟩ := RD0.out _ K0; skip)) | (go_at_call 12; refine (sane_any _).mono ?_; go_must (rintro e w7 ⟨rfl, hb7⟩; have K' := (by first | exact below_at K0 (by have := K0.size; omega) hb7 | exact below_at K0 (by have := K0.size; omega) (by repeat (first | exact Below.refl _ _ | assumption | (refine Below.drew ?_) | (refine below_drewN ?_ _) | (refine Below.alloc ?_ (by first | (simp; done) | (simp; omega) | omega) _) | (refine Below.setCell ?_ (by first | (simp; done) | (simp; omega) | omega) _) | (refine Below.trans ?_ (Below.mono (by assumption) (by first | (simp; done) | (simp; omega) | omega))))) : Below W0.heap.size W0 w7); have HB7 := Lib.hid hb7; clear K0 hb7; (try clear k0_0); (try clear k0_1); (try clear k0_2); (try clear k0_3); (try clear k0_4); (try clear k0_5); (try clear k0_6); (try clear k0_7); (try clear k0_8); (try clear k0_9); (try clear k0_10); (try clear k0_11); have K0 := K'; clear K'; obtain ⟨k0_0, k0_1, k0_2, k0_3, k0_4, k0_5, k0_6, k0_7, k0_8, k0_9, k0_10, k0_11⟩ := RD0.out _ K0)))
  go_ret
  exact ⟨rfl, (KW0.out.trans (K0.mono (by omega)))⟩
end Go.Proofs.YtnejicklenhpeaaGreat
