/- The walk of the reference's IsWay. -/
import Derived.Test.YtpoofjioeljigaaLinkO
namespace Go.Proofs.Ytpoofjioeljigaa
open Go.RowKit
set_option maxHeartbeats 4000000 in
set_option maxRecDepth 100000 in
theorem isWayR_l (links : List C2) (hl : links.length ≤ 1000) (m0 m1 : Int) (way : List Int) (w : World) (g off : Nat) (v vw : Value) (hv : CRd w v g off links) (hw : ISl w w.heap.size vw way) :
    Calls Try.prog 51 #[v, .agg #[.int .i64 (m0), .int .i64 (m1)], vw] w fun e w' => e = .returned (.tuple #[.bool (wayV links (m0, m1) way).1, .int .i64 (wayV links (m0, m1) way).2]) ∧ Below w.heap.size w w' := by
  have HV := Lib.hid hv
  have HW := Lib.hid hw
  obtain ⟨a, cap, rfl, hx⟩ := hv.at
  obtain ⟨aw, capw, gw, ow, rfl, hmw, hxw⟩ := hw.at
  have HX := Lib.hid hx; have HXW := Lib.hid hxw
  clear hv hw hx hxw
  unfold maxLen at hmw
  have HC := Lib.hid (fun w' (hb : Below w.heap.size w w') => asked_l links hl m0 m1 w' g off (.slice a links.length cap) (HV.out.below hb))
  have K := Below.refl (w.heap.size + 1) (w.alloc (.cells #[.int .i64 m0, .int .i64 m1] 23))
  by_cases h : chkL links (m0, m1) = 0
  rotate_left
  · have HR := Lib.hid (show wayV links (m0, m1) way = (false, chkL links (m0, m1)) by rw [wayV, if_neg h])
    have hne : (chkL links (m0, m1) != 0) = true := by simpa using h
    clear h
    generalize chkL links (m0, m1) = er at *
    go_enter Try.func51, Try.ntmps51
    go_wp2_with ((go_at_call 75; refine (HC.out _ (by repeat (first | exact Below.refl _ _ | assumption | (refine Below.drew ?_) | (refine below_drewN ?_ _) | (refine Below.alloc ?_ (by first | (simp; done) | (simp; omega) | omega) _) | (refine Below.setCell ?_ (by first | (simp; done) | (simp; omega) | omega) _) | (refine Below.trans ?_ (Below.mono (by assumption) (by first | (simp; done) | (simp; omega) | omega)))))).mono ?_; go_must (rintro e w1 ⟨rfl, hb1⟩; have K' := K.trans (c := w1) (by repeat (first | exact Below.refl _ _ | assumption | (refine Below.drew ?_) | (refine below_drewN ?_ _) | (refine Below.alloc ?_ (by first | (simp; done) | (simp; omega) | omega) _) | (refine Below.setCell ?_ (by first | (simp; done) | (simp; omega) | omega) _) | (refine Below.trans ?_ (Below.mono (by assumption) (by first | (simp; done) | (simp; omega) | omega))))); clear K; (try clear hc); (try clear hf); (try clear hz); (try clear hz0); have K := K'; clear K'; obtain ⟨hc, hf⟩ := bcellB K; have hz0 := K.size; (try simp at hz0); have hz := z1 hz0; clear hb1)))
    exact bodyPost_ret (v := .tuple #[.bool false, .int .i64 er]) (by simp only [results, Try.results51]; first | (go_simp; done) | (go_simp; rfl)) rfl ⟨by rw [HR.out], by repeat (first | exact Below.refl _ _ | assumption | (refine Below.drew ?_) | (refine below_drewN ?_ _) | (refine Below.alloc ?_ (by first | (simp; done) | (simp; omega) | omega) _) | (refine Below.setCell ?_ (by first | (simp; done) | (simp; omega) | omega) _) | (refine Below.trans ?_ (Below.mono (by assumption) (by first | (simp; done) | (simp; omega) | omega))))⟩
  obtain ⟨⟨h8, hv8⟩, hm20⟩ := chk_ok h
  by_cases h100 : 100 < way.length
  · have HR := Lib.hid (show wayV links (m0, m1) way = (false, 2) by rw [wayV, if_pos h, if_pos h100])
    have H := Lib.hid h; clear h hv8 hm20
    go_enter Try.func51, Try.ntmps51
    go_wp2_with ((go_at_call 75; refine (HC.out _ (by repeat (first | exact Below.refl _ _ | assumption | (refine Below.drew ?_) | (refine below_drewN ?_ _) | (refine Below.alloc ?_ (by first | (simp; done) | (simp; omega) | omega) _) | (refine Below.setCell ?_ (by first | (simp; done) | (simp; omega) | omega) _) | (refine Below.trans ?_ (Below.mono (by assumption) (by first | (simp; done) | (simp; omega) | omega)))))).mono ?_; go_must (rintro e w1 ⟨rfl, hb1⟩; have K' := K.trans (c := w1) (by repeat (first | exact Below.refl _ _ | assumption | (refine Below.drew ?_) | (refine below_drewN ?_ _) | (refine Below.alloc ?_ (by first | (simp; done) | (simp; omega) | omega) _) | (refine Below.setCell ?_ (by first | (simp; done) | (simp; omega) | omega) _) | (refine Below.trans ?_ (Below.mono (by assumption) (by first | (simp; done) | (simp; omega) | omega))))); clear K; (try clear hc); (try clear hf); (try clear hz); (try clear hz0); have K := K'; clear K'; obtain ⟨hc, hf⟩ := bcellB K; have hz0 := K.size; (try simp at hz0); have hz := z1 hz0; clear hb1; rw [H.out])))
    exact bodyPost_ret (v := .tuple #[.bool false, .int .i64 2]) (by simp only [results, Try.results51]; first | (go_simp; done) | (go_simp; rfl)) rfl ⟨by rw [HR.out], by repeat (first | exact Below.refl _ _ | assumption | (refine Below.drew ?_) | (refine below_drewN ?_ _) | (refine Below.alloc ?_ (by first | (simp; done) | (simp; omega) | omega) _) | (refine Below.setCell ?_ (by first | (simp; done) | (simp; omega) | omega) _) | (refine Below.trans ?_ (Below.mono (by assumption) (by first | (simp; done) | (simp; omega) | omega))))⟩
  have HR := Lib.hid (show wayV links (m0, m1) way = (way.all (okIdx links.length) && (sortedB way && decide (sumW links way = (m0, m1))), 0) by rw [wayV, if_pos h, if_neg h100])
  have H := Lib.hid h
  have HN := Lib.hid (fun l hl => (hv8 l hl).1)
  clear h hv8 hm20
  go_enter Try.func51, Try.ntmps51
  go_wp2_with ((go_at_call 75; refine (HC.out _ (by repeat (first | exact Below.refl _ _ | assumption | (refine Below.drew ?_) | (refine below_drewN ?_ _) | (refine Below.alloc ?_ (by first | (simp; done) | (simp; omega) | omega) _) | (refine Below.setCell ?_ (by first | (simp; done) | (simp; omega) | omega) _) | (refine Below.trans ?_ (Below.mono (by assumption) (by first | (simp; done) | (simp; omega) | omega)))))).mono ?_; go_must (rintro e w1 ⟨rfl, hb1⟩; have K' := K.trans (c := w1) (by repeat (first | exact Below.refl _ _ | assumption | (refine Below.drew ?_) | (refine below_drewN ?_ _) | (refine Below.alloc ?_ (by first | (simp; done) | (simp; omega) | omega) _) | (refine Below.setCell ?_ (by first | (simp; done) | (simp; omega) | omega) _) | (refine Below.trans ?_ (Below.mono (by assumption) (by first | (simp; done) | (simp; omega) | omega))))); clear K; (try clear hc); (try clear hf); (try clear hz); (try clear hz0); have K := K'; clear K'; obtain ⟨hc, hf⟩ := bcellB K; have hz0 := K.size; (try simp at hz0); have hz := z1 hz0; clear hb1; rw [H.out])))
  have K0 : Below w.heap.size w w1 := (Below.refl _ _).alloc (Nat.le_refl _) _ |>.trans (K.mono (by omega))
  go_loopw [23] (fun i wr => ∃ k : Nat, k ≤ way.length ∧ i = .int .i64 (k : Nat) ∧ (∀ j (h : j < way.length), j < k → okIdx links.length way[j] = true) ∧ (∀ j, j + 1 < k → way.getD j 0 ≤ way.getD (j + 1) 0) ∧ wr.cell? ⟨w1.heap.size, 0, none⟩ = some (.int .i64 (sumW links (way.take k)).1) ∧ wr.cell? ⟨w1.heap.size, 1, none⟩ = some (.int .i64 (sumW links (way.take k)).2) ∧ wr.frozen? ⟨w1.heap.size, 0, none⟩ = false ∧ wr.frozen? ⟨w1.heap.size, 1, none⟩ = false ∧ w1.heap.size < wr.heap.size ∧ Below w1.heap.size w1 wr) (fun i _ => way.length - (intOf i).toNat)
  case atStart => exact ⟨0, Nat.zero_le _, rfl, fun j _ h => absurd h (by omega), fun j h => absurd h (by omega), by go_simp; rfl, by go_simp; rfl, by go_simp, by go_simp, by simp, (Below.refl _ _).alloc (Nat.le_refl _) _⟩
  case round =>
    obtain ⟨k, hk, rfl, hok, hsd, c0, c1, f0, f1, hlt1, hb⟩ := hrel
    have HOK := Lib.hid hok; have HSD := Lib.hid hsd; clear hok hsd
    have hb0 : Below w.heap.size w wr := K0.trans (hb.mono (by omega))
    have gm0 : wr.cell? ⟨w.heap.size, 0, none⟩ = some (.int .i64 m0) := (hb.cell (p := ⟨w.heap.size, 0, none⟩) (by simp; omega)).trans ((K.cell (p := ⟨w.heap.size, 0, none⟩) (by simp)).trans (by go_simp))
    have gm1 : wr.cell? ⟨w.heap.size, 1, none⟩ = some (.int .i64 m1) := (hb.cell (p := ⟨w.heap.size, 1, none⟩) (by simp; omega)).trans ((K.cell (p := ⟨w.heap.size, 1, none⟩) (by simp)).trans (by go_simp))
    clear hc hf K
    have HS := Lib.hid (sumW_near HN.out (way.take k))
    by_cases hlt : k < way.length
    rotate_left
    · obtain rfl : k = way.length := by omega
      rw [List.take_length] at *
      have HWW := Lib.hid (show way.all (okIdx links.length) = true from List.all_eq_true.2 (fun c hc => by
        obtain ⟨j, hj, rfl⟩ := List.getElem_of_mem hc
        exact HOK.out j hj hj))
      generalize sumW links way = s at *
      obtain ⟨s0, s1⟩ := s
      simp only at c0 c1
      have heq := fun W => eq_cell s0 s1 m0 m1 W
      have hso : sortedB way = true := (sortedB_iff _).2 HSD.out
      have HV2 := Lib.hid (show wayV links (m0, m1) way = (decide (s0 = m0) && decide (s1 = m1), 0) by rw [HR.out, HWW.out, hso, Bool.true_and, Bool.true_and]; congr 2; simp [Prod.ext_iff])
      clear HOK hso
      go_wp2
      exact bodyPost_ret (v := .tuple #[.bool (decide (s0 = m0) && decide (s1 = m1)), .int .i64 0]) (by simp only [results, Try.results51]; first | (go_simp; done) | (go_simp; rfl)) rfl ⟨by rw [HV2.out], by repeat (first | exact Below.refl _ _ | assumption | (refine Below.drew ?_) | (refine below_drewN ?_ _) | (refine Below.alloc ?_ (by first | (simp; done) | (simp; omega) | omega) _) | (refine Below.setCell ?_ (by first | (simp; done) | (simp; omega) | omega) _) | (refine Below.trans ?_ (Below.mono (by assumption) (by first | (simp; done) | (simp; omega) | omega))))⟩
    obtain ⟨hi, hg, hci⟩ := HXW.out k hlt
    have r := (hb0.cell (p := ⟨gw, ow + k, none⟩) hg).trans hci
    clear hci hg
    have HT := Lib.hid (show sumW links (way.take (k + 1)) = add2 (sumW links (way.take k)) (links.getD (way[k]).toNat (0, 0)) by rw [List.take_succ_eq_append_getElem hlt, sumW_snoc])
    have HG := Lib.hid (show way.getD k 0 = way[k] by simp [hlt])
    cases hx : okIdx links.length way[k]
    · have HA := Lib.hid (show way.all (okIdx links.length) = false from List.all_eq_false.2 ⟨_, List.getElem_mem hlt, by simp [hx]⟩)
      generalize way[k] = x at *
      by_cases x1 : x < 0
      · clear hx
        go_wp2
        exact bodyPost_ret (v := .tuple #[.bool false, .int .i64 0]) (by simp only [results, Try.results51]; first | (go_simp; done) | (go_simp; rfl)) rfl ⟨by rw [HR.out, HA.out]; rfl, by repeat (first | exact Below.refl _ _ | assumption | (refine Below.drew ?_) | (refine below_drewN ?_ _) | (refine Below.alloc ?_ (by first | (simp; done) | (simp; omega) | omega) _) | (refine Below.setCell ?_ (by first | (simp; done) | (simp; omega) | omega) _) | (refine Below.trans ?_ (Below.mono (by assumption) (by first | (simp; done) | (simp; omega) | omega))))⟩
      · have x2 : (links.length : Int) ≤ x := by
          simp only [okIdx, Bool.and_eq_false_iff, decide_eq_false_iff_not] at hx
          omega
        clear hx
        go_wp2
        exact bodyPost_ret (v := .tuple #[.bool false, .int .i64 0]) (by simp only [results, Try.results51]; first | (go_simp; done) | (go_simp; rfl)) rfl ⟨by rw [HR.out, HA.out]; rfl, by repeat (first | exact Below.refl _ _ | assumption | (refine Below.drew ?_) | (refine below_drewN ?_ _) | (refine Below.alloc ?_ (by first | (simp; done) | (simp; omega) | omega) _) | (refine Below.setCell ?_ (by first | (simp; done) | (simp; omega) | omega) _) | (refine Below.trans ?_ (Below.mono (by assumption) (by first | (simp; done) | (simp; omega) | omega))))⟩
    have HA := Lib.hid (show ∀ j (h : j < way.length), j < k + 1 → okIdx links.length way[j] = true from fun j h h2 => by
      rcases Nat.lt_or_ge j k with h3 | h3
      · exact HOK.out j h h3
      · obtain rfl : j = k := by omega
        exact hx)
    obtain ⟨x1, x2⟩ : 0 ≤ way[k] ∧ way[k] ≤ (links.length : Int) - 1 := by simpa [okIdx] using hx
    clear hx
    obtain ⟨n, hxn⟩ := Int.eq_ofNat_of_zero_le x1
    have hn : n < links.length := by omega
    rw [hxn] at r HG HT
    clear x1 x2 hxn
    obtain ⟨hi2, hg2, d0, d1⟩ := HX.out n hn
    have r0 := (hb0.cell (p := ⟨g, off + 2 * n, none⟩) hg2).trans d0
    have r1 := (hb0.cell (p := ⟨g, off + 2 * n + 1, none⟩) hg2).trans d1
    clear d0 d1
    have HT2 := Lib.hid (show sumW links (way.take (k + 1)) = add2 (sumW links (way.take k)) links[n] by rw [HT.out]; simp [hn])
    have hnl := HN.out _ (List.getElem_mem hn)
    have hlk : (way.take k).length ≤ 100 := by simp; omega
    have hs := HS.out.mono (show 3 * ((way.take k).length : Int) ≤ 300 by omega)
    clear hlk
    generalize links[n] = c at *
    generalize sumW links (way.take k) = s at *
    obtain ⟨c0', c1'⟩ := c
    obtain ⟨s0, s1⟩ := s
    obtain ⟨p1, p2, p3, p4⟩ := hs
    obtain ⟨q1, q2, q3, q4⟩ := hnl
    simp only at *
    have e1 : IntKind.i64.wrap (s0 + c0') = s0 + c0' := IntWalk.i64_in _ (by omega)
    have e2 : IntKind.i64.wrap (s1 + c1') = s1 + c1' := IntWalk.i64_in _ (by omega)
    have E1 := Lib.hid e1; have E2 := Lib.hid e2; clear e1 e2
    rcases Nat.eq_zero_or_pos k with hk0 | hk0
    · subst hk0
      have hcast : ((0 : Nat) : Int) = 0 := rfl
      simp only [hcast, Nat.add_zero] at *
      clear hcast
      have HB := Lib.hid (show ∀ j, j + 1 < 0 + 1 → way.getD j 0 ≤ way.getD (j + 1) 0 from fun j h => absurd h (by omega))
      go_wp2
      (refine stilld 17 (by kernel_rfl) (by kernel_rfl) ?_; simp only [List.take_succ_cons, List.take_zero, List.drop_succ_cons, List.drop_zero]; repeat (first | still_step | (refine wpStill_step (fun K hK => ?_); go_simp; refine ⟨_, fail, hK _ ?_⟩; clear hK K)); (try refine wpStill_nil ?_))
      have e1 := E1.out; have e2 := E2.out
      go_wp2
      clear e1 e2
      go_roundw
      case rel =>
        refine ⟨_, hlt, by simp, HA.out, HB.out, ?_, ?_, by simp [f0], by simp [f1], by simpa using hlt1, ?_⟩
        · rw [HT2.out]
          exact (World.cell?_setCell_other _ _ _ _ (by simp)).trans (World.cell?_setCell_same' _ _ _ (by simp [c0]))
        · rw [HT2.out]
          exact World.cell?_setCell_same' _ _ _ (by rw [World.cell?_setCell_other _ _ _ _ (by simp)]; simp [c1])
        · exact (hb.drew.setCell (p := ⟨w1.heap.size, 0, none⟩) (by simp) _).setCell (p := ⟨w1.heap.size, 1, none⟩) (by simp) _
      case measure => simp only [intOf]; omega
    · obtain ⟨p, rfl⟩ : ∃ p, k = p + 1 := ⟨k - 1, by omega⟩
      obtain ⟨hi3, hg3, hci3⟩ := HXW.out p (by omega)
      have r3 := (hb0.cell (p := ⟨gw, ow + p, none⟩) hg3).trans hci3
      have HP := Lib.hid (show way.getD p 0 = way[p] by simp [show p < way.length by omega])
      clear hci3 hg3
      generalize way[p] = y at *
      have e3 : IntKind.i64.wrap ((p : Int) + 1 - 1) = (p : Int) := by rw [IntWalk.i64_in _ (by omega)]; omega
      have hcast : ((p + 1 : Nat) : Int) = (p : Int) + 1 := by omega
      simp only [hcast] at *
      clear hcast
      by_cases hny : (n : Int) < y
      · have HF := Lib.hid (show sortedB way = false by
          rw [← Bool.not_eq_true, sortedB_iff]
          intro h
          have := h p (by omega)
          rw [HP.out, HG.out] at this
          omega)
        go_wp2
        exact bodyPost_ret (v := .tuple #[.bool false, .int .i64 0]) (by simp only [results, Try.results51]; first | (go_simp; done) | (go_simp; rfl)) rfl ⟨by rw [HR.out, HF.out]; simp, by repeat (first | exact Below.refl _ _ | assumption | (refine Below.drew ?_) | (refine below_drewN ?_ _) | (refine Below.alloc ?_ (by first | (simp; done) | (simp; omega) | omega) _) | (refine Below.setCell ?_ (by first | (simp; done) | (simp; omega) | omega) _) | (refine Below.trans ?_ (Below.mono (by assumption) (by first | (simp; done) | (simp; omega) | omega))))⟩
      · have hny2 : y ≤ (n : Int) := by omega
        have HB := Lib.hid (show ∀ j, j + 1 < p + 1 + 1 → way.getD j 0 ≤ way.getD (j + 1) 0 from fun j h => by
          rcases Nat.lt_or_ge (j + 1) (p + 1) with h3 | h3
          · exact HSD.out j h3
          · obtain rfl : j = p := by omega
            rw [HP.out, HG.out]; exact hny2)
        clear hny
        go_wp2
        (refine stilld 17 (by kernel_rfl) (by kernel_rfl) ?_; simp only [List.take_succ_cons, List.take_zero, List.drop_succ_cons, List.drop_zero]; repeat (first | still_step | (refine wpStill_step (fun K hK => ?_); go_simp; refine ⟨_, fail, hK _ ?_⟩; clear hK K)); (try refine wpStill_nil ?_))
        have e1 := E1.out; have e2 := E2.out
        go_wp2
        clear e1 e2
        go_roundw
        case rel =>
          refine ⟨_, hlt, by simp, HA.out, HB.out, ?_, ?_, by simp [f0], by simp [f1], by simpa using hlt1, ?_⟩
          · rw [HT2.out]
            exact (World.cell?_setCell_other _ _ _ _ (by simp)).trans (World.cell?_setCell_same' _ _ _ (by simp [c0]))
          · rw [HT2.out]
            exact World.cell?_setCell_same' _ _ _ (by rw [World.cell?_setCell_other _ _ _ _ (by simp)]; simp [c1])
          · exact (hb.drew.setCell (p := ⟨w1.heap.size, 0, none⟩) (by simp) _).setCell (p := ⟨w1.heap.size, 1, none⟩) (by simp) _
        case measure => simp only [intOf]; omega
end Go.Proofs.Ytpoofjioeljigaa
