/- The walk of the law LinkBounds: it returns true. -/
import Derived.Test.YtjceppinjeehiaaLinkBA
import Derived.Test.YtjceppinjeehiaaLinkAD
namespace Go.Proofs.Ytjceppinjeehiaa
open Go.RowKit
theorem chk_vals (links : List C2) (m : C2) : chkL links m = 0 ∨ chkL links m = 2 ∨ chkL links m = 50 := by
  unfold chkL
  split
  · split
    · exact .inl rfl
    · exact .inr (.inl rfl)
  · exact .inr (.inr rfl)
theorem way_cases {links : List C2} {m : C2} {k : Nat} {way : List Int} (h : Dist links m k) : ((wayV links m way).2 == 0) = false ∨ (wayV links m way = (false, 0)) ∨ (wayV links m way = (true, 0) ∧ k ≤ way.length) := by
  by_cases h0 : (wayV links m way).2 = 0
  · refine .inr ?_
    cases hb : (wayV links m way).1
    · exact .inl (Prod.ext hb h0)
    · have : wayV links m way = (true, 0) := Prod.ext hb h0
      exact .inr ⟨this, way_ge h this⟩
  · exact .inl (by simpa using h0)
theorem proves_cases {links : List C2} {m u : C2} {d n : Int} {k : Nat} (h : Dist links m k) : ((provesV links m u d n).2 != 0) = true ∨ (provesV links m u d n = (false, 0)) ∨ (provesV links m u d n = (true, 0) ∧ n ≤ k) := by
  by_cases h0 : (provesV links m u d n).2 = 0
  · refine .inr ?_
    cases hb : (provesV links m u d n).1
    · exact .inl (Prod.ext hb h0)
    · have : provesV links m u d n = (true, 0) := Prod.ext hb h0
      exact .inr ⟨this, proves_dist h this⟩
  · exact .inl (by simpa using h0)
set_option maxHeartbeats 8000000 in
set_option maxRecDepth 100000 in
theorem LinkBounds_any (links : List C2) (m0 m1 : Int) (way : List Int) (u0 u1 d n : Int) (w : World) (g off : Nat) (v vw : Value) (hv : CRd w v g off links) (hw : ISl w w.heap.size vw way) :
    Calls Try.prog 3 #[v, .agg #[.int .i64 (m0), .int .i64 (m1)], vw, .agg #[.int .i64 (u0), .int .i64 (u1)], .int .i64 d, .int .i64 n] w fun e w' => e = .returned (.bool true) ∧ Below w.heap.size w w' := by
  have HV := Lib.hid hv
  have HW := Lib.hid hw
  obtain ⟨a, cap, rfl, -⟩ := hv.at
  obtain ⟨aw, capw, gw, ow, rfl, hmw, -⟩ := hw.at
  clear hv hw
  unfold maxLen at hmw
  by_cases h30 : 30 < links.length
  · have H30 := Lib.hid (decide_eq_true h30); clear h30
    go_enter Try.func3, Try.ntmps3
    go_wp2_with (first | (go_at_call 6; refine (many_l links _ _ _).mono ?_; go_must (rintro e0 w0 ⟨rfl, rfl⟩; rw [H30.out])) | (go_at_call 7; refine (Awake_l _).mono ?_; go_must (rintro e9 w9 ⟨rfl, hb9⟩)))
    go_ret
    exact ⟨rfl, by repeat (first | exact Below.refl _ _ | assumption | (refine Below.drew ?_) | (refine below_drewN ?_ _) | (refine Below.alloc ?_ (by first | (simp; done) | (simp; omega) | omega) _) | (refine Below.setCell ?_ (by first | (simp; done) | (simp; omega) | omega) _) | (refine Below.trans ?_ (Below.mono (by assumption) (by first | (simp; done) | (simp; omega) | omega))))⟩
  have hl : links.length ≤ 1000 := by omega
  have H30 := Lib.hid (decide_eq_false h30); clear h30
  by_cases h120 : (120 : Int) < (way.length : Int)
  · clear hl
    go_enter Try.func3, Try.ntmps3
    go_wp2_with (first | (go_at_call 6; refine (many_l links _ _ _).mono ?_; go_must (rintro e0 w0 ⟨rfl, rfl⟩; rw [H30.out])) | (go_at_call 7; refine (Awake_l _).mono ?_; go_must (rintro e9 w9 ⟨rfl, hb9⟩)))
    go_ret
    exact ⟨rfl, by repeat (first | exact Below.refl _ _ | assumption | (refine Below.drew ?_) | (refine below_drewN ?_ _) | (refine Below.alloc ?_ (by first | (simp; done) | (simp; omega) | omega) _) | (refine Below.setCell ?_ (by first | (simp; done) | (simp; omega) | omega) _) | (refine Below.trans ?_ (Below.mono (by assumption) (by first | (simp; done) | (simp; omega) | omega))))⟩
  have HH := Lib.hid (fun w' (hb : Below w.heap.size w w') => Hops_l links hl m0 m1 w' g off (.slice a links.length cap) (HV.out.below hb))
  have hn := fun w' (hb : Below w.heap.size w w') => never_l links hl m0 m1 u0 u1 w' g off (.slice a links.length cap) (HV.out.below hb)
  have K := Below.refl (w.heap.size + 1 + 1) ((w.alloc (.cells #[.int .i64 m0, .int .i64 m1] 24)).alloc (.cells #[.int .i64 u0, .int .i64 u1] 24))
  by_cases hc0 : chkL links (m0, m1) = 0
  rotate_left
  · have hr : HopsR links (m0, m1) 0 (chkL links (m0, m1)) := .inl ⟨hc0, rfl, rfl⟩
    have hnv : neverV links (m0, m1) (u0, u1) = (false, chkL links (m0, m1)) := by rw [neverV, if_neg hc0]
    rw [hnv] at hn
    rcases chk_vals links (m0, m1) with h | h | h
    · exact absurd h hc0
    all_goals
      rw [h] at hr hn
      have HR := Lib.hid hr; have HN := Lib.hid hn
      clear hr hn hnv hc0 h hl
      go_enter Try.func3, Try.ntmps3
      go_wp2_with (first | (go_at_call 6; refine (many_l links _ _ _).mono ?_; go_must (rintro e0 w0 ⟨rfl, rfl⟩; rw [H30.out])) | (go_at_call 8; refine (HH.out _ (by repeat (first | exact Below.refl _ _ | assumption | (refine Below.drew ?_) | (refine below_drewN ?_ _) | (refine Below.alloc ?_ (by first | (simp; done) | (simp; omega) | omega) _) | (refine Below.setCell ?_ (by first | (simp; done) | (simp; omega) | omega) _) | (refine Below.trans ?_ (Below.mono (by assumption) (by first | (simp; done) | (simp; omega) | omega)))))).mono ?_; go_must (rintro e w1 ⟨n1, er, hr, rfl, hb1⟩; obtain ⟨rfl, rfl⟩ := hopsR_uniq HR.out hr; clear hr; have K' := K.trans (c := w1) (by repeat (first | exact Below.refl _ _ | assumption | (refine Below.drew ?_) | (refine below_drewN ?_ _) | (refine Below.alloc ?_ (by first | (simp; done) | (simp; omega) | omega) _) | (refine Below.setCell ?_ (by first | (simp; done) | (simp; omega) | omega) _) | (refine Below.trans ?_ (Below.mono (by assumption) (by first | (simp; done) | (simp; omega) | omega))))); clear K; (try clear hc); (try clear hf); (try clear hz); (try clear hz0); have K := K'; clear K'; obtain ⟨hc, hf⟩ := bcellB K; have hz0 := K.size; (try simp at hz0); have hz := z2 hz0; clear hb1)) | (go_at_call 9; refine (HN.out _ (by repeat (first | exact Below.refl _ _ | assumption | (refine Below.drew ?_) | (refine below_drewN ?_ _) | (refine Below.alloc ?_ (by first | (simp; done) | (simp; omega) | omega) _) | (refine Below.setCell ?_ (by first | (simp; done) | (simp; omega) | omega) _) | (refine Below.trans ?_ (Below.mono (by assumption) (by first | (simp; done) | (simp; omega) | omega)))))).mono ?_; go_must (rintro e w2 ⟨rfl, hb2⟩; have K' := K.trans (c := w2) (by repeat (first | exact Below.refl _ _ | assumption | (refine Below.drew ?_) | (refine below_drewN ?_ _) | (refine Below.alloc ?_ (by first | (simp; done) | (simp; omega) | omega) _) | (refine Below.setCell ?_ (by first | (simp; done) | (simp; omega) | omega) _) | (refine Below.trans ?_ (Below.mono (by assumption) (by first | (simp; done) | (simp; omega) | omega))))); clear K; (try clear hc); (try clear hf); (try clear hz); (try clear hz0); have K := K'; clear K'; obtain ⟨hc, hf⟩ := bcellB K; have hz0 := K.size; (try simp at hz0); have hz := z2 hz0; clear hb2)) | (go_at_call 7; refine (Awake_l _).mono ?_; go_must (rintro e9 w9 ⟨rfl, hb9⟩)))
      go_ret
      exact ⟨rfl, by repeat (first | exact Below.refl _ _ | assumption | (refine Below.drew ?_) | (refine below_drewN ?_ _) | (refine Below.alloc ?_ (by first | (simp; done) | (simp; omega) | omega) _) | (refine Below.setCell ?_ (by first | (simp; done) | (simp; omega) | omega) _) | (refine Below.trans ?_ (Below.mono (by assumption) (by first | (simp; done) | (simp; omega) | omega))))⟩
  by_cases hd : ∃ k : Nat, k ≤ 12 ∧ Dist links (m0, m1) k
  rotate_left
  · have hr : HopsR links (m0, m1) 0 5 := .inr ⟨hc0, .inr ⟨fun k hk hd2 => hd ⟨k, hk, hd2⟩, rfl, rfl⟩⟩
    have HR := Lib.hid hr
    generalize neverV links (m0, m1) (u0, u1) = nv at hn
    obtain ⟨x, f⟩ := nv
    have HN := Lib.hid hn
    clear hr hn hc0 hd hl
    go_enter Try.func3, Try.ntmps3
    go_wp2_with (first | (go_at_call 6; refine (many_l links _ _ _).mono ?_; go_must (rintro e0 w0 ⟨rfl, rfl⟩; rw [H30.out])) | (go_at_call 8; refine (HH.out _ (by repeat (first | exact Below.refl _ _ | assumption | (refine Below.drew ?_) | (refine below_drewN ?_ _) | (refine Below.alloc ?_ (by first | (simp; done) | (simp; omega) | omega) _) | (refine Below.setCell ?_ (by first | (simp; done) | (simp; omega) | omega) _) | (refine Below.trans ?_ (Below.mono (by assumption) (by first | (simp; done) | (simp; omega) | omega)))))).mono ?_; go_must (rintro e w1 ⟨n1, er, hr, rfl, hb1⟩; obtain ⟨rfl, rfl⟩ := hopsR_uniq HR.out hr; clear hr; have K' := K.trans (c := w1) (by repeat (first | exact Below.refl _ _ | assumption | (refine Below.drew ?_) | (refine below_drewN ?_ _) | (refine Below.alloc ?_ (by first | (simp; done) | (simp; omega) | omega) _) | (refine Below.setCell ?_ (by first | (simp; done) | (simp; omega) | omega) _) | (refine Below.trans ?_ (Below.mono (by assumption) (by first | (simp; done) | (simp; omega) | omega))))); clear K; (try clear hc); (try clear hf); (try clear hz); (try clear hz0); have K := K'; clear K'; obtain ⟨hc, hf⟩ := bcellB K; have hz0 := K.size; (try simp at hz0); have hz := z2 hz0; clear hb1)) | (go_at_call 9; refine (HN.out _ (by repeat (first | exact Below.refl _ _ | assumption | (refine Below.drew ?_) | (refine below_drewN ?_ _) | (refine Below.alloc ?_ (by first | (simp; done) | (simp; omega) | omega) _) | (refine Below.setCell ?_ (by first | (simp; done) | (simp; omega) | omega) _) | (refine Below.trans ?_ (Below.mono (by assumption) (by first | (simp; done) | (simp; omega) | omega)))))).mono ?_; go_must (rintro e w2 ⟨rfl, hb2⟩; have K' := K.trans (c := w2) (by repeat (first | exact Below.refl _ _ | assumption | (refine Below.drew ?_) | (refine below_drewN ?_ _) | (refine Below.alloc ?_ (by first | (simp; done) | (simp; omega) | omega) _) | (refine Below.setCell ?_ (by first | (simp; done) | (simp; omega) | omega) _) | (refine Below.trans ?_ (Below.mono (by assumption) (by first | (simp; done) | (simp; omega) | omega))))); clear K; (try clear hc); (try clear hf); (try clear hz); (try clear hz0); have K := K'; clear K'; obtain ⟨hc, hf⟩ := bcellB K; have hz0 := K.size; (try simp at hz0); have hz := z2 hz0; clear hb2)) | (go_at_call 7; refine (Awake_l _).mono ?_; go_must (rintro e9 w9 ⟨rfl, hb9⟩)))
    go_ret
    exact ⟨rfl, by repeat (first | exact Below.refl _ _ | assumption | (refine Below.drew ?_) | (refine below_drewN ?_ _) | (refine Below.alloc ?_ (by first | (simp; done) | (simp; omega) | omega) _) | (refine Below.setCell ?_ (by first | (simp; done) | (simp; omega) | omega) _) | (refine Below.trans ?_ (Below.mono (by assumption) (by first | (simp; done) | (simp; omega) | omega))))⟩
  obtain ⟨k, hk12, hdist⟩ := hd
  have HR := Lib.hid (show HopsR links (m0, m1) k 0 from .inr ⟨hc0, .inl ⟨k, hk12, hdist, rfl, rfl⟩⟩)
  have hnf := never_no (u := (u0, u1)) hdist
  generalize neverV links (m0, m1) (u0, u1) = nv at hn hnf
  obtain ⟨x, f⟩ := nv
  simp only at hnf
  subst hnf
  have HN := Lib.hid hn
  have hgood := wayG_good hk12 hdist hc0
  have HWL := Lib.hid hgood.1
  have HWY := Lib.hid (show WayR links (m0, m1) (wayG links 0 (m0, m1) k) 0 from .inr ⟨hc0, .inl ⟨k, hk12, hdist, rfl, rfl⟩⟩)
  have HWA := Lib.hid (fun w' (hb : Below w.heap.size w w') => Way_l links hl m0 m1 w' g off (.slice a links.length cap) (HV.out.below hb))
  have hi1 := fun w' (hb : Below w.heap.size w w') v' (hs : ISl w' w'.heap.size v' (wayG links 0 (m0, m1) k)) => isWay_l links hl m0 m1 (wayG links 0 (m0, m1) k) w' g off (.slice a links.length cap) v' (HV.out.below hb) hs
  rw [hgood.2] at hi1
  have HI1 := Lib.hid hi1
  have hfl := fun w' (hb : Below w.heap.size w w') => floor_l links hl m0 m1 w' g off (.slice a links.length cap) (HV.out.below hb)
  have hfk : floorV links (m0, m1) = (min (bestL links (m0, m1) 169) 100, 0) ∧ min (bestL links (m0, m1) 169) 100 ≤ k := by
    have := best_dist (fun l hl => ((chk_ok hc0).1.2 l hl).1) hdist 169 (by omega)
    exact ⟨by rw [floorV, if_pos hc0], by omega⟩
  rw [hfk.1] at hfl
  have hflk := hfk.2
  generalize min (bestL links (m0, m1) 169) 100 = fl at hfl hflk
  have HF := Lib.hid hfl
  have hi2 := fun w' (hb : Below w.heap.size w w') => isWay_l links hl m0 m1 way w' g off (.slice a links.length cap) (.slice aw way.length capw) (HV.out.below hb) (Sl.mono (ISl.kept HW.out hb) hb.size)
  have hwc := way_cases (way := way) hdist
  generalize wayV links (m0, m1) way = wv at hi2 hwc
  obtain ⟨x2, e2⟩ := wv
  have HI2 := Lib.hid hi2
  have hpr := fun w' (hb : Below w.heap.size w w') => proves_l links hl m0 m1 u0 u1 d n w' g off (.slice a links.length cap) (HV.out.below hb)
  have hpc := proves_cases (u := (u0, u1)) (d := d) (n := n) hdist
  generalize provesV links (m0, m1) (u0, u1) d n = pv at hpr hpc
  obtain ⟨x3, e3⟩ := pv
  have HP := Lib.hid hpr
  have HWC := Lib.hid hwc; have HPC := Lib.hid hpc
  generalize wayG links 0 (m0, m1) k = out at *
  clear hn hgood hi1 hfl hfk hi2 hwc hpr hpc hdist hc0 hl
  have hol : (out.length : Int) = k := by rw [HWL.out]
  have HOL := Lib.hid hol; clear hol
  go_enter Try.func3, Try.ntmps3
  go_wp2_with (first | (go_at_call 6; refine (many_l links _ _ _).mono ?_; go_must (rintro e0 w0 ⟨rfl, rfl⟩; rw [H30.out])) | (go_at_call 8; refine (HH.out _ (by repeat (first | exact Below.refl _ _ | assumption | (refine Below.drew ?_) | (refine below_drewN ?_ _) | (refine Below.alloc ?_ (by first | (simp; done) | (simp; omega) | omega) _) | (refine Below.setCell ?_ (by first | (simp; done) | (simp; omega) | omega) _) | (refine Below.trans ?_ (Below.mono (by assumption) (by first | (simp; done) | (simp; omega) | omega)))))).mono ?_; go_must (rintro e w1 ⟨n1, er, hr, rfl, hb1⟩; obtain ⟨rfl, rfl⟩ := hopsR_uniq HR.out hr; clear hr; have K' := K.trans (c := w1) (by repeat (first | exact Below.refl _ _ | assumption | (refine Below.drew ?_) | (refine below_drewN ?_ _) | (refine Below.alloc ?_ (by first | (simp; done) | (simp; omega) | omega) _) | (refine Below.setCell ?_ (by first | (simp; done) | (simp; omega) | omega) _) | (refine Below.trans ?_ (Below.mono (by assumption) (by first | (simp; done) | (simp; omega) | omega))))); clear K; (try clear hc); (try clear hf); (try clear hz); (try clear hz0); have K := K'; clear K'; obtain ⟨hc, hf⟩ := bcellB K; have hz0 := K.size; (try simp at hz0); have hz := z2 hz0; clear hb1)) | (go_at_call 9; refine (HN.out _ (by repeat (first | exact Below.refl _ _ | assumption | (refine Below.drew ?_) | (refine below_drewN ?_ _) | (refine Below.alloc ?_ (by first | (simp; done) | (simp; omega) | omega) _) | (refine Below.setCell ?_ (by first | (simp; done) | (simp; omega) | omega) _) | (refine Below.trans ?_ (Below.mono (by assumption) (by first | (simp; done) | (simp; omega) | omega)))))).mono ?_; go_must (rintro e w2 ⟨rfl, hb2⟩; have K' := K.trans (c := w2) (by repeat (first | exact Below.refl _ _ | assumption | (refine Below.drew ?_) | (refine below_drewN ?_ _) | (refine Below.alloc ?_ (by first | (simp; done) | (simp; omega) | omega) _) | (refine Below.setCell ?_ (by first | (simp; done) | (simp; omega) | omega) _) | (refine Below.trans ?_ (Below.mono (by assumption) (by first | (simp; done) | (simp; omega) | omega))))); clear K; (try clear hc); (try clear hf); (try clear hz); (try clear hz0); have K := K'; clear K'; obtain ⟨hc, hf⟩ := bcellB K; have hz0 := K.size; (try simp at hz0); have hz := z2 hz0; clear hb2)) | (go_at_call 10; refine (HWA.out _ (by repeat (first | exact Below.refl _ _ | assumption | (refine Below.drew ?_) | (refine below_drewN ?_ _) | (refine Below.alloc ?_ (by first | (simp; done) | (simp; omega) | omega) _) | (refine Below.setCell ?_ (by first | (simp; done) | (simp; omega) | omega) _) | (refine Below.trans ?_ (Below.mono (by assumption) (by first | (simp; done) | (simp; omega) | omega)))))).mono ?_; go_must (rintro e w3 ⟨o3, e3', v3, hr, rfl, hs, hb3⟩; obtain ⟨rfl, rfl⟩ := wayR_uniq HWY.out hr; have HS3 := Lib.hid hs; obtain ⟨a3, c3, -, -, rfl, -⟩ := hs.at; clear hr; have K' := K.trans (c := w3) (by repeat (first | exact Below.refl _ _ | assumption | (refine Below.drew ?_) | (refine below_drewN ?_ _) | (refine Below.alloc ?_ (by first | (simp; done) | (simp; omega) | omega) _) | (refine Below.setCell ?_ (by first | (simp; done) | (simp; omega) | omega) _) | (refine Below.trans ?_ (Below.mono (by assumption) (by first | (simp; done) | (simp; omega) | omega))))); clear K; (try clear hc); (try clear hf); (try clear hz); (try clear hz0); have K := K'; clear K'; obtain ⟨hc, hf⟩ := bcellB K; have hz0 := K.size; (try simp at hz0); have hz := z2 hz0; clear hb3)) | (go_at_call 11; refine (HI1.out _ (by repeat (first | exact Below.refl _ _ | assumption | (refine Below.drew ?_) | (refine below_drewN ?_ _) | (refine Below.alloc ?_ (by first | (simp; done) | (simp; omega) | omega) _) | (refine Below.setCell ?_ (by first | (simp; done) | (simp; omega) | omega) _) | (refine Below.trans ?_ (Below.mono (by assumption) (by first | (simp; done) | (simp; omega) | omega))))) _ HS3.out).mono ?_; clear HI1; go_must (rintro e w4 ⟨rfl, hb4⟩; have K' := K.trans (c := w4) (by repeat (first | exact Below.refl _ _ | assumption | (refine Below.drew ?_) | (refine below_drewN ?_ _) | (refine Below.alloc ?_ (by first | (simp; done) | (simp; omega) | omega) _) | (refine Below.setCell ?_ (by first | (simp; done) | (simp; omega) | omega) _) | (refine Below.trans ?_ (Below.mono (by assumption) (by first | (simp; done) | (simp; omega) | omega))))); clear K; (try clear hc); (try clear hf); (try clear hz); (try clear hz0); have K := K'; clear K'; obtain ⟨hc, hf⟩ := bcellB K; have hz0 := K.size; (try simp at hz0); have hz := z2 hz0; clear hb4; have hol := HWL.out)) | (go_at_call 12; refine (HF.out _ (by repeat (first | exact Below.refl _ _ | assumption | (refine Below.drew ?_) | (refine below_drewN ?_ _) | (refine Below.alloc ?_ (by first | (simp; done) | (simp; omega) | omega) _) | (refine Below.setCell ?_ (by first | (simp; done) | (simp; omega) | omega) _) | (refine Below.trans ?_ (Below.mono (by assumption) (by first | (simp; done) | (simp; omega) | omega)))))).mono ?_; go_must (rintro e w5 ⟨rfl, hb5⟩; have K' := K.trans (c := w5) (by repeat (first | exact Below.refl _ _ | assumption | (refine Below.drew ?_) | (refine below_drewN ?_ _) | (refine Below.alloc ?_ (by first | (simp; done) | (simp; omega) | omega) _) | (refine Below.setCell ?_ (by first | (simp; done) | (simp; omega) | omega) _) | (refine Below.trans ?_ (Below.mono (by assumption) (by first | (simp; done) | (simp; omega) | omega))))); clear K; (try clear hc); (try clear hf); (try clear hz); (try clear hz0); have K := K'; clear K'; obtain ⟨hc, hf⟩ := bcellB K; have hz0 := K.size; (try simp at hz0); have hz := z2 hz0; clear hb5)) | (go_at_call 11; refine (HI2.out _ (by repeat (first | exact Below.refl _ _ | assumption | (refine Below.drew ?_) | (refine below_drewN ?_ _) | (refine Below.alloc ?_ (by first | (simp; done) | (simp; omega) | omega) _) | (refine Below.setCell ?_ (by first | (simp; done) | (simp; omega) | omega) _) | (refine Below.trans ?_ (Below.mono (by assumption) (by first | (simp; done) | (simp; omega) | omega)))))).mono ?_; clear HI2; go_must (rintro e w6 ⟨rfl, hb6⟩; have K' := K.trans (c := w6) (by repeat (first | exact Below.refl _ _ | assumption | (refine Below.drew ?_) | (refine below_drewN ?_ _) | (refine Below.alloc ?_ (by first | (simp; done) | (simp; omega) | omega) _) | (refine Below.setCell ?_ (by first | (simp; done) | (simp; omega) | omega) _) | (refine Below.trans ?_ (Below.mono (by assumption) (by first | (simp; done) | (simp; omega) | omega))))); clear K; (try clear hc); (try clear hf); (try clear hz); (try clear hz0); have K := K'; clear K'; obtain ⟨hc, hf⟩ := bcellB K; have hz0 := K.size; (try simp at hz0); have hz := z2 hz0; clear hb6; rcases HWC.out with h2 | h2 | ⟨h2, hk2⟩ <;> first | (obtain ⟨rfl, rfl⟩ := Prod.mk.inj h2) | (simp only at h2) | skip)) | (go_at_call 13; refine (HP.out _ (by repeat (first | exact Below.refl _ _ | assumption | (refine Below.drew ?_) | (refine below_drewN ?_ _) | (refine Below.alloc ?_ (by first | (simp; done) | (simp; omega) | omega) _) | (refine Below.setCell ?_ (by first | (simp; done) | (simp; omega) | omega) _) | (refine Below.trans ?_ (Below.mono (by assumption) (by first | (simp; done) | (simp; omega) | omega)))))).mono ?_; go_must (rintro e w7 ⟨rfl, hb7⟩; have K' := K.trans (c := w7) (by repeat (first | exact Below.refl _ _ | assumption | (refine Below.drew ?_) | (refine below_drewN ?_ _) | (refine Below.alloc ?_ (by first | (simp; done) | (simp; omega) | omega) _) | (refine Below.setCell ?_ (by first | (simp; done) | (simp; omega) | omega) _) | (refine Below.trans ?_ (Below.mono (by assumption) (by first | (simp; done) | (simp; omega) | omega))))); clear K; (try clear hc); (try clear hf); (try clear hz); (try clear hz0); have K := K'; clear K'; obtain ⟨hc, hf⟩ := bcellB K; have hz0 := K.size; (try simp at hz0); have hz := z2 hz0; clear hb7; rcases HPC.out with h3 | h3 | ⟨h3, hk3⟩ <;> first | (obtain ⟨rfl, rfl⟩ := Prod.mk.inj h3) | (simp only at h3) | skip)) | (go_at_call 7; refine (Awake_l _).mono ?_; go_must (rintro e9 w9 ⟨rfl, hb9⟩)))
  all_goals
    go_ret
    exact ⟨rfl, by repeat (first | exact Below.refl _ _ | assumption | (refine Below.drew ?_) | (refine below_drewN ?_ _) | (refine Below.alloc ?_ (by first | (simp; done) | (simp; omega) | omega) _) | (refine Below.setCell ?_ (by first | (simp; done) | (simp; omega) | omega) _) | (refine Below.trans ?_ (Below.mono (by assumption) (by first | (simp; done) | (simp; omega) | omega))))⟩
end Go.Proofs.Ytjceppinjeehiaa
