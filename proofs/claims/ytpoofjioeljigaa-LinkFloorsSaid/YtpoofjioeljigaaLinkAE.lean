/- The walk of the reference's Floor. -/
import Derived.Test.YtpoofjioeljigaaLinkAD
namespace Go.Proofs.Ytpoofjioeljigaa
open Go.RowKit
set_option maxHeartbeats 4000000 in
set_option maxRecDepth 100000 in
theorem floorR_l (links : List C2) (hl : links.length ≤ 1000) (m0 m1 : Int) (w : World) (g off : Nat) (v : Value) (hv : CRd w v g off links) :
    Calls Try.prog 45 #[v, .agg #[.int .i64 (m0), .int .i64 (m1)]] w fun e w' => e = .returned (.tuple #[.int .i64 (floorV links (m0, m1)).1, .int .i64 (floorV links (m0, m1)).2]) ∧ Below w.heap.size w w' := by
  have HV := Lib.hid hv
  obtain ⟨a, cap, rfl, -⟩ := hv.at
  clear hv
  have HC := Lib.hid (fun w' (hb : Below w.heap.size w w') => asked_l links hl m0 m1 w' g off (.slice a links.length cap) (HV.out.below hb))
  have K := Below.refl (w.heap.size + 1) (w.alloc (.cells #[.int .i64 m0, .int .i64 m1] 23))
  by_cases h : chkL links (m0, m1) = 0
  rotate_left
  · have HR := Lib.hid (show floorV links (m0, m1) = (0, chkL links (m0, m1)) by rw [floorV, if_neg h])
    have hne : (chkL links (m0, m1) != 0) = true := by simpa using h
    clear h
    generalize chkL links (m0, m1) = er at *
    go_enter Try.func45, Try.ntmps45
    go_wp2_with ((go_at_call 75; refine (HC.out _ (by repeat (first | exact Below.refl _ _ | assumption | (refine Below.drew ?_) | (refine below_drewN ?_ _) | (refine Below.alloc ?_ (by first | (simp; done) | (simp; omega) | omega) _) | (refine Below.setCell ?_ (by first | (simp; done) | (simp; omega) | omega) _) | (refine Below.trans ?_ (Below.mono (by assumption) (by first | (simp; done) | (simp; omega) | omega)))))).mono ?_; go_must (rintro e w1 ⟨rfl, hb1⟩; have K' := K.trans (c := w1) (by repeat (first | exact Below.refl _ _ | assumption | (refine Below.drew ?_) | (refine below_drewN ?_ _) | (refine Below.alloc ?_ (by first | (simp; done) | (simp; omega) | omega) _) | (refine Below.setCell ?_ (by first | (simp; done) | (simp; omega) | omega) _) | (refine Below.trans ?_ (Below.mono (by assumption) (by first | (simp; done) | (simp; omega) | omega))))); clear K; (try clear hc); (try clear hf); (try clear hz); (try clear hz0); have K := K'; clear K'; obtain ⟨hc, hf⟩ := bcellB K; have hz0 := K.size; (try simp at hz0); have hz := z1 hz0; clear hb1)))
    exact bodyPost_ret (v := .tuple #[.int .i64 0, .int .i64 er]) (by simp only [results, Try.results45]; first | (go_simp; done) | (go_simp; rfl)) rfl ⟨by rw [HR.out], by repeat (first | exact Below.refl _ _ | assumption | (refine Below.drew ?_) | (refine below_drewN ?_ _) | (refine Below.alloc ?_ (by first | (simp; done) | (simp; omega) | omega) _) | (refine Below.setCell ?_ (by first | (simp; done) | (simp; omega) | omega) _) | (refine Below.trans ?_ (Below.mono (by assumption) (by first | (simp; done) | (simp; omega) | omega))))⟩
  obtain ⟨⟨-, hv8⟩, hm20⟩ := chk_ok h
  have HR := Lib.hid (show floorV links (m0, m1) = (min (bestL links (m0, m1) 169) 100, 0) by rw [floorV, if_pos h])
  have H := Lib.hid h
  have HN := Lib.hid (fun l hl => (hv8 l hl).1)
  have HM20 := Lib.hid hm20
  clear h hv8 hm20
  have HBD := Lib.hid (bestL_bd (links := links) (m := (m0, m1)) (fun k h => (wt_most HN.out k h).1) (fun k h => (wt_dot HM20.out k h).2))
  go_enter Try.func45, Try.ntmps45
  go_wp2_with ((go_at_call 75; refine (HC.out _ (by repeat (first | exact Below.refl _ _ | assumption | (refine Below.drew ?_) | (refine below_drewN ?_ _) | (refine Below.alloc ?_ (by first | (simp; done) | (simp; omega) | omega) _) | (refine Below.setCell ?_ (by first | (simp; done) | (simp; omega) | omega) _) | (refine Below.trans ?_ (Below.mono (by assumption) (by first | (simp; done) | (simp; omega) | omega)))))).mono ?_; go_must (rintro e w1 ⟨rfl, hb1⟩; have K' := K.trans (c := w1) (by repeat (first | exact Below.refl _ _ | assumption | (refine Below.drew ?_) | (refine below_drewN ?_ _) | (refine Below.alloc ?_ (by first | (simp; done) | (simp; omega) | omega) _) | (refine Below.setCell ?_ (by first | (simp; done) | (simp; omega) | omega) _) | (refine Below.trans ?_ (Below.mono (by assumption) (by first | (simp; done) | (simp; omega) | omega))))); clear K; (try clear hc); (try clear hf); (try clear hz); (try clear hz0); have K := K'; clear K'; obtain ⟨hc, hf⟩ := bcellB K; have hz0 := K.size; (try simp at hz0); have hz := z1 hz0; clear hb1; rw [H.out])))
  have K0 : Below w.heap.size w w1 := (Below.refl _ _).alloc (Nat.le_refl _) _ |>.trans (K.mono (by omega))
  have KM := K
  clear hc hf
  go_loopw [7, 8] (fun t x wr => ∃ i : Nat, i ≤ 13 ∧ x = .int .i64 ((i : Int) - 6) ∧ t = .int .i64 (min 100 (bestL links (m0, m1) (13 * i))) ∧ Below w1.heap.size w1 wr) (fun _ x _ => 13 - (intOf x + 6).toNat)
  case atStart => exact ⟨0, by omega, rfl, rfl, Below.refl _ _⟩
  case round =>
    obtain ⟨i, hi, rfl, rfl, hb⟩ := hrel
    obtain ⟨wx, rfl⟩ : ∃ x : World, x = wr := ⟨_, rfl⟩
    by_cases hlt : i < 13
    rotate_left
    · obtain rfl : i = 13 := by omega
      have hbd := HBD.out 169 (by omega)
      simp only [show 13 * 13 = 169 from rfl] at *
      have HQ := Lib.hid (show min 100 (bestL links (m0, m1) 169) = min (bestL links (m0, m1) 169) 100 by omega)
      generalize min 100 (bestL links (m0, m1) 169) = z at *
      go_wp2
      exact bodyPost_ret (v := .tuple #[.int .i64 z, .int .i64 0]) (by simp only [results, Try.results45]; first | (go_simp; done) | (go_simp; rfl)) rfl ⟨by rw [HR.out, HQ.out], by repeat (first | exact Below.refl _ _ | assumption | (refine Below.drew ?_) | (refine below_drewN ?_ _) | (refine Below.alloc ?_ (by first | (simp; done) | (simp; omega) | omega) _) | (refine Below.setCell ?_ (by first | (simp; done) | (simp; omega) | omega) _) | (refine Below.trans ?_ (Below.mono (by assumption) (by first | (simp; done) | (simp; omega) | omega))))⟩
    have hi2 : (i : Int) - 6 ≤ 6 := by omega
    go_wp2
    go_loopw [7, 9] (fun t y wr => ∃ j : Nat, j ≤ 13 ∧ y = .int .i64 ((j : Int) - 6) ∧ t = .int .i64 (min 100 (bestL links (m0, m1) (13 * i + j))) ∧ Below w1.heap.size w1 wr) (fun _ y _ => 13 - (intOf y + 6).toNat)
    case atStart => exact ⟨0, by omega, rfl, rfl, hb⟩
    case round =>
      obtain ⟨j, hj, rfl, rfl, hb2⟩ := hrel
      obtain ⟨wy, rfl⟩ : ∃ x : World, x = wr := ⟨_, rfl⟩
      by_cases hlt2 : j < 13
      rotate_left
      · obtain rfl : j = 13 := by omega
        go_wp2
        go_roundw
        case rel => exact ⟨i + 1, hlt, by go_num, by rw [show 13 * (i + 1) = 13 * i + 13 from by omega], hb2⟩
        case measure => simp only [intOf]; omega
      have hj2 : (j : Int) - 6 ≤ 6 := by omega
      have hsz := hb2.size
      have hb0 : Below w.heap.size w wy := K0.trans (hb2.mono (by omega))
      have gm0 : wy.cell? ⟨w.heap.size, 0, none⟩ = some (.int .i64 m0) := (hb2.cell (p := ⟨w.heap.size, 0, none⟩) (by simp; omega)).trans ((KM.cell (p := ⟨w.heap.size, 0, none⟩) (by simp)).trans (by go_simp))
      have gm1 : wy.cell? ⟨w.heap.size, 1, none⟩ = some (.int .i64 m1) := (hb2.cell (p := ⟨w.heap.size, 1, none⟩) (by simp; omega)).trans ((KM.cell (p := ⟨w.heap.size, 1, none⟩) (by simp)).trans (by go_simp))
      clear K
      have hk : 13 * i + j < 169 := by omega
      have hwt : wt (13 * i + j) = ((i : Int) - 6, (j : Int) - 6) := by simp only [wt]; apply Prod.ext <;> simp <;> omega
      have HT := Lib.hid (show bestL links (m0, m1) (13 * i + (j + 1)) = max (bestL links (m0, m1) (13 * i + j)) (qL links (m0, m1) (wt (13 * i + j))) from rfl)
      have hbd := HBD.out (13 * i + j) (by omega)
      have hnw := (wt_near _ hk)
      have hwm := wt_most HN.out _ hk
      have hwd := wt_dot HM20.out _ hk
      have HQ0 := Lib.hid (qL_nonneg (m := (m0, m1)) hwm.1)
      have HQI := Lib.hid (fun (n : Int) (hn : 1 ≤ n) => qL_iff (m := (m0, m1)) hwm.1 n hn)
      rw [hwt] at HT hnw hwm hwd HQ0 HQI
      clear hwt
      have q1 := mul_bd ⟨hnw.1, hnw.2.1⟩ ⟨HM20.out.1, HM20.out.2.1⟩
      have q2 := mul_bd ⟨hnw.2.2.1, hnw.2.2.2⟩ ⟨HM20.out.2.2.1, HM20.out.2.2.2⟩
      simp only at q1 q2
      have Q1 := Lib.hid q1; have Q2 := Lib.hid q2; have HNW := Lib.hid (hnw.mono (show (6 : Int) ≤ 100 by omega)); clear q1 q2 hnw
      have HM := Lib.hid (fun w' (hb : Below w.heap.size w w') => mostR_l links hl HN.out ((i : Int) - 6) ((j : Int) - 6) 1 HNW.out (by omega) w' g off (.slice a links.length cap) (HV.out.below hb))
      generalize hP : dotL ((i : Int) - 6, (j : Int) - 6) (m0, m1) = p at *
      generalize hD : mostL links ((i : Int) - 6, (j : Int) - 6) 1 = d at *
      generalize qL links (m0, m1) ((i : Int) - 6, (j : Int) - 6) = q at *
      have HP := Lib.hid hP; clear hP hD
      generalize bestL links (m0, m1) (13 * i + j) = z at *
      have HO := Lib.hid (show min 100 (max z q) = max (min 100 z) (min 100 q) by omega)
      have HZ0 := Lib.hid (show 0 ≤ min 100 z ∧ min 100 z ≤ 100 by omega)
      generalize min 100 z = o0 at *
      obtain ⟨z1', z2'⟩ := hbd
      obtain ⟨d1, d2⟩ := hwm
      obtain ⟨p1, p2⟩ := hwd
      obtain ⟨o1, o2⟩ := HZ0.out
      have hz3 : w.heap.size + 1 ≤ wy.heap.size := by omega
      have hz := z1 hz3
      have hy := yy hz.1
      have K := Below.refl (wy.heap.size + 1) (wy.alloc (.cells #[.int .i64 ((i : Int) - 6), .int .i64 ((j : Int) - 6)] 23))
      go_wp2_with ((go_at_call 84; refine (HM.out _ (by repeat (first | exact Below.refl _ _ | assumption | (refine Below.drew ?_) | (refine below_drewN ?_ _) | (refine Below.alloc ?_ (by first | (simp; done) | (simp; omega) | omega) _) | (refine Below.setCell ?_ (by first | (simp; done) | (simp; omega) | omega) _) | (refine Below.trans ?_ (Below.mono (by assumption) (by first | (simp; done) | (simp; omega) | omega)))))).mono ?_; go_must (rintro e w3 ⟨rfl, hb3⟩; have K' := K.trans (c := w3) (by repeat (first | exact Below.refl _ _ | assumption | (refine Below.drew ?_) | (refine below_drewN ?_ _) | (refine Below.alloc ?_ (by first | (simp; done) | (simp; omega) | omega) _) | (refine Below.setCell ?_ (by first | (simp; done) | (simp; omega) | omega) _) | (refine Below.trans ?_ (Below.mono (by assumption) (by first | (simp; done) | (simp; omega) | omega))))); clear K; (try clear hc); (try clear hf); (try clear hz); (try clear hz0); have K := K'; clear K'; obtain ⟨hc, hf⟩ := bcellB K; have hz0 := K.size; (try simp at hz0); have hz := z1 hz0; clear hb3)))
      clear hc hf
      have K3 := K
      go_loopw [7, 12] (fun t n wr => ∃ o : Int, o0 ≤ o ∧ o ≤ max o0 (min 100 q) ∧ t = .int .i64 o ∧ n = .int .i64 (o + 1) ∧ Below w3.heap.size w3 wr) (fun t _ _ => (101 - intOf t).toNat)
      case atStart => exact ⟨o0, by omega, by omega, rfl, rfl, Below.refl _ _⟩
      case round =>
        obtain ⟨o, ho1, ho2, rfl, rfl, hb4⟩ := hrel
        have hsz4 := hb4.size
        have ho : o ≤ 100 := by omega
        have k0 : wr.cell? ⟨wy.heap.size, 0, none⟩ = some (.int .i64 ((i : Int) - 6)) := (hb4.cell (p := ⟨wy.heap.size, 0, none⟩) (by simp; omega)).trans ((K3.cell (p := ⟨wy.heap.size, 0, none⟩) (by simp)).trans (by go_simp))
        have k1 : wr.cell? ⟨wy.heap.size, 1, none⟩ = some (.int .i64 ((j : Int) - 6)) := (hb4.cell (p := ⟨wy.heap.size, 1, none⟩) (by simp; omega)).trans ((K3.cell (p := ⟨wy.heap.size, 1, none⟩) (by simp)).trans (by go_simp))
        have hb5 : Below wy.heap.size wy wr := ((Below.refl _ _).alloc (Nat.le_refl _) _).trans ((K3.mono (by omega)).trans (hb4.mono (by omega)))
        have hsz5 := hb5.size
        have k2 := (hb5.cell (p := ⟨w.heap.size, 0, none⟩) (by simp; omega)).trans gm0
        have k3 := (hb5.cell (p := ⟨w.heap.size, 1, none⟩) (by simp; omega)).trans gm1
        have hm := mul_bd (a := d) (b := o) (A := 1000) (B := 100) ⟨by omega, d2⟩ ⟨by omega, by omega⟩
        obtain ⟨hm1, hm2⟩ := hm
        have HE := Lib.hid (HQI.out (o + 1) (by omega))
        rw [show o + 1 - 1 = o from by omega] at HE
        have HK := Lib.hid K; have HK3 := Lib.hid K3
        clear hz hy hz0 gm0 gm1 K K3
        by_cases h100 : o + 1 ≤ 100
        rotate_left
        · go_wp2
          go_roundw
          case rel => exact ⟨j + 1, hlt2, by go_num, by rw [HT.out, HO.out]; congr 1; omega, hb2.trans (hb5.mono (by omega))⟩
          case measure => simp only [intOf]; omega
        by_cases hgt : d * o < p
        · have hoq := HE.out.1 hgt
          go_wp2_with (go_at_call 85; refine (dot_l _ _ _ _ (by have := Q1.out; omega) (by have := Q2.out; omega) _).mono ?_; go_must (rintro e w5 ⟨rfl, hb6⟩; rw [HP.out]))
          go_roundw
          case rel => exact ⟨o + 1, by omega, by omega, rfl, rfl, hb4.trans (hb6.mono hsz4)⟩
          case measure => simp only [intOf]; omega
        · have hoq : ¬ (o + 1 ≤ q) := fun h => hgt (HE.out.2 h)
          have HOQ := Lib.hid hoq; clear hoq
          go_wp2_with (go_at_call 85; refine (dot_l _ _ _ _ (by have := Q1.out; omega) (by have := Q2.out; omega) _).mono ?_; go_must (rintro e w5 ⟨rfl, hb6⟩; rw [HP.out]))
          go_roundw
          case rel =>
            have := HOQ.out
            exact ⟨j + 1, hlt2, by go_num, by rw [HT.out, HO.out]; congr 1; omega, hb2.trans ((hb5.trans (hb6.mono (by omega))).mono (by omega))⟩
          case measure => simp only [intOf]; omega
end Go.Proofs.Ytpoofjioeljigaa
