/- The walk of link.Floor. -/
import Derived.Test.YtjceppinjeehiaaLinkAC
namespace Go.Proofs.Ytjceppinjeehiaa
open Go.RowKit
set_option maxHeartbeats 4000000 in
set_option maxRecDepth 100000 in
theorem floor_l (links : List C2) (hl : links.length ≤ 1000) (m0 m1 : Int) (w : World) (g off : Nat) (v : Value) (hv : CRd w v g off links) :
    Calls Try.prog 12 #[v, .agg #[.int .i64 (m0), .int .i64 (m1)]] w fun e w' => e = .returned (.tuple #[.int .i64 (floorV links (m0, m1)).1, .int .i64 (floorV links (m0, m1)).2]) ∧ Below w.heap.size w w' := by
  have HV := Lib.hid hv
  obtain ⟨a, cap, rfl, -⟩ := hv.at
  clear hv
  have HC := Lib.hid (fun w' (hb : Below w.heap.size w w') => checked_l links hl m0 m1 w' g off (.slice a links.length cap) (HV.out.below hb))
  have K := Below.refl (w.heap.size + 1) (w.alloc (.cells #[.int .i64 m0, .int .i64 m1] 24))
  by_cases h : chkL links (m0, m1) = 0
  rotate_left
  · have HR := Lib.hid (show floorV links (m0, m1) = (0, chkL links (m0, m1)) by rw [floorV, if_neg h])
    have hne : (chkL links (m0, m1) != 0) = true := by simpa using h
    clear h
    generalize chkL links (m0, m1) = er at *
    go_enter Try.func12, Try.ntmps12
    go_wp2_with ((go_at_call 19; refine (HC.out _ (by repeat (first | exact Below.refl _ _ | assumption | (refine Below.drew ?_) | (refine below_drewN ?_ _) | (refine Below.alloc ?_ (by first | (simp; done) | (simp; omega) | omega) _) | (refine Below.setCell ?_ (by first | (simp; done) | (simp; omega) | omega) _) | (refine Below.trans ?_ (Below.mono (by assumption) (by first | (simp; done) | (simp; omega) | omega)))))).mono ?_; go_must (rintro e w1 ⟨rfl, hb1⟩; have K' := K.trans (c := w1) (by repeat (first | exact Below.refl _ _ | assumption | (refine Below.drew ?_) | (refine below_drewN ?_ _) | (refine Below.alloc ?_ (by first | (simp; done) | (simp; omega) | omega) _) | (refine Below.setCell ?_ (by first | (simp; done) | (simp; omega) | omega) _) | (refine Below.trans ?_ (Below.mono (by assumption) (by first | (simp; done) | (simp; omega) | omega))))); clear K; (try clear hc); (try clear hf); (try clear hz); (try clear hz0); have K := K'; clear K'; obtain ⟨hc, hf⟩ := bcellB K; have hz0 := K.size; (try simp at hz0); have hz := z1 hz0; clear hb1)))
    exact bodyPost_ret (v := .tuple #[.int .i64 0, .int .i64 er]) (by simp only [results, Try.results12]; first | (go_simp; done) | (go_simp; rfl)) rfl ⟨by rw [HR.out], by repeat (first | exact Below.refl _ _ | assumption | (refine Below.drew ?_) | (refine below_drewN ?_ _) | (refine Below.alloc ?_ (by first | (simp; done) | (simp; omega) | omega) _) | (refine Below.setCell ?_ (by first | (simp; done) | (simp; omega) | omega) _) | (refine Below.trans ?_ (Below.mono (by assumption) (by first | (simp; done) | (simp; omega) | omega))))⟩
  obtain ⟨⟨-, hv8⟩, hm20⟩ := chk_ok h
  have HR := Lib.hid (show floorV links (m0, m1) = (min (bestL links (m0, m1) 169) 100, 0) by rw [floorV, if_pos h])
  have H := Lib.hid h
  have HN := Lib.hid (fun l hl => (hv8 l hl).1)
  have HM20 := Lib.hid hm20
  clear h hv8 hm20
  have HBD := Lib.hid (bestL_bd (links := links) (m := (m0, m1)) (fun k h => (wt_most HN.out k h).1) (fun k h => (wt_dot HM20.out k h).2))
  go_enter Try.func12, Try.ntmps12
  go_wp2_with ((go_at_call 19; refine (HC.out _ (by repeat (first | exact Below.refl _ _ | assumption | (refine Below.drew ?_) | (refine below_drewN ?_ _) | (refine Below.alloc ?_ (by first | (simp; done) | (simp; omega) | omega) _) | (refine Below.setCell ?_ (by first | (simp; done) | (simp; omega) | omega) _) | (refine Below.trans ?_ (Below.mono (by assumption) (by first | (simp; done) | (simp; omega) | omega)))))).mono ?_; go_must (rintro e w1 ⟨rfl, hb1⟩; have K' := K.trans (c := w1) (by repeat (first | exact Below.refl _ _ | assumption | (refine Below.drew ?_) | (refine below_drewN ?_ _) | (refine Below.alloc ?_ (by first | (simp; done) | (simp; omega) | omega) _) | (refine Below.setCell ?_ (by first | (simp; done) | (simp; omega) | omega) _) | (refine Below.trans ?_ (Below.mono (by assumption) (by first | (simp; done) | (simp; omega) | omega))))); clear K; (try clear hc); (try clear hf); (try clear hz); (try clear hz0); have K := K'; clear K'; obtain ⟨hc, hf⟩ := bcellB K; have hz0 := K.size; (try simp at hz0); have hz := z1 hz0; clear hb1; rw [H.out])))
  have K0 : Below w.heap.size w w1 := (Below.refl _ _).alloc (Nat.le_refl _) _ |>.trans (K.mono (by omega))
  go_loopw [7, 17] (fun t i wr => ∃ k : Nat, k ≤ 169 ∧ i = .int .i64 (k : Nat) ∧ t = .int .i64 (bestL links (m0, m1) k) ∧ Below w1.heap.size w1 wr) (fun _ i _ => 169 - (intOf i).toNat)
  case atStart => exact ⟨0, by omega, rfl, rfl, Below.refl _ _⟩
  case round =>
    obtain ⟨k, hk, rfl, rfl, hb⟩ := hrel
    have hsz := hb.size
    have hb0 : Below w.heap.size w wr := K0.trans (hb.mono (by omega))
    have gm0 : wr.cell? ⟨w.heap.size, 0, none⟩ = some (.int .i64 m0) := (hb.cell (p := ⟨w.heap.size, 0, none⟩) (by simp; omega)).trans ((K.cell (p := ⟨w.heap.size, 0, none⟩) (by simp)).trans (by go_simp))
    have gm1 : wr.cell? ⟨w.heap.size, 1, none⟩ = some (.int .i64 m1) := (hb.cell (p := ⟨w.heap.size, 1, none⟩) (by simp; omega)).trans ((K.cell (p := ⟨w.heap.size, 1, none⟩) (by simp)).trans (by go_simp))
    clear hc hf K
    by_cases hlt : k < 169
    rotate_left
    · obtain rfl : k = 169 := by omega
      have hbd := HBD.out 169 (by omega)
      generalize bestL links (m0, m1) 169 = z at *
      by_cases h100 : 100 < z
      · have HQ := Lib.hid (show min z 100 = 100 by omega)
        go_wp2
        exact bodyPost_ret (v := .tuple #[.int .i64 100, .int .i64 0]) (by simp only [results, Try.results12]; first | (go_simp; done) | (go_simp; rfl)) rfl ⟨by rw [HR.out, HQ.out], by repeat (first | exact Below.refl _ _ | assumption | (refine Below.drew ?_) | (refine below_drewN ?_ _) | (refine Below.alloc ?_ (by first | (simp; done) | (simp; omega) | omega) _) | (refine Below.setCell ?_ (by first | (simp; done) | (simp; omega) | omega) _) | (refine Below.trans ?_ (Below.mono (by assumption) (by first | (simp; done) | (simp; omega) | omega))))⟩
      · have HQ := Lib.hid (show min z 100 = z by omega)
        have hz100 : z ≤ 100 := by omega
        clear h100
        go_wp2
        exact bodyPost_ret (v := .tuple #[.int .i64 z, .int .i64 0]) (by simp only [results, Try.results12]; first | (go_simp; done) | (go_simp; rfl)) rfl ⟨by rw [HR.out, HQ.out], by repeat (first | exact Below.refl _ _ | assumption | (refine Below.drew ?_) | (refine below_drewN ?_ _) | (refine Below.alloc ?_ (by first | (simp; done) | (simp; omega) | omega) _) | (refine Below.setCell ?_ (by first | (simp; done) | (simp; omega) | omega) _) | (refine Below.trans ?_ (Below.mono (by assumption) (by first | (simp; done) | (simp; omega) | omega))))⟩
    have HT := Lib.hid (show bestL links (m0, m1) (k + 1) = max (bestL links (m0, m1) k) (qL links (m0, m1) (wt k)) from rfl)
    have hbd := HBD.out k hk
    have hnw := (wt_near k hlt)
    have hwm := wt_most HN.out k hlt
    have hwd := wt_dot HM20.out k hlt
    have HQ := Lib.hid (show qL links (m0, m1) (wt k) = if 0 < dotL (wt k) (m0, m1) then (dotL (wt k) (m0, m1) - 1) / mostL links (wt k) 1 + 1 else 0 from rfl)
    have hq0 := qL_nonneg (m := (m0, m1)) hwm.1
    have HQ0 := Lib.hid hq0; clear hq0
    have q1 := mul_bd ⟨hnw.1, hnw.2.1⟩ ⟨HM20.out.1, HM20.out.2.1⟩
    have q2 := mul_bd ⟨hnw.2.2.1, hnw.2.2.2⟩ ⟨HM20.out.2.2.1, HM20.out.2.2.2⟩
    have Q1 := Lib.hid q1; have Q2 := Lib.hid q2; have HNW := Lib.hid (hnw.mono (show (6 : Int) ≤ 100 by omega)); clear q1 q2 hnw
    have HM := Lib.hid (fun w' (hb : Below w.heap.size w w') => most_l links hl HN.out ((k : Int) / 13 - 6) ((k : Int) % 13 - 6) 1 HNW.out (by omega) w' g off (.slice a links.length cap) (HV.out.below hb))
    generalize hP : dotL (wt k) (m0, m1) = p at *
    generalize hD : mostL links (wt k) 1 = d at *
    have HP := Lib.hid (show dotL ((k : Int) / 13 - 6, (k : Int) % 13 - 6) (m0, m1) = p from hP)
    have HD := Lib.hid (show mostL links ((k : Int) / 13 - 6, (k : Int) % 13 - 6) 1 = d from hD)
    clear hP hD
    generalize bestL links (m0, m1) k = z at *
    obtain ⟨z1', z2'⟩ := hbd
    obtain ⟨d1, d2⟩ := hwm
    obtain ⟨p1, p2⟩ := hwd
    have hk2 : (k : Int) < 169 := by omega
    have hz3 : w.heap.size + 1 ≤ wr.heap.size := by omega
    have hz := z1 hz3
    have hy := yy hz.1
    have K := Below.refl (wr.heap.size + 1) (wr.alloc (.cells #[.int .i64 ((k : Int) / 13 - 6), .int .i64 ((k : Int) % 13 - 6)] 24))
    by_cases hp : 0 < p
    · have HQ2 := Lib.hid (show qL links (m0, m1) (wt k) = (p - 1) / d + 1 by rw [HQ.out, if_pos hp])
      have hdv0 := Int.ediv_nonneg (a := p - 1) (b := d) (by omega) (by omega)
      have hdv1 := Int.ediv_le_self (a := p - 1) d (by omega)
      have hd0 : (d == 0) = false := by simp; omega
      go_wp2_with (first | (go_at_call 23; refine (times_l _ _ _ _ (by have := Q1.out; simp only [wt] at this; omega) (by have := Q2.out; simp only [wt] at this; omega) _).mono ?_; go_must (rintro e w2 ⟨rfl, hb2⟩; have K' := K.trans (c := w2) (by repeat (first | exact Below.refl _ _ | assumption | (refine Below.drew ?_) | (refine below_drewN ?_ _) | (refine Below.alloc ?_ (by first | (simp; done) | (simp; omega) | omega) _) | (refine Below.setCell ?_ (by first | (simp; done) | (simp; omega) | omega) _) | (refine Below.trans ?_ (Below.mono (by assumption) (by first | (simp; done) | (simp; omega) | omega))))); clear K; (try clear hc); (try clear hf); (try clear hz); (try clear hz0); have K := K'; clear K'; obtain ⟨hc, hf⟩ := bcellB K; have hz0 := K.size; (try simp at hz0); have hz := z1 hz0; clear hb2; rw [HP.out])) | (go_at_call 22; refine (HM.out _ (by repeat (first | exact Below.refl _ _ | assumption | (refine Below.drew ?_) | (refine below_drewN ?_ _) | (refine Below.alloc ?_ (by first | (simp; done) | (simp; omega) | omega) _) | (refine Below.setCell ?_ (by first | (simp; done) | (simp; omega) | omega) _) | (refine Below.trans ?_ (Below.mono (by assumption) (by first | (simp; done) | (simp; omega) | omega)))))).mono ?_; go_must (rintro e w3 ⟨rfl, hb3⟩; have K' := K.trans (c := w3) (by repeat (first | exact Below.refl _ _ | assumption | (refine Below.drew ?_) | (refine below_drewN ?_ _) | (refine Below.alloc ?_ (by first | (simp; done) | (simp; omega) | omega) _) | (refine Below.setCell ?_ (by first | (simp; done) | (simp; omega) | omega) _) | (refine Below.trans ?_ (Below.mono (by assumption) (by first | (simp; done) | (simp; omega) | omega))))); clear K; (try clear hc); (try clear hf); (try clear hz); (try clear hz0); have K := K'; clear K'; obtain ⟨hc, hf⟩ := bcellB K; have hz0 := K.size; (try simp at hz0); have hz := z1 hz0; clear hb3; rw [HD.out])))
      go_roundw
      case rel => exact ⟨k + 1, hlt, by simp, by rw [HT.out, HQ2.out]; congr 1; split <;> omega, (hb.alloc hsz _).trans (K.mono (by omega))⟩
      case measure => simp only [intOf]; omega
    · have HQ2 := Lib.hid (show qL links (m0, m1) (wt k) = 0 by rw [HQ.out, if_neg hp])
      go_wp2_with (first | (go_at_call 23; refine (times_l _ _ _ _ (by have := Q1.out; simp only [wt] at this; omega) (by have := Q2.out; simp only [wt] at this; omega) _).mono ?_; go_must (rintro e w2 ⟨rfl, hb2⟩; have K' := K.trans (c := w2) (by repeat (first | exact Below.refl _ _ | assumption | (refine Below.drew ?_) | (refine below_drewN ?_ _) | (refine Below.alloc ?_ (by first | (simp; done) | (simp; omega) | omega) _) | (refine Below.setCell ?_ (by first | (simp; done) | (simp; omega) | omega) _) | (refine Below.trans ?_ (Below.mono (by assumption) (by first | (simp; done) | (simp; omega) | omega))))); clear K; (try clear hc); (try clear hf); (try clear hz); (try clear hz0); have K := K'; clear K'; obtain ⟨hc, hf⟩ := bcellB K; have hz0 := K.size; (try simp at hz0); have hz := z1 hz0; clear hb2; rw [HP.out])))
      go_roundw
      case rel => exact ⟨k + 1, hlt, by simp, by rw [HT.out, HQ2.out]; congr 1; omega, (hb.alloc hsz _).trans (K.mono (by omega))⟩
      case measure => simp only [intOf]; omega
end Go.Proofs.Ytjceppinjeehiaa
