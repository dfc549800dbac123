/- The walk of the law LinkFloors: it returns true. -/
import Derived.Test.YtpoofjioeljigaaLinkAE
namespace Go.Proofs.Ytpoofjioeljigaa
open Go.RowKit
set_option maxHeartbeats 4000000 in
set_option maxRecDepth 100000 in
theorem LinkFloors_any (links : List C2) (m0 m1 : Int) (w : World) (g off : Nat) (v : Value) (hv : CRd w v g off links) :
    Calls Try.prog 12 #[v, .agg #[.int .i64 (m0), .int .i64 (m1)]] w fun e w' => e = .returned (.bool true) ∧ Below w.heap.size w w' := by
  have HV := Lib.hid hv
  obtain ⟨a, cap, rfl, -⟩ := hv.at
  clear hv
  by_cases h30 : 30 < links.length
  · have H30 := Lib.hid (decide_eq_true h30); clear h30
    go_enter Try.func12, Try.ntmps12
    go_wp2_with (first | (go_at_call 32; refine (many_l links _ _ _).mono ?_; go_must (rintro e0 w0 ⟨rfl, rfl⟩; rw [H30.out])) | (go_at_call 33; refine (Awake_l _).mono ?_; go_must (rintro e9 w9 ⟨rfl, hb9⟩)))
    go_ret
    exact ⟨rfl, by repeat (first | exact Below.refl _ _ | assumption | (refine Below.drew ?_) | (refine below_drewN ?_ _) | (refine Below.alloc ?_ (by first | (simp; done) | (simp; omega) | omega) _) | (refine Below.setCell ?_ (by first | (simp; done) | (simp; omega) | omega) _) | (refine Below.trans ?_ (Below.mono (by assumption) (by first | (simp; done) | (simp; omega) | omega))))⟩
  have hl : links.length ≤ 1000 := by omega
  have H30 := Lib.hid (decide_eq_false h30); clear h30
  have hp := fun w' (hb : Below w.heap.size w w') => floor_l links hl m0 m1 w' g off (.slice a links.length cap) (HV.out.below hb)
  have hpr := fun w' (hb : Below w.heap.size w w') => floorR_l links hl m0 m1 w' g off (.slice a links.length cap) (HV.out.below hb)
  generalize floorV links (m0, m1) = pv at hp hpr
  obtain ⟨x, e⟩ := pv
  have HP := Lib.hid hp; have HPR := Lib.hid hpr
  clear hp hpr hl
  have K := Below.refl (w.heap.size + 1) (w.alloc (.cells #[.int .i64 m0, .int .i64 m1] 23))
  go_enter Try.func12, Try.ntmps12
  go_wp2_with (first | (go_at_call 32; refine (many_l links _ _ _).mono ?_; go_must (rintro e0 w0 ⟨rfl, rfl⟩; rw [H30.out])) | (go_at_call 44; refine (HP.out _ (by repeat (first | exact Below.refl _ _ | assumption | (refine Below.drew ?_) | (refine below_drewN ?_ _) | (refine Below.alloc ?_ (by first | (simp; done) | (simp; omega) | omega) _) | (refine Below.setCell ?_ (by first | (simp; done) | (simp; omega) | omega) _) | (refine Below.trans ?_ (Below.mono (by assumption) (by first | (simp; done) | (simp; omega) | omega)))))).mono ?_; go_must (rintro e w1 ⟨rfl, hb1⟩; have K' := K.trans (c := w1) (by repeat (first | exact Below.refl _ _ | assumption | (refine Below.drew ?_) | (refine below_drewN ?_ _) | (refine Below.alloc ?_ (by first | (simp; done) | (simp; omega) | omega) _) | (refine Below.setCell ?_ (by first | (simp; done) | (simp; omega) | omega) _) | (refine Below.trans ?_ (Below.mono (by assumption) (by first | (simp; done) | (simp; omega) | omega))))); clear K; (try clear hc); (try clear hf); (try clear hz); (try clear hz0); have K := K'; clear K'; obtain ⟨hc, hf⟩ := bcellB K; have hz0 := K.size; (try simp at hz0); have hz := z1 hz0; clear hb1)) | (go_at_call 45; refine (HPR.out _ (by repeat (first | exact Below.refl _ _ | assumption | (refine Below.drew ?_) | (refine below_drewN ?_ _) | (refine Below.alloc ?_ (by first | (simp; done) | (simp; omega) | omega) _) | (refine Below.setCell ?_ (by first | (simp; done) | (simp; omega) | omega) _) | (refine Below.trans ?_ (Below.mono (by assumption) (by first | (simp; done) | (simp; omega) | omega)))))).mono ?_; go_must (rintro e w2 ⟨rfl, hb2⟩; have K' := K.trans (c := w2) (by repeat (first | exact Below.refl _ _ | assumption | (refine Below.drew ?_) | (refine below_drewN ?_ _) | (refine Below.alloc ?_ (by first | (simp; done) | (simp; omega) | omega) _) | (refine Below.setCell ?_ (by first | (simp; done) | (simp; omega) | omega) _) | (refine Below.trans ?_ (Below.mono (by assumption) (by first | (simp; done) | (simp; omega) | omega))))); clear K; (try clear hc); (try clear hf); (try clear hz); (try clear hz0); have K := K'; clear K'; obtain ⟨hc, hf⟩ := bcellB K; have hz0 := K.size; (try simp at hz0); have hz := z1 hz0; clear hb2)) | (go_at_call 33; refine (Awake_l _).mono ?_; go_must (rintro e9 w9 ⟨rfl, hb9⟩)))
  go_ret
  exact ⟨rfl, by repeat (first | exact Below.refl _ _ | assumption | (refine Below.drew ?_) | (refine below_drewN ?_ _) | (refine Below.alloc ?_ (by first | (simp; done) | (simp; omega) | omega) _) | (refine Below.setCell ?_ (by first | (simp; done) | (simp; omega) | omega) _) | (refine Below.trans ?_ (Below.mono (by assumption) (by first | (simp; done) | (simp; omega) | omega))))⟩
end Go.Proofs.Ytpoofjioeljigaa
