/- The walk of the law LinkHops: it returns true. -/
import Derived.Test.YtpoofjioeljigaaLinkAM
import Derived.Test.YtpoofjioeljigaaLinkAN
namespace Go.Proofs.Ytpoofjioeljigaa
open Go.RowKit
theorem wayR_uniq {links : List C2} {m : C2} {o o' : List Int} {e e' : Int} (h : WayR links m o e) (k : WayR links m o' e') : o' = o ∧ e' = e := by
  rcases h with ⟨h1, rfl, rfl⟩ | ⟨h1, ⟨x, hx, hd, rfl, rfl⟩ | ⟨hno, rfl, rfl⟩⟩
  · rcases k with ⟨_, rfl, rfl⟩ | ⟨k1, _⟩
    · exact ⟨rfl, rfl⟩
    · exact absurd k1 h1
  · rcases k with ⟨k1, _, _⟩ | ⟨_, ⟨y, hy, hd2, rfl, rfl⟩ | ⟨hno2, _, _⟩⟩
    · exact absurd h1 k1
    · rw [hd.uniq hd2]; exact ⟨rfl, rfl⟩
    · exact absurd hd (hno2 x hx)
  · rcases k with ⟨k1, _, _⟩ | ⟨_, ⟨y, hy, hd2, _, _⟩ | ⟨_, rfl, rfl⟩⟩
    · exact absurd h1 k1
    · exact absurd hd2 (hno y hy)
    · exact ⟨rfl, rfl⟩
set_option maxHeartbeats 4000000 in
set_option maxRecDepth 100000 in
theorem LinkHops_any (links : List C2) (m0 m1 : Int) (w : World) (g off : Nat) (v : Value) (hv : CRd w v g off links) :
    Calls Try.prog 11 #[v, .agg #[.int .i64 (m0), .int .i64 (m1)]] w fun e w' => e = .returned (.bool true) ∧ Below w.heap.size w w' := by
  have HV := Lib.hid hv
  obtain ⟨a, cap, rfl, -⟩ := hv.at
  clear hv
  by_cases h30 : 30 < links.length
  · have H30 := Lib.hid (decide_eq_true h30); clear h30
    go_enter Try.func11, Try.ntmps11
    go_wp2_with (first | (go_at_call 32; refine (many_l links _ _ _).mono ?_; go_must (rintro e0 w0 ⟨rfl, rfl⟩; rw [H30.out])) | (go_at_call 33; refine (Awake_l _).mono ?_; go_must (rintro e9 w9 ⟨rfl, hb9⟩)))
    go_ret
    exact ⟨rfl, by repeat (first | exact Below.refl _ _ | assumption | (refine Below.drew ?_) | (refine below_drewN ?_ _) | (refine Below.alloc ?_ (by first | (simp; done) | (simp; omega) | omega) _) | (refine Below.setCell ?_ (by first | (simp; done) | (simp; omega) | omega) _) | (refine Below.trans ?_ (Below.mono (by assumption) (by first | (simp; done) | (simp; omega) | omega))))⟩
  have hl : links.length ≤ 1000 := by omega
  have H30 := Lib.hid (decide_eq_false h30); clear h30
  have HH := Lib.hid (fun w' (hb : Below w.heap.size w w') => Hops_l links hl m0 m1 w' g off (.slice a links.length cap) (HV.out.below hb))
  have HHR := Lib.hid (fun w' (hb : Below w.heap.size w w') => HopsR_l links hl m0 m1 w' g off (.slice a links.length cap) (HV.out.below hb))
  have HW := Lib.hid (fun w' (hb : Below w.heap.size w w') => Way_l links hl m0 m1 w' g off (.slice a links.length cap) (HV.out.below hb))
  have HWR := Lib.hid (fun w' (hb : Below w.heap.size w w') => WayR_l links hl m0 m1 w' g off (.slice a links.length cap) (HV.out.below hb))
  have HVA := Lib.hid (fun w' (hb : Below w.heap.size w w') => Valid_l links hl w' g off (.slice a links.length cap) (HV.out.below hb))
  have HVR := Lib.hid (fun w' (hb : Below w.heap.size w w') => validR_l links hl w' g off (.slice a links.length cap) (HV.out.below hb))
  clear hl
  have K := Below.refl (w.heap.size + 1) (w.alloc (.cells #[.int .i64 m0, .int .i64 m1] 23))
  go_enter Try.func11, Try.ntmps11
  go_wp2_with (first | (go_at_call 32; refine (many_l links _ _ _).mono ?_; go_must (rintro e0 w0 ⟨rfl, rfl⟩; rw [H30.out])) | (go_at_call 34; refine (HH.out _ (by repeat (first | exact Below.refl _ _ | assumption | (refine Below.drew ?_) | (refine below_drewN ?_ _) | (refine Below.alloc ?_ (by first | (simp; done) | (simp; omega) | omega) _) | (refine Below.setCell ?_ (by first | (simp; done) | (simp; omega) | omega) _) | (refine Below.trans ?_ (Below.mono (by assumption) (by first | (simp; done) | (simp; omega) | omega)))))).mono ?_; go_must (rintro e w1 ⟨n, er, hr, rfl, hb1⟩; have HR := Lib.hid hr; clear hr; have K' := K.trans (c := w1) (by repeat (first | exact Below.refl _ _ | assumption | (refine Below.drew ?_) | (refine below_drewN ?_ _) | (refine Below.alloc ?_ (by first | (simp; done) | (simp; omega) | omega) _) | (refine Below.setCell ?_ (by first | (simp; done) | (simp; omega) | omega) _) | (refine Below.trans ?_ (Below.mono (by assumption) (by first | (simp; done) | (simp; omega) | omega))))); clear K; (try clear hc); (try clear hf); (try clear hz); (try clear hz0); have K := K'; clear K'; obtain ⟨hc, hf⟩ := bcellB K; have hz0 := K.size; (try simp at hz0); have hz := z1 hz0; clear hb1)) | (go_at_call 38; refine (HHR.out _ (by repeat (first | exact Below.refl _ _ | assumption | (refine Below.drew ?_) | (refine below_drewN ?_ _) | (refine Below.alloc ?_ (by first | (simp; done) | (simp; omega) | omega) _) | (refine Below.setCell ?_ (by first | (simp; done) | (simp; omega) | omega) _) | (refine Below.trans ?_ (Below.mono (by assumption) (by first | (simp; done) | (simp; omega) | omega)))))).mono ?_; go_must (rintro e w2 ⟨n2, er2, hr, rfl, hb2⟩; obtain ⟨rfl, rfl⟩ := hopsR_uniq HR.out hr; clear hr; have K' := K.trans (c := w2) (by repeat (first | exact Below.refl _ _ | assumption | (refine Below.drew ?_) | (refine below_drewN ?_ _) | (refine Below.alloc ?_ (by first | (simp; done) | (simp; omega) | omega) _) | (refine Below.setCell ?_ (by first | (simp; done) | (simp; omega) | omega) _) | (refine Below.trans ?_ (Below.mono (by assumption) (by first | (simp; done) | (simp; omega) | omega))))); clear K; (try clear hc); (try clear hf); (try clear hz); (try clear hz0); have K := K'; clear K'; obtain ⟨hc, hf⟩ := bcellB K; have hz0 := K.size; (try simp at hz0); have hz := z1 hz0; clear hb2)) | (go_at_call 39; refine (HW.out _ (by repeat (first | exact Below.refl _ _ | assumption | (refine Below.drew ?_) | (refine below_drewN ?_ _) | (refine Below.alloc ?_ (by first | (simp; done) | (simp; omega) | omega) _) | (refine Below.setCell ?_ (by first | (simp; done) | (simp; omega) | omega) _) | (refine Below.trans ?_ (Below.mono (by assumption) (by first | (simp; done) | (simp; omega) | omega)))))).mono ?_; go_must (rintro e w3 ⟨o3, e3, v3, hr, rfl, hs, hb3⟩; have HR3 := Lib.hid hr; have HS3 := Lib.hid hs; clear hr hs; have K' := K.trans (c := w3) (by repeat (first | exact Below.refl _ _ | assumption | (refine Below.drew ?_) | (refine below_drewN ?_ _) | (refine Below.alloc ?_ (by first | (simp; done) | (simp; omega) | omega) _) | (refine Below.setCell ?_ (by first | (simp; done) | (simp; omega) | omega) _) | (refine Below.trans ?_ (Below.mono (by assumption) (by first | (simp; done) | (simp; omega) | omega))))); clear K; (try clear hc); (try clear hf); (try clear hz); (try clear hz0); have K := K'; clear K'; obtain ⟨hc, hf⟩ := bcellB K; have hz0 := K.size; (try simp at hz0); have hz := z1 hz0; clear hb3)) | (go_at_call 40; refine (HWR.out _ (by repeat (first | exact Below.refl _ _ | assumption | (refine Below.drew ?_) | (refine below_drewN ?_ _) | (refine Below.alloc ?_ (by first | (simp; done) | (simp; omega) | omega) _) | (refine Below.setCell ?_ (by first | (simp; done) | (simp; omega) | omega) _) | (refine Below.trans ?_ (Below.mono (by assumption) (by first | (simp; done) | (simp; omega) | omega)))))).mono ?_; go_must (rintro e w4 ⟨o4, e4, v4, hr, rfl, hs, hb4⟩; obtain ⟨rfl, rfl⟩ := wayR_uniq HR3.out hr; have HS4 := Lib.hid hs; clear hr hs; have HS5 := Lib.hid (Sl.mono (ISl.kept HS3.out hb4) hb4.size); have K' := K.trans (c := w4) (by repeat (first | exact Below.refl _ _ | assumption | (refine Below.drew ?_) | (refine below_drewN ?_ _) | (refine Below.alloc ?_ (by first | (simp; done) | (simp; omega) | omega) _) | (refine Below.setCell ?_ (by first | (simp; done) | (simp; omega) | omega) _) | (refine Below.trans ?_ (Below.mono (by assumption) (by first | (simp; done) | (simp; omega) | omega))))); clear K; (try clear hc); (try clear hf); (try clear hz); (try clear hz0); have K := K'; clear K'; obtain ⟨hc, hf⟩ := bcellB K; have hz0 := K.size; (try simp at hz0); have hz := z1 hz0; clear hb4; have HK := Lib.hid K; clear K hc hf hz; have HSI := Lib.hid (fun W (hb : Below w4.heap.size w4 W) => sameInts_l _ _ W v3 v4 (Sl.mono (ISl.kept HS5.out hb) hb.size) (Sl.mono (ISl.kept HS4.out hb) hb.size))) ) | (go_at_call 41; refine (HVA.out _ (HK.out.mono (Nat.le_succ _) |> Below.trans ((Below.refl _ _).alloc (Nat.le_refl _) _))).mono ?_; go_must (rintro e w5 ⟨rfl, hb5⟩; have z5 := hb5.size)) | (go_at_call 42; refine (HVR.out _ ((HK.out.mono (Nat.le_succ _) |> Below.trans ((Below.refl _ _).alloc (Nat.le_refl _) _)).trans (hb5.mono (by omega)))).mono ?_; go_must (rintro e w6 ⟨rfl, hb6⟩; have z6 := hb6.size)) | (go_at_call 43; refine (HSI.out _ (hb5.trans (hb6.mono z5))).mono ?_; go_must (rintro e w7 ⟨rfl, hb7⟩; have z7 := hb7.size)) | (go_at_call 33; refine (Awake_l _).mono ?_; go_must (rintro e9 w9 ⟨rfl, hb9⟩)))
  go_ret
  have hE := (HK.out.mono (Nat.le_succ _) |> Below.trans ((Below.refl _ _).alloc (Nat.le_refl _) _))
  exact ⟨rfl, hE.trans ((hb5.trans ((hb6.trans ((hb7.trans (hb9.mono z7)).mono z6)).mono z5)).mono (by omega))⟩
end Go.Proofs.Ytpoofjioeljigaa
