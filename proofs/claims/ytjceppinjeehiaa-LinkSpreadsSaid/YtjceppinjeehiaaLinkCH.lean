/- The walk of the law LinkReaches: it returns true. -/
import Derived.Test.YtjceppinjeehiaaLinkCF
import Derived.Test.YtjceppinjeehiaaLinkCA
namespace Go.Proofs.Ytjceppinjeehiaa
open Go.RowKit
def reachV (links : List C2) (n : Int) : List C2 × Int := if validL links = true then (if 0 ≤ n ∧ n ≤ 4 then (gridL links n.toNat, 0) else ([], 2)) else ([], 50)
def backV (links : List C2) : List C2 × Int := if validL links = true then (links.map neg2, 0) else ([], 50)
theorem crd_nil (w : World) : CRd w (.slice none 0 0) 0 0 [] := ⟨0, Nat.le_refl _, by unfold maxLen; omega, .inl ⟨⟨_, _, rfl⟩, rfl⟩⟩
theorem reachV_of {links : List C2} {n : Int} {w' : World} {e : Ending} (h : ReachR links n w' e) : ∃ v' g', CRd w' v' g' 0 (reachV links n).1 ∧ e = .returned (.tuple #[v', .int .i64 (reachV links n).2]) := by
  rcases h with ⟨h1, rfl⟩ | ⟨h1, h2, rfl⟩ | ⟨h1, k, rfl, hk, v', g', hc, rfl⟩
  · have : reachV links n = ([], 50) := by rw [reachV, if_neg (by rw [h1]; simp)]
    rw [this]; exact ⟨_, 0, crd_nil _, rfl⟩
  · have : reachV links n = ([], 2) := by rw [reachV, if_pos h1, if_neg h2]
    rw [this]; exact ⟨_, 0, crd_nil _, rfl⟩
  · have this : reachV links (k : Int) = (gridL links k, 0) := by rw [reachV, if_pos h1, if_pos (by omega), Int.toNat_natCast]
    generalize gridL links k = L at *
    rw [this]; exact ⟨v', g', hc, rfl⟩
theorem reachV_len (links : List C2) (n : Int) : (reachV links n).1.length ≤ 100000 := by
  unfold reachV
  split
  · split
    · have := gridTo_len links n.toNat 5329
      simp only [gridL]; omega
    · simp
  · simp
theorem backV_of {links : List C2} {w' : World} {e : Ending} (h : (validL links = false ∧ e = .returned (.tuple #[.slice none 0 0, .int .i64 50])) ∨ (validL links = true ∧ ∃ v' g', CRd w' v' g' 0 (links.map neg2) ∧ e = .returned (.tuple #[v', .int .i64 0]))) : ∃ v' g', CRd w' v' g' 0 (backV links).1 ∧ e = .returned (.tuple #[v', .int .i64 (backV links).2]) := by
  rcases h with ⟨h1, rfl⟩ | ⟨h1, v', g', hc, rfl⟩
  · have : backV links = ([], 50) := by rw [backV, if_neg (by rw [h1]; simp)]
    rw [this]; exact ⟨_, 0, crd_nil _, rfl⟩
  · have : backV links = (links.map neg2, 0) := by rw [backV, if_pos h1]
    rw [this]; exact ⟨v', g', hc, rfl⟩
theorem backV_len (links : List C2) : (backV links).1.length ≤ links.length := by
  unfold backV
  split
  · simp
  · simp
set_option maxHeartbeats 4000000 in
set_option maxRecDepth 100000 in
theorem LinkReaches_any (links : List C2) (n : Int) (w : World) (g off : Nat) (v : Value) (hv : CRd w v g off links) :
    Calls Try.prog 4 #[v, .int .i64 n] w fun e w' => e = .returned (.bool true) ∧ Below w.heap.size w w' := by
  have HV := Lib.hid hv
  obtain ⟨a, cap, rfl, -⟩ := hv.at
  clear hv
  by_cases h30 : 30 < links.length
  · have H30 := Lib.hid (decide_eq_true h30); clear h30
    go_enter Try.func4, Try.ntmps4
    go_wp2_with (first | (go_at_call 6; refine (many_l links _ _ _).mono ?_; go_must (rintro e0 w0 ⟨rfl, rfl⟩; rw [H30.out])) | (go_at_call 7; refine (Awake_l _).mono ?_; go_must (rintro e9 w9 ⟨rfl, hb9⟩)))
    go_ret
    exact ⟨rfl, by repeat (first | exact Below.refl _ _ | assumption | (refine Below.drew ?_) | (refine below_drewN ?_ _) | (refine Below.alloc ?_ (by first | (simp; done) | (simp; omega) | omega) _) | (refine Below.setCell ?_ (by first | (simp; done) | (simp; omega) | omega) _) | (refine Below.trans ?_ (Below.mono (by assumption) (by first | (simp; done) | (simp; omega) | omega))))⟩
  have hl : links.length ≤ 1000 := by omega
  have H30 := Lib.hid (decide_eq_false h30); clear h30
  have hr := fun w' (hb : Below w.heap.size w w') => (Reach_l links hl n w' g off (.slice a links.length cap) (HV.out.below hb)).mono fun e w2 ⟨h, hb2⟩ => (⟨reachV_of h, hb2⟩ : (∃ v' g', CRd w2 v' g' 0 (reachV links n).1 ∧ e = Ending.returned (.tuple #[v', .int .i64 (reachV links n).2])) ∧ Below w'.heap.size w' w2)
  have hrr := fun w' (hb : Below w.heap.size w w') => (ReachR_l links hl n w' g off (.slice a links.length cap) (HV.out.below hb)).mono fun e w2 ⟨h, hb2⟩ => (⟨reachV_of h, hb2⟩ : (∃ v' g', CRd w2 v' g' 0 (reachV links n).1 ∧ e = Ending.returned (.tuple #[v', .int .i64 (reachV links n).2])) ∧ Below w'.heap.size w' w2)
  have hk := fun w' (hb : Below w.heap.size w w') => (Back_l links hl w' g off (.slice a links.length cap) (HV.out.below hb)).mono fun e w2 ⟨h, hb2⟩ => (⟨backV_of h, hb2⟩ : (∃ v' g', CRd w2 v' g' 0 (backV links).1 ∧ e = Ending.returned (.tuple #[v', .int .i64 (backV links).2])) ∧ Below w'.heap.size w' w2)
  have hkr := fun w' (hb : Below w.heap.size w w') => (BackR_l links hl w' g off (.slice a links.length cap) (HV.out.below hb)).mono fun e w2 ⟨h, hb2⟩ => (⟨backV_of h, hb2⟩ : (∃ v' g', CRd w2 v' g' 0 (backV links).1 ∧ e = Ending.returned (.tuple #[v', .int .i64 (backV links).2])) ∧ Below w'.heap.size w' w2)
  have L1 := Lib.hid (reachV_len links n)
  have L2 := Lib.hid (show (backV links).1.length ≤ 100000 by have := backV_len links; omega)
  generalize reachV links n = rv at *
  generalize backV links = bv at *
  obtain ⟨l1, e1⟩ := rv
  obtain ⟨l2, e2⟩ := bv
  have HR := Lib.hid hr; have HRR := Lib.hid hrr; have HK := Lib.hid hk; have HKR := Lib.hid hkr
  clear hr hrr hk hkr hl
  go_enter Try.func4, Try.ntmps4
  go_wp2_with (first | (go_at_call 6; refine (many_l links _ _ _).mono ?_; go_must (rintro e0 w0 ⟨rfl, rfl⟩; rw [H30.out])) | (go_at_call 14; refine (HR.out _ (Below.refl _ _)).mono ?_; go_must (rintro e w1 ⟨⟨v1, g1, hc1, rfl⟩, hb1⟩; have C1 := Lib.hid hc1; clear hc1)) | (go_at_call 15; refine (HRR.out _ hb1).mono ?_; go_must (rintro e w2 ⟨⟨v2, g2, hc2, rfl⟩, hb2⟩; have C2 := Lib.hid hc2; have C1 := Lib.hid (C1.out.below hb2); have hb2 := hb1.trans (hb2.mono hb1.size); clear hc2)) | (go_at_call 16; refine (HK.out _ hb2).mono ?_; go_must (rintro e w3 ⟨⟨v3, g3, hc3, rfl⟩, hb3⟩; have C3 := Lib.hid hc3; have C1 := Lib.hid (C1.out.below hb3); have C2 := Lib.hid (C2.out.below hb3); have hb3 := hb2.trans (hb3.mono hb2.size); clear hc3)) | (go_at_call 17; refine (HKR.out _ hb3).mono ?_; go_must (rintro e w4 ⟨⟨v4, g4, hc4, rfl⟩, hb4⟩; have C1 := Lib.hid (C1.out.below hb4); have C2 := Lib.hid (C2.out.below hb4); have C3 := Lib.hid (C3.out.below hb4); have hb4 := hb3.trans (hb4.mono hb3.size); have S1 := Lib.hid (sameCells_l _ _ w4 v1 v2 g1 0 g2 0 C1.out C2.out L1.out); have S2 := Lib.hid (fun W (hb : Below w4.heap.size w4 W) => sameCells_l _ _ W v3 v4 g3 0 g4 0 (C3.out.below hb) (hc4.below hb) L2.out); clear hc4)) | (go_at_call 18; refine S1.out.mono ?_; clear S1; go_must (rintro e w5 ⟨rfl, hb5⟩)) | (go_at_call 18; refine (S2.out _ hb5).mono ?_; clear S2; go_must (rintro e w6 ⟨rfl, hb6⟩)) | (go_at_call 7; refine (Awake_l _).mono ?_; go_must (rintro e9 w9 ⟨rfl, hb9⟩)))
  go_ret
  exact ⟨rfl, hb4.trans ((hb5.trans ((hb6.trans (hb9.mono hb6.size)).mono hb5.size)).mono hb4.size)⟩
end Go.Proofs.Ytjceppinjeehiaa
