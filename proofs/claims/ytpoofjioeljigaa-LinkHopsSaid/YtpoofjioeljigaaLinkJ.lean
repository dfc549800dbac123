/- The walks of the reference's Valid and asked. -/
import Derived.Test.YtpoofjioeljigaaLinkG
namespace Go.Proofs.Ytpoofjioeljigaa
open Go.RowKit
set_option maxHeartbeats 4000000 in
set_option maxRecDepth 100000 in
theorem validR_l (links : List C2) (hl : links.length ≤ 1000) (w : World) (g off : Nat) (v : Value) (hv : CRd w v g off links) :
    Calls Try.prog 42 #[v] w fun e w' => e = .returned (.bool (validL links)) ∧ Below w.heap.size w w' := by
  obtain ⟨a, cap, rfl, hx⟩ := hv.at
  have HX := Lib.hid hx; clear hx hv
  go_enter Try.func42, Try.ntmps42
  go_wp2
  go_loopw [7] (fun i wr => ∃ k : Nat, k ≤ links.length ∧ i = .int .i64 (k : Nat) ∧ (∀ j (h : j < links.length), j < k → badL links[j] = false) ∧ Below w.heap.size w wr) (fun i _ => links.length - (intOf i).toNat)
  case atStart => exact ⟨0, Nat.zero_le _, rfl, fun j _ h => absurd h (by omega), Below.refl _ _⟩
  case round =>
    obtain ⟨k, hk, rfl, hno, hb⟩ := hrel
    have HNO := Lib.hid hno; clear hno
    have hsz := hb.size
    by_cases hlt : k < links.length
    rotate_left
    · obtain rfl : k = links.length := by omega
      have HV := Lib.hid (show validL links = decide ((links.length : Int) ≤ 8) by
        have : links.any badL = false := List.any_eq_false.2 (fun c hc => by
          obtain ⟨j, hj, rfl⟩ := List.getElem_of_mem hc
          simp [HNO.out j hj hj])
        rw [validL, this]; simp; omega)
      go_wp2
      go_ret
      exact ⟨ret_bool (by rw [HV.out]), hb⟩
    obtain ⟨hi, hg, hc0, hc1⟩ := HX.out k hlt
    have r0 := (hb.cell (p := ⟨g, off + 2 * k, none⟩) hg).trans hc0
    have r1 := (hb.cell (p := ⟨g, off + 2 * k + 1, none⟩) hg).trans hc1
    clear hc0 hc1
    cases hbad : badL links[k]
    · have HB := Lib.hid hbad; clear hbad
      have hne : ¬ (links[k].1 = 0 ∧ links[k].2 = 0) := fun h => by have := HB.out; simp [badL, h] at this
      have HW := Lib.hid (show nearB 3 links[k] = true by have := HB.out; simp only [badL, Bool.or_eq_false_iff, Bool.not_eq_false'] at this; exact this.1)
      have HA := Lib.hid (show ∀ j (h : j < links.length), j < k + 1 → badL links[j] = false from fun j h h2 => by
        rcases Nat.lt_or_ge j k with h3 | h3
        · exact HNO.out j h h3
        · obtain rfl : j = k := by omega
          exact HB.out)
      generalize links[k] = c at *
      obtain ⟨c0, c1⟩ := c
      simp only at r0 r1 hne
      have heq := fun W => eq_cell c0 c1 0 0 W
      have hxf : (decide (c0 = 0) && decide (c1 = 0)) = false := by simpa using hne
      rw [hxf] at heq
      clear hne hxf
      go_wp2_with (go_at_call 81; refine (within_l _ _ _ (by omega) _).mono ?_; go_must (rintro e w1 ⟨rfl, hb1⟩; rw [HW.out]))
      go_roundw
      case rel => exact ⟨k + 1, hlt, by simp, HA.out, (hb.alloc hsz _).trans (hb1.mono (by simp; omega))⟩
      case measure => simp only [intOf]; omega
    · have HV := Lib.hid (show validL links = false by
        have : links.any badL = true := List.any_eq_true.2 ⟨_, List.getElem_mem hlt, hbad⟩
        rw [validL, this]; simp)
      have HB := Lib.hid hbad; clear hbad
      generalize links[k] = c at *
      obtain ⟨c0, c1⟩ := c
      simp only at r0 r1
      have heq := fun W => eq_cell c0 c1 0 0 W
      by_cases hz : c0 = 0 ∧ c1 = 0
      · have hxf : (decide (c0 = 0) && decide (c1 = 0)) = true := by simpa using hz
        rw [hxf] at heq
        clear hz hxf
        go_wp2
        go_ret
        exact ⟨ret_bool (by rw [HV.out]), hb.alloc hsz _⟩
      · have hxf : (decide (c0 = 0) && decide (c1 = 0)) = false := by simpa using hz
        rw [hxf] at heq
        have HW := Lib.hid (show nearB 3 (c0, c1) = false by have := HB.out; simp only [badL, hxf] at this; simpa using this)
        clear hz hxf
        go_wp2_with (go_at_call 81; refine (within_l _ _ _ (by omega) _).mono ?_; go_must (rintro e w1 ⟨rfl, hb1⟩; rw [HW.out]))
        go_ret
        exact ⟨ret_bool (by rw [HV.out]), (hb.alloc hsz _).trans (hb1.mono (by simp; omega))⟩
set_option maxHeartbeats 4000000 in
theorem asked_l (links : List C2) (hl : links.length ≤ 1000) (m0 m1 : Int) (w : World) (g off : Nat) (v : Value) (hv : CRd w v g off links) :
    Calls Try.prog 75 #[v, .agg #[.int .i64 (m0), .int .i64 (m1)]] w fun e w' => e = .returned (.int .i64 (chkL links (m0, m1))) ∧ Below w.heap.size w w' := by
  have HV := Lib.hid (fun o => validR_l links hl (w.alloc o) g off v (hv.below ((Below.refl _ w).alloc (Nat.le_refl _) o)))
  obtain ⟨a, cap, rfl, -⟩ := hv.at
  clear hv
  unfold chkL
  cases h : validL links
  · have H := Lib.hid h; clear h
    go_enter Try.func75, Try.ntmps75
    go_wp2_with (first | (go_at_call 42; refine (HV.out _).mono ?_; go_must (rintro e w1 ⟨rfl, hb1⟩; obtain ⟨hc1, hf1⟩ := bcell hb1; have hz1 := hb1.size; (try simp at hz1); (first | have z := z10 hz1 | have z := z9 hz1 | have z := z8 hz1 | have z := z7 hz1 | have z := z6 hz1 | have z := z5 hz1 | have z := z4 hz1 | have z := z3 hz1 | have z := z2 hz1 | have z := z1 hz1 | skip); rw [H.out])))
    go_ret
    exact ⟨rfl, by repeat (first | exact Below.refl _ _ | assumption | (refine Below.drew ?_) | (refine below_drewN ?_ _) | (refine Below.alloc ?_ (by first | (simp; done) | (simp; omega) | omega) _) | (refine Below.setCell ?_ (by first | (simp; done) | (simp; omega) | omega) _) | (refine Below.trans ?_ (Below.mono (by assumption) (by first | (simp; done) | (simp; omega) | omega))))⟩
  · have H := Lib.hid h; clear h
    cases h2 : nearB 20 (m0, m1)
    all_goals
      have H2 := Lib.hid h2; clear h2
      go_enter Try.func75, Try.ntmps75
      go_wp2_with (first | (go_at_call 42; refine (HV.out _).mono ?_; go_must (rintro e w1 ⟨rfl, hb1⟩; obtain ⟨hc1, hf1⟩ := bcell hb1; have hz1 := hb1.size; (try simp at hz1); (first | have z := z10 hz1 | have z := z9 hz1 | have z := z8 hz1 | have z := z7 hz1 | have z := z6 hz1 | have z := z5 hz1 | have z := z4 hz1 | have z := z3 hz1 | have z := z2 hz1 | have z := z1 hz1 | skip); rw [H.out])) | (go_at_call 81; refine (within_l _ _ _ (by omega) _).mono ?_; go_must (rintro e w2 ⟨rfl, hb2⟩; rw [H2.out])))
      go_ret
      exact ⟨rfl, by repeat (first | exact Below.refl _ _ | assumption | (refine Below.drew ?_) | (refine below_drewN ?_ _) | (refine Below.alloc ?_ (by first | (simp; done) | (simp; omega) | omega) _) | (refine Below.setCell ?_ (by first | (simp; done) | (simp; omega) | omega) _) | (refine Below.trans ?_ (Below.mono (by assumption) (by first | (simp; done) | (simp; omega) | omega))))⟩
end Go.Proofs.Ytpoofjioeljigaa
