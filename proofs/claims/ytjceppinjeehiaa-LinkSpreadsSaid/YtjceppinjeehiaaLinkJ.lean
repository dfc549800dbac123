/- The walks of the reference's Valid and asked. -/
import Derived.Test.YtjceppinjeehiaaLinkG
namespace Go.Proofs.Ytjceppinjeehiaa
open Go.RowKit
set_option maxHeartbeats 4000000 in
set_option maxRecDepth 100000 in
theorem validR_l (links : List C2) (hl : links.length ≤ 1000) (w : World) (g off : Nat) (v : Value) (hv : CRd w v g off links) :
    Calls Try.prog 32 #[v] w fun e w' => e = .returned (.bool (validL links)) ∧ Below w.heap.size w w' := by
  obtain ⟨a, cap, rfl, hx⟩ := hv.at
  have HX := Lib.hid hx; clear hx hv
  go_enter Try.func32, Try.ntmps32
  go_wp2
  go_loopw [7] (fun i wr => ∃ k : Nat, k ≤ links.length ∧ i = .int .i64 (k : Nat) ∧ (∀ j (h : j < links.length), j < k → badL links[j] = false) ∧ Below w.heap.size w wr) (fun i _ => links.length - (intOf i).toNat)
  case atStart => exact ⟨0, Nat.zero_le _, rfl, fun j _ h => absurd h (by omega), Below.refl _ _⟩
  case round =>
    obtain ⟨k, hk, rfl, hno, hb⟩ := hrel
    have HNO := Lib.hid hno; clear hno
    have hsz := hb.size
    by_cases hlt : k < links.length
    rotate_left
    · obtain rfl : k = links.length := by omega
      have HV := Lib.hid (show validL links = decide ((links.length : Int) ≤ 8) by
        have : links.any badL = false := List.any_eq_false.2 (fun c hc => by
          obtain ⟨j, hj, rfl⟩ := List.getElem_of_mem hc
          simp [HNO.out j hj hj])
        rw [validL, this]; simp; omega)
      go_wp2
      go_ret
      exact ⟨ret_bool (by rw [HV.out]), hb⟩
    obtain ⟨hi, hg, hc0, hc1⟩ := HX.out k hlt
    have r0 := (hb.cell (p := ⟨g, off + 2 * k, none⟩) hg).trans hc0
    have r1 := (hb.cell (p := ⟨g, off + 2 * k + 1, none⟩) hg).trans hc1
    clear hc0 hc1
    cases hbad : badL links[k]
    · have HB := Lib.hid hbad; clear hbad
      have hne : ¬ (links[k].1 = 0 ∧ links[k].2 = 0) := fun h => by have := HB.out; simp [badL, h] at this
      have HW := Lib.hid (show nearB 3 links[k] = true by have := HB.out; simp only [badL, Bool.or_eq_false_iff, Bool.not_eq_false'] at this; exact this.1)
      have HA := Lib.hid (show ∀ j (h : j < links.length), j < k + 1 → badL links[j] = false from fun j h h2 => by
        rcases Nat.lt_or_ge j k with h3 | h3
        · exact HNO.out j h h3
        · obtain rfl : j = k := by omega
          exact HB.out)
      generalize links[k] = c at *
      obtain ⟨c0, c1⟩ := c
      simp only at r0 r1 hne
      have heq := fun W => eq_cell c0 c1 0 0 W
      have hxf : (decide (c0 = 0) && decide (c1 = 0)) = false := by simpa using hne
      rw [hxf] at heq
      clear hne hxf
      go_wp2_with (go_at_call 42; refine (within_l _ _ _ (by omega) _).mono ?_; go_must (rintro e w1 ⟨rfl, hb1⟩; rw [HW.out]))
      go_roundw
      case rel => exact ⟨k + 1, hlt, by simp, HA.out, (hb.alloc hsz _).trans (hb1.mono (by simp; omega))⟩
      case measure => simp only [intOf]; omega
    · have HV := Lib.hid (show validL links = false by
        have : links.any badL = true := List.any_eq_true.2 ⟨_, List.getElem_mem hlt, hbad⟩
        rw [validL, this]; simp)
      have HB := Lib.hid hbad; clear hbad
      generalize links[k] = c at *
      obtain ⟨c0, c1⟩ := c
      simp only at r0 r1
      have heq := fun W => eq_cell c0 c1 0 0 W
      by_cases hz : c0 = 0 ∧ c1 = 0
      · have hxf : (decide (c0 = 0) && decide (c1 = 0)) = true := by simpa using hz
        rw [hxf] at heq
        clear hz hxf
        go_wp2
        go_ret
        exact ⟨ret_bool (by rw [HV.out]), hb.alloc hsz _⟩
      · have hxf : (decide (c0 = 0) && decide (c1 = 0)) = false := by simpa using hz
        rw [hxf] at heq
        have HW := Lib.hid (show nearB 3 (c0, c1) = false by have := HB.out; simp only [badL, hxf] at this; simpa using this)
        clear hz hxf
        go_wp2_with (go_at_call 42; refine (within_l _ _ _ (by omega) _).mono ?_; go_must (rintro e w1 ⟨rfl, hb1⟩; rw [HW.out]))
        go_ret
        exact ⟨ret_bool (by rw [HV.out]), (hb.alloc hsz _).trans (hb1.mono (by simp; omega))⟩
end Go.Proofs.Ytjceppinjeehiaa
