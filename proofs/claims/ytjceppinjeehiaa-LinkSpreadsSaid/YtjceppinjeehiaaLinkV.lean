/- The walks of link.Valid and what it calls. -/
import Derived.Test.YtjceppinjeehiaaLinkX
import Derived.Test.YtjceppinjeehiaaKitD
namespace Go.Proofs.Ytjceppinjeehiaa
open Go.RowKit
theorem between_l (a x b : Int) (w : World) :
    Calls Try.prog 25 #[.int .i64 a, .int .i64 x, .int .i64 b] w fun e w' => e = .returned (.bool (decide (a ≤ x) && decide (x ≤ b))) ∧ w' = w := by
  by_cases h : a ≤ x
  · have h1 : decide (a ≤ x) = true := decide_eq_true h
    rw [h1]
    go_enter Try.func25, Try.ntmps25
    go_wp2
    go_ret
    exact ⟨by simp, rfl⟩
  · have h1 : decide (a ≤ x) = false := decide_eq_false h
    rw [h1]
    go_enter Try.func25, Try.ntmps25
    go_wp2
    go_ret
    exact ⟨by simp, rfl⟩
def nearB (m : Int) (c : C2) : Bool := (decide (-m ≤ c.1) && decide (c.1 ≤ m)) && (decide (-m ≤ c.2) && decide (c.2 ≤ m))
theorem nearB_iff (m : Int) (c : C2) : nearB m c = true ↔ Near m c := by simp [nearB, Near, and_assoc]
set_option maxHeartbeats 4000000 in
theorem ranged_l (c0 c1 m : Int) (hm : 0 ≤ m ∧ m ≤ 1000) (w : World) :
    Calls Try.prog 21 #[.agg #[.int .i64 (c0), .int .i64 (c1)], .int .i64 m] w fun e w' => e = .returned (.bool (nearB m (c0, c1))) ∧ Below w.heap.size w w' := by
  unfold nearB
  have hn : IntKind.i64.wrap (-m) = -m := IntWalk.i64_in _ (by omega)
  cases h : (decide (-m ≤ c0) && decide (c0 ≤ m))
  · have H := Lib.hid h; clear h
    go_enter Try.func21, Try.ntmps21
    go_wp2_with (go_at_call 25; refine (between_l _ _ _ _).mono ?_; go_must (rintro e w1 ⟨rfl, rfl⟩; try rw [H.out]))
    go_ret
    exact ⟨by simp, by repeat (first | exact Below.refl _ _ | assumption | (refine Below.drew ?_) | (refine below_drewN ?_ _) | (refine Below.alloc ?_ (by first | (simp; done) | (simp; omega) | omega) _) | (refine Below.setCell ?_ (by first | (simp; done) | (simp; omega) | omega) _) | (refine Below.trans ?_ (Below.mono (by assumption) (by first | (simp; done) | (simp; omega) | omega))))⟩
  · have H := Lib.hid h; clear h
    go_enter Try.func21, Try.ntmps21
    go_wp2_with (go_at_call 25; refine (between_l _ _ _ _).mono ?_; go_must (rintro e w1 ⟨rfl, rfl⟩; try rw [H.out]))
    go_ret
    exact ⟨by simp, by repeat (first | exact Below.refl _ _ | assumption | (refine Below.drew ?_) | (refine below_drewN ?_ _) | (refine Below.alloc ?_ (by first | (simp; done) | (simp; omega) | omega) _) | (refine Below.setCell ?_ (by first | (simp; done) | (simp; omega) | omega) _) | (refine Below.trans ?_ (Below.mono (by assumption) (by first | (simp; done) | (simp; omega) | omega))))⟩
def badL (c : C2) : Bool := !(nearB 3 c) || (decide (c.1 = 0) && decide (c.2 = 0))
set_option maxHeartbeats 4000000 in
theorem Valid1_l (c0 c1 : Int) (w : World) :
    Calls Try.prog 36 #[.agg #[.int .i64 (c0), .int .i64 (c1)]] w fun e w' => e = .returned (.bool (badL (c0, c1))) ∧ Below w.heap.size w w' := by
  unfold badL
  have heq := fun W => eq_cell c0 c1 0 0 W
  cases h : nearB 3 (c0, c1)
  · have H := Lib.hid h; clear h
    go_enter Try.func36, Try.ntmps36
    go_wp2_with (go_at_call 21; refine (ranged_l _ _ _ (by omega) _).mono ?_; go_must (rintro e w1 ⟨rfl, hb1⟩; obtain ⟨hc1, hf1⟩ := bcell hb1; have hz1 := hb1.size; (try simp at hz1); (first | have z := z10 hz1 | have z := z9 hz1 | have z := z8 hz1 | have z := z7 hz1 | have z := z6 hz1 | have z := z5 hz1 | have z := z4 hz1 | have z := z3 hz1 | have z := z2 hz1 | have z := z1 hz1 | skip); try rw [H.out]))
    go_ret
    exact ⟨by simp, by repeat (first | exact Below.refl _ _ | assumption | (refine Below.drew ?_) | (refine below_drewN ?_ _) | (refine Below.alloc ?_ (by first | (simp; done) | (simp; omega) | omega) _) | (refine Below.setCell ?_ (by first | (simp; done) | (simp; omega) | omega) _) | (refine Below.trans ?_ (Below.mono (by assumption) (by first | (simp; done) | (simp; omega) | omega))))⟩
  · have H := Lib.hid h; clear h
    go_enter Try.func36, Try.ntmps36
    go_wp2_with (go_at_call 21; refine (ranged_l _ _ _ (by omega) _).mono ?_; go_must (rintro e w1 ⟨rfl, hb1⟩; obtain ⟨hc1, hf1⟩ := bcell hb1; have hz1 := hb1.size; (try simp at hz1); (first | have z := z10 hz1 | have z := z9 hz1 | have z := z8 hz1 | have z := z7 hz1 | have z := z6 hz1 | have z := z5 hz1 | have z := z4 hz1 | have z := z3 hz1 | have z := z2 hz1 | have z := z1 hz1 | skip); try rw [H.out]))
    go_ret
    exact ⟨by simp, by repeat (first | exact Below.refl _ _ | assumption | (refine Below.drew ?_) | (refine below_drewN ?_ _) | (refine Below.alloc ?_ (by first | (simp; done) | (simp; omega) | omega) _) | (refine Below.setCell ?_ (by first | (simp; done) | (simp; omega) | omega) _) | (refine Below.trans ?_ (Below.mono (by assumption) (by first | (simp; done) | (simp; omega) | omega))))⟩
set_option maxHeartbeats 4000000 in
set_option maxRecDepth 100000 in
theorem IndexFunc_l (links : List C2) (hl : links.length ≤ 1000) (w : World) (g off : Nat) (v : Value) (hv : CRd w v g off links) :
    Calls Try.prog 44 #[v, .func (.func 36) #[] #[]] w fun e w' => (∃ z : Int, e = .returned (.int .i64 z) ∧ decide (0 ≤ z) = links.any badL) ∧ Below w.heap.size w w' := by
  obtain ⟨a, cap, rfl, hx⟩ := hv.at
  have HX := Lib.hid hx; clear hx hv
  go_enter Try.func44, Try.ntmps44
  go_wp2
  go_loopw [8] (fun i wr => ∃ k : Nat, k ≤ links.length ∧ i = .int .i64 (k : Nat) ∧ (∀ j (h : j < links.length), j < k → badL links[j] = false) ∧ Below w.heap.size w wr) (fun i _ => links.length - (intOf i).toNat)
  case atStart => exact ⟨0, Nat.zero_le _, rfl, fun j _ h => absurd h (by omega), Below.refl _ _⟩
  case round =>
    obtain ⟨k, hk, rfl, hno, hb⟩ := hrel
    have HNO := Lib.hid hno; clear hno
    by_cases hlt : k < links.length
    rotate_left
    · go_wp2
      go_ret
      refine ⟨⟨-1, rfl, ?_⟩, hb⟩
      have : links.any badL = false := List.any_eq_false.2 (fun c hc => by
        obtain ⟨j, hj, rfl⟩ := List.getElem_of_mem hc
        rw [HNO.out j hj (by omega)]
        simp)
      rw [this]; rfl
    obtain ⟨hi, hg, hc0, hc1⟩ := HX.out k hlt
    have r0 := (hb.cell (p := ⟨g, off + 2 * k, none⟩) hg).trans hc0
    have r1 := (hb.cell (p := ⟨g, off + 2 * k + 1, none⟩) hg).trans hc1
    clear hc0 hc1
    cases hbd : badL links[k]
    · have HBD := Lib.hid hbd; clear hbd
      go_wp2_with (go_at_call 36; refine (Valid1_l _ _ _).mono ?_; go_must (rintro e w1 ⟨rfl, hb1⟩; rw [HBD.out]))
      go_roundw
      case rel =>
        refine ⟨k + 1, hlt, by simp, fun j h hj => ?_, hb.trans (hb1.mono hb.size)⟩
        by_cases he : j = k
        · subst he; exact HBD.out
        · exact HNO.out j h (by omega)
      case measure => simp only [intOf]; omega
    · have HBD := Lib.hid hbd; clear hbd
      go_wp2_with (go_at_call 36; refine (Valid1_l _ _ _).mono ?_; go_must (rintro e w1 ⟨rfl, hb1⟩; rw [HBD.out]))
      go_ret
      refine ⟨⟨(k : Int), rfl, ?_⟩, hb.trans (hb1.mono hb.size)⟩
      have : links.any badL = true := List.any_eq_true.2 ⟨_, List.getElem_mem hlt, HBD.out⟩
      rw [this]; simp
end Go.Proofs.Ytjceppinjeehiaa
