/- The walks of link.plus and slices.IsSorted. -/
import Derived.Test.YtjceppinjeehiaaLinkK
import Derived.Test.YtjceppinjeehiaaKitE
namespace Go.Proofs.Ytjceppinjeehiaa
open Go.RowKit
set_option maxHeartbeats 4000000 in
theorem plus_l (a b c d : Int) (ha : -1000 ≤ a ∧ a ≤ 1000) (hb : -1000 ≤ b ∧ b ≤ 1000) (hc : -1000 ≤ c ∧ c ≤ 1000) (hd : -1000 ≤ d ∧ d ≤ 1000) (w : World) :
    Calls Try.prog 26 #[.agg #[.int .i64 (a), .int .i64 (b)], .agg #[.int .i64 (c), .int .i64 (d)]] w fun e w' => e = .returned (.agg #[.int .i64 (a + c), .int .i64 (b + d)]) ∧ Below w.heap.size w w' := by
  go_enter Try.func26, Try.ntmps26
  go_wp2
  refine bodyPost_ret (v := .agg #[.int .i64 (a + c), .int .i64 (b + d)]) (by simp only [results, Try.results26]; first | (go_simp; done) | (go_simp; rfl)) rfl ⟨rfl, by repeat (first | exact Below.refl _ _ | assumption | (refine Below.drew ?_) | (refine below_drewN ?_ _) | (refine Below.alloc ?_ (by first | (simp; done) | (simp; omega) | omega) _) | (refine Below.setCell ?_ (by first | (simp; done) | (simp; omega) | omega) _) | (refine Below.trans ?_ (Below.mono (by assumption) (by first | (simp; done) | (simp; omega) | omega))))⟩
theorem isNaN_l (a : Int) (w : World) : Calls Try.prog 43 #[.int .i64 a] w fun e w' => e = .returned (.bool false) ∧ w' = w := by
  go_enter Try.func43, Try.ntmps43
  go_wp2
  go_ret
  exact ⟨by simp, rfl⟩
set_option maxHeartbeats 4000000 in
theorem less_l (a b : Int) (w : World) : Calls Try.prog 34 #[.int .i64 a, .int .i64 b] w fun e w' => e = .returned (.bool (decide (a < b))) ∧ w' = w := by
  go_enter Try.func34, Try.ntmps34
  go_wp2_with (go_at_call 43; refine (isNaN_l _ _).mono ?_; go_must (rintro e w1 ⟨rfl, rfl⟩))
  go_ret
  exact ⟨rfl, rfl⟩
def sortedB (l : List Int) : Bool := (List.range (l.length - 1)).all fun j => decide (l.getD j 0 ≤ l.getD (j + 1) 0)
theorem sortedB_iff (l : List Int) : sortedB l = true ↔ ∀ j, j + 1 < l.length → l.getD j 0 ≤ l.getD (j + 1) 0 := by
  simp only [sortedB, List.all_eq_true, List.mem_range, decide_eq_true_eq]
  exact ⟨fun h j hj => h j (by omega), fun h j hj => h j (by omega)⟩
set_option maxHeartbeats 4000000 in
set_option maxRecDepth 100000 in
theorem IsSorted_l (l : List Int) (w : World) (v : Value) (hv : ISl w w.heap.size v l) :
    Calls Try.prog 27 #[v] w fun e w' => e = .returned (.bool (sortedB l)) ∧ Below w.heap.size w w' := by
  obtain ⟨a, cap, g, off, rfl, hm, hx⟩ := hv.at
  unfold maxLen at hm
  have HX := Lib.hid hx; clear hx hv
  go_enter Try.func27, Try.ntmps27
  go_wp2
  go_loopw [3] (fun i wr => ∃ k : Int, k ≤ (l.length : Int) - 1 ∧ -1 ≤ k ∧ i = .int .i64 k ∧ (∀ j, j + 1 < l.length → k ≤ (j : Int) → l.getD j 0 ≤ l.getD (j + 1) 0) ∧ Below w.heap.size w wr) (fun i _ => (intOf i + 1).toNat)
  case atStart => exact ⟨_, by omega, by omega, rfl, fun j h1 h2 => by omega, Below.refl _ _⟩
  case round =>
    obtain ⟨k, hk, hk0, rfl, hs, hb⟩ := hrel
    have HS := Lib.hid hs; clear hs
    by_cases hlt : 0 < k
    rotate_left
    · go_wp2
      go_ret
      refine ⟨ret_bool ?_, hb⟩
      rw [eq_comm, sortedB_iff]
      intro j hj
      exact HS.out j hj (by omega)
    obtain ⟨n, rfl⟩ : ∃ n : Nat, k = ((n + 1 : Nat) : Int) := ⟨(k - 1).toNat, by omega⟩
    obtain ⟨hi, hg, hc⟩ := HX.out (n + 1) (by omega)
    obtain ⟨hi', -, hc'⟩ := HX.out n (by omega)
    have r0 := (hb.cell (p := ⟨g, off + (n + 1), none⟩) hg).trans hc
    have r1 := (hb.cell (p := ⟨g, off + n, none⟩) hg).trans hc'
    clear hc hc'
    have HE := Lib.hid (show l.getD n 0 = l[n] ∧ l.getD (n + 1) 0 = l[n + 1] from ⟨by simp [show n < l.length by omega], by simp [show n + 1 < l.length by omega]⟩)
    generalize l[n + 1] = y at *
    generalize l[n] = x at *
    have e1 : IntKind.i64.wrap (n : Int) = (n : Int) := by rw [IntWalk.i64_in _ (by omega)]
    have e2 : IntKind.i64.wrap ((n : Int) + 1 - 1) = (n : Int) := by rw [IntWalk.i64_in _ (by omega)]; omega
    rw [show (((n + 1 : Nat)) : Int) = (n : Int) + 1 from by omega] at *
    have HK := Lib.hid hk; have HK0 := Lib.hid hk0; clear hk hk0
    by_cases hxy : y < x
    · have HF := Lib.hid (show sortedB l = false by
        rw [← Bool.not_eq_true, sortedB_iff]
        intro h
        have := h n (by have := HK.out; omega)
        rw [HE.out.1, HE.out.2] at this
        omega)
      go_wp2
      go_quiet ((go_at_call 34; exact Calls.quiet_of_same (less_l _ _ _)))
      go_wp2
      go_ret
      exact ⟨ret_bool (by rw [HF.out]), by repeat (first | exact Below.refl _ _ | assumption | (refine Below.drew ?_) | (refine below_drewN ?_ _) | (refine Below.alloc ?_ (by first | (simp; done) | (simp; omega) | omega) _) | (refine Below.setCell ?_ (by first | (simp; done) | (simp; omega) | omega) _) | (refine Below.trans ?_ (Below.mono (by assumption) (by first | (simp; done) | (simp; omega) | omega))))⟩
    · have hxy2 : x ≤ y := by omega
      have HXY := Lib.hid hxy2; clear hxy
      go_wp2
      go_quiet ((go_at_call 34; exact Calls.quiet_of_same (less_l _ _ _)))
      go_wp2
      go_roundw
      case rel =>
        refine ⟨n, by have := HK.out; omega, by omega, by simp, fun j h1 h2 => ?_, by repeat (first | exact Below.refl _ _ | assumption | (refine Below.drew ?_) | (refine below_drewN ?_ _) | (refine Below.alloc ?_ (by first | (simp; done) | (simp; omega) | omega) _) | (refine Below.setCell ?_ (by first | (simp; done) | (simp; omega) | omega) _) | (refine Below.trans ?_ (Below.mono (by assumption) (by first | (simp; done) | (simp; omega) | omega))))⟩
        rcases Nat.lt_or_ge n j with h3 | h3
        · exact HS.out j h1 (by omega)
        · obtain rfl : j = n := by omega
          rw [HE.out.1, HE.out.2]
          have := HXY.out
          omega
      case measure => simp only [intOf]; clear e1 e2; omega
end Go.Proofs.Ytjceppinjeehiaa
