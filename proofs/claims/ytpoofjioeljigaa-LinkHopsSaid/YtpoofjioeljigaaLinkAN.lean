/- The walk of the reference's SameInts. -/
import Derived.Test.YtpoofjioeljigaaKitE
namespace Go.Proofs.Ytpoofjioeljigaa
open Go.RowKit
set_option maxHeartbeats 4000000 in
set_option maxRecDepth 100000 in
theorem sameInts_l (l m : List Int) (w : World) (v u : Value) (hv : ISl w w.heap.size v l) (hu : ISl w w.heap.size u m) :
    Calls Try.prog 43 #[v, u] w fun e w' => e = .returned (.bool (decide (l = m))) ∧ Below w.heap.size w w' := by
  obtain ⟨a, cap, g, off, rfl, hm, hx⟩ := hv.at
  obtain ⟨a2, cap2, g2, off2, rfl, hm2, hx2⟩ := hu.at
  unfold maxLen at hm hm2
  have HX := Lib.hid hx; have HX2 := Lib.hid hx2; clear hx hx2 hv hu
  by_cases hlen : l.length = m.length
  rotate_left
  · have hne : ¬ ((l.length : Int) = (m.length : Int)) := by omega
    have HF := Lib.hid (show decide (l = m) = false by rw [decide_eq_false_iff_not]; intro e; exact hlen (by rw [e]))
    clear hlen
    go_enter Try.func43, Try.ntmps43
    go_wp2
    go_ret
    exact ⟨ret_bool HF.out.symm, by repeat (first | exact Below.refl _ _ | assumption | (refine Below.drew ?_) | (refine below_drewN ?_ _) | (refine Below.alloc ?_ (by first | (simp; done) | (simp; omega) | omega) _) | (refine Below.setCell ?_ (by first | (simp; done) | (simp; omega) | omega) _) | (refine Below.trans ?_ (Below.mono (by assumption) (by first | (simp; done) | (simp; omega) | omega))))⟩
  have HLEN := Lib.hid hlen
  rw [← hlen]
  clear hlen
  go_enter Try.func43, Try.ntmps43
  go_wp2
  go_loopw [13] (fun i wr => ∃ k : Nat, k ≤ l.length ∧ i = .int .i64 (k : Nat) ∧ (∀ j, j < k → l[j]? = m[j]?) ∧ Below w.heap.size w wr) (fun i _ => l.length - (intOf i).toNat)
  case atStart => exact ⟨0, by omega, rfl, fun j h => absurd h (by omega), Below.refl _ _⟩
  case round =>
    obtain ⟨k, hk, rfl, hs, hb⟩ := hrel
    have HS := Lib.hid hs; clear hs
    by_cases hlt : k < l.length
    rotate_left
    · obtain rfl : k = l.length := by omega
      have HT := Lib.hid (show decide (l = m) = true by
        rw [decide_eq_true_eq]
        refine List.ext_getElem? (fun j => ?_)
        rcases Nat.lt_or_ge j l.length with h | h
        · exact HS.out j h
        · rw [List.getElem?_eq_none h, List.getElem?_eq_none (by rw [← HLEN.out]; exact h)])
      go_wp2
      go_ret
      exact ⟨ret_bool HT.out.symm, hb⟩
    have hlt2 : k < m.length := by rw [← HLEN.out]; exact hlt
    obtain ⟨hi, hg, hc⟩ := HX.out k hlt
    obtain ⟨hi2, hg2, hc2⟩ := HX2.out k hlt2
    rw [← HLEN.out] at hi2
    have r0 := (hb.cell (p := ⟨g, off + k, none⟩) hg).trans hc
    have r1 := (hb.cell (p := ⟨g2, off2 + k, none⟩) hg2).trans hc2
    have HE := Lib.hid (show l[k]? = some l[k] ∧ m[k]? = some m[k] by simp [hlt, hlt2])
    clear hc hc2
    generalize l[k] = x at *
    generalize m[k] = y at *
    by_cases hxy : x = y
    · subst hxy
      clear hlt2
      go_wp2
      go_quiet (fail)
      go_wp2
      go_roundw
      case rel =>
        refine ⟨k + 1, by omega, by simp, fun j hj => ?_, by repeat (first | exact Below.refl _ _ | assumption | (refine Below.drew ?_) | (refine below_drewN ?_ _) | (refine Below.alloc ?_ (by first | (simp; done) | (simp; omega) | omega) _) | (refine Below.setCell ?_ (by first | (simp; done) | (simp; omega) | omega) _) | (refine Below.trans ?_ (Below.mono (by assumption) (by first | (simp; done) | (simp; omega) | omega))))⟩
        rcases Nat.lt_or_ge j k with h3 | h3
        · exact HS.out j h3
        · obtain rfl : j = k := by omega
          rw [HE.out.1, HE.out.2]
      case measure => simp only [intOf]; omega
    · have HF := Lib.hid (show decide (l = m) = false by
        rw [decide_eq_false_iff_not]
        intro e
        have h1 := HE.out.1
        rw [e, HE.out.2] at h1
        injection h1 with h1
        exact hxy h1.symm)
      clear hlt2
      go_wp2
      go_quiet (fail)
      go_wp2
      go_ret
      exact ⟨ret_bool HF.out.symm, by repeat (first | exact Below.refl _ _ | assumption | (refine Below.drew ?_) | (refine below_drewN ?_ _) | (refine Below.alloc ?_ (by first | (simp; done) | (simp; omega) | omega) _) | (refine Below.setCell ?_ (by first | (simp; done) | (simp; omega) | omega) _) | (refine Below.trans ?_ (Below.mono (by assumption) (by first | (simp; done) | (simp; omega) | omega))))⟩
end Go.Proofs.Ytpoofjioeljigaa
