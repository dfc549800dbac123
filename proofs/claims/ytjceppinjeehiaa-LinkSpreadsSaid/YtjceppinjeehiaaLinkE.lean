/- The walk of the reference's within. -/
import Derived.Test.YtjceppinjeehiaaLinkZ
namespace Go.Proofs.Ytjceppinjeehiaa
open Go.RowKit
set_option maxHeartbeats 4000000 in
theorem within_l (c0 c1 m : Int) (hm : 0 ≤ m ∧ m ≤ 1000) (w : World) :
    Calls Try.prog 42 #[.agg #[.int .i64 (c0), .int .i64 (c1)], .int .i64 m] w fun e w' => e = .returned (.bool (nearB m (c0, c1))) ∧ Below w.heap.size w w' := by
  unfold nearB
  have hn : IntKind.i64.wrap (-m) = -m := IntWalk.i64_in _ (by omega)
  by_cases h1 : -m ≤ c0
  · by_cases h2 : c0 ≤ m
    · by_cases h3 : -m ≤ c1
      · go_enter Try.func42, Try.ntmps42
        go_wp2
        go_ret
        exact ⟨by simp [h1, h2, h3], by repeat (first | exact Below.refl _ _ | assumption | (refine Below.drew ?_) | (refine below_drewN ?_ _) | (refine Below.alloc ?_ (by first | (simp; done) | (simp; omega) | omega) _) | (refine Below.setCell ?_ (by first | (simp; done) | (simp; omega) | omega) _) | (refine Below.trans ?_ (Below.mono (by assumption) (by first | (simp; done) | (simp; omega) | omega))))⟩
      · go_enter Try.func42, Try.ntmps42
        go_wp2
        go_ret
        exact ⟨by simp; omega, by repeat (first | exact Below.refl _ _ | assumption | (refine Below.drew ?_) | (refine below_drewN ?_ _) | (refine Below.alloc ?_ (by first | (simp; done) | (simp; omega) | omega) _) | (refine Below.setCell ?_ (by first | (simp; done) | (simp; omega) | omega) _) | (refine Below.trans ?_ (Below.mono (by assumption) (by first | (simp; done) | (simp; omega) | omega))))⟩
    · go_enter Try.func42, Try.ntmps42
      go_wp2
      go_ret
      exact ⟨by simp; omega, by repeat (first | exact Below.refl _ _ | assumption | (refine Below.drew ?_) | (refine below_drewN ?_ _) | (refine Below.alloc ?_ (by first | (simp; done) | (simp; omega) | omega) _) | (refine Below.setCell ?_ (by first | (simp; done) | (simp; omega) | omega) _) | (refine Below.trans ?_ (Below.mono (by assumption) (by first | (simp; done) | (simp; omega) | omega))))⟩
  · go_enter Try.func42, Try.ntmps42
    go_wp2
    go_ret
    exact ⟨by simp; omega, by repeat (first | exact Below.refl _ _ | assumption | (refine Below.drew ?_) | (refine below_drewN ?_ _) | (refine Below.alloc ?_ (by first | (simp; done) | (simp; omega) | omega) _) | (refine Below.setCell ?_ (by first | (simp; done) | (simp; omega) | omega) _) | (refine Below.trans ?_ (Below.mono (by assumption) (by first | (simp; done) | (simp; omega) | omega))))⟩
end Go.Proofs.Ytjceppinjeehiaa
