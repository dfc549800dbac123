/- The walk of link.compare. -/
import Derived.Test.YtjceppinjeehiaaLinkN
import Derived.Sort.Grow
namespace Go.Proofs.Ytjceppinjeehiaa
open Go.RowKit Go.Sort
def cmpI (a b : Int) : Int := if a < b then -1 else if b < a then 1 else 0
theorem cmpI_l (a b : Int) (w : World) : Calls Try.prog 41 #[.int .i64 a, .int .i64 b] w fun e w' => e = .returned (.int .i64 (cmpI a b)) ∧ w' = w := by
  unfold cmpI
  by_cases h1 : a < b
  · rw [if_pos h1]
    go_enter Try.func41, Try.ntmps41
    go_wp2_with (go_at_call 43; refine (isNaN_l _ _).mono ?_; go_must (rintro e w1 ⟨rfl, rfl⟩))
    go_ret
    exact ⟨rfl, rfl⟩
  · rw [if_neg h1]
    have h1' : b ≤ a := by omega
    clear h1
    by_cases h2 : b < a
    · rw [if_pos h2]
      go_enter Try.func41, Try.ntmps41
      go_wp2_with (go_at_call 43; refine (isNaN_l _ _).mono ?_; go_must (rintro e w1 ⟨rfl, rfl⟩))
      go_ret
      exact ⟨rfl, rfl⟩
    · rw [if_neg h2]
      obtain rfl : a = b := by omega
      clear h2 h1'
      go_enter Try.func41, Try.ntmps41
      go_wp2_with (go_at_call 43; refine (isNaN_l _ _).mono ?_; go_must (rintro e w1 ⟨rfl, rfl⟩))
      go_ret
      exact ⟨rfl, rfl⟩
set_option maxHeartbeats 4000000 in
theorem or2_l (a b : Int) (g cap : Nat) (w : World) (h0 : w.cell? ⟨g, 0, none⟩ = some (.int .i64 a)) (h1 : w.cell? ⟨g, 1, none⟩ = some (.int .i64 b)) :
    Calls Try.prog 40 #[.slice (some ⟨g, 0, none⟩) 2 cap] w fun e w' => e = .returned (.int .i64 (if a = 0 then b else a)) ∧ w' = w := by
  by_cases ha : a = 0
  · subst ha
    by_cases hb : b = 0
    · subst hb
      go_enter Try.func40, Try.ntmps40
      go_wp2
      refine wp_loop_rounds 3 ?_
      rw [rounds_succ]
      go_wp2
      rw [rounds_succ]
      go_wp2
      rw [rounds_succ]
      go_wp2
      go_ret
      exact ⟨rfl, rfl⟩
    · have hb2 : (b != 0) = true := by simpa using hb
      go_enter Try.func40, Try.ntmps40
      go_wp2
      refine wp_loop_rounds 2 ?_
      rw [rounds_succ]
      go_wp2
      rw [rounds_succ]
      go_wp2
      go_ret
      exact ⟨rfl, rfl⟩
  · have ha2 : (a != 0) = true := by simpa using ha
    rw [if_neg ha]
    go_enter Try.func40, Try.ntmps40
    go_wp2
    refine wp_loop_rounds 1 ?_
    rw [rounds_succ]
    go_wp2
    go_ret
    exact ⟨rfl, rfl⟩
def cmpC (x y : C2) : Int := if cmpI x.1 y.1 = 0 then cmpI x.2 y.2 else cmpI x.1 y.1
set_option maxHeartbeats 4000000 in
theorem compare_l (x y : C2) (W : World) : Calls Try.prog 31 #[.agg #[.int .i64 (x.1), .int .i64 (x.2)], .agg #[.int .i64 (y.1), .int .i64 (y.2)]] W fun e w' => e = .returned (.int .i64 (cmpC x y)) ∧ ∃ q os', w' = grow (W.drewN q) os' := by
  have HE := Lib.hid (show cmpC x y = if cmpI x.1 y.1 = 0 then cmpI x.2 y.2 else cmpI x.1 y.1 from rfl)
  go_enter Try.func31, Try.ntmps31
  go_wp2
  (refine stilld 10 (by kernel_rfl) (by kernel_rfl) ?_; simp only [List.take_succ_cons, List.take_zero, List.drop_succ_cons, List.drop_zero]; repeat (first | still_step | (refine wpStill_step (fun K hK => ?_); go_simp; refine ⟨_, (by exact cmpI_l _ _ _), hK _ ?_⟩; clear hK K)); (try refine wpStill_nil ?_))
  generalize cmpI x.1 y.1 = a at *
  generalize cmpI x.2 y.2 = b at *
  by_cases ha : a = 0
  · subst ha
    go_wp2_with (go_at_call 40; refine (or2_l 0 b _ _ _ (by go_simp) (by go_simp)).mono ?_; go_must (rintro e w1 ⟨rfl, rfl⟩))
    go_ret
    refine ⟨ret_int (by rw [HE.out]; simp), 1, #[.cells #[.int .i64 x.1, .int .i64 x.2] 24, .cells #[.int .i64 y.1, .int .i64 y.2] 24, .cells #[.int .i64 0, .int .i64 b] 3], ?_⟩
    simp only [alloc_eq_grow, grow_grow]
    rfl
  · go_wp2_with (go_at_call 40; refine (or2_l a b _ _ _ (by go_simp) (by go_simp)).mono ?_; go_must (rintro e w1 ⟨rfl, rfl⟩; rw [if_neg ha]))
    go_ret
    refine ⟨ret_int (by rw [HE.out, if_neg ha]), 1, #[.cells #[.int .i64 x.1, .int .i64 x.2] 24, .cells #[.int .i64 y.1, .int .i64 y.2] 24, .cells #[.int .i64 a, .int .i64 b] 3], ?_⟩
    simp only [alloc_eq_grow, grow_grow]
    rfl
end Go.Proofs.Ytjceppinjeehiaa
