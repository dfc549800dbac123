/- Package mach: between, needs, source, operation, Valid: their walks. -/
import Derived.Test.YtbjbdochffocoaaMachC
import Derived.Sort.WalkA
namespace Go.Proofs.Ytbjbdochffocoaa
open Go.RowKit
set_option linter.unusedVariables false
theorem mbetween_l (lo n hi : Int) (w : World) :
    Calls Try.prog 48 #[.int .i64 lo, .int .i64 n, .int .i64 hi] w fun e w' => e = .returned (.bool (btwM lo n hi)) ∧ w' = w := by
  by_cases h1 : lo ≤ n <;> by_cases h2 : n ≤ hi
  all_goals
    go_enter Try.func48, Try.ntmps48
    go_wp2
    go_ret
    exact ⟨ret_bool (by simp only [btwM]; rw [Bool.eq_iff_iff]; simp; try omega), rfl⟩
/-- What a function value makes of values that are small. -/
def Does (fn : Nat) (k : Int) : Prop := (∀ a b c : Int, (0 ≤ a ∧ a ≤ 10006) → (0 ≤ b ∧ b ≤ 10006) → (0 ≤ c ∧ c ≤ 10006) → ∀ W : World, Calls Try.prog fn #[.int .i64 a, .int .i64 b, .int .i64 c] W fun e w' => e = .returned (.int .i64 (doK k a b c)) ∧ w' = W) ∧ ∀ args w, (callFunc fn args).run Try.prog w = .ok (.enter fn args) w
def NeedR (k : Int) (e : Ending) : Prop := if needK k = 0 then e = .returned (.tuple #[.int .i64 0, .nilFunc]) else ∃ fn, e = .returned (.tuple #[.int .i64 (needK k), .func (.func fn) #[] #[]]) ∧ Does fn k
theorem prod_bd {a b : Int} (h1 : 0 ≤ a ∧ a ≤ 10006) (h2 : 0 ≤ b ∧ b ≤ 10006) : 0 ≤ a * b ∧ a * b ≤ 100120036 := by
  have := Int.mul_nonneg h1.1 h2.1
  have h3 := Int.mul_nonneg (show 0 ≤ 10006 - a by omega) h2.1
  rw [Int.sub_mul] at h3
  omega
theorem does1 : Does 68 1 := by
  refine ⟨fun a b c ha hb hc W => ?_, enters_of Try.func68 (by kernel_rfl) rfl⟩
  go_enter Try.func68, Try.ntmps68
  go_wp2
  go_ret
  exact ⟨rfl, rfl⟩
theorem does2 : Does 69 2 := by
  refine ⟨fun a b c ha hb hc W => ?_, enters_of Try.func69 (by kernel_rfl) rfl⟩
  obtain ⟨a1, a2⟩ := ha; obtain ⟨b1, b2⟩ := hb
  go_enter Try.func69, Try.ntmps69
  go_wp2
  go_ret
  exact ⟨rfl, rfl⟩
theorem does3 : Does 70 3 := by
  refine ⟨fun a b c ha hb hc W => ?_, enters_of Try.func70 (by kernel_rfl) rfl⟩
  obtain ⟨a1, a2⟩ := ha; obtain ⟨b1, b2⟩ := hb
  go_enter Try.func70, Try.ntmps70
  go_wp2
  go_ret
  exact ⟨rfl, rfl⟩
theorem does4 : Does 71 4 := by
  refine ⟨fun a b c ha hb hc W => ?_, enters_of Try.func71 (by kernel_rfl) rfl⟩
  obtain ⟨p1, p2⟩ := prod_bd ha hb
  go_enter Try.func71, Try.ntmps71
  go_wp2
  go_ret
  exact ⟨rfl, rfl⟩
theorem does5 : Does 72 5 := by
  refine ⟨fun a b c ha hb hc W => ?_, enters_of Try.func72 (by kernel_rfl) rfl⟩
  obtain ⟨p1, p2⟩ := prod_bd hb hc
  obtain ⟨a1, a2⟩ := ha
  go_enter Try.func72, Try.ntmps72
  go_wp2
  go_ret
  exact ⟨rfl, rfl⟩
theorem does6 : Does 73 6 := by
  refine ⟨fun a b c ha hb hc W => ?_, enters_of Try.func73 (by kernel_rfl) rfl⟩
  go_enter Try.func73, Try.ntmps73
  go_wp2
  go_ret
  exact ⟨ret_int (by simp only [doK]; simp; try omega), rfl⟩
theorem does7 : Does 74 7 := by
  refine ⟨fun a b c ha hb hc W => ?_, enters_of Try.func74 (by kernel_rfl) rfl⟩
  go_enter Try.func74, Try.ntmps74
  go_wp2
  go_ret
  exact ⟨ret_int (by simp only [doK]; simp; try omega), rfl⟩
theorem need_cases {k : Int} (h : needK k ≠ 0) : k = 1 ∨ k = 2 ∨ k = 3 ∨ k = 4 ∨ k = 5 ∨ k = 6 ∨ k = 7 := by
  unfold needK at h
  repeat' split at h
  all_goals omega
set_option maxHeartbeats 4000000 in
theorem needs_l (k : Int) (w : World) : Calls Try.prog 56 #[.int .i64 k] w fun e w' => NeedR k e ∧ w' = w := by
  by_cases h : needK k = 0
  · have hk : k ≤ 0 ∨ 8 ≤ k := by
      unfold needK at h
      repeat' split at h
      all_goals omega
    have h1 : (k == 1) = false := by rw [beq_eq_false_iff_ne]; omega
    have h2 : (k == 2) = false := by rw [beq_eq_false_iff_ne]; omega
    have h3 : (k == 3) = false := by rw [beq_eq_false_iff_ne]; omega
    have h4 : (k == 4) = false := by rw [beq_eq_false_iff_ne]; omega
    have h5 : (k == 5) = false := by rw [beq_eq_false_iff_ne]; omega
    have h6 : (k == 6) = false := by rw [beq_eq_false_iff_ne]; omega
    have h7 : (k == 7) = false := by rw [beq_eq_false_iff_ne]; omega
    have H := Lib.hid (show NeedR k (.returned (.tuple #[.int .i64 0, .nilFunc])) by unfold NeedR; rw [if_pos h])
    clear h hk
    go_enter Try.func56, Try.ntmps56
    go_wp2
    go_ret2
    exact ⟨H.out, rfl⟩
  · rcases need_cases h with rfl | rfl | rfl | rfl | rfl | rfl | rfl
    all_goals clear h
    · have H := Lib.hid (show NeedR 1 (.returned (.tuple #[.int .i64 1, .func (.func 68) #[] #[]])) from ⟨_, rfl, does1⟩)
      go_enter Try.func56, Try.ntmps56
      go_wp2
      go_ret2
      exact ⟨H.out, rfl⟩
    · have H := Lib.hid (show NeedR 2 (.returned (.tuple #[.int .i64 2, .func (.func 69) #[] #[]])) from ⟨_, rfl, does2⟩)
      go_enter Try.func56, Try.ntmps56
      go_wp2
      go_ret2
      exact ⟨H.out, rfl⟩
    · have H := Lib.hid (show NeedR 3 (.returned (.tuple #[.int .i64 2, .func (.func 70) #[] #[]])) from ⟨_, rfl, does3⟩)
      go_enter Try.func56, Try.ntmps56
      go_wp2
      go_ret2
      exact ⟨H.out, rfl⟩
    · have H := Lib.hid (show NeedR 4 (.returned (.tuple #[.int .i64 2, .func (.func 71) #[] #[]])) from ⟨_, rfl, does4⟩)
      go_enter Try.func56, Try.ntmps56
      go_wp2
      go_ret2
      exact ⟨H.out, rfl⟩
    · have H := Lib.hid (show NeedR 5 (.returned (.tuple #[.int .i64 3, .func (.func 72) #[] #[]])) from ⟨_, rfl, does5⟩)
      go_enter Try.func56, Try.ntmps56
      go_wp2
      go_ret2
      exact ⟨H.out, rfl⟩
    · have H := Lib.hid (show NeedR 6 (.returned (.tuple #[.int .i64 2, .func (.func 73) #[] #[]])) from ⟨_, rfl, does6⟩)
      go_enter Try.func56, Try.ntmps56
      go_wp2
      go_ret2
      exact ⟨H.out, rfl⟩
    · have H := Lib.hid (show NeedR 7 (.returned (.tuple #[.int .i64 2, .func (.func 74) #[] #[]])) from ⟨_, rfl, does7⟩)
      go_enter Try.func56, Try.ntmps56
      go_wp2
      go_ret2
      exact ⟨H.out, rfl⟩
/-- What needs returns first. -/
theorem needs0_l (k : Int) (w : World) : Calls Try.prog 56 #[.int .i64 k] w fun e w' => (∃ fv, e = .returned (.tuple #[.int .i64 (needK k), fv])) ∧ w' = w :=
  (needs_l k w).mono fun e w' ⟨h, hw⟩ => ⟨by
    unfold NeedR at h
    by_cases hk : needK k = 0
    · rw [if_pos hk] at h; exact ⟨_, by rw [h, hk]⟩
    · rw [if_neg hk] at h; obtain ⟨fn, he, -⟩ := h; exact ⟨_, he⟩, hw⟩
set_option maxHeartbeats 4000000 in
theorem source_l (n : Int) (hn : 0 ≤ n ∧ n ≤ 1000000000000) (s : SrcD) (w : World) : Calls Try.prog 61 #[.agg #[.int .i64 s.op, .int .i64 s.val, .int .i64 s.hops], .int .i64 n] w fun e w' => e = .returned (.bool (srcB n s)) ∧ Below w.heap.size w w' := by
  obtain ⟨op, val, hops⟩ := s
  obtain ⟨hn0, hn1⟩ := hn
  have E := Lib.hid (show srcB n ⟨op, val, hops⟩ = if op = -1 then btwM 0 val 10006 && decide (hops = 0) else btwM 0 op (n - 1) && decide (val = 0) && btwM 0 hops 12 from rfl)
  by_cases h : op = -1
  · subst h
    rw [if_pos rfl] at E
    cases hA : btwM 0 val 10006
    all_goals
      have HA := Lib.hid hA; clear hA
      by_cases hh : hops = 0
      all_goals
        have HH := Lib.hid (show decide (hops = 0) = decide (hops = 0) from rfl)
        have HQ := Lib.hid hh
        have hz : (hops == 0) = decide (hops = 0) := rfl
        (try rw [decide_eq_true hh] at hz); (try rw [decide_eq_false hh] at hz)
        clear hh
        go_enter Try.func61, Try.ntmps61
        go_wp2_with (go_at_call 48; refine (mbetween_l _ _ _ _).mono ?_; go_must (rintro e w1 ⟨rfl, rfl⟩; rw [HA.out]))
        go_ret
        exact ⟨ret_bool (by rw [E.out, HA.out]; have := HQ.out; simp [this]), by repeat (first | exact Below.refl _ _ | assumption | (refine Below.drew ?_) | (refine below_drewN ?_ _) | (refine Below.alloc ?_ (by first | (simp; done) | (simp; omega) | omega) _) | (refine Below.setCell ?_ (by first | (simp; done) | (simp; omega) | omega) _) | (refine Below.trans ?_ (Below.mono (by assumption) (by first | (simp; done) | (simp; omega) | omega))))⟩
  · rw [if_neg h] at E
    have hz0 : (op == -1) = false := by rw [beq_eq_false_iff_ne]; exact h
    clear h
    cases hA : btwM 0 op (n - 1)
    all_goals
      have HA := Lib.hid hA; clear hA
      cases hB : btwM 0 hops 12
      all_goals
        have HB := Lib.hid hB; clear hB
        by_cases hh : val = 0
        all_goals
          have HQ := Lib.hid hh
          have hz : (val == 0) = decide (val = 0) := rfl
          (try rw [decide_eq_true hh] at hz); (try rw [decide_eq_false hh] at hz)
          clear hh
          go_enter Try.func61, Try.ntmps61
          go_wp2_with (go_at_call 48; refine (mbetween_l _ _ _ _).mono ?_; go_must (rintro e w1 ⟨rfl, rfl⟩; first | rw [HA.out] | rw [HB.out]))
          go_ret
          exact ⟨ret_bool (by rw [E.out, HA.out, HB.out]; have := HQ.out; simp [this]), by repeat (first | exact Below.refl _ _ | assumption | (refine Below.drew ?_) | (refine below_drewN ?_ _) | (refine Below.alloc ?_ (by first | (simp; done) | (simp; omega) | omega) _) | (refine Below.setCell ?_ (by first | (simp; done) | (simp; omega) | omega) _) | (refine Below.trans ?_ (Below.mono (by assumption) (by first | (simp; done) | (simp; omega) | omega))))⟩
end Go.Proofs.Ytbjbdochffocoaa
