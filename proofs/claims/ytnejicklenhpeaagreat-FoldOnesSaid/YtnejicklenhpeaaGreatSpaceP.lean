/- The walks of package space's axis, newFold, Valid and of the reference's flat, axis, Valid. The walks of slices.IndexFunc with axis's test, of space.axis and of the reference's flat and axis. The walks of space.axis: what it returns for what is a direction and for what is none. The walks of the reference's flat, Flat and axis. Conditions: none. -/
import Derived.Test.YtnejicklenhpeaaGreatKitA
namespace Go.Proofs.YtnejicklenhpeaaGreat
open Go.RowKit
def btw (lo n hi : Int) : Bool := decide (lo ≤ n ∧ n ≤ hi)
theorem btw_out {lo n hi : Int} (h : btw lo n hi = true) : lo ≤ n ∧ n ≤ hi := by simpa [btw] using h
def oneB (x : Int) : Bool := decide (x = 1 ∨ x = -1)
def flatB (n x0 x1 x2 m : Int) : Bool := btw (-m) x0 m && btw (-m) x1 m && (decide (1 < n) || decide (x1 = 0)) && btw (-m) x2 m && (decide (2 < n) || decide (x2 = 0))
def findK (n x0 x1 x2 : Int) : Int := if oneB x0 then 0 else if decide (1 < n) && oneB x1 then 1 else if decide (2 < n) && oneB x2 then 2 else -1
theorem between_any (lo n hi : Int) (w : World) :
    Calls Tryz.prog 107 #[.int .i64 (lo), .int .i64 (n), .int .i64 (hi)] w fun e w' => e = .returned (.bool (btw lo n hi)) ∧ w' = w := by
  by_cases h1 : lo ≤ n <;> by_cases h2 : n ≤ hi
  all_goals
    go_enter Tryz.func107, Tryz.ntmps107
    go_wp2
    go_ret
    exact ⟨ret_bool (by simp only [btw]; rw [Bool.eq_iff_iff]; simp; try omega), rfl⟩
theorem inRange_any (n m : Int) (w : World) (hm : 0 ≤ m ∧ m ≤ 100000) :
    Calls Tryz.prog 95 #[.int .i64 (n), .int .i64 (m)] w fun e w' => e = .returned (.bool (btw (-m) n m)) ∧ w' = w := by
  have e1 : wrap64 (-m) = -m := IntWalk.wrap64_in _ ⟨by omega, by omega⟩
  by_cases h1 : -m ≤ n <;> by_cases h2 : n ≤ m
  all_goals
    go_enter Tryz.func95, Tryz.ntmps95
    go_wp2
    go_ret
    exact ⟨ret_bool (by simp only [btw]; rw [Bool.eq_iff_iff]; simp; try omega), rfl⟩
theorem one_any (n : Int) (w : World) :
    Calls Tryz.prog 213 #[.int .i64 (n)] w fun e w' => e = .returned (.bool (oneB n)) ∧ w' = w := by
  by_cases h1 : n = 1
  · subst h1
    go_enter Tryz.func213, Tryz.ntmps213
    go_wp2
    go_ret
    exact ⟨ret_bool (by simp [oneB]), rfl⟩
  by_cases h2 : n = -1
  · subst h2
    go_enter Tryz.func213, Tryz.ntmps213
    go_wp2
    go_ret
    exact ⟨ret_bool (by simp [oneB]), rfl⟩
  · have h3 : (n == 1) = false := by simpa using h1
    have h4 : (n == -1) = false := by simpa using h2
    go_enter Tryz.func213, Tryz.ntmps213
    go_wp2
    go_ret
    exact ⟨ret_bool (by simp [oneB, h1, h2]), rfl⟩
theorem ix3_0 (a b c : Value) (w : World) : (Instr.index 29 (.agg #[a, b, c]) (.int .i64 0)).run Tryz.prog w = .ok a w := by kernel_rfl
theorem ix3_1 (a b c : Value) (w : World) : (Instr.index 29 (.agg #[a, b, c]) (.int .i64 1)).run Tryz.prog w = .ok b w := by kernel_rfl
theorem ix3_2 (a b c : Value) (w : World) : (Instr.index 29 (.agg #[a, b, c]) (.int .i64 2)).run Tryz.prog w = .ok c w := by kernel_rfl
end Go.Proofs.YtnejicklenhpeaaGreat
namespace Go.Proofs.YtnejicklenhpeaaGreat
open Go.RowKit
set_option maxHeartbeats 1000000 in
set_option maxRecDepth 100000 in
theorem index1 (u0 : Int) (b : Nat) (cap : Nat) (w : World) (c0 : w.cell? ⟨b, 0, none⟩ = some (.int .i64 u0)) :
    Calls Tryz.prog 212 #[.slice (some ⟨b, 0, none⟩) 1 cap, .func (.func 213) #[] #[]] w fun e w' => e = .returned (.int .i64 (findK 1 u0 0 0)) ∧ w' = w := by
  rcases h0 : oneB u0 with _ | _
  rotate_left
  · go_enter Tryz.func212, Tryz.ntmps212
    go_wp2_with (go_at_call 213; refine (one_any _ _).mono ?_; go_must (rintro e w1 ⟨rfl, rfl⟩))
    refine wp_loop_rounds 2 ?_
    repeat (rw [rounds_succ]; go_wp2_with (go_at_call 213; refine (one_any _ _).mono ?_; go_must (rintro e w1 ⟨rfl, rfl⟩)))
    go_ret
    exact ⟨ret_int (by simp [findK, *]), rfl⟩
  go_enter Tryz.func212, Tryz.ntmps212
  go_wp2_with (go_at_call 213; refine (one_any _ _).mono ?_; go_must (rintro e w1 ⟨rfl, rfl⟩))
  refine wp_loop_rounds 2 ?_
  repeat (rw [rounds_succ]; go_wp2_with (go_at_call 213; refine (one_any _ _).mono ?_; go_must (rintro e w1 ⟨rfl, rfl⟩)))
  go_ret
  exact ⟨ret_int (by simp [findK, *]), rfl⟩
set_option maxHeartbeats 1000000 in
set_option maxRecDepth 100000 in
theorem index2 (u0 u1 : Int) (b : Nat) (cap : Nat) (w : World) (c0 : w.cell? ⟨b, 0, none⟩ = some (.int .i64 u0)) (c1 : w.cell? ⟨b, 1, none⟩ = some (.int .i64 u1)) :
    Calls Tryz.prog 212 #[.slice (some ⟨b, 0, none⟩) 2 cap, .func (.func 213) #[] #[]] w fun e w' => e = .returned (.int .i64 (findK 2 u0 u1 0)) ∧ w' = w := by
  rcases h0 : oneB u0 with _ | _
  rotate_left
  · go_enter Tryz.func212, Tryz.ntmps212
    go_wp2_with (go_at_call 213; refine (one_any _ _).mono ?_; go_must (rintro e w1 ⟨rfl, rfl⟩))
    refine wp_loop_rounds 3 ?_
    repeat (rw [rounds_succ]; go_wp2_with (go_at_call 213; refine (one_any _ _).mono ?_; go_must (rintro e w1 ⟨rfl, rfl⟩)))
    go_ret
    exact ⟨ret_int (by simp [findK, *]), rfl⟩
  rcases h1 : oneB u1 with _ | _
  rotate_left
  · go_enter Tryz.func212, Tryz.ntmps212
    go_wp2_with (go_at_call 213; refine (one_any _ _).mono ?_; go_must (rintro e w1 ⟨rfl, rfl⟩))
    refine wp_loop_rounds 3 ?_
    repeat (rw [rounds_succ]; go_wp2_with (go_at_call 213; refine (one_any _ _).mono ?_; go_must (rintro e w1 ⟨rfl, rfl⟩)))
    go_ret
    exact ⟨ret_int (by simp [findK, *]), rfl⟩
  go_enter Tryz.func212, Tryz.ntmps212
  go_wp2_with (go_at_call 213; refine (one_any _ _).mono ?_; go_must (rintro e w1 ⟨rfl, rfl⟩))
  refine wp_loop_rounds 3 ?_
  repeat (rw [rounds_succ]; go_wp2_with (go_at_call 213; refine (one_any _ _).mono ?_; go_must (rintro e w1 ⟨rfl, rfl⟩)))
  go_ret
  exact ⟨ret_int (by simp [findK, *]), rfl⟩
set_option maxHeartbeats 1000000 in
set_option maxRecDepth 100000 in
theorem index3 (u0 u1 u2 : Int) (b : Nat) (cap : Nat) (w : World) (c0 : w.cell? ⟨b, 0, none⟩ = some (.int .i64 u0)) (c1 : w.cell? ⟨b, 1, none⟩ = some (.int .i64 u1)) (c2 : w.cell? ⟨b, 2, none⟩ = some (.int .i64 u2)) :
    Calls Tryz.prog 212 #[.slice (some ⟨b, 0, none⟩) 3 cap, .func (.func 213) #[] #[]] w fun e w' => e = .returned (.int .i64 (findK 3 u0 u1 u2)) ∧ w' = w := by
  rcases h0 : oneB u0 with _ | _
  rotate_left
  · go_enter Tryz.func212, Tryz.ntmps212
    go_wp2_with (go_at_call 213; refine (one_any _ _).mono ?_; go_must (rintro e w1 ⟨rfl, rfl⟩))
    refine wp_loop_rounds 4 ?_
    repeat (rw [rounds_succ]; go_wp2_with (go_at_call 213; refine (one_any _ _).mono ?_; go_must (rintro e w1 ⟨rfl, rfl⟩)))
    go_ret
    exact ⟨ret_int (by simp [findK, *]), rfl⟩
  rcases h1 : oneB u1 with _ | _
  rotate_left
  · go_enter Tryz.func212, Tryz.ntmps212
    go_wp2_with (go_at_call 213; refine (one_any _ _).mono ?_; go_must (rintro e w1 ⟨rfl, rfl⟩))
    refine wp_loop_rounds 4 ?_
    repeat (rw [rounds_succ]; go_wp2_with (go_at_call 213; refine (one_any _ _).mono ?_; go_must (rintro e w1 ⟨rfl, rfl⟩)))
    go_ret
    exact ⟨ret_int (by simp [findK, *]), rfl⟩
  rcases h2 : oneB u2 with _ | _
  rotate_left
  · go_enter Tryz.func212, Tryz.ntmps212
    go_wp2_with (go_at_call 213; refine (one_any _ _).mono ?_; go_must (rintro e w1 ⟨rfl, rfl⟩))
    refine wp_loop_rounds 4 ?_
    repeat (rw [rounds_succ]; go_wp2_with (go_at_call 213; refine (one_any _ _).mono ?_; go_must (rintro e w1 ⟨rfl, rfl⟩)))
    go_ret
    exact ⟨ret_int (by simp [findK, *]), rfl⟩
  go_enter Tryz.func212, Tryz.ntmps212
  go_wp2_with (go_at_call 213; refine (one_any _ _).mono ?_; go_must (rintro e w1 ⟨rfl, rfl⟩))
  refine wp_loop_rounds 4 ?_
  repeat (rw [rounds_succ]; go_wp2_with (go_at_call 213; refine (one_any _ _).mono ?_; go_must (rintro e w1 ⟨rfl, rfl⟩)))
  go_ret
  exact ⟨ret_int (by simp [findK, *]), rfl⟩
end Go.Proofs.YtnejicklenhpeaaGreat
namespace Go.Proofs.YtnejicklenhpeaaGreat
open Go.RowKit
set_option maxHeartbeats 4000000 in
set_option maxRecDepth 100000 in
theorem axis_bad (n x0 x1 x2 : Int) (w : World) (h : (btw 1 n 3 && flatB n x0 x1 x2 3) = false) :
    Calls Tryz.prog 154 #[.int .i64 (n), .agg #[.int .i64 (x0), .int .i64 (x1), .int .i64 (x2)]] w fun e w' => e = .returned (.tuple #[.int .i64 (0), .bool false]) ∧ Below w.heap.size w w' := by
  have i0 := ix3_0
  have i1 := ix3_1
  have i2 := ix3_2
  rcases hn : btw 1 n 3 with _ | _
  · clear h
    go_enter Tryz.func154, Tryz.ntmps154
    go_wp2_with (go_at_call 107; refine (between_any _ _ _ _).mono ?_; go_must (rintro e w1 ⟨rfl, rfl⟩))
    (refine bodyPost_ret (v := ?v) ?h rfl ⟨?e, ?b⟩; (case h => (simp only [results, Tryz.results154]; first | (go_simp; done) | (go_simp; rfl))); (case e => (rfl)); (case b => exact (by repeat (first | exact Below.refl _ _ | assumption | (refine Below.drew ?_) | (refine below_drewN ?_ _) | (refine Below.alloc ?_ (by first | (simp; done) | (simp; omega) | omega) _) | (refine Below.setCell ?_ (by first | (simp; done) | (simp; omega) | omega) _) | (refine Below.trans ?_ (Below.mono (by assumption) (by first | (simp; done) | (simp; omega) | omega)))))))
  rw [hn, Bool.true_and] at h
  obtain rfl | rfl | rfl : n = 1 ∨ n = 2 ∨ n = 3 := by have := btw_out hn; omega
  · -- dimension 1
    rcases h0 : btw (-3) x0 3 with _ | _
    · clear h
      go_enter Tryz.func154, Tryz.ntmps154
      go_wp2_with (go_at_call 107; refine (between_any _ _ _ _).mono ?_; go_must (rintro e w1 ⟨rfl, rfl⟩))
      refine wp_loop_rounds 4 ?_
      repeat (rw [rounds_succ]; go_wp2_with (go_at_call 107; refine (between_any _ _ _ _).mono ?_; go_must (rintro e w1 ⟨rfl, rfl⟩)))
      (refine bodyPost_ret (v := ?v) ?h rfl ⟨?e, ?b⟩; (case h => (simp only [results, Tryz.results154]; first | (go_simp; done) | (go_simp; rfl))); (case e => (rfl)); (case b => exact (by repeat (first | exact Below.refl _ _ | assumption | (refine Below.drew ?_) | (refine below_drewN ?_ _) | (refine Below.alloc ?_ (by first | (simp; done) | (simp; omega) | omega) _) | (refine Below.setCell ?_ (by first | (simp; done) | (simp; omega) | omega) _) | (refine Below.trans ?_ (Below.mono (by assumption) (by first | (simp; done) | (simp; omega) | omega)))))))
    rcases h1 : btw (-3) x1 3 with _ | _
    · clear h
      go_enter Tryz.func154, Tryz.ntmps154
      go_wp2_with (go_at_call 107; refine (between_any _ _ _ _).mono ?_; go_must (rintro e w1 ⟨rfl, rfl⟩))
      refine wp_loop_rounds 4 ?_
      repeat (rw [rounds_succ]; go_wp2_with (go_at_call 107; refine (between_any _ _ _ _).mono ?_; go_must (rintro e w1 ⟨rfl, rfl⟩)))
      (refine bodyPost_ret (v := ?v) ?h rfl ⟨?e, ?b⟩; (case h => (simp only [results, Tryz.results154]; first | (go_simp; done) | (go_simp; rfl))); (case e => (rfl)); (case b => exact (by repeat (first | exact Below.refl _ _ | assumption | (refine Below.drew ?_) | (refine below_drewN ?_ _) | (refine Below.alloc ?_ (by first | (simp; done) | (simp; omega) | omega) _) | (refine Below.setCell ?_ (by first | (simp; done) | (simp; omega) | omega) _) | (refine Below.trans ?_ (Below.mono (by assumption) (by first | (simp; done) | (simp; omega) | omega)))))))
    by_cases z1 : x1 = 0
    rotate_left
    · clear h
      go_enter Tryz.func154, Tryz.ntmps154
      go_wp2_with (go_at_call 107; refine (between_any _ _ _ _).mono ?_; go_must (rintro e w1 ⟨rfl, rfl⟩))
      refine wp_loop_rounds 4 ?_
      repeat (rw [rounds_succ]; go_wp2_with (go_at_call 107; refine (between_any _ _ _ _).mono ?_; go_must (rintro e w1 ⟨rfl, rfl⟩)))
      (refine bodyPost_ret (v := ?v) ?h rfl ⟨?e, ?b⟩; (case h => (simp only [results, Tryz.results154]; first | (go_simp; done) | (go_simp; rfl))); (case e => (rfl)); (case b => exact (by repeat (first | exact Below.refl _ _ | assumption | (refine Below.drew ?_) | (refine below_drewN ?_ _) | (refine Below.alloc ?_ (by first | (simp; done) | (simp; omega) | omega) _) | (refine Below.setCell ?_ (by first | (simp; done) | (simp; omega) | omega) _) | (refine Below.trans ?_ (Below.mono (by assumption) (by first | (simp; done) | (simp; omega) | omega)))))))
    subst z1
    rcases h2 : btw (-3) x2 3 with _ | _
    · clear h
      go_enter Tryz.func154, Tryz.ntmps154
      go_wp2_with (go_at_call 107; refine (between_any _ _ _ _).mono ?_; go_must (rintro e w1 ⟨rfl, rfl⟩))
      refine wp_loop_rounds 4 ?_
      repeat (rw [rounds_succ]; go_wp2_with (go_at_call 107; refine (between_any _ _ _ _).mono ?_; go_must (rintro e w1 ⟨rfl, rfl⟩)))
      (refine bodyPost_ret (v := ?v) ?h rfl ⟨?e, ?b⟩; (case h => (simp only [results, Tryz.results154]; first | (go_simp; done) | (go_simp; rfl))); (case e => (rfl)); (case b => exact (by repeat (first | exact Below.refl _ _ | assumption | (refine Below.drew ?_) | (refine below_drewN ?_ _) | (refine Below.alloc ?_ (by first | (simp; done) | (simp; omega) | omega) _) | (refine Below.setCell ?_ (by first | (simp; done) | (simp; omega) | omega) _) | (refine Below.trans ?_ (Below.mono (by assumption) (by first | (simp; done) | (simp; omega) | omega)))))))
    by_cases z2 : x2 = 0
    rotate_left
    · clear h
      go_enter Tryz.func154, Tryz.ntmps154
      go_wp2_with (go_at_call 107; refine (between_any _ _ _ _).mono ?_; go_must (rintro e w1 ⟨rfl, rfl⟩))
      refine wp_loop_rounds 4 ?_
      repeat (rw [rounds_succ]; go_wp2_with (go_at_call 107; refine (between_any _ _ _ _).mono ?_; go_must (rintro e w1 ⟨rfl, rfl⟩)))
      (refine bodyPost_ret (v := ?v) ?h rfl ⟨?e, ?b⟩; (case h => (simp only [results, Tryz.results154]; first | (go_simp; done) | (go_simp; rfl))); (case e => (rfl)); (case b => exact (by repeat (first | exact Below.refl _ _ | assumption | (refine Below.drew ?_) | (refine below_drewN ?_ _) | (refine Below.alloc ?_ (by first | (simp; done) | (simp; omega) | omega) _) | (refine Below.setCell ?_ (by first | (simp; done) | (simp; omega) | omega) _) | (refine Below.trans ?_ (Below.mono (by assumption) (by first | (simp; done) | (simp; omega) | omega)))))))
    subst z2
    exact absurd h (by simp [flatB, *] <;> simp [btw])
  · -- dimension 2
    rcases h0 : btw (-3) x0 3 with _ | _
    · clear h
      go_enter Tryz.func154, Tryz.ntmps154
      go_wp2_with (go_at_call 107; refine (between_any _ _ _ _).mono ?_; go_must (rintro e w1 ⟨rfl, rfl⟩))
      refine wp_loop_rounds 4 ?_
      repeat (rw [rounds_succ]; go_wp2_with (go_at_call 107; refine (between_any _ _ _ _).mono ?_; go_must (rintro e w1 ⟨rfl, rfl⟩)))
      (refine bodyPost_ret (v := ?v) ?h rfl ⟨?e, ?b⟩; (case h => (simp only [results, Tryz.results154]; first | (go_simp; done) | (go_simp; rfl))); (case e => (rfl)); (case b => exact (by repeat (first | exact Below.refl _ _ | assumption | (refine Below.drew ?_) | (refine below_drewN ?_ _) | (refine Below.alloc ?_ (by first | (simp; done) | (simp; omega) | omega) _) | (refine Below.setCell ?_ (by first | (simp; done) | (simp; omega) | omega) _) | (refine Below.trans ?_ (Below.mono (by assumption) (by first | (simp; done) | (simp; omega) | omega)))))))
    rcases h1 : btw (-3) x1 3 with _ | _
    · clear h
      go_enter Tryz.func154, Tryz.ntmps154
      go_wp2_with (go_at_call 107; refine (between_any _ _ _ _).mono ?_; go_must (rintro e w1 ⟨rfl, rfl⟩))
      refine wp_loop_rounds 4 ?_
      repeat (rw [rounds_succ]; go_wp2_with (go_at_call 107; refine (between_any _ _ _ _).mono ?_; go_must (rintro e w1 ⟨rfl, rfl⟩)))
      (refine bodyPost_ret (v := ?v) ?h rfl ⟨?e, ?b⟩; (case h => (simp only [results, Tryz.results154]; first | (go_simp; done) | (go_simp; rfl))); (case e => (rfl)); (case b => exact (by repeat (first | exact Below.refl _ _ | assumption | (refine Below.drew ?_) | (refine below_drewN ?_ _) | (refine Below.alloc ?_ (by first | (simp; done) | (simp; omega) | omega) _) | (refine Below.setCell ?_ (by first | (simp; done) | (simp; omega) | omega) _) | (refine Below.trans ?_ (Below.mono (by assumption) (by first | (simp; done) | (simp; omega) | omega)))))))
    rcases h2 : btw (-3) x2 3 with _ | _
    · clear h
      go_enter Tryz.func154, Tryz.ntmps154
      go_wp2_with (go_at_call 107; refine (between_any _ _ _ _).mono ?_; go_must (rintro e w1 ⟨rfl, rfl⟩))
      refine wp_loop_rounds 4 ?_
      repeat (rw [rounds_succ]; go_wp2_with (go_at_call 107; refine (between_any _ _ _ _).mono ?_; go_must (rintro e w1 ⟨rfl, rfl⟩)))
      (refine bodyPost_ret (v := ?v) ?h rfl ⟨?e, ?b⟩; (case h => (simp only [results, Tryz.results154]; first | (go_simp; done) | (go_simp; rfl))); (case e => (rfl)); (case b => exact (by repeat (first | exact Below.refl _ _ | assumption | (refine Below.drew ?_) | (refine below_drewN ?_ _) | (refine Below.alloc ?_ (by first | (simp; done) | (simp; omega) | omega) _) | (refine Below.setCell ?_ (by first | (simp; done) | (simp; omega) | omega) _) | (refine Below.trans ?_ (Below.mono (by assumption) (by first | (simp; done) | (simp; omega) | omega)))))))
    by_cases z2 : x2 = 0
    rotate_left
    · clear h
      go_enter Tryz.func154, Tryz.ntmps154
      go_wp2_with (go_at_call 107; refine (between_any _ _ _ _).mono ?_; go_must (rintro e w1 ⟨rfl, rfl⟩))
      refine wp_loop_rounds 4 ?_
      repeat (rw [rounds_succ]; go_wp2_with (go_at_call 107; refine (between_any _ _ _ _).mono ?_; go_must (rintro e w1 ⟨rfl, rfl⟩)))
      (refine bodyPost_ret (v := ?v) ?h rfl ⟨?e, ?b⟩; (case h => (simp only [results, Tryz.results154]; first | (go_simp; done) | (go_simp; rfl))); (case e => (rfl)); (case b => exact (by repeat (first | exact Below.refl _ _ | assumption | (refine Below.drew ?_) | (refine below_drewN ?_ _) | (refine Below.alloc ?_ (by first | (simp; done) | (simp; omega) | omega) _) | (refine Below.setCell ?_ (by first | (simp; done) | (simp; omega) | omega) _) | (refine Below.trans ?_ (Below.mono (by assumption) (by first | (simp; done) | (simp; omega) | omega)))))))
    subst z2
    exact absurd h (by simp [flatB, *] <;> simp [btw])
  · -- dimension 3
    rcases h0 : btw (-3) x0 3 with _ | _
    · clear h
      go_enter Tryz.func154, Tryz.ntmps154
      go_wp2_with (go_at_call 107; refine (between_any _ _ _ _).mono ?_; go_must (rintro e w1 ⟨rfl, rfl⟩))
      refine wp_loop_rounds 4 ?_
      repeat (rw [rounds_succ]; go_wp2_with (go_at_call 107; refine (between_any _ _ _ _).mono ?_; go_must (rintro e w1 ⟨rfl, rfl⟩)))
      (refine bodyPost_ret (v := ?v) ?h rfl ⟨?e, ?b⟩; (case h => (simp only [results, Tryz.results154]; first | (go_simp; done) | (go_simp; rfl))); (case e => (rfl)); (case b => exact (by repeat (first | exact Below.refl _ _ | assumption | (refine Below.drew ?_) | (refine below_drewN ?_ _) | (refine Below.alloc ?_ (by first | (simp; done) | (simp; omega) | omega) _) | (refine Below.setCell ?_ (by first | (simp; done) | (simp; omega) | omega) _) | (refine Below.trans ?_ (Below.mono (by assumption) (by first | (simp; done) | (simp; omega) | omega)))))))
    rcases h1 : btw (-3) x1 3 with _ | _
    · clear h
      go_enter Tryz.func154, Tryz.ntmps154
      go_wp2_with (go_at_call 107; refine (between_any _ _ _ _).mono ?_; go_must (rintro e w1 ⟨rfl, rfl⟩))
      refine wp_loop_rounds 4 ?_
      repeat (rw [rounds_succ]; go_wp2_with (go_at_call 107; refine (between_any _ _ _ _).mono ?_; go_must (rintro e w1 ⟨rfl, rfl⟩)))
      (refine bodyPost_ret (v := ?v) ?h rfl ⟨?e, ?b⟩; (case h => (simp only [results, Tryz.results154]; first | (go_simp; done) | (go_simp; rfl))); (case e => (rfl)); (case b => exact (by repeat (first | exact Below.refl _ _ | assumption | (refine Below.drew ?_) | (refine below_drewN ?_ _) | (refine Below.alloc ?_ (by first | (simp; done) | (simp; omega) | omega) _) | (refine Below.setCell ?_ (by first | (simp; done) | (simp; omega) | omega) _) | (refine Below.trans ?_ (Below.mono (by assumption) (by first | (simp; done) | (simp; omega) | omega)))))))
    rcases h2 : btw (-3) x2 3 with _ | _
    · clear h
      go_enter Tryz.func154, Tryz.ntmps154
      go_wp2_with (go_at_call 107; refine (between_any _ _ _ _).mono ?_; go_must (rintro e w1 ⟨rfl, rfl⟩))
      refine wp_loop_rounds 4 ?_
      repeat (rw [rounds_succ]; go_wp2_with (go_at_call 107; refine (between_any _ _ _ _).mono ?_; go_must (rintro e w1 ⟨rfl, rfl⟩)))
      (refine bodyPost_ret (v := ?v) ?h rfl ⟨?e, ?b⟩; (case h => (simp only [results, Tryz.results154]; first | (go_simp; done) | (go_simp; rfl))); (case e => (rfl)); (case b => exact (by repeat (first | exact Below.refl _ _ | assumption | (refine Below.drew ?_) | (refine below_drewN ?_ _) | (refine Below.alloc ?_ (by first | (simp; done) | (simp; omega) | omega) _) | (refine Below.setCell ?_ (by first | (simp; done) | (simp; omega) | omega) _) | (refine Below.trans ?_ (Below.mono (by assumption) (by first | (simp; done) | (simp; omega) | omega)))))))
    exact absurd h (by simp [flatB, *] <;> simp [btw])
set_option maxHeartbeats 4000000 in
set_option maxRecDepth 100000 in
theorem axis_good1 (x0 : Int) (w : World) (h0 : btw (-3) x0 3 = true) :
    Calls Tryz.prog 154 #[.int .i64 (1), .agg #[.int .i64 (x0), .int .i64 (0), .int .i64 (0)]] w fun e w' => e = .returned (.tuple #[.int .i64 (findK 1 x0 0 0), .bool (decide (0 ≤ findK 1 x0 0 0))]) ∧ Below w.heap.size w w' := by
  have i0 := ix3_0
  have i1 := ix3_1
  have i2 := ix3_2
  have hn : btw 1 1 3 = true := by decide
  have bz : btw (-3) 0 3 = true := by decide
  go_enter Tryz.func154, Tryz.ntmps154
  go_wp2_with (go_at_call 107; refine (between_any _ _ _ _).mono ?_; go_must (rintro e w1 ⟨rfl, rfl⟩))
  refine wp_loop_rounds 4 ?_
  repeat (rw [rounds_succ]; go_wp2_with (first | (go_at_call 107; refine (between_any _ _ _ _).mono ?_; go_must (rintro e w1 ⟨rfl, rfl⟩)) | (go_at_call 212; refine (index1 x0 _ _ _ (by simp)).mono ?_; go_must (rintro e w1 ⟨rfl, rfl⟩))))
  (refine bodyPost_ret (v := ?v) ?h rfl ⟨?e, ?b⟩; (case h => (simp only [results, Tryz.results154]; first | (go_simp; done) | (go_simp; rfl))); (case e => (rfl)); (case b => exact (by repeat (first | exact Below.refl _ _ | assumption | (refine Below.drew ?_) | (refine below_drewN ?_ _) | (refine Below.alloc ?_ (by first | (simp; done) | (simp; omega) | omega) _) | (refine Below.setCell ?_ (by first | (simp; done) | (simp; omega) | omega) _) | (refine Below.trans ?_ (Below.mono (by assumption) (by first | (simp; done) | (simp; omega) | omega)))))))
set_option maxHeartbeats 4000000 in
set_option maxRecDepth 100000 in
theorem axis_good2 (x0 x1 : Int) (w : World) (h0 : btw (-3) x0 3 = true) (h1 : btw (-3) x1 3 = true) :
    Calls Tryz.prog 154 #[.int .i64 (2), .agg #[.int .i64 (x0), .int .i64 (x1), .int .i64 (0)]] w fun e w' => e = .returned (.tuple #[.int .i64 (findK 2 x0 x1 0), .bool (decide (0 ≤ findK 2 x0 x1 0))]) ∧ Below w.heap.size w w' := by
  have i0 := ix3_0
  have i1 := ix3_1
  have i2 := ix3_2
  have hn : btw 1 2 3 = true := by decide
  have bz : btw (-3) 0 3 = true := by decide
  go_enter Tryz.func154, Tryz.ntmps154
  go_wp2_with (go_at_call 107; refine (between_any _ _ _ _).mono ?_; go_must (rintro e w1 ⟨rfl, rfl⟩))
  refine wp_loop_rounds 4 ?_
  repeat (rw [rounds_succ]; go_wp2_with (first | (go_at_call 107; refine (between_any _ _ _ _).mono ?_; go_must (rintro e w1 ⟨rfl, rfl⟩)) | (go_at_call 212; refine (index2 x0 x1 _ _ _ (by simp) (by simp)).mono ?_; go_must (rintro e w1 ⟨rfl, rfl⟩))))
  (refine bodyPost_ret (v := ?v) ?h rfl ⟨?e, ?b⟩; (case h => (simp only [results, Tryz.results154]; first | (go_simp; done) | (go_simp; rfl))); (case e => (rfl)); (case b => exact (by repeat (first | exact Below.refl _ _ | assumption | (refine Below.drew ?_) | (refine below_drewN ?_ _) | (refine Below.alloc ?_ (by first | (simp; done) | (simp; omega) | omega) _) | (refine Below.setCell ?_ (by first | (simp; done) | (simp; omega) | omega) _) | (refine Below.trans ?_ (Below.mono (by assumption) (by first | (simp; done) | (simp; omega) | omega)))))))
set_option maxHeartbeats 4000000 in
set_option maxRecDepth 100000 in
theorem axis_good3 (x0 x1 x2 : Int) (w : World) (h0 : btw (-3) x0 3 = true) (h1 : btw (-3) x1 3 = true) (h2 : btw (-3) x2 3 = true) :
    Calls Tryz.prog 154 #[.int .i64 (3), .agg #[.int .i64 (x0), .int .i64 (x1), .int .i64 (x2)]] w fun e w' => e = .returned (.tuple #[.int .i64 (findK 3 x0 x1 x2), .bool (decide (0 ≤ findK 3 x0 x1 x2))]) ∧ Below w.heap.size w w' := by
  have i0 := ix3_0
  have i1 := ix3_1
  have i2 := ix3_2
  have hn : btw 1 3 3 = true := by decide
  go_enter Tryz.func154, Tryz.ntmps154
  go_wp2_with (go_at_call 107; refine (between_any _ _ _ _).mono ?_; go_must (rintro e w1 ⟨rfl, rfl⟩))
  refine wp_loop_rounds 4 ?_
  repeat (rw [rounds_succ]; go_wp2_with (first | (go_at_call 107; refine (between_any _ _ _ _).mono ?_; go_must (rintro e w1 ⟨rfl, rfl⟩)) | (go_at_call 212; refine (index3 x0 x1 x2 _ _ _ (by simp) (by simp) (by simp)).mono ?_; go_must (rintro e w1 ⟨rfl, rfl⟩))))
  (refine bodyPost_ret (v := ?v) ?h rfl ⟨?e, ?b⟩; (case h => (simp only [results, Tryz.results154]; first | (go_simp; done) | (go_simp; rfl))); (case e => (rfl)); (case b => exact (by repeat (first | exact Below.refl _ _ | assumption | (refine Below.drew ?_) | (refine below_drewN ?_ _) | (refine Below.alloc ?_ (by first | (simp; done) | (simp; omega) | omega) _) | (refine Below.setCell ?_ (by first | (simp; done) | (simp; omega) | omega) _) | (refine Below.trans ?_ (Below.mono (by assumption) (by first | (simp; done) | (simp; omega) | omega)))))))
end Go.Proofs.YtnejicklenhpeaaGreat
namespace Go.Proofs.YtnejicklenhpeaaGreat
open Go.RowKit
set_option maxHeartbeats 4000000 in
set_option maxRecDepth 100000 in
theorem flat_bad (n x0 x1 x2 m : Int) (w : World) (hm : 0 ≤ m ∧ m ≤ 100000) (hn : btw 1 n 3 = true) (h : flatB n x0 x1 x2 m = false) :
    Calls Tryz.prog 94 #[.agg #[.int .i64 (x0), .int .i64 (x1), .int .i64 (x2)], .int .i64 (n), .int .i64 (m)] w fun e w' => e = .returned (.bool false) ∧ Below w.heap.size w w' := by
  obtain rfl | rfl | rfl : n = 1 ∨ n = 2 ∨ n = 3 := by have := btw_out hn; omega
  · -- dimension 1
    rcases h0 : btw (-m) x0 m with _ | _
    · clear h
      go_enter Tryz.func94, Tryz.ntmps94
      go_wp2_with (go_at_call 95; refine (inRange_any _ _ _ hm).mono ?_; go_must (rintro e w1 ⟨rfl, rfl⟩))
      refine wp_loop_rounds 4 ?_
      repeat (rw [rounds_succ]; go_wp2_with (go_at_call 95; refine (inRange_any _ _ _ hm).mono ?_; go_must (rintro e w1 ⟨rfl, rfl⟩)))
      (refine bodyPost_ret (v := ?v) ?h rfl ⟨?e, ?b⟩; (case h => (simp only [results, Tryz.results94]; first | (go_simp; done) | (go_simp; rfl))); (case e => (rfl)); (case b => exact (by repeat (first | exact Below.refl _ _ | assumption | (refine Below.drew ?_) | (refine below_drewN ?_ _) | (refine Below.alloc ?_ (by first | (simp; done) | (simp; omega) | omega) _) | (refine Below.setCell ?_ (by first | (simp; done) | (simp; omega) | omega) _) | (refine Below.trans ?_ (Below.mono (by assumption) (by first | (simp; done) | (simp; omega) | omega)))))))
    rcases h1 : btw (-m) x1 m with _ | _
    · clear h
      go_enter Tryz.func94, Tryz.ntmps94
      go_wp2_with (go_at_call 95; refine (inRange_any _ _ _ hm).mono ?_; go_must (rintro e w1 ⟨rfl, rfl⟩))
      refine wp_loop_rounds 4 ?_
      repeat (rw [rounds_succ]; go_wp2_with (go_at_call 95; refine (inRange_any _ _ _ hm).mono ?_; go_must (rintro e w1 ⟨rfl, rfl⟩)))
      (refine bodyPost_ret (v := ?v) ?h rfl ⟨?e, ?b⟩; (case h => (simp only [results, Tryz.results94]; first | (go_simp; done) | (go_simp; rfl))); (case e => (rfl)); (case b => exact (by repeat (first | exact Below.refl _ _ | assumption | (refine Below.drew ?_) | (refine below_drewN ?_ _) | (refine Below.alloc ?_ (by first | (simp; done) | (simp; omega) | omega) _) | (refine Below.setCell ?_ (by first | (simp; done) | (simp; omega) | omega) _) | (refine Below.trans ?_ (Below.mono (by assumption) (by first | (simp; done) | (simp; omega) | omega)))))))
    by_cases z1 : x1 = 0
    rotate_left
    · clear h
      go_enter Tryz.func94, Tryz.ntmps94
      go_wp2_with (go_at_call 95; refine (inRange_any _ _ _ hm).mono ?_; go_must (rintro e w1 ⟨rfl, rfl⟩))
      refine wp_loop_rounds 4 ?_
      repeat (rw [rounds_succ]; go_wp2_with (go_at_call 95; refine (inRange_any _ _ _ hm).mono ?_; go_must (rintro e w1 ⟨rfl, rfl⟩)))
      (refine bodyPost_ret (v := ?v) ?h rfl ⟨?e, ?b⟩; (case h => (simp only [results, Tryz.results94]; first | (go_simp; done) | (go_simp; rfl))); (case e => (rfl)); (case b => exact (by repeat (first | exact Below.refl _ _ | assumption | (refine Below.drew ?_) | (refine below_drewN ?_ _) | (refine Below.alloc ?_ (by first | (simp; done) | (simp; omega) | omega) _) | (refine Below.setCell ?_ (by first | (simp; done) | (simp; omega) | omega) _) | (refine Below.trans ?_ (Below.mono (by assumption) (by first | (simp; done) | (simp; omega) | omega)))))))
    subst z1
    rcases h2 : btw (-m) x2 m with _ | _
    · clear h
      go_enter Tryz.func94, Tryz.ntmps94
      go_wp2_with (go_at_call 95; refine (inRange_any _ _ _ hm).mono ?_; go_must (rintro e w1 ⟨rfl, rfl⟩))
      refine wp_loop_rounds 4 ?_
      repeat (rw [rounds_succ]; go_wp2_with (go_at_call 95; refine (inRange_any _ _ _ hm).mono ?_; go_must (rintro e w1 ⟨rfl, rfl⟩)))
      (refine bodyPost_ret (v := ?v) ?h rfl ⟨?e, ?b⟩; (case h => (simp only [results, Tryz.results94]; first | (go_simp; done) | (go_simp; rfl))); (case e => (rfl)); (case b => exact (by repeat (first | exact Below.refl _ _ | assumption | (refine Below.drew ?_) | (refine below_drewN ?_ _) | (refine Below.alloc ?_ (by first | (simp; done) | (simp; omega) | omega) _) | (refine Below.setCell ?_ (by first | (simp; done) | (simp; omega) | omega) _) | (refine Below.trans ?_ (Below.mono (by assumption) (by first | (simp; done) | (simp; omega) | omega)))))))
    by_cases z2 : x2 = 0
    rotate_left
    · clear h
      go_enter Tryz.func94, Tryz.ntmps94
      go_wp2_with (go_at_call 95; refine (inRange_any _ _ _ hm).mono ?_; go_must (rintro e w1 ⟨rfl, rfl⟩))
      refine wp_loop_rounds 4 ?_
      repeat (rw [rounds_succ]; go_wp2_with (go_at_call 95; refine (inRange_any _ _ _ hm).mono ?_; go_must (rintro e w1 ⟨rfl, rfl⟩)))
      (refine bodyPost_ret (v := ?v) ?h rfl ⟨?e, ?b⟩; (case h => (simp only [results, Tryz.results94]; first | (go_simp; done) | (go_simp; rfl))); (case e => (rfl)); (case b => exact (by repeat (first | exact Below.refl _ _ | assumption | (refine Below.drew ?_) | (refine below_drewN ?_ _) | (refine Below.alloc ?_ (by first | (simp; done) | (simp; omega) | omega) _) | (refine Below.setCell ?_ (by first | (simp; done) | (simp; omega) | omega) _) | (refine Below.trans ?_ (Below.mono (by assumption) (by first | (simp; done) | (simp; omega) | omega)))))))
    subst z2
    exact absurd h (by simp [flatB, *] <;> simp [btw])
  · -- dimension 2
    rcases h0 : btw (-m) x0 m with _ | _
    · clear h
      go_enter Tryz.func94, Tryz.ntmps94
      go_wp2_with (go_at_call 95; refine (inRange_any _ _ _ hm).mono ?_; go_must (rintro e w1 ⟨rfl, rfl⟩))
      refine wp_loop_rounds 4 ?_
      repeat (rw [rounds_succ]; go_wp2_with (go_at_call 95; refine (inRange_any _ _ _ hm).mono ?_; go_must (rintro e w1 ⟨rfl, rfl⟩)))
      (refine bodyPost_ret (v := ?v) ?h rfl ⟨?e, ?b⟩; (case h => (simp only [results, Tryz.results94]; first | (go_simp; done) | (go_simp; rfl))); (case e => (rfl)); (case b => exact (by repeat (first | exact Below.refl _ _ | assumption | (refine Below.drew ?_) | (refine below_drewN ?_ _) | (refine Below.alloc ?_ (by first | (simp; done) | (simp; omega) | omega) _) | (refine Below.setCell ?_ (by first | (simp; done) | (simp; omega) | omega) _) | (refine Below.trans ?_ (Below.mono (by assumption) (by first | (simp; done) | (simp; omega) | omega)))))))
    rcases h1 : btw (-m) x1 m with _ | _
    · clear h
      go_enter Tryz.func94, Tryz.ntmps94
      go_wp2_with (go_at_call 95; refine (inRange_any _ _ _ hm).mono ?_; go_must (rintro e w1 ⟨rfl, rfl⟩))
      refine wp_loop_rounds 4 ?_
      repeat (rw [rounds_succ]; go_wp2_with (go_at_call 95; refine (inRange_any _ _ _ hm).mono ?_; go_must (rintro e w1 ⟨rfl, rfl⟩)))
      (refine bodyPost_ret (v := ?v) ?h rfl ⟨?e, ?b⟩; (case h => (simp only [results, Tryz.results94]; first | (go_simp; done) | (go_simp; rfl))); (case e => (rfl)); (case b => exact (by repeat (first | exact Below.refl _ _ | assumption | (refine Below.drew ?_) | (refine below_drewN ?_ _) | (refine Below.alloc ?_ (by first | (simp; done) | (simp; omega) | omega) _) | (refine Below.setCell ?_ (by first | (simp; done) | (simp; omega) | omega) _) | (refine Below.trans ?_ (Below.mono (by assumption) (by first | (simp; done) | (simp; omega) | omega)))))))
    rcases h2 : btw (-m) x2 m with _ | _
    · clear h
      go_enter Tryz.func94, Tryz.ntmps94
      go_wp2_with (go_at_call 95; refine (inRange_any _ _ _ hm).mono ?_; go_must (rintro e w1 ⟨rfl, rfl⟩))
      refine wp_loop_rounds 4 ?_
      repeat (rw [rounds_succ]; go_wp2_with (go_at_call 95; refine (inRange_any _ _ _ hm).mono ?_; go_must (rintro e w1 ⟨rfl, rfl⟩)))
      (refine bodyPost_ret (v := ?v) ?h rfl ⟨?e, ?b⟩; (case h => (simp only [results, Tryz.results94]; first | (go_simp; done) | (go_simp; rfl))); (case e => (rfl)); (case b => exact (by repeat (first | exact Below.refl _ _ | assumption | (refine Below.drew ?_) | (refine below_drewN ?_ _) | (refine Below.alloc ?_ (by first | (simp; done) | (simp; omega) | omega) _) | (refine Below.setCell ?_ (by first | (simp; done) | (simp; omega) | omega) _) | (refine Below.trans ?_ (Below.mono (by assumption) (by first | (simp; done) | (simp; omega) | omega)))))))
    by_cases z2 : x2 = 0
    rotate_left
    · clear h
      go_enter Tryz.func94, Tryz.ntmps94
      go_wp2_with (go_at_call 95; refine (inRange_any _ _ _ hm).mono ?_; go_must (rintro e w1 ⟨rfl, rfl⟩))
      refine wp_loop_rounds 4 ?_
      repeat (rw [rounds_succ]; go_wp2_with (go_at_call 95; refine (inRange_any _ _ _ hm).mono ?_; go_must (rintro e w1 ⟨rfl, rfl⟩)))
      (refine bodyPost_ret (v := ?v) ?h rfl ⟨?e, ?b⟩; (case h => (simp only [results, Tryz.results94]; first | (go_simp; done) | (go_simp; rfl))); (case e => (rfl)); (case b => exact (by repeat (first | exact Below.refl _ _ | assumption | (refine Below.drew ?_) | (refine below_drewN ?_ _) | (refine Below.alloc ?_ (by first | (simp; done) | (simp; omega) | omega) _) | (refine Below.setCell ?_ (by first | (simp; done) | (simp; omega) | omega) _) | (refine Below.trans ?_ (Below.mono (by assumption) (by first | (simp; done) | (simp; omega) | omega)))))))
    subst z2
    exact absurd h (by simp [flatB, *] <;> simp [btw])
  · -- dimension 3
    rcases h0 : btw (-m) x0 m with _ | _
    · clear h
      go_enter Tryz.func94, Tryz.ntmps94
      go_wp2_with (go_at_call 95; refine (inRange_any _ _ _ hm).mono ?_; go_must (rintro e w1 ⟨rfl, rfl⟩))
      refine wp_loop_rounds 4 ?_
      repeat (rw [rounds_succ]; go_wp2_with (go_at_call 95; refine (inRange_any _ _ _ hm).mono ?_; go_must (rintro e w1 ⟨rfl, rfl⟩)))
      (refine bodyPost_ret (v := ?v) ?h rfl ⟨?e, ?b⟩; (case h => (simp only [results, Tryz.results94]; first | (go_simp; done) | (go_simp; rfl))); (case e => (rfl)); (case b => exact (by repeat (first | exact Below.refl _ _ | assumption | (refine Below.drew ?_) | (refine below_drewN ?_ _) | (refine Below.alloc ?_ (by first | (simp; done) | (simp; omega) | omega) _) | (refine Below.setCell ?_ (by first | (simp; done) | (simp; omega) | omega) _) | (refine Below.trans ?_ (Below.mono (by assumption) (by first | (simp; done) | (simp; omega) | omega)))))))
    rcases h1 : btw (-m) x1 m with _ | _
    · clear h
      go_enter Tryz.func94, Tryz.ntmps94
      go_wp2_with (go_at_call 95; refine (inRange_any _ _ _ hm).mono ?_; go_must (rintro e w1 ⟨rfl, rfl⟩))
      refine wp_loop_rounds 4 ?_
      repeat (rw [rounds_succ]; go_wp2_with (go_at_call 95; refine (inRange_any _ _ _ hm).mono ?_; go_must (rintro e w1 ⟨rfl, rfl⟩)))
      (refine bodyPost_ret (v := ?v) ?h rfl ⟨?e, ?b⟩; (case h => (simp only [results, Tryz.results94]; first | (go_simp; done) | (go_simp; rfl))); (case e => (rfl)); (case b => exact (by repeat (first | exact Below.refl _ _ | assumption | (refine Below.drew ?_) | (refine below_drewN ?_ _) | (refine Below.alloc ?_ (by first | (simp; done) | (simp; omega) | omega) _) | (refine Below.setCell ?_ (by first | (simp; done) | (simp; omega) | omega) _) | (refine Below.trans ?_ (Below.mono (by assumption) (by first | (simp; done) | (simp; omega) | omega)))))))
    rcases h2 : btw (-m) x2 m with _ | _
    · clear h
      go_enter Tryz.func94, Tryz.ntmps94
      go_wp2_with (go_at_call 95; refine (inRange_any _ _ _ hm).mono ?_; go_must (rintro e w1 ⟨rfl, rfl⟩))
      refine wp_loop_rounds 4 ?_
      repeat (rw [rounds_succ]; go_wp2_with (go_at_call 95; refine (inRange_any _ _ _ hm).mono ?_; go_must (rintro e w1 ⟨rfl, rfl⟩)))
      (refine bodyPost_ret (v := ?v) ?h rfl ⟨?e, ?b⟩; (case h => (simp only [results, Tryz.results94]; first | (go_simp; done) | (go_simp; rfl))); (case e => (rfl)); (case b => exact (by repeat (first | exact Below.refl _ _ | assumption | (refine Below.drew ?_) | (refine below_drewN ?_ _) | (refine Below.alloc ?_ (by first | (simp; done) | (simp; omega) | omega) _) | (refine Below.setCell ?_ (by first | (simp; done) | (simp; omega) | omega) _) | (refine Below.trans ?_ (Below.mono (by assumption) (by first | (simp; done) | (simp; omega) | omega)))))))
    exact absurd h (by simp [flatB, *] <;> simp [btw])
set_option maxHeartbeats 4000000 in
set_option maxRecDepth 100000 in
theorem flat_good1 (x0 m : Int) (w : World) (hm : 0 ≤ m ∧ m ≤ 100000) (h0 : btw (-m) x0 m = true) :
    Calls Tryz.prog 94 #[.agg #[.int .i64 (x0), .int .i64 (0), .int .i64 (0)], .int .i64 (1), .int .i64 (m)] w fun e w' => e = .returned (.bool true) ∧ Below w.heap.size w w' := by
  have bz : btw (-m) 0 m = true := by simp [btw]; omega
  go_enter Tryz.func94, Tryz.ntmps94
  go_wp2_with (go_at_call 95; refine (inRange_any _ _ _ hm).mono ?_; go_must (rintro e w1 ⟨rfl, rfl⟩))
  refine wp_loop_rounds 4 ?_
  repeat (rw [rounds_succ]; go_wp2_with (go_at_call 95; refine (inRange_any _ _ _ hm).mono ?_; go_must (rintro e w1 ⟨rfl, rfl⟩)))
  (refine bodyPost_ret (v := ?v) ?h rfl ⟨?e, ?b⟩; (case h => (simp only [results, Tryz.results94]; first | (go_simp; done) | (go_simp; rfl))); (case e => (rfl)); (case b => exact (by repeat (first | exact Below.refl _ _ | assumption | (refine Below.drew ?_) | (refine below_drewN ?_ _) | (refine Below.alloc ?_ (by first | (simp; done) | (simp; omega) | omega) _) | (refine Below.setCell ?_ (by first | (simp; done) | (simp; omega) | omega) _) | (refine Below.trans ?_ (Below.mono (by assumption) (by first | (simp; done) | (simp; omega) | omega)))))))
set_option maxHeartbeats 4000000 in
set_option maxRecDepth 100000 in
theorem flat_good2 (x0 x1 m : Int) (w : World) (hm : 0 ≤ m ∧ m ≤ 100000) (h0 : btw (-m) x0 m = true) (h1 : btw (-m) x1 m = true) :
    Calls Tryz.prog 94 #[.agg #[.int .i64 (x0), .int .i64 (x1), .int .i64 (0)], .int .i64 (2), .int .i64 (m)] w fun e w' => e = .returned (.bool true) ∧ Below w.heap.size w w' := by
  have bz : btw (-m) 0 m = true := by simp [btw]; omega
  go_enter Tryz.func94, Tryz.ntmps94
  go_wp2_with (go_at_call 95; refine (inRange_any _ _ _ hm).mono ?_; go_must (rintro e w1 ⟨rfl, rfl⟩))
  refine wp_loop_rounds 4 ?_
  repeat (rw [rounds_succ]; go_wp2_with (go_at_call 95; refine (inRange_any _ _ _ hm).mono ?_; go_must (rintro e w1 ⟨rfl, rfl⟩)))
  (refine bodyPost_ret (v := ?v) ?h rfl ⟨?e, ?b⟩; (case h => (simp only [results, Tryz.results94]; first | (go_simp; done) | (go_simp; rfl))); (case e => (rfl)); (case b => exact (by repeat (first | exact Below.refl _ _ | assumption | (refine Below.drew ?_) | (refine below_drewN ?_ _) | (refine Below.alloc ?_ (by first | (simp; done) | (simp; omega) | omega) _) | (refine Below.setCell ?_ (by first | (simp; done) | (simp; omega) | omega) _) | (refine Below.trans ?_ (Below.mono (by assumption) (by first | (simp; done) | (simp; omega) | omega)))))))
set_option maxHeartbeats 4000000 in
set_option maxRecDepth 100000 in
theorem flat_good3 (x0 x1 x2 m : Int) (w : World) (hm : 0 ≤ m ∧ m ≤ 100000) (h0 : btw (-m) x0 m = true) (h1 : btw (-m) x1 m = true) (h2 : btw (-m) x2 m = true) :
    Calls Tryz.prog 94 #[.agg #[.int .i64 (x0), .int .i64 (x1), .int .i64 (x2)], .int .i64 (3), .int .i64 (m)] w fun e w' => e = .returned (.bool true) ∧ Below w.heap.size w w' := by
  go_enter Tryz.func94, Tryz.ntmps94
  go_wp2_with (go_at_call 95; refine (inRange_any _ _ _ hm).mono ?_; go_must (rintro e w1 ⟨rfl, rfl⟩))
  refine wp_loop_rounds 4 ?_
  repeat (rw [rounds_succ]; go_wp2_with (go_at_call 95; refine (inRange_any _ _ _ hm).mono ?_; go_must (rintro e w1 ⟨rfl, rfl⟩)))
  (refine bodyPost_ret (v := ?v) ?h rfl ⟨?e, ?b⟩; (case h => (simp only [results, Tryz.results94]; first | (go_simp; done) | (go_simp; rfl))); (case e => (rfl)); (case b => exact (by repeat (first | exact Below.refl _ _ | assumption | (refine Below.drew ?_) | (refine below_drewN ?_ _) | (refine Below.alloc ?_ (by first | (simp; done) | (simp; omega) | omega) _) | (refine Below.setCell ?_ (by first | (simp; done) | (simp; omega) | omega) _) | (refine Below.trans ?_ (Below.mono (by assumption) (by first | (simp; done) | (simp; omega) | omega)))))))
theorem flat_pad {n x0 x1 x2 m : Int} (hn : btw 1 n 3 = true) (h : flatB n x0 x1 x2 m = true) : (n = 1 ∧ x1 = 0 ∧ x2 = 0 ∧ btw (-m) x0 m = true) ∨ (n = 2 ∧ x2 = 0 ∧ btw (-m) x0 m = true ∧ btw (-m) x1 m = true) ∨ (n = 3 ∧ btw (-m) x0 m = true ∧ btw (-m) x1 m = true ∧ btw (-m) x2 m = true) := by
  obtain rfl | rfl | rfl : n = 1 ∨ n = 2 ∨ n = 3 := by have := btw_out hn; omega
  · simp [flatB] at h; simp [h]
  · simp [flatB] at h; simp [h]
  · simp [flatB] at h; simp [h]
theorem flat_any (n x0 x1 x2 m : Int) (w : World) (hm : 0 ≤ m ∧ m ≤ 100000) (hn : btw 1 n 3 = true) :
    Calls Tryz.prog 94 #[.agg #[.int .i64 (x0), .int .i64 (x1), .int .i64 (x2)], .int .i64 (n), .int .i64 (m)] w fun e w' => e = .returned (.bool (flatB n x0 x1 x2 m)) ∧ Below w.heap.size w w' := by
  rcases h : flatB n x0 x1 x2 m with _ | _
  · exact flat_bad n x0 x1 x2 m w hm hn h
  · obtain ⟨rfl, rfl, rfl, a⟩ | ⟨rfl, rfl, a, b⟩ | ⟨rfl, a, b, c⟩ := flat_pad hn h
    · exact flat_good1 x0 m w hm a
    · exact flat_good2 x0 x1 m w hm a b
    · exact flat_good3 x0 x1 x2 m w hm a b c
theorem Flat_any (n x0 x1 x2 m : Int) (w : World) (hm : 0 ≤ m ∧ m ≤ 100000) (hn : btw 1 n 3 = true) :
    Calls Tryz.prog 155 #[.agg #[.int .i64 (x0), .int .i64 (x1), .int .i64 (x2)], .int .i64 (n), .int .i64 (m)] w fun e w' => e = .returned (.bool (flatB n x0 x1 x2 m)) ∧ Below w.heap.size w w' := by
  go_enter Tryz.func155, Tryz.ntmps155
  go_wp2_with (go_at_call 94; refine (flat_any _ _ _ _ _ _ hm hn).mono ?_; go_must ((first | (have h0 := hb1; clear h0; rintro e w2 ⟨rfl, hb2⟩; obtain ⟨hc2, hf2⟩ := bcell hb2; have hz2 := hb2.size; (try simp at hz2); (first | have z := z10 hz2 | have z := z9 hz2 | have z := z8 hz2 | have z := z7 hz2 | have z := z6 hz2 | have z := z5 hz2 | have z := z4 hz2 | have z := z3 hz2 | have z := z2 hz2 | have z := z1 hz2 | skip); have hq := Nat.le_trans hz1 (show w1.heap.size ≤ w2.heap.size by omega); (first | have z := z10 hq | have z := z9 hq | have z := z8 hq | have z := z7 hq | have z := z6 hq | have z := z5 hq | have z := z4 hq | have z := z3 hq | have z := z2 hq | have z := z1 hq | skip)) | (rintro e w1 ⟨rfl, hb1⟩; obtain ⟨hc1, hf1⟩ := bcell hb1; have hz1 := hb1.size; (try simp at hz1); (first | have z := z10 hz1 | have z := z9 hz1 | have z := z8 hz1 | have z := z7 hz1 | have z := z6 hz1 | have z := z5 hz1 | have z := z4 hz1 | have z := z3 hz1 | have z := z2 hz1 | have z := z1 hz1 | skip)))))
  go_ret
  exact ⟨rfl, by repeat (first | exact Below.refl _ _ | assumption | (refine Below.drew ?_) | (refine below_drewN ?_ _) | (refine Below.alloc ?_ (by first | (simp; done) | (simp; omega) | omega) _) | (refine Below.setCell ?_ (by first | (simp; done) | (simp; omega) | omega) _) | (refine Below.trans ?_ (Below.mono (by assumption) (by first | (simp; done) | (simp; omega) | omega))))⟩
end Go.Proofs.YtnejicklenhpeaaGreat
