/- space.compare: the order of cells, as slices.Compare gives it on two boxed cells. -/
import Derived.Test.YtndfdgdahinkpaaRecAB
import Derived.Sort.Grow
import Derived.BigQuiet
namespace Go.Proofs.Ytndfdgdahinkpaa
open Go.RowKit Go.Sort
def cmpI (a b : Int) : Int := if a < b then -1 else if b < a then 1 else 0
theorem isNaN_l (a : Int) (w : World) : Calls Try.prog 143 #[.int .i64 a] w fun e w' => e = .returned (.bool false) ∧ w' = w := by
  go_enter Try.func143, Try.ntmps143
  go_wp2
  go_ret
  exact ⟨by simp, rfl⟩
theorem cmpI_l (a b : Int) (w : World) : Calls Try.prog 128 #[.int .i64 a, .int .i64 b] w fun e w' => e = .returned (.int .i64 (cmpI a b)) ∧ w' = w := by
  unfold cmpI
  by_cases h1 : a < b
  · rw [if_pos h1]
    go_enter Try.func128, Try.ntmps128
    go_wp2_with (go_at_call 143; refine (isNaN_l _ _).mono ?_; go_must (rintro e w1 ⟨rfl, rfl⟩))
    go_ret
    exact ⟨rfl, rfl⟩
  · rw [if_neg h1]
    have h1' : b ≤ a := by omega
    clear h1
    by_cases h2 : b < a
    · rw [if_pos h2]
      go_enter Try.func128, Try.ntmps128
      go_wp2_with (go_at_call 143; refine (isNaN_l _ _).mono ?_; go_must (rintro e w1 ⟨rfl, rfl⟩))
      go_ret
      exact ⟨rfl, rfl⟩
    · rw [if_neg h2]
      obtain rfl : a = b := by omega
      clear h2 h1'
      go_enter Try.func128, Try.ntmps128
      go_wp2_with (go_at_call 143; refine (isNaN_l _ _).mono ?_; go_must (rintro e w1 ⟨rfl, rfl⟩))
      go_ret
      exact ⟨rfl, rfl⟩
def cmpC (x y : Int × Int) : Int := if cmpI x.1 y.1 = 0 then cmpI x.2 y.2 else cmpI x.1 y.1
set_option maxHeartbeats 4000000 in
theorem compareS_l (x y : Int × Int) (g1 g2 c1 c2 : Nat) (w : World) (h0 : w.cell? ⟨g1, 0, none⟩ = some (.int .i64 x.1)) (h1 : w.cell? ⟨g1, 1, none⟩ = some (.int .i64 x.2)) (h2 : w.cell? ⟨g2, 0, none⟩ = some (.int .i64 y.1)) (h3 : w.cell? ⟨g2, 1, none⟩ = some (.int .i64 y.2)) :
    Calls Try.prog 101 #[.slice (some ⟨g1, 0, none⟩) 2 c1, .slice (some ⟨g2, 0, none⟩) 2 c2] w fun e w' => e = .returned (.int .i64 (cmpC x y)) ∧ w' = w := by
  have HE := Lib.hid (show cmpC x y = if cmpI x.1 y.1 = 0 then cmpI x.2 y.2 else cmpI x.1 y.1 from rfl)
  have HC := Lib.hid (fun (a b : Int) (W : World) => cmpI_l a b W)
  by_cases ha : cmpI x.1 y.1 = 0
  · by_cases hb : cmpI x.2 y.2 = 0
    · go_enter Try.func101, Try.ntmps101
      go_wp2
      refine wp_loop_rounds 3 ?_
      rw [rounds_succ]
      go_wp2_with (go_at_call 128; refine (cmpI_l _ _ _).mono ?_; go_must (rintro e w1 ⟨rfl, rfl⟩; try rw [ha]))
      rw [rounds_succ]
      go_wp2_with (go_at_call 128; refine (cmpI_l _ _ _).mono ?_; go_must (rintro e w1 ⟨rfl, rfl⟩; try rw [hb]))
      rw [rounds_succ]
      go_wp2
      go_ret
      exact ⟨ret_int (by rw [HE.out, if_pos ha, hb]), rfl⟩
    · have hb2 : (cmpI x.2 y.2 != 0) = true := by simpa using hb
      go_enter Try.func101, Try.ntmps101
      go_wp2
      refine wp_loop_rounds 2 ?_
      rw [rounds_succ]
      go_wp2_with (go_at_call 128; refine (cmpI_l _ _ _).mono ?_; go_must (rintro e w1 ⟨rfl, rfl⟩; try rw [ha]))
      rw [rounds_succ]
      go_wp2_with (go_at_call 128; refine (cmpI_l _ _ _).mono ?_; go_must (rintro e w1 ⟨rfl, rfl⟩))
      go_ret
      exact ⟨ret_int (by rw [HE.out, if_pos ha]), rfl⟩
  · have ha2 : (cmpI x.1 y.1 != 0) = true := by simpa using ha
    go_enter Try.func101, Try.ntmps101
    go_wp2
    refine wp_loop_rounds 1 ?_
    rw [rounds_succ]
    go_wp2_with (go_at_call 128; refine (cmpI_l _ _ _).mono ?_; go_must (rintro e w1 ⟨rfl, rfl⟩))
    go_ret
    exact ⟨ret_int (by rw [HE.out, if_neg ha]), rfl⟩
set_option maxHeartbeats 4000000 in
set_option maxRecDepth 100000 in
theorem compare_l (x y : Int × Int) (W : World) : Calls Try.prog 81 #[.agg #[.int .i64 (x.1), .int .i64 (x.2)], .agg #[.int .i64 (y.1), .int .i64 (y.2)]] W fun e w' => e = .returned (.int .i64 (cmpC x y)) ∧ ∃ q os', w' = grow (W.drewN q) os' := by
  go_enter Try.func81, Try.ntmps81
  go_wp2
  go_quiet ((go_at_call 101; refine Calls.quiet_of_same (compareS_l x y _ _ _ _ _ (by go_simp) (by go_simp) (by go_simp) (by go_simp))))
  go_wp2
  go_ret
  refine ⟨rfl, nq, #[.cells #[.int .i64 x.1, .int .i64 x.2] 31, .cells #[.int .i64 y.1, .int .i64 y.2] 31], ?_⟩
  simp only [alloc_eq_grow, grow_grow]
  rfl
end Go.Proofs.Ytndfdgdahinkpaa
