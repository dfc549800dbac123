/- Which event comes ahead: the reference's Less and before: their walks. -/
import Derived.Test.YtnejicklenhpeaaGreatSafeR
namespace Go.Proofs.YtnejicklenhpeaaGreat
open Go.RowKit
def lessC (a b : Int × Int) : Bool := decide (a.1 < b.1) || (decide (a.1 = b.1) && decide (a.2 < b.2))
def ltE (a b : P3) : Bool := if a.1 = b.1 then (if a.2.1 = b.2.1 then decide (a.2.2 < b.2.2) else decide (a.2.1 < b.2.1)) else decide (a.1 < b.1)
def beforeB (a b : EvD) : Bool := if a.t = b.t then (if a.c = b.c then (if a.e.1 = b.e.1 then ltE a.e.2 b.e.2 else decide (a.e.1 < b.e.1)) else lessC a.c b.c) else decide (a.t < b.t)
set_option linter.unusedSimpArgs false
set_option maxHeartbeats 4000000 in
set_option maxRecDepth 100000 in
theorem Less_l (a b : Int × Int) (w : World) :
    Calls Tryz.prog 147 #[.agg #[.int .i64 a.1, .int .i64 a.2], .agg #[.int .i64 b.1, .int .i64 b.2]] w fun e w' => e = .returned (.bool (lessC a b)) ∧ Below w.heap.size w w' := by
  obtain ⟨a0, a1⟩ := a
  obtain ⟨b0, b1⟩ := b
  have HV := Lib.hid (show lessC (a0, a1) (b0, b1) = (decide (a0 < b0) || (decide (a0 = b0) && decide (a1 < b1))) from rfl)
  rw [HV.out]
  clear HV
  simp only
  by_cases h1 : a0 < b0
  · go_enter Tryz.func147, Tryz.ntmps147
    go_wp2
    refine bodyPost_ret (v := .bool true) (by simp only [results, Tryz.results147]; first | (go_simp; done) | (go_simp; rfl)) rfl ⟨ret_bool (by simp [h1]), by repeat (first | (with_reducible exact Below.refl _ _) | (with_reducible assumption) | (with_reducible refine Below.drew ?_) | (with_reducible refine Below.setCell ?_ (by first | (simp; done) | (simp; omega) | omega) _) | (with_reducible refine Below.alloc ?_ (by first | (simp; done) | (simp; omega) | omega) _) | (with_reducible refine below_drewN ?_ _) | (refine Below.trans ?_ (Below.mono (by with_reducible assumption) (by first | (simp; done) | (simp; omega) | omega))))⟩
  · by_cases h2 : a0 = b0
    · by_cases h3 : a1 < b1
      · go_enter Tryz.func147, Tryz.ntmps147
        go_wp2
        refine bodyPost_ret (v := .bool true) (by simp only [results, Tryz.results147]; first | (go_simp; done) | (go_simp; rfl)) rfl ⟨ret_bool (by simp [h1, h2, h3]), by repeat (first | (with_reducible exact Below.refl _ _) | (with_reducible assumption) | (with_reducible refine Below.drew ?_) | (with_reducible refine Below.setCell ?_ (by first | (simp; done) | (simp; omega) | omega) _) | (with_reducible refine Below.alloc ?_ (by first | (simp; done) | (simp; omega) | omega) _) | (with_reducible refine below_drewN ?_ _) | (refine Below.trans ?_ (Below.mono (by with_reducible assumption) (by first | (simp; done) | (simp; omega) | omega))))⟩
      · go_enter Tryz.func147, Tryz.ntmps147
        go_wp2
        refine bodyPost_ret (v := .bool false) (by simp only [results, Tryz.results147]; first | (go_simp; done) | (go_simp; rfl)) rfl ⟨ret_bool (by simp [h1, h3]), by repeat (first | (with_reducible exact Below.refl _ _) | (with_reducible assumption) | (with_reducible refine Below.drew ?_) | (with_reducible refine Below.setCell ?_ (by first | (simp; done) | (simp; omega) | omega) _) | (with_reducible refine Below.alloc ?_ (by first | (simp; done) | (simp; omega) | omega) _) | (with_reducible refine below_drewN ?_ _) | (refine Below.trans ?_ (Below.mono (by with_reducible assumption) (by first | (simp; done) | (simp; omega) | omega))))⟩
    · go_enter Tryz.func147, Tryz.ntmps147
      go_wp2
      refine bodyPost_ret (v := .bool false) (by simp only [results, Tryz.results147]; first | (go_simp; done) | (go_simp; rfl)) rfl ⟨ret_bool (by simp [h1, h2]), by repeat (first | (with_reducible exact Below.refl _ _) | (with_reducible assumption) | (with_reducible refine Below.drew ?_) | (with_reducible refine Below.setCell ?_ (by first | (simp; done) | (simp; omega) | omega) _) | (with_reducible refine Below.alloc ?_ (by first | (simp; done) | (simp; omega) | omega) _) | (with_reducible refine below_drewN ?_ _) | (refine Below.trans ?_ (Below.mono (by with_reducible assumption) (by first | (simp; done) | (simp; omega) | omega))))⟩
set_option maxHeartbeats 4000000 in
set_option maxRecDepth 100000 in
theorem before_l (a b : EvD) (w : World) :
    Calls Tryz.prog 183 #[evD a, evD b] w fun e w' => e = .returned (.bool (beforeB a b)) ∧ Below w.heap.size w w' := by
  obtain ⟨t, ⟨c0, c1⟩, ⟨v, x, y, z⟩⟩ := a
  obtain ⟨t', ⟨d0, d1⟩, ⟨v', x', y', z'⟩⟩ := b
  have HV := Lib.hid (show beforeB ⟨t, (c0, c1), (v, (x, y, z))⟩ ⟨t', (d0, d1), (v', (x', y', z'))⟩ = (if t = t' then (if (c0, c1) = (d0, d1) then (if v = v' then ltE (x, y, z) (x', y', z') else decide (v < v')) else lessC (c0, c1) (d0, d1)) else decide (t < t')) from rfl)
  rw [HV.out]
  clear HV
  unfold evD
  simp only
  have HL := Lib.hid (fun (W : World) => show Calls Tryz.prog 147 #[.agg #[.int .i64 c0, .int .i64 c1], .agg #[.int .i64 d0, .int .i64 d1]] W fun e w' => e = .returned (.bool (lessC (c0, c1) (d0, d1))) ∧ Below W.heap.size W w' from Less_l (c0, c1) (d0, d1) W)
  have heq := fun W => eq_cell c0 c1 d0 d1 W
  by_cases h1 : t = t'
  rotate_left
  · rw [if_neg h1]
    by_cases h2 : t < t'
    · go_enter Tryz.func183, Tryz.ntmps183
      go_wp2
      refine bodyPost_ret (v := .bool true) (by simp only [results, Tryz.results183]; first | (go_simp; done) | (go_simp; rfl)) rfl ⟨ret_bool (by simp [h2]), by repeat (first | (with_reducible exact Below.refl _ _) | (with_reducible assumption) | (with_reducible refine Below.drew ?_) | (with_reducible refine Below.setCell ?_ (by first | (simp; done) | (simp; omega) | omega) _) | (with_reducible refine Below.alloc ?_ (by first | (simp; done) | (simp; omega) | omega) _) | (with_reducible refine below_drewN ?_ _) | (refine Below.trans ?_ (Below.mono (by with_reducible assumption) (by first | (simp; done) | (simp; omega) | omega))))⟩
    · go_enter Tryz.func183, Tryz.ntmps183
      go_wp2
      refine bodyPost_ret (v := .bool false) (by simp only [results, Tryz.results183]; first | (go_simp; done) | (go_simp; rfl)) rfl ⟨ret_bool (by simp [h2]), by repeat (first | (with_reducible exact Below.refl _ _) | (with_reducible assumption) | (with_reducible refine Below.drew ?_) | (with_reducible refine Below.setCell ?_ (by first | (simp; done) | (simp; omega) | omega) _) | (with_reducible refine Below.alloc ?_ (by first | (simp; done) | (simp; omega) | omega) _) | (with_reducible refine below_drewN ?_ _) | (refine Below.trans ?_ (Below.mono (by with_reducible assumption) (by first | (simp; done) | (simp; omega) | omega))))⟩
  rw [if_pos h1]
  by_cases hc : (c0, c1) = (d0, d1)
  rotate_left
  · rw [if_neg hc]
    have hcc : (decide (c0 = d0) && decide (c1 = d1)) = false := by
      simp only [Prod.mk.injEq] at hc
      by_cases q1 : c0 = d0 <;> by_cases q2 : c1 = d1 <;> simp_all
    rw [hcc] at heq
    generalize lessC (c0, c1) (d0, d1) = R at *
    go_enter Tryz.func183, Tryz.ntmps183
    go_wp2_with (go_at_call 147; refine (HL.out _).mono ?_; go_must (rintro e w5 ⟨rfl, hb5⟩))
    refine bodyPost_ret (v := .bool R) (by simp only [results, Tryz.results183]; first | (go_simp; done) | (go_simp; rfl)) rfl ⟨rfl, by repeat (first | (with_reducible exact Below.refl _ _) | (with_reducible assumption) | (with_reducible refine Below.drew ?_) | (with_reducible refine Below.setCell ?_ (by first | (simp; done) | (simp; omega) | omega) _) | (with_reducible refine Below.alloc ?_ (by first | (simp; done) | (simp; omega) | omega) _) | (with_reducible refine below_drewN ?_ _) | (refine Below.trans ?_ (Below.mono (by with_reducible assumption) (by first | (simp; done) | (simp; omega) | omega))))⟩
  rw [if_pos hc]
  have hcc : (decide (c0 = d0) && decide (c1 = d1)) = true := by simp only [Prod.mk.injEq] at hc; simp [hc]
  rw [hcc] at heq
  by_cases h3 : v = v'
  rotate_left
  · rw [if_neg h3]
    by_cases h4 : v < v'
    · go_enter Tryz.func183, Tryz.ntmps183
      go_wp2
      refine bodyPost_ret (v := .bool true) (by simp only [results, Tryz.results183]; first | (go_simp; done) | (go_simp; rfl)) rfl ⟨ret_bool (by simp [h4]), by repeat (first | (with_reducible exact Below.refl _ _) | (with_reducible assumption) | (with_reducible refine Below.drew ?_) | (with_reducible refine Below.setCell ?_ (by first | (simp; done) | (simp; omega) | omega) _) | (with_reducible refine Below.alloc ?_ (by first | (simp; done) | (simp; omega) | omega) _) | (with_reducible refine below_drewN ?_ _) | (refine Below.trans ?_ (Below.mono (by with_reducible assumption) (by first | (simp; done) | (simp; omega) | omega))))⟩
    · go_enter Tryz.func183, Tryz.ntmps183
      go_wp2
      refine bodyPost_ret (v := .bool false) (by simp only [results, Tryz.results183]; first | (go_simp; done) | (go_simp; rfl)) rfl ⟨ret_bool (by simp [h4]), by repeat (first | (with_reducible exact Below.refl _ _) | (with_reducible assumption) | (with_reducible refine Below.drew ?_) | (with_reducible refine Below.setCell ?_ (by first | (simp; done) | (simp; omega) | omega) _) | (with_reducible refine Below.alloc ?_ (by first | (simp; done) | (simp; omega) | omega) _) | (with_reducible refine below_drewN ?_ _) | (refine Below.trans ?_ (Below.mono (by with_reducible assumption) (by first | (simp; done) | (simp; omega) | omega))))⟩
  rw [if_pos h3]
  unfold ltE
  simp only
  clear HL hc hcc
  by_cases h5 : x = x'
  rotate_left
  · rw [if_neg h5]
    by_cases h6 : x < x'
    · go_enter Tryz.func183, Tryz.ntmps183
      go_wp2
      refine wp_loop_rounds 5 ?_
      rw [rounds_succ]
      go_wp2
      go_region
      go_wp2
      go_region
      go_wp2
      refine bodyPost_ret (v := .bool true) (by simp only [results, Tryz.results183]; first | (go_simp; done) | (go_simp; rfl)) rfl ⟨ret_bool (by simp [h6]), by repeat (first | (with_reducible exact Below.refl _ _) | (with_reducible assumption) | (with_reducible refine Below.drew ?_) | (with_reducible refine Below.setCell ?_ (by first | (simp; done) | (simp; omega) | omega) _) | (with_reducible refine Below.alloc ?_ (by first | (simp; done) | (simp; omega) | omega) _) | (with_reducible refine below_drewN ?_ _) | (refine Below.trans ?_ (Below.mono (by with_reducible assumption) (by first | (simp; done) | (simp; omega) | omega))))⟩
    · go_enter Tryz.func183, Tryz.ntmps183
      go_wp2
      refine wp_loop_rounds 5 ?_
      rw [rounds_succ]
      go_wp2
      go_region
      go_wp2
      go_region
      go_wp2
      refine bodyPost_ret (v := .bool false) (by simp only [results, Tryz.results183]; first | (go_simp; done) | (go_simp; rfl)) rfl ⟨ret_bool (by simp [h6]), by repeat (first | (with_reducible exact Below.refl _ _) | (with_reducible assumption) | (with_reducible refine Below.drew ?_) | (with_reducible refine Below.setCell ?_ (by first | (simp; done) | (simp; omega) | omega) _) | (with_reducible refine Below.alloc ?_ (by first | (simp; done) | (simp; omega) | omega) _) | (with_reducible refine below_drewN ?_ _) | (refine Below.trans ?_ (Below.mono (by with_reducible assumption) (by first | (simp; done) | (simp; omega) | omega))))⟩
  rw [if_pos h5]
  by_cases h7 : y = y'
  rotate_left
  · rw [if_neg h7]
    by_cases h8 : y < y'
    · go_enter Tryz.func183, Tryz.ntmps183
      go_wp2
      refine wp_loop_rounds 5 ?_
      rw [rounds_succ]
      go_wp2
      go_region
      go_wp2
      rw [rounds_succ]
      go_wp2
      go_region
      go_wp2
      go_region
      go_wp2
      refine bodyPost_ret (v := .bool true) (by simp only [results, Tryz.results183]; first | (go_simp; done) | (go_simp; rfl)) rfl ⟨ret_bool (by simp [h8]), by repeat (first | (with_reducible exact Below.refl _ _) | (with_reducible assumption) | (with_reducible refine Below.drew ?_) | (with_reducible refine Below.setCell ?_ (by first | (simp; done) | (simp; omega) | omega) _) | (with_reducible refine Below.alloc ?_ (by first | (simp; done) | (simp; omega) | omega) _) | (with_reducible refine below_drewN ?_ _) | (refine Below.trans ?_ (Below.mono (by with_reducible assumption) (by first | (simp; done) | (simp; omega) | omega))))⟩
    · go_enter Tryz.func183, Tryz.ntmps183
      go_wp2
      refine wp_loop_rounds 5 ?_
      rw [rounds_succ]
      go_wp2
      go_region
      go_wp2
      rw [rounds_succ]
      go_wp2
      go_region
      go_wp2
      go_region
      go_wp2
      refine bodyPost_ret (v := .bool false) (by simp only [results, Tryz.results183]; first | (go_simp; done) | (go_simp; rfl)) rfl ⟨ret_bool (by simp [h8]), by repeat (first | (with_reducible exact Below.refl _ _) | (with_reducible assumption) | (with_reducible refine Below.drew ?_) | (with_reducible refine Below.setCell ?_ (by first | (simp; done) | (simp; omega) | omega) _) | (with_reducible refine Below.alloc ?_ (by first | (simp; done) | (simp; omega) | omega) _) | (with_reducible refine below_drewN ?_ _) | (refine Below.trans ?_ (Below.mono (by with_reducible assumption) (by first | (simp; done) | (simp; omega) | omega))))⟩
  rw [if_pos h7]
  by_cases h9 : z = z'
  rotate_left
  · by_cases h10 : z < z'
    · go_enter Tryz.func183, Tryz.ntmps183
      go_wp2
      refine wp_loop_rounds 5 ?_
      rw [rounds_succ]
      go_wp2
      go_region
      go_wp2
      rw [rounds_succ]
      go_wp2
      go_region
      go_wp2
      rw [rounds_succ]
      go_wp2
      go_region
      go_wp2
      go_region
      go_wp2
      refine bodyPost_ret (v := .bool true) (by simp only [results, Tryz.results183]; first | (go_simp; done) | (go_simp; rfl)) rfl ⟨ret_bool (by simp [h10]), by repeat (first | (with_reducible exact Below.refl _ _) | (with_reducible assumption) | (with_reducible refine Below.drew ?_) | (with_reducible refine Below.setCell ?_ (by first | (simp; done) | (simp; omega) | omega) _) | (with_reducible refine Below.alloc ?_ (by first | (simp; done) | (simp; omega) | omega) _) | (with_reducible refine below_drewN ?_ _) | (refine Below.trans ?_ (Below.mono (by with_reducible assumption) (by first | (simp; done) | (simp; omega) | omega))))⟩
    · go_enter Tryz.func183, Tryz.ntmps183
      go_wp2
      refine wp_loop_rounds 5 ?_
      rw [rounds_succ]
      go_wp2
      go_region
      go_wp2
      rw [rounds_succ]
      go_wp2
      go_region
      go_wp2
      rw [rounds_succ]
      go_wp2
      go_region
      go_wp2
      go_region
      go_wp2
      refine bodyPost_ret (v := .bool false) (by simp only [results, Tryz.results183]; first | (go_simp; done) | (go_simp; rfl)) rfl ⟨ret_bool (by simp [h10]), by repeat (first | (with_reducible exact Below.refl _ _) | (with_reducible assumption) | (with_reducible refine Below.drew ?_) | (with_reducible refine Below.setCell ?_ (by first | (simp; done) | (simp; omega) | omega) _) | (with_reducible refine Below.alloc ?_ (by first | (simp; done) | (simp; omega) | omega) _) | (with_reducible refine below_drewN ?_ _) | (refine Below.trans ?_ (Below.mono (by with_reducible assumption) (by first | (simp; done) | (simp; omega) | omega))))⟩
  go_enter Tryz.func183, Tryz.ntmps183
  go_wp2
  refine wp_loop_rounds 5 ?_
  rw [rounds_succ]
  go_wp2
  go_region
  go_wp2
  rw [rounds_succ]
  go_wp2
  go_region
  go_wp2
  rw [rounds_succ]
  go_wp2
  go_region
  go_wp2
  rw [rounds_succ]
  go_wp2
  refine bodyPost_ret (v := .bool false) (by simp only [results, Tryz.results183]; first | (go_simp; done) | (go_simp; rfl)) rfl ⟨ret_bool (by simp [h9]), by repeat (first | (with_reducible exact Below.refl _ _) | (with_reducible assumption) | (with_reducible refine Below.drew ?_) | (with_reducible refine Below.setCell ?_ (by first | (simp; done) | (simp; omega) | omega) _) | (with_reducible refine Below.alloc ?_ (by first | (simp; done) | (simp; omega) | omega) _) | (with_reducible refine below_drewN ?_ _) | (refine Below.trans ?_ (Below.mono (by with_reducible assumption) (by first | (simp; done) | (simp; omega) | omega))))⟩
end Go.Proofs.YtnejicklenhpeaaGreat
