/- The walks of the reference's axis and Valid. The walks of space.newFold and space.Valid. Conditions: none. -/
import Derived.Test.YtnejicklenhpeaaGreatSpaceP
namespace Go.Proofs.YtnejicklenhpeaaGreat
open Go.RowKit
set_option maxHeartbeats 4000000 in
set_option maxRecDepth 100000 in
theorem raxis_bad (n x0 x1 x2 : Int) (w : World) (h : (btw 1 n 3 && flatB n x0 x1 x2 3) = false) :
    Calls Tryz.prog 111 #[.int .i64 (n), .agg #[.int .i64 (x0), .int .i64 (x1), .int .i64 (x2)]] w fun e w' => e = .returned (.int .i64 (-1)) ∧ Below w.heap.size w w' := by
  by_cases h1 : n < 1
  · clear h
    go_enter Tryz.func111, Tryz.ntmps111
    go_wp2
    go_ret
    exact ⟨rfl, by repeat (first | exact Below.refl _ _ | assumption | (refine Below.drew ?_) | (refine below_drewN ?_ _) | (refine Below.alloc ?_ (by first | (simp; done) | (simp; omega) | omega) _) | (refine Below.setCell ?_ (by first | (simp; done) | (simp; omega) | omega) _) | (refine Below.trans ?_ (Below.mono (by assumption) (by first | (simp; done) | (simp; omega) | omega))))⟩
  by_cases h2 : 3 < n
  · clear h
    go_enter Tryz.func111, Tryz.ntmps111
    go_wp2
    go_ret
    exact ⟨rfl, by repeat (first | exact Below.refl _ _ | assumption | (refine Below.drew ?_) | (refine below_drewN ?_ _) | (refine Below.alloc ?_ (by first | (simp; done) | (simp; omega) | omega) _) | (refine Below.setCell ?_ (by first | (simp; done) | (simp; omega) | omega) _) | (refine Below.trans ?_ (Below.mono (by assumption) (by first | (simp; done) | (simp; omega) | omega))))⟩
  have hn : btw 1 n 3 = true := by simp [btw]; omega
  have hf : flatB n x0 x1 x2 3 = false := by simpa [hn] using h
  clear h
  go_enter Tryz.func111, Tryz.ntmps111
  go_wp2_with (go_at_call 155; refine (Flat_any _ _ _ _ _ _ (by omega) hn).mono ?_; go_must ((first | (have h0 := hb1; clear h0; rintro e w2 ⟨rfl, hb2⟩; obtain ⟨hc2, hf2⟩ := bcell hb2; have hz2 := hb2.size; (try simp at hz2); (first | have z := z10 hz2 | have z := z9 hz2 | have z := z8 hz2 | have z := z7 hz2 | have z := z6 hz2 | have z := z5 hz2 | have z := z4 hz2 | have z := z3 hz2 | have z := z2 hz2 | have z := z1 hz2 | skip); have hq := Nat.le_trans hz1 (show w1.heap.size ≤ w2.heap.size by omega); (first | have z := z10 hq | have z := z9 hq | have z := z8 hq | have z := z7 hq | have z := z6 hq | have z := z5 hq | have z := z4 hq | have z := z3 hq | have z := z2 hq | have z := z1 hq | skip)) | (rintro e w1 ⟨rfl, hb1⟩; obtain ⟨hc1, hf1⟩ := bcell hb1; have hz1 := hb1.size; (try simp at hz1); (first | have z := z10 hz1 | have z := z9 hz1 | have z := z8 hz1 | have z := z7 hz1 | have z := z6 hz1 | have z := z5 hz1 | have z := z4 hz1 | have z := z3 hz1 | have z := z2 hz1 | have z := z1 hz1 | skip)))))
  go_ret
  exact ⟨rfl, by repeat (first | exact Below.refl _ _ | assumption | (refine Below.drew ?_) | (refine below_drewN ?_ _) | (refine Below.alloc ?_ (by first | (simp; done) | (simp; omega) | omega) _) | (refine Below.setCell ?_ (by first | (simp; done) | (simp; omega) | omega) _) | (refine Below.trans ?_ (Below.mono (by assumption) (by first | (simp; done) | (simp; omega) | omega))))⟩
set_option maxHeartbeats 4000000 in
set_option maxRecDepth 100000 in
theorem raxis_good1 (x0 : Int) (w : World) (hf : flatB 1 x0 0 0 3 = true) :
    Calls Tryz.prog 111 #[.int .i64 (1), .agg #[.int .i64 (x0), .int .i64 (0), .int .i64 (0)]] w fun e w' => e = .returned (.int .i64 (findK 1 x0 0 0)) ∧ Below w.heap.size w w' := by
  have hn : btw 1 1 3 = true := by decide
  by_cases e0 : x0 = 1
  · subst e0
    go_enter Tryz.func111, Tryz.ntmps111
    go_wp2_with (go_at_call 155; refine (Flat_any _ _ _ _ _ _ (by omega) hn).mono ?_; go_must ((first | (have h0 := hb1; clear h0; rintro e w2 ⟨rfl, hb2⟩; obtain ⟨hc2, hf2⟩ := bcell hb2; have hz2 := hb2.size; (try simp at hz2); (first | have z := z10 hz2 | have z := z9 hz2 | have z := z8 hz2 | have z := z7 hz2 | have z := z6 hz2 | have z := z5 hz2 | have z := z4 hz2 | have z := z3 hz2 | have z := z2 hz2 | have z := z1 hz2 | skip); have hq := Nat.le_trans hz1 (show w1.heap.size ≤ w2.heap.size by omega); (first | have z := z10 hq | have z := z9 hq | have z := z8 hq | have z := z7 hq | have z := z6 hq | have z := z5 hq | have z := z4 hq | have z := z3 hq | have z := z2 hq | have z := z1 hq | skip)) | (rintro e w1 ⟨rfl, hb1⟩; obtain ⟨hc1, hf1⟩ := bcell hb1; have hz1 := hb1.size; (try simp at hz1); (first | have z := z10 hz1 | have z := z9 hz1 | have z := z8 hz1 | have z := z7 hz1 | have z := z6 hz1 | have z := z5 hz1 | have z := z4 hz1 | have z := z3 hz1 | have z := z2 hz1 | have z := z1 hz1 | skip)))))
    refine wp_loop_rounds 2 ?_
    repeat (rw [rounds_succ]; go_wp2)
    go_ret
    exact ⟨ret_int (by simp [findK, oneB, *]), by repeat (first | exact Below.refl _ _ | assumption | (refine Below.drew ?_) | (refine below_drewN ?_ _) | (refine Below.alloc ?_ (by first | (simp; done) | (simp; omega) | omega) _) | (refine Below.setCell ?_ (by first | (simp; done) | (simp; omega) | omega) _) | (refine Below.trans ?_ (Below.mono (by assumption) (by first | (simp; done) | (simp; omega) | omega))))⟩
  by_cases f0 : x0 = -1
  · subst f0
    go_enter Tryz.func111, Tryz.ntmps111
    go_wp2_with (go_at_call 155; refine (Flat_any _ _ _ _ _ _ (by omega) hn).mono ?_; go_must ((first | (have h0 := hb1; clear h0; rintro e w2 ⟨rfl, hb2⟩; obtain ⟨hc2, hf2⟩ := bcell hb2; have hz2 := hb2.size; (try simp at hz2); (first | have z := z10 hz2 | have z := z9 hz2 | have z := z8 hz2 | have z := z7 hz2 | have z := z6 hz2 | have z := z5 hz2 | have z := z4 hz2 | have z := z3 hz2 | have z := z2 hz2 | have z := z1 hz2 | skip); have hq := Nat.le_trans hz1 (show w1.heap.size ≤ w2.heap.size by omega); (first | have z := z10 hq | have z := z9 hq | have z := z8 hq | have z := z7 hq | have z := z6 hq | have z := z5 hq | have z := z4 hq | have z := z3 hq | have z := z2 hq | have z := z1 hq | skip)) | (rintro e w1 ⟨rfl, hb1⟩; obtain ⟨hc1, hf1⟩ := bcell hb1; have hz1 := hb1.size; (try simp at hz1); (first | have z := z10 hz1 | have z := z9 hz1 | have z := z8 hz1 | have z := z7 hz1 | have z := z6 hz1 | have z := z5 hz1 | have z := z4 hz1 | have z := z3 hz1 | have z := z2 hz1 | have z := z1 hz1 | skip)))))
    refine wp_loop_rounds 2 ?_
    repeat (rw [rounds_succ]; go_wp2)
    go_ret
    exact ⟨ret_int (by simp [findK, oneB, *]), by repeat (first | exact Below.refl _ _ | assumption | (refine Below.drew ?_) | (refine below_drewN ?_ _) | (refine Below.alloc ?_ (by first | (simp; done) | (simp; omega) | omega) _) | (refine Below.setCell ?_ (by first | (simp; done) | (simp; omega) | omega) _) | (refine Below.trans ?_ (Below.mono (by assumption) (by first | (simp; done) | (simp; omega) | omega))))⟩
  have g0 : (x0 == 1) = false := by simpa using e0
  have k0 : (x0 == -1) = false := by simpa using f0
  go_enter Tryz.func111, Tryz.ntmps111
  go_wp2_with (go_at_call 155; refine (Flat_any _ _ _ _ _ _ (by omega) hn).mono ?_; go_must ((first | (have h0 := hb1; clear h0; rintro e w2 ⟨rfl, hb2⟩; obtain ⟨hc2, hf2⟩ := bcell hb2; have hz2 := hb2.size; (try simp at hz2); (first | have z := z10 hz2 | have z := z9 hz2 | have z := z8 hz2 | have z := z7 hz2 | have z := z6 hz2 | have z := z5 hz2 | have z := z4 hz2 | have z := z3 hz2 | have z := z2 hz2 | have z := z1 hz2 | skip); have hq := Nat.le_trans hz1 (show w1.heap.size ≤ w2.heap.size by omega); (first | have z := z10 hq | have z := z9 hq | have z := z8 hq | have z := z7 hq | have z := z6 hq | have z := z5 hq | have z := z4 hq | have z := z3 hq | have z := z2 hq | have z := z1 hq | skip)) | (rintro e w1 ⟨rfl, hb1⟩; obtain ⟨hc1, hf1⟩ := bcell hb1; have hz1 := hb1.size; (try simp at hz1); (first | have z := z10 hz1 | have z := z9 hz1 | have z := z8 hz1 | have z := z7 hz1 | have z := z6 hz1 | have z := z5 hz1 | have z := z4 hz1 | have z := z3 hz1 | have z := z2 hz1 | have z := z1 hz1 | skip)))))
  refine wp_loop_rounds 2 ?_
  repeat (rw [rounds_succ]; go_wp2)
  go_ret
  exact ⟨ret_int (by simp [findK, oneB, *]), by repeat (first | exact Below.refl _ _ | assumption | (refine Below.drew ?_) | (refine below_drewN ?_ _) | (refine Below.alloc ?_ (by first | (simp; done) | (simp; omega) | omega) _) | (refine Below.setCell ?_ (by first | (simp; done) | (simp; omega) | omega) _) | (refine Below.trans ?_ (Below.mono (by assumption) (by first | (simp; done) | (simp; omega) | omega))))⟩
set_option maxHeartbeats 4000000 in
set_option maxRecDepth 100000 in
theorem raxis_good2 (x0 x1 : Int) (w : World) (hf : flatB 2 x0 x1 0 3 = true) :
    Calls Tryz.prog 111 #[.int .i64 (2), .agg #[.int .i64 (x0), .int .i64 (x1), .int .i64 (0)]] w fun e w' => e = .returned (.int .i64 (findK 2 x0 x1 0)) ∧ Below w.heap.size w w' := by
  have hn : btw 1 2 3 = true := by decide
  by_cases e0 : x0 = 1
  · subst e0
    go_enter Tryz.func111, Tryz.ntmps111
    go_wp2_with (go_at_call 155; refine (Flat_any _ _ _ _ _ _ (by omega) hn).mono ?_; go_must ((first | (have h0 := hb1; clear h0; rintro e w2 ⟨rfl, hb2⟩; obtain ⟨hc2, hf2⟩ := bcell hb2; have hz2 := hb2.size; (try simp at hz2); (first | have z := z10 hz2 | have z := z9 hz2 | have z := z8 hz2 | have z := z7 hz2 | have z := z6 hz2 | have z := z5 hz2 | have z := z4 hz2 | have z := z3 hz2 | have z := z2 hz2 | have z := z1 hz2 | skip); have hq := Nat.le_trans hz1 (show w1.heap.size ≤ w2.heap.size by omega); (first | have z := z10 hq | have z := z9 hq | have z := z8 hq | have z := z7 hq | have z := z6 hq | have z := z5 hq | have z := z4 hq | have z := z3 hq | have z := z2 hq | have z := z1 hq | skip)) | (rintro e w1 ⟨rfl, hb1⟩; obtain ⟨hc1, hf1⟩ := bcell hb1; have hz1 := hb1.size; (try simp at hz1); (first | have z := z10 hz1 | have z := z9 hz1 | have z := z8 hz1 | have z := z7 hz1 | have z := z6 hz1 | have z := z5 hz1 | have z := z4 hz1 | have z := z3 hz1 | have z := z2 hz1 | have z := z1 hz1 | skip)))))
    refine wp_loop_rounds 3 ?_
    repeat (rw [rounds_succ]; go_wp2)
    go_ret
    exact ⟨ret_int (by simp [findK, oneB, *]), by repeat (first | exact Below.refl _ _ | assumption | (refine Below.drew ?_) | (refine below_drewN ?_ _) | (refine Below.alloc ?_ (by first | (simp; done) | (simp; omega) | omega) _) | (refine Below.setCell ?_ (by first | (simp; done) | (simp; omega) | omega) _) | (refine Below.trans ?_ (Below.mono (by assumption) (by first | (simp; done) | (simp; omega) | omega))))⟩
  by_cases f0 : x0 = -1
  · subst f0
    go_enter Tryz.func111, Tryz.ntmps111
    go_wp2_with (go_at_call 155; refine (Flat_any _ _ _ _ _ _ (by omega) hn).mono ?_; go_must ((first | (have h0 := hb1; clear h0; rintro e w2 ⟨rfl, hb2⟩; obtain ⟨hc2, hf2⟩ := bcell hb2; have hz2 := hb2.size; (try simp at hz2); (first | have z := z10 hz2 | have z := z9 hz2 | have z := z8 hz2 | have z := z7 hz2 | have z := z6 hz2 | have z := z5 hz2 | have z := z4 hz2 | have z := z3 hz2 | have z := z2 hz2 | have z := z1 hz2 | skip); have hq := Nat.le_trans hz1 (show w1.heap.size ≤ w2.heap.size by omega); (first | have z := z10 hq | have z := z9 hq | have z := z8 hq | have z := z7 hq | have z := z6 hq | have z := z5 hq | have z := z4 hq | have z := z3 hq | have z := z2 hq | have z := z1 hq | skip)) | (rintro e w1 ⟨rfl, hb1⟩; obtain ⟨hc1, hf1⟩ := bcell hb1; have hz1 := hb1.size; (try simp at hz1); (first | have z := z10 hz1 | have z := z9 hz1 | have z := z8 hz1 | have z := z7 hz1 | have z := z6 hz1 | have z := z5 hz1 | have z := z4 hz1 | have z := z3 hz1 | have z := z2 hz1 | have z := z1 hz1 | skip)))))
    refine wp_loop_rounds 3 ?_
    repeat (rw [rounds_succ]; go_wp2)
    go_ret
    exact ⟨ret_int (by simp [findK, oneB, *]), by repeat (first | exact Below.refl _ _ | assumption | (refine Below.drew ?_) | (refine below_drewN ?_ _) | (refine Below.alloc ?_ (by first | (simp; done) | (simp; omega) | omega) _) | (refine Below.setCell ?_ (by first | (simp; done) | (simp; omega) | omega) _) | (refine Below.trans ?_ (Below.mono (by assumption) (by first | (simp; done) | (simp; omega) | omega))))⟩
  have g0 : (x0 == 1) = false := by simpa using e0
  have k0 : (x0 == -1) = false := by simpa using f0
  by_cases e1 : x1 = 1
  · subst e1
    go_enter Tryz.func111, Tryz.ntmps111
    go_wp2_with (go_at_call 155; refine (Flat_any _ _ _ _ _ _ (by omega) hn).mono ?_; go_must ((first | (have h0 := hb1; clear h0; rintro e w2 ⟨rfl, hb2⟩; obtain ⟨hc2, hf2⟩ := bcell hb2; have hz2 := hb2.size; (try simp at hz2); (first | have z := z10 hz2 | have z := z9 hz2 | have z := z8 hz2 | have z := z7 hz2 | have z := z6 hz2 | have z := z5 hz2 | have z := z4 hz2 | have z := z3 hz2 | have z := z2 hz2 | have z := z1 hz2 | skip); have hq := Nat.le_trans hz1 (show w1.heap.size ≤ w2.heap.size by omega); (first | have z := z10 hq | have z := z9 hq | have z := z8 hq | have z := z7 hq | have z := z6 hq | have z := z5 hq | have z := z4 hq | have z := z3 hq | have z := z2 hq | have z := z1 hq | skip)) | (rintro e w1 ⟨rfl, hb1⟩; obtain ⟨hc1, hf1⟩ := bcell hb1; have hz1 := hb1.size; (try simp at hz1); (first | have z := z10 hz1 | have z := z9 hz1 | have z := z8 hz1 | have z := z7 hz1 | have z := z6 hz1 | have z := z5 hz1 | have z := z4 hz1 | have z := z3 hz1 | have z := z2 hz1 | have z := z1 hz1 | skip)))))
    refine wp_loop_rounds 3 ?_
    repeat (rw [rounds_succ]; go_wp2)
    go_ret
    exact ⟨ret_int (by simp [findK, oneB, *]), by repeat (first | exact Below.refl _ _ | assumption | (refine Below.drew ?_) | (refine below_drewN ?_ _) | (refine Below.alloc ?_ (by first | (simp; done) | (simp; omega) | omega) _) | (refine Below.setCell ?_ (by first | (simp; done) | (simp; omega) | omega) _) | (refine Below.trans ?_ (Below.mono (by assumption) (by first | (simp; done) | (simp; omega) | omega))))⟩
  by_cases f1 : x1 = -1
  · subst f1
    go_enter Tryz.func111, Tryz.ntmps111
    go_wp2_with (go_at_call 155; refine (Flat_any _ _ _ _ _ _ (by omega) hn).mono ?_; go_must ((first | (have h0 := hb1; clear h0; rintro e w2 ⟨rfl, hb2⟩; obtain ⟨hc2, hf2⟩ := bcell hb2; have hz2 := hb2.size; (try simp at hz2); (first | have z := z10 hz2 | have z := z9 hz2 | have z := z8 hz2 | have z := z7 hz2 | have z := z6 hz2 | have z := z5 hz2 | have z := z4 hz2 | have z := z3 hz2 | have z := z2 hz2 | have z := z1 hz2 | skip); have hq := Nat.le_trans hz1 (show w1.heap.size ≤ w2.heap.size by omega); (first | have z := z10 hq | have z := z9 hq | have z := z8 hq | have z := z7 hq | have z := z6 hq | have z := z5 hq | have z := z4 hq | have z := z3 hq | have z := z2 hq | have z := z1 hq | skip)) | (rintro e w1 ⟨rfl, hb1⟩; obtain ⟨hc1, hf1⟩ := bcell hb1; have hz1 := hb1.size; (try simp at hz1); (first | have z := z10 hz1 | have z := z9 hz1 | have z := z8 hz1 | have z := z7 hz1 | have z := z6 hz1 | have z := z5 hz1 | have z := z4 hz1 | have z := z3 hz1 | have z := z2 hz1 | have z := z1 hz1 | skip)))))
    refine wp_loop_rounds 3 ?_
    repeat (rw [rounds_succ]; go_wp2)
    go_ret
    exact ⟨ret_int (by simp [findK, oneB, *]), by repeat (first | exact Below.refl _ _ | assumption | (refine Below.drew ?_) | (refine below_drewN ?_ _) | (refine Below.alloc ?_ (by first | (simp; done) | (simp; omega) | omega) _) | (refine Below.setCell ?_ (by first | (simp; done) | (simp; omega) | omega) _) | (refine Below.trans ?_ (Below.mono (by assumption) (by first | (simp; done) | (simp; omega) | omega))))⟩
  have g1 : (x1 == 1) = false := by simpa using e1
  have k1 : (x1 == -1) = false := by simpa using f1
  go_enter Tryz.func111, Tryz.ntmps111
  go_wp2_with (go_at_call 155; refine (Flat_any _ _ _ _ _ _ (by omega) hn).mono ?_; go_must ((first | (have h0 := hb1; clear h0; rintro e w2 ⟨rfl, hb2⟩; obtain ⟨hc2, hf2⟩ := bcell hb2; have hz2 := hb2.size; (try simp at hz2); (first | have z := z10 hz2 | have z := z9 hz2 | have z := z8 hz2 | have z := z7 hz2 | have z := z6 hz2 | have z := z5 hz2 | have z := z4 hz2 | have z := z3 hz2 | have z := z2 hz2 | have z := z1 hz2 | skip); have hq := Nat.le_trans hz1 (show w1.heap.size ≤ w2.heap.size by omega); (first | have z := z10 hq | have z := z9 hq | have z := z8 hq | have z := z7 hq | have z := z6 hq | have z := z5 hq | have z := z4 hq | have z := z3 hq | have z := z2 hq | have z := z1 hq | skip)) | (rintro e w1 ⟨rfl, hb1⟩; obtain ⟨hc1, hf1⟩ := bcell hb1; have hz1 := hb1.size; (try simp at hz1); (first | have z := z10 hz1 | have z := z9 hz1 | have z := z8 hz1 | have z := z7 hz1 | have z := z6 hz1 | have z := z5 hz1 | have z := z4 hz1 | have z := z3 hz1 | have z := z2 hz1 | have z := z1 hz1 | skip)))))
  refine wp_loop_rounds 3 ?_
  repeat (rw [rounds_succ]; go_wp2)
  go_ret
  exact ⟨ret_int (by simp [findK, oneB, *]), by repeat (first | exact Below.refl _ _ | assumption | (refine Below.drew ?_) | (refine below_drewN ?_ _) | (refine Below.alloc ?_ (by first | (simp; done) | (simp; omega) | omega) _) | (refine Below.setCell ?_ (by first | (simp; done) | (simp; omega) | omega) _) | (refine Below.trans ?_ (Below.mono (by assumption) (by first | (simp; done) | (simp; omega) | omega))))⟩
set_option maxHeartbeats 4000000 in
set_option maxRecDepth 100000 in
theorem raxis_good3 (x0 x1 x2 : Int) (w : World) (hf : flatB 3 x0 x1 x2 3 = true) :
    Calls Tryz.prog 111 #[.int .i64 (3), .agg #[.int .i64 (x0), .int .i64 (x1), .int .i64 (x2)]] w fun e w' => e = .returned (.int .i64 (findK 3 x0 x1 x2)) ∧ Below w.heap.size w w' := by
  have hn : btw 1 3 3 = true := by decide
  by_cases e0 : x0 = 1
  · subst e0
    go_enter Tryz.func111, Tryz.ntmps111
    go_wp2_with (go_at_call 155; refine (Flat_any _ _ _ _ _ _ (by omega) hn).mono ?_; go_must ((first | (have h0 := hb1; clear h0; rintro e w2 ⟨rfl, hb2⟩; obtain ⟨hc2, hf2⟩ := bcell hb2; have hz2 := hb2.size; (try simp at hz2); (first | have z := z10 hz2 | have z := z9 hz2 | have z := z8 hz2 | have z := z7 hz2 | have z := z6 hz2 | have z := z5 hz2 | have z := z4 hz2 | have z := z3 hz2 | have z := z2 hz2 | have z := z1 hz2 | skip); have hq := Nat.le_trans hz1 (show w1.heap.size ≤ w2.heap.size by omega); (first | have z := z10 hq | have z := z9 hq | have z := z8 hq | have z := z7 hq | have z := z6 hq | have z := z5 hq | have z := z4 hq | have z := z3 hq | have z := z2 hq | have z := z1 hq | skip)) | (rintro e w1 ⟨rfl, hb1⟩; obtain ⟨hc1, hf1⟩ := bcell hb1; have hz1 := hb1.size; (try simp at hz1); (first | have z := z10 hz1 | have z := z9 hz1 | have z := z8 hz1 | have z := z7 hz1 | have z := z6 hz1 | have z := z5 hz1 | have z := z4 hz1 | have z := z3 hz1 | have z := z2 hz1 | have z := z1 hz1 | skip)))))
    refine wp_loop_rounds 4 ?_
    repeat (rw [rounds_succ]; go_wp2)
    go_ret
    exact ⟨ret_int (by simp [findK, oneB, *]), by repeat (first | exact Below.refl _ _ | assumption | (refine Below.drew ?_) | (refine below_drewN ?_ _) | (refine Below.alloc ?_ (by first | (simp; done) | (simp; omega) | omega) _) | (refine Below.setCell ?_ (by first | (simp; done) | (simp; omega) | omega) _) | (refine Below.trans ?_ (Below.mono (by assumption) (by first | (simp; done) | (simp; omega) | omega))))⟩
  by_cases f0 : x0 = -1
  · subst f0
    go_enter Tryz.func111, Tryz.ntmps111
    go_wp2_with (go_at_call 155; refine (Flat_any _ _ _ _ _ _ (by omega) hn).mono ?_; go_must ((first | (have h0 := hb1; clear h0; rintro e w2 ⟨rfl, hb2⟩; obtain ⟨hc2, hf2⟩ := bcell hb2; have hz2 := hb2.size; (try simp at hz2); (first | have z := z10 hz2 | have z := z9 hz2 | have z := z8 hz2 | have z := z7 hz2 | have z := z6 hz2 | have z := z5 hz2 | have z := z4 hz2 | have z := z3 hz2 | have z := z2 hz2 | have z := z1 hz2 | skip); have hq := Nat.le_trans hz1 (show w1.heap.size ≤ w2.heap.size by omega); (first | have z := z10 hq | have z := z9 hq | have z := z8 hq | have z := z7 hq | have z := z6 hq | have z := z5 hq | have z := z4 hq | have z := z3 hq | have z := z2 hq | have z := z1 hq | skip)) | (rintro e w1 ⟨rfl, hb1⟩; obtain ⟨hc1, hf1⟩ := bcell hb1; have hz1 := hb1.size; (try simp at hz1); (first | have z := z10 hz1 | have z := z9 hz1 | have z := z8 hz1 | have z := z7 hz1 | have z := z6 hz1 | have z := z5 hz1 | have z := z4 hz1 | have z := z3 hz1 | have z := z2 hz1 | have z := z1 hz1 | skip)))))
    refine wp_loop_rounds 4 ?_
    repeat (rw [rounds_succ]; go_wp2)
    go_ret
    exact ⟨ret_int (by simp [findK, oneB, *]), by repeat (first | exact Below.refl _ _ | assumption | (refine Below.drew ?_) | (refine below_drewN ?_ _) | (refine Below.alloc ?_ (by first | (simp; done) | (simp; omega) | omega) _) | (refine Below.setCell ?_ (by first | (simp; done) | (simp; omega) | omega) _) | (refine Below.trans ?_ (Below.mono (by assumption) (by first | (simp; done) | (simp; omega) | omega))))⟩
  have g0 : (x0 == 1) = false := by simpa using e0
  have k0 : (x0 == -1) = false := by simpa using f0
  by_cases e1 : x1 = 1
  · subst e1
    go_enter Tryz.func111, Tryz.ntmps111
    go_wp2_with (go_at_call 155; refine (Flat_any _ _ _ _ _ _ (by omega) hn).mono ?_; go_must ((first | (have h0 := hb1; clear h0; rintro e w2 ⟨rfl, hb2⟩; obtain ⟨hc2, hf2⟩ := bcell hb2; have hz2 := hb2.size; (try simp at hz2); (first | have z := z10 hz2 | have z := z9 hz2 | have z := z8 hz2 | have z := z7 hz2 | have z := z6 hz2 | have z := z5 hz2 | have z := z4 hz2 | have z := z3 hz2 | have z := z2 hz2 | have z := z1 hz2 | skip); have hq := Nat.le_trans hz1 (show w1.heap.size ≤ w2.heap.size by omega); (first | have z := z10 hq | have z := z9 hq | have z := z8 hq | have z := z7 hq | have z := z6 hq | have z := z5 hq | have z := z4 hq | have z := z3 hq | have z := z2 hq | have z := z1 hq | skip)) | (rintro e w1 ⟨rfl, hb1⟩; obtain ⟨hc1, hf1⟩ := bcell hb1; have hz1 := hb1.size; (try simp at hz1); (first | have z := z10 hz1 | have z := z9 hz1 | have z := z8 hz1 | have z := z7 hz1 | have z := z6 hz1 | have z := z5 hz1 | have z := z4 hz1 | have z := z3 hz1 | have z := z2 hz1 | have z := z1 hz1 | skip)))))
    refine wp_loop_rounds 4 ?_
    repeat (rw [rounds_succ]; go_wp2)
    go_ret
    exact ⟨ret_int (by simp [findK, oneB, *]), by repeat (first | exact Below.refl _ _ | assumption | (refine Below.drew ?_) | (refine below_drewN ?_ _) | (refine Below.alloc ?_ (by first | (simp; done) | (simp; omega) | omega) _) | (refine Below.setCell ?_ (by first | (simp; done) | (simp; omega) | omega) _) | (refine Below.trans ?_ (Below.mono (by assumption) (by first | (simp; done) | (simp; omega) | omega))))⟩
  by_cases f1 : x1 = -1
  · subst f1
    go_enter Tryz.func111, Tryz.ntmps111
    go_wp2_with (go_at_call 155; refine (Flat_any _ _ _ _ _ _ (by omega) hn).mono ?_; go_must ((first | (have h0 := hb1; clear h0; rintro e w2 ⟨rfl, hb2⟩; obtain ⟨hc2, hf2⟩ := bcell hb2; have hz2 := hb2.size; (try simp at hz2); (first | have z := z10 hz2 | have z := z9 hz2 | have z := z8 hz2 | have z := z7 hz2 | have z := z6 hz2 | have z := z5 hz2 | have z := z4 hz2 | have z := z3 hz2 | have z := z2 hz2 | have z := z1 hz2 | skip); have hq := Nat.le_trans hz1 (show w1.heap.size ≤ w2.heap.size by omega); (first | have z := z10 hq | have z := z9 hq | have z := z8 hq | have z := z7 hq | have z := z6 hq | have z := z5 hq | have z := z4 hq | have z := z3 hq | have z := z2 hq | have z := z1 hq | skip)) | (rintro e w1 ⟨rfl, hb1⟩; obtain ⟨hc1, hf1⟩ := bcell hb1; have hz1 := hb1.size; (try simp at hz1); (first | have z := z10 hz1 | have z := z9 hz1 | have z := z8 hz1 | have z := z7 hz1 | have z := z6 hz1 | have z := z5 hz1 | have z := z4 hz1 | have z := z3 hz1 | have z := z2 hz1 | have z := z1 hz1 | skip)))))
    refine wp_loop_rounds 4 ?_
    repeat (rw [rounds_succ]; go_wp2)
    go_ret
    exact ⟨ret_int (by simp [findK, oneB, *]), by repeat (first | exact Below.refl _ _ | assumption | (refine Below.drew ?_) | (refine below_drewN ?_ _) | (refine Below.alloc ?_ (by first | (simp; done) | (simp; omega) | omega) _) | (refine Below.setCell ?_ (by first | (simp; done) | (simp; omega) | omega) _) | (refine Below.trans ?_ (Below.mono (by assumption) (by first | (simp; done) | (simp; omega) | omega))))⟩
  have g1 : (x1 == 1) = false := by simpa using e1
  have k1 : (x1 == -1) = false := by simpa using f1
  by_cases e2 : x2 = 1
  · subst e2
    go_enter Tryz.func111, Tryz.ntmps111
    go_wp2_with (go_at_call 155; refine (Flat_any _ _ _ _ _ _ (by omega) hn).mono ?_; go_must ((first | (have h0 := hb1; clear h0; rintro e w2 ⟨rfl, hb2⟩; obtain ⟨hc2, hf2⟩ := bcell hb2; have hz2 := hb2.size; (try simp at hz2); (first | have z := z10 hz2 | have z := z9 hz2 | have z := z8 hz2 | have z := z7 hz2 | have z := z6 hz2 | have z := z5 hz2 | have z := z4 hz2 | have z := z3 hz2 | have z := z2 hz2 | have z := z1 hz2 | skip); have hq := Nat.le_trans hz1 (show w1.heap.size ≤ w2.heap.size by omega); (first | have z := z10 hq | have z := z9 hq | have z := z8 hq | have z := z7 hq | have z := z6 hq | have z := z5 hq | have z := z4 hq | have z := z3 hq | have z := z2 hq | have z := z1 hq | skip)) | (rintro e w1 ⟨rfl, hb1⟩; obtain ⟨hc1, hf1⟩ := bcell hb1; have hz1 := hb1.size; (try simp at hz1); (first | have z := z10 hz1 | have z := z9 hz1 | have z := z8 hz1 | have z := z7 hz1 | have z := z6 hz1 | have z := z5 hz1 | have z := z4 hz1 | have z := z3 hz1 | have z := z2 hz1 | have z := z1 hz1 | skip)))))
    refine wp_loop_rounds 4 ?_
    repeat (rw [rounds_succ]; go_wp2)
    go_ret
    exact ⟨ret_int (by simp [findK, oneB, *]), by repeat (first | exact Below.refl _ _ | assumption | (refine Below.drew ?_) | (refine below_drewN ?_ _) | (refine Below.alloc ?_ (by first | (simp; done) | (simp; omega) | omega) _) | (refine Below.setCell ?_ (by first | (simp; done) | (simp; omega) | omega) _) | (refine Below.trans ?_ (Below.mono (by assumption) (by first | (simp; done) | (simp; omega) | omega))))⟩
  by_cases f2 : x2 = -1
  · subst f2
    go_enter Tryz.func111, Tryz.ntmps111
    go_wp2_with (go_at_call 155; refine (Flat_any _ _ _ _ _ _ (by omega) hn).mono ?_; go_must ((first | (have h0 := hb1; clear h0; rintro e w2 ⟨rfl, hb2⟩; obtain ⟨hc2, hf2⟩ := bcell hb2; have hz2 := hb2.size; (try simp at hz2); (first | have z := z10 hz2 | have z := z9 hz2 | have z := z8 hz2 | have z := z7 hz2 | have z := z6 hz2 | have z := z5 hz2 | have z := z4 hz2 | have z := z3 hz2 | have z := z2 hz2 | have z := z1 hz2 | skip); have hq := Nat.le_trans hz1 (show w1.heap.size ≤ w2.heap.size by omega); (first | have z := z10 hq | have z := z9 hq | have z := z8 hq | have z := z7 hq | have z := z6 hq | have z := z5 hq | have z := z4 hq | have z := z3 hq | have z := z2 hq | have z := z1 hq | skip)) | (rintro e w1 ⟨rfl, hb1⟩; obtain ⟨hc1, hf1⟩ := bcell hb1; have hz1 := hb1.size; (try simp at hz1); (first | have z := z10 hz1 | have z := z9 hz1 | have z := z8 hz1 | have z := z7 hz1 | have z := z6 hz1 | have z := z5 hz1 | have z := z4 hz1 | have z := z3 hz1 | have z := z2 hz1 | have z := z1 hz1 | skip)))))
    refine wp_loop_rounds 4 ?_
    repeat (rw [rounds_succ]; go_wp2)
    go_ret
    exact ⟨ret_int (by simp [findK, oneB, *]), by repeat (first | exact Below.refl _ _ | assumption | (refine Below.drew ?_) | (refine below_drewN ?_ _) | (refine Below.alloc ?_ (by first | (simp; done) | (simp; omega) | omega) _) | (refine Below.setCell ?_ (by first | (simp; done) | (simp; omega) | omega) _) | (refine Below.trans ?_ (Below.mono (by assumption) (by first | (simp; done) | (simp; omega) | omega))))⟩
  have g2 : (x2 == 1) = false := by simpa using e2
  have k2 : (x2 == -1) = false := by simpa using f2
  go_enter Tryz.func111, Tryz.ntmps111
  go_wp2_with (go_at_call 155; refine (Flat_any _ _ _ _ _ _ (by omega) hn).mono ?_; go_must ((first | (have h0 := hb1; clear h0; rintro e w2 ⟨rfl, hb2⟩; obtain ⟨hc2, hf2⟩ := bcell hb2; have hz2 := hb2.size; (try simp at hz2); (first | have z := z10 hz2 | have z := z9 hz2 | have z := z8 hz2 | have z := z7 hz2 | have z := z6 hz2 | have z := z5 hz2 | have z := z4 hz2 | have z := z3 hz2 | have z := z2 hz2 | have z := z1 hz2 | skip); have hq := Nat.le_trans hz1 (show w1.heap.size ≤ w2.heap.size by omega); (first | have z := z10 hq | have z := z9 hq | have z := z8 hq | have z := z7 hq | have z := z6 hq | have z := z5 hq | have z := z4 hq | have z := z3 hq | have z := z2 hq | have z := z1 hq | skip)) | (rintro e w1 ⟨rfl, hb1⟩; obtain ⟨hc1, hf1⟩ := bcell hb1; have hz1 := hb1.size; (try simp at hz1); (first | have z := z10 hz1 | have z := z9 hz1 | have z := z8 hz1 | have z := z7 hz1 | have z := z6 hz1 | have z := z5 hz1 | have z := z4 hz1 | have z := z3 hz1 | have z := z2 hz1 | have z := z1 hz1 | skip)))))
  refine wp_loop_rounds 4 ?_
  repeat (rw [rounds_succ]; go_wp2)
  go_ret
  exact ⟨ret_int (by simp [findK, oneB, *]), by repeat (first | exact Below.refl _ _ | assumption | (refine Below.drew ?_) | (refine below_drewN ?_ _) | (refine Below.alloc ?_ (by first | (simp; done) | (simp; omega) | omega) _) | (refine Below.setCell ?_ (by first | (simp; done) | (simp; omega) | omega) _) | (refine Below.trans ?_ (Below.mono (by assumption) (by first | (simp; done) | (simp; omega) | omega))))⟩
theorem findK_nonneg (n x0 x1 x2 : Int) : findK n x0 x1 x2 = -1 ∨ findK n x0 x1 x2 = 0 ∨ findK n x0 x1 x2 = 1 ∨ findK n x0 x1 x2 = 2 := by
  simp only [findK]; split <;> (try split) <;> (try split) <;> simp
theorem raxis_any (n x0 x1 x2 : Int) (w : World) (h : (btw 1 n 3 && flatB n x0 x1 x2 3) = true) :
    Calls Tryz.prog 111 #[.int .i64 (n), .agg #[.int .i64 (x0), .int .i64 (x1), .int .i64 (x2)]] w fun e w' => e = .returned (.int .i64 (findK n x0 x1 x2)) ∧ Below w.heap.size w w' := by
  rw [Bool.and_eq_true] at h
  obtain ⟨hn, hf⟩ := h
  obtain ⟨rfl, rfl, rfl, a⟩ | ⟨rfl, rfl, a, b⟩ | ⟨rfl, a, b, c⟩ := flat_pad hn hf
  · exact raxis_good1 x0 w hf
  · exact raxis_good2 x0 x1 w hf
  · exact raxis_good3 x0 x1 x2 w hf
def validB (n x0 x1 x2 : Int) : Bool := (btw 1 n 3 && flatB n x0 x1 x2 3) && decide (0 ≤ findK n x0 x1 x2)
theorem rValid_any (n x0 x1 x2 : Int) (w : World) :
    Calls Tryz.prog 145 #[.int .i64 (n), .agg #[.int .i64 (x0), .int .i64 (x1), .int .i64 (x2)]] w fun e w' => e = .returned (.bool (validB n x0 x1 x2)) ∧ Below w.heap.size w w' := by
  rcases h : (btw 1 n 3 && flatB n x0 x1 x2 3) with _ | _
  · go_enter Tryz.func145, Tryz.ntmps145
    go_wp2_with (go_at_call 111; refine (raxis_bad _ _ _ _ _ h).mono ?_; go_must ((first | (have h0 := hb1; clear h0; rintro e w2 ⟨rfl, hb2⟩; obtain ⟨hc2, hf2⟩ := bcell hb2; have hz2 := hb2.size; (try simp at hz2); (first | have z := z10 hz2 | have z := z9 hz2 | have z := z8 hz2 | have z := z7 hz2 | have z := z6 hz2 | have z := z5 hz2 | have z := z4 hz2 | have z := z3 hz2 | have z := z2 hz2 | have z := z1 hz2 | skip); have hq := Nat.le_trans hz1 (show w1.heap.size ≤ w2.heap.size by omega); (first | have z := z10 hq | have z := z9 hq | have z := z8 hq | have z := z7 hq | have z := z6 hq | have z := z5 hq | have z := z4 hq | have z := z3 hq | have z := z2 hq | have z := z1 hq | skip)) | (rintro e w1 ⟨rfl, hb1⟩; obtain ⟨hc1, hf1⟩ := bcell hb1; have hz1 := hb1.size; (try simp at hz1); (first | have z := z10 hz1 | have z := z9 hz1 | have z := z8 hz1 | have z := z7 hz1 | have z := z6 hz1 | have z := z5 hz1 | have z := z4 hz1 | have z := z3 hz1 | have z := z2 hz1 | have z := z1 hz1 | skip)))))
    go_ret
    exact ⟨ret_bool (by simp [validB, h]), by repeat (first | exact Below.refl _ _ | assumption | (refine Below.drew ?_) | (refine below_drewN ?_ _) | (refine Below.alloc ?_ (by first | (simp; done) | (simp; omega) | omega) _) | (refine Below.setCell ?_ (by first | (simp; done) | (simp; omega) | omega) _) | (refine Below.trans ?_ (Below.mono (by assumption) (by first | (simp; done) | (simp; omega) | omega))))⟩
  · go_enter Tryz.func145, Tryz.ntmps145
    go_wp2_with (go_at_call 111; refine (raxis_any _ _ _ _ _ h).mono ?_; go_must ((first | (have h0 := hb1; clear h0; rintro e w2 ⟨rfl, hb2⟩; obtain ⟨hc2, hf2⟩ := bcell hb2; have hz2 := hb2.size; (try simp at hz2); (first | have z := z10 hz2 | have z := z9 hz2 | have z := z8 hz2 | have z := z7 hz2 | have z := z6 hz2 | have z := z5 hz2 | have z := z4 hz2 | have z := z3 hz2 | have z := z2 hz2 | have z := z1 hz2 | skip); have hq := Nat.le_trans hz1 (show w1.heap.size ≤ w2.heap.size by omega); (first | have z := z10 hq | have z := z9 hq | have z := z8 hq | have z := z7 hq | have z := z6 hq | have z := z5 hq | have z := z4 hq | have z := z3 hq | have z := z2 hq | have z := z1 hq | skip)) | (rintro e w1 ⟨rfl, hb1⟩; obtain ⟨hc1, hf1⟩ := bcell hb1; have hz1 := hb1.size; (try simp at hz1); (first | have z := z10 hz1 | have z := z9 hz1 | have z := z8 hz1 | have z := z7 hz1 | have z := z6 hz1 | have z := z5 hz1 | have z := z4 hz1 | have z := z3 hz1 | have z := z2 hz1 | have z := z1 hz1 | skip)))))
    go_ret
    exact ⟨ret_bool (by simp [validB, h]), by repeat (first | exact Below.refl _ _ | assumption | (refine Below.drew ?_) | (refine below_drewN ?_ _) | (refine Below.alloc ?_ (by first | (simp; done) | (simp; omega) | omega) _) | (refine Below.setCell ?_ (by first | (simp; done) | (simp; omega) | omega) _) | (refine Below.trans ?_ (Below.mono (by assumption) (by first | (simp; done) | (simp; omega) | omega))))⟩
end Go.Proofs.YtnejicklenhpeaaGreat
namespace Go.Proofs.YtnejicklenhpeaaGreat
open Go.RowKit
theorem axis_any (n x0 x1 x2 : Int) (w : World) (h : (btw 1 n 3 && flatB n x0 x1 x2 3) = true) :
    Calls Tryz.prog 154 #[.int .i64 (n), .agg #[.int .i64 (x0), .int .i64 (x1), .int .i64 (x2)]] w fun e w' => e = .returned (.tuple #[.int .i64 (findK n x0 x1 x2), .bool (decide (0 ≤ findK n x0 x1 x2))]) ∧ Below w.heap.size w w' := by
  rw [Bool.and_eq_true] at h
  obtain ⟨hn, hf⟩ := h
  obtain ⟨rfl, rfl, rfl, a⟩ | ⟨rfl, rfl, a, b⟩ | ⟨rfl, a, b, c⟩ := flat_pad hn hf
  · exact axis_good1 x0 w a
  · exact axis_good2 x0 x1 w a b
  · exact axis_good3 x0 x1 x2 w a b c
theorem axis_gen (n x0 x1 x2 k : Int) (w : World) (h : (btw 1 n 3 && flatB n x0 x1 x2 3) = true) (hk : findK n x0 x1 x2 = k) :
    Calls Tryz.prog 154 #[.int .i64 (n), .agg #[.int .i64 (x0), .int .i64 (x1), .int .i64 (x2)]] w fun e w' => e = .returned (.tuple #[.int .i64 (k), .bool (decide (0 ≤ k))]) ∧ Below w.heap.size w w' := by
  subst hk
  exact axis_any n x0 x1 x2 w h
set_option maxHeartbeats 4000000 in
set_option maxRecDepth 100000 in
theorem newFold_bad1 (n x0 x1 x2 : Int) (w : World) (h1 : (btw 1 n 3 && flatB n x0 x1 x2 3) = false) :
    Calls Tryz.prog 106 #[.int .i64 (n), .agg #[.int .i64 (x0), .int .i64 (x1), .int .i64 (x2)]] w fun e w' => e = .returned (.tuple #[.agg #[.int .i64 (n), .int .i64 (0), .int .i64 (x0), .int .i64 (x1), .int .i64 (x2)], .bool false]) ∧ Below w.heap.size w w' := by
  go_enter Tryz.func106, Tryz.ntmps106
  go_wp2_with (go_at_call 154; refine (axis_bad _ _ _ _ _ h1).mono ?_; go_must ((first | (have h0 := hb1; clear h0; rintro e w2 ⟨rfl, hb2⟩; obtain ⟨hc2, hf2⟩ := bcell hb2; have hz2 := hb2.size; (try simp at hz2); (first | have z := z10 hz2 | have z := z9 hz2 | have z := z8 hz2 | have z := z7 hz2 | have z := z6 hz2 | have z := z5 hz2 | have z := z4 hz2 | have z := z3 hz2 | have z := z2 hz2 | have z := z1 hz2 | skip); have hq := Nat.le_trans hz1 (show w1.heap.size ≤ w2.heap.size by omega); (first | have z := z10 hq | have z := z9 hq | have z := z8 hq | have z := z7 hq | have z := z6 hq | have z := z5 hq | have z := z4 hq | have z := z3 hq | have z := z2 hq | have z := z1 hq | skip)) | (rintro e w1 ⟨rfl, hb1⟩; obtain ⟨hc1, hf1⟩ := bcell hb1; have hz1 := hb1.size; (try simp at hz1); (first | have z := z10 hz1 | have z := z9 hz1 | have z := z8 hz1 | have z := z7 hz1 | have z := z6 hz1 | have z := z5 hz1 | have z := z4 hz1 | have z := z3 hz1 | have z := z2 hz1 | have z := z1 hz1 | skip)))))
  (refine bodyPost_ret (v := ?v) ?h rfl ⟨?e, ?b⟩; (case h => (simp only [results, Tryz.results106]; first | (go_simp; done) | (go_simp; rfl))); (case e => (rfl)); (case b => exact (by repeat (first | exact Below.refl _ _ | assumption | (refine Below.drew ?_) | (refine below_drewN ?_ _) | (refine Below.alloc ?_ (by first | (simp; done) | (simp; omega) | omega) _) | (refine Below.setCell ?_ (by first | (simp; done) | (simp; omega) | omega) _) | (refine Below.trans ?_ (Below.mono (by assumption) (by first | (simp; done) | (simp; omega) | omega)))))))
set_option maxHeartbeats 4000000 in
set_option maxRecDepth 100000 in
theorem newFold_any (n x0 x1 x2 : Int) (w : World) (h1 : (btw 1 n 3 && flatB n x0 x1 x2 3) = true) :
    Calls Tryz.prog 106 #[.int .i64 (n), .agg #[.int .i64 (x0), .int .i64 (x1), .int .i64 (x2)]] w fun e w' => e = .returned (.tuple #[.agg #[.int .i64 (n), .int .i64 (findK n x0 x1 x2), .int .i64 (x0), .int .i64 (x1), .int .i64 (x2)], .bool (decide (0 ≤ findK n x0 x1 x2))]) ∧ Below w.heap.size w w' := by
  generalize hk : findK n x0 x1 x2 = k
  go_enter Tryz.func106, Tryz.ntmps106
  go_wp2_with (go_at_call 154; refine (axis_gen _ _ _ _ _ _ h1 hk).mono ?_; go_must ((first | (have h0 := hb1; clear h0; rintro e w2 ⟨rfl, hb2⟩; obtain ⟨hc2, hf2⟩ := bcell hb2; have hz2 := hb2.size; (try simp at hz2); (first | have z := z10 hz2 | have z := z9 hz2 | have z := z8 hz2 | have z := z7 hz2 | have z := z6 hz2 | have z := z5 hz2 | have z := z4 hz2 | have z := z3 hz2 | have z := z2 hz2 | have z := z1 hz2 | skip); have hq := Nat.le_trans hz1 (show w1.heap.size ≤ w2.heap.size by omega); (first | have z := z10 hq | have z := z9 hq | have z := z8 hq | have z := z7 hq | have z := z6 hq | have z := z5 hq | have z := z4 hq | have z := z3 hq | have z := z2 hq | have z := z1 hq | skip)) | (rintro e w1 ⟨rfl, hb1⟩; obtain ⟨hc1, hf1⟩ := bcell hb1; have hz1 := hb1.size; (try simp at hz1); (first | have z := z10 hz1 | have z := z9 hz1 | have z := z8 hz1 | have z := z7 hz1 | have z := z6 hz1 | have z := z5 hz1 | have z := z4 hz1 | have z := z3 hz1 | have z := z2 hz1 | have z := z1 hz1 | skip)))))
  (refine bodyPost_ret (v := ?v) ?h rfl ⟨?e, ?b⟩; (case h => (simp only [results, Tryz.results106]; first | (go_simp; done) | (go_simp; rfl))); (case e => (rfl)); (case b => exact (by repeat (first | exact Below.refl _ _ | assumption | (refine Below.drew ?_) | (refine below_drewN ?_ _) | (refine Below.alloc ?_ (by first | (simp; done) | (simp; omega) | omega) _) | (refine Below.setCell ?_ (by first | (simp; done) | (simp; omega) | omega) _) | (refine Below.trans ?_ (Below.mono (by assumption) (by first | (simp; done) | (simp; omega) | omega)))))))
theorem newFold_bad (n x0 x1 x2 : Int) (w : World) (h : validB n x0 x1 x2 = false) :
    Calls Tryz.prog 106 #[.int .i64 (n), .agg #[.int .i64 (x0), .int .i64 (x1), .int .i64 (x2)]] w fun e w' => (∃ k, e = .returned (.tuple #[.agg #[.int .i64 (n), .int .i64 (k), .int .i64 (x0), .int .i64 (x1), .int .i64 (x2)], .bool false])) ∧ Below w.heap.size w w' := by
  rcases h1 : (btw 1 n 3 && flatB n x0 x1 x2 3) with _ | _
  · exact (newFold_bad1 n x0 x1 x2 w h1).mono fun e w' ⟨a, b⟩ => ⟨⟨_, a⟩, b⟩
  · have h2 : decide (0 ≤ findK n x0 x1 x2) = false := by simpa [validB, h1] using h
    have := newFold_any n x0 x1 x2 w h1
    rw [h2] at this
    exact this.mono fun e w' ⟨a, b⟩ => ⟨⟨_, a⟩, b⟩
set_option maxHeartbeats 4000000 in
set_option maxRecDepth 100000 in
theorem newFold_good (n x0 x1 x2 : Int) (w : World) (h : validB n x0 x1 x2 = true) :
    Calls Tryz.prog 106 #[.int .i64 (n), .agg #[.int .i64 (x0), .int .i64 (x1), .int .i64 (x2)]] w fun e w' => e = .returned (.tuple #[.agg #[.int .i64 (n), .int .i64 (findK n x0 x1 x2), .int .i64 (x0), .int .i64 (x1), .int .i64 (x2)], .bool true]) ∧ Below w.heap.size w w' := by
  have h1 : (btw 1 n 3 && flatB n x0 x1 x2 3) = true := by simp only [validB, Bool.and_eq_true] at h ⊢; exact h.1
  have h2 : decide (0 ≤ findK n x0 x1 x2) = true := by simp only [validB, Bool.and_eq_true] at h; exact h.2
  have := newFold_any n x0 x1 x2 w h1
  rwa [h2] at this
end Go.Proofs.YtnejicklenhpeaaGreat
