/- Racks: Crash of the program: its walk. -/
import Derived.Test.YtlljfbakpljenaaRackD
namespace Go.Proofs.Ytlljfbakpljenaa
open Go.RowKit Go.Lib
set_option linter.unusedVariables false
theorem ixa (k0 k1 k2 : Int) (i : Nat) (hi : i < 3) (keep : Nat → Int) (h0 : keep 0 = k0) (h1 : keep 1 = k1) (h2 : keep 2 = k2) (W : World) : (Instr.index 29 (.agg #[.int .i64 k0, .int .i64 k1, .int .i64 k2]) (.int .i64 (i : Int))).run Try.prog W = .ok (.int .i64 (keep i)) W := by
  subst h0 h1 h2
  rcases i3 hi with rfl | rfl | rfl <;> kernel_rfl
theorem if_max0 (x : Int) : (if 0 < x then x else 0) = max 0 x := by split <;> omega
theorem none_l (rb db : Nat) (w : World) (c0 : w.cell? ⟨rb, 0, none⟩ = some (.pointer (some ⟨db, 0, none⟩))) : Calls Try.prog 50 #[.pointer (some ⟨rb, 0, none⟩)] w fun e w' => e = .returned (.bool false) ∧ w = w' := by
  go_enter Try.func50, Try.ntmps50
  go_wp2
  go_ret
  exact ⟨rfl, rfl⟩
theorem crashTo_zero (D : RackD) (keep : Nat → Int) : crashTo D keep 0 = D := by unfold crashTo; simp
theorem crashTo_succ (D : RackD) (keep : Nat → Int) (k : Nat) : crashTo D keep (k + 1) = (crashTo D keep k).set k ((D.d k).1 ++ (D.d k).2.take (keepN D keep k), []) := by
  unfold crashTo RackD.set
  congr 1
  funext j
  simp only
  by_cases h : j = k
  · subst h; simp
  · by_cases h2 : j < k
    · rw [if_pos (by omega), if_neg h, if_pos h2]
    · rw [if_neg (by omega), if_neg h, if_neg h2]
theorem crashTo_at (D : RackD) (keep : Nat → Int) (k : Nat) : (crashTo D keep k).d k = D.d k := by unfold crashTo; simp
set_option maxHeartbeats 16000000 in
set_option maxRecDepth 100000 in
theorem Crash_l (D : RackD) (hm : D.upto 4000) (keep : Nat → Int) (k0 k1 k2 : Int) (h0 : keep 0 = k0) (h1 : keep 1 = k1) (h2 : keep 2 = k2) (rb db : Nat) (w : World) (hr : RackS w rb db D) :
    Calls Try.prog 16 #[.pointer (some ⟨rb, 0, none⟩), .agg #[.int .i64 k0, .int .i64 k1, .int .i64 k2]] w fun e w' => RkV w rb db (crashD D keep) e w' := by
  obtain ⟨sv, lv, life, hp⟩ := hr
  obtain ⟨hm1, hm2, hm3⟩ := hm
  obtain ⟨W0, hW0⟩ : ∃ W : World, w.alloc (Obj.cells #[.int .i64 k0, .int .i64 k1, .int .i64 k2] 29) = W := ⟨_, rfl⟩
  have kw0 : Below w.heap.size w W0 := by rw [← hW0]; exact (by repeat (first | exact Below.refl _ _ | assumption | (refine Below.drew ?_) | (refine below_drewN ?_ _) | (refine Below.alloc ?_ (by first | (simp; done) | (simp; omega) | omega) _) | (refine Below.setCell ?_ (by first | (simp; done) | (simp; omega) | omega) _) | (refine Below.trans ?_ (Below.mono (by assumption) (by first | (simp; done) | (simp; omega) | omega)))))
  have ks0 : W0.heap.size = w.heap.size + 1 := by rw [← hW0]; simp
  have RD0 := Lib.hid (show ∀ V, Below W0.heap.size W0 V → V.cell? ⟨w.heap.size, 0, none⟩ = some (.int .i64 k0) ∧ V.cell? ⟨w.heap.size, 1, none⟩ = some (.int .i64 k1) ∧ V.cell? ⟨w.heap.size, 2, none⟩ = some (.int .i64 k2) from fun V h => by
      refine ⟨(h.cell (p := ⟨w.heap.size, 0, none⟩) (by simp; omega)).trans ?_, (h.cell (p := ⟨w.heap.size, 1, none⟩) (by simp; omega)).trans ?_, (h.cell (p := ⟨w.heap.size, 2, none⟩) (by simp; omega)).trans ?_⟩ <;> (subst hW0; go_simp))
  have HW0 := Lib.hid hW0; have KW0 := Lib.hid kw0; clear hW0 kw0
  have HP0 := Lib.hid (hp.below KW0.out)
  have HMU := Lib.hid hm1
  have HF0 := Lib.hid (FrS.of_below (S := SR rb db) KW0.out)
  have hrb := hp.lt.1
  have hdb := hp.lt.2
  clear hp hm1
  obtain ⟨c0, c1, c2, c3⟩ := HP0.out.cells
  have K0 := Below.refl W0.heap.size W0
  obtain ⟨k0_0, k0_1, k0_2⟩ := RD0.out _ K0
  have HIX := Lib.hid (fun i hi W => ixa k0 k1 k2 i hi keep h0 h1 h2 W)
  clear K0
  go_enter Try.func16, Try.ntmps16
  go_wp2_with fail
  rw [HW0.out]
  have HN := Lib.hid (none_l rb db W0 c0)
  go_wp2_with (go_at_call 50; refine HN.out.mono ?_; go_must (rintro e w1 ⟨rfl, hw1⟩; subst hw1))
  go_loopw [4, 5, 6, 10] (fun t4 t5 t6 t10 wr => ∃ k : Nat, k ≤ 3 ∧ t10 = .int .i64 (k : Int) ∧ Hid (RackS wr rb db (crashTo D keep k)) ∧ Hid (FrS (SR rb db) W0 wr)) (fun _ _ _ t10 _ => 3 - (intOf t10).toNat)
  case atStart => exact ⟨0, by omega, rfl, Lib.hid (by rw [crashTo_zero]; exact ⟨_, _, _, HP0.out⟩), Lib.hid (FrS.refl _ _)⟩
  case round =>
    obtain ⟨k, hk, rfl, HRK, HFK⟩ := hrel
    obtain ⟨sv', lv', life', hp⟩ := HRK.out
    obtain ⟨z0, z1, z2, z3⟩ := hp.cells
    have y1 := (hp.free 1).1
    have y2 := (hp.free 2).1
    have y3 := (hp.free 3).1
    have HP := Lib.hid hp
    by_cases hlt : k < 3
    rotate_left
    · have hke : k = 3 := by omega
      subst hke
      have HE := Lib.hid (show ∀ n, RkV w rb db (crashD D keep) (.returned (.tuple #[])) (((wr.setCell ⟨rb, 1, none⟩ (.int .i64 0)).setCell ⟨rb, 2, none⟩ (.bool false)).setCell ⟨rb, 3, none⟩ (.int .i64 n)) from fun n => ⟨rfl, ⟨_, _, _, ((HP.out.armed 0).turn false).live n⟩, ((HF0.out.trans HFK.out).trans (((HP.out.ku1 1 (.int .i64 0)).trans ((HP.out.armed 0).ku1 2 (.bool false))).trans (((HP.out.armed 0).turn false).ku1 3 (.int .i64 n))))⟩)
      clear hp c0 c1 c2 c3 hk hlt
      go_wp2
      go_end0
      exact HE.out _
    have hz : (k : Int) < 3 := by omega
    have hz0 : (0 : Int) ≤ (k : Int) := by omega
    have t3 : decide (3 ≤ k) = false := decide_eq_false (by omega)
    have hid3 := fun W => ixd db k hlt W
    have hix := fun W => HIX.out k hlt W
    have v0 := (hp.dcell hlt).1
    have v1 := (hp.dcell hlt).2
    have fv0 := (hp.free (2 * k)).2
    have fv1 := (hp.free (2 * k + 1)).2
    have hdv := hp.lt.2
    have hlo := HMU.out k hlt
    have hbs := hp.safe k hlt
    have hbl := hp.loose k hlt
    rw [crashTo_at] at hbs hbl
    obtain ⟨sa, sc, hsv, -⟩ := hbs.sl.rd
    obtain ⟨la, lc, hlv, -⟩ := hbl.sl.rd
    rw [hsv] at v0 hbs
    rw [hlv] at v1 hbl
    obtain ⟨y, hy⟩ : ∃ y, keepN D keep k = y := ⟨_, rfl⟩
    have hyl : y ≤ (D.d k).2.length := by rw [← hy]; unfold keepN; omega
    obtain ⟨ct, cc, hcut, hbt⟩ := bb_cut hbl y hyl
    have hct : ((D.d k).2.take y).length = y := by rw [List.length_take]; omega
    have HC := Lib.hid (fun (W : World) (kb : Below wr.heap.size wr W) (ab : Nat) (hab : ab < W.heap.size) (c0 : W.cell? ⟨ab, 0, none⟩ = some (.slice sa (D.d k).1.length sc)) (c1 : W.cell? ⟨ab, 1, none⟩ = some (.slice ct y cc)) => have hkb := kb.size; concat2_l ab _ _ (D.d k).1 ((D.d k).2.take y) (by omega) (by omega) W hab c0 c1 ((hbs.sl.kept kb).mono (by omega)) ((hbt.sl.kept kb).mono (by omega)))
    have HSTEP := Lib.hid (show ∀ (W : World) (v : Value), Below wr.heap.size wr W → BOwn W wr.heap.size v ((D.d k).1 ++ (D.d k).2.take y) → RackS ((W.setCell ⟨db, 2 * k, none⟩ v).setCell ⟨db, 2 * k + 1, none⟩ (.slice none 0 0)) rb db (crashTo D keep (k + 1)) ∧ FrS (SR rb db) W0 ((W.setCell ⟨db, 2 * k, none⟩ v).setCell ⟨db, 2 * k + 1, none⟩ (.slice none 0 0)) from fun W v hb hv => by
      have h1 := (HP.out.below hb).setSafe hlt hv.bb
      have h2 := h1.setLoose (v := .slice none 0 0) (l := []) hlt (bb_nil _)
      rw [RackD.set_set] at h2
      have e9 : (((crashTo D keep k).set k ((D.d k).1 ++ (D.d k).2.take y, ((crashTo D keep k).d k).2)).d k).1 = (D.d k).1 ++ (D.d k).2.take y := by simp [RackD.set]
      rw [e9] at h2
      rw [crashTo_succ, hy]
      exact ⟨⟨_, _, _, h2⟩, HFK.out.trans (((FrS.of_below hb).trans ((HP.out.below hb).ku2 _ _)).trans (h1.ku2 _ _))⟩)
    have HY := Lib.hid hy
    have HV1 := Lib.hid (fun (W : World) (kb : Below wr.heap.size wr W) => And.intro ((kb.cell (p := ⟨db, 2 * k, none⟩) hdv).trans v0) (And.intro ((kb.cell (p := ⟨db, 2 * k + 1, none⟩) hdv).trans v1) (And.intro ((kb.frozen (p := ⟨db, 2 * k, none⟩) hdv).trans fv0) ((kb.frozen (p := ⟨db, 2 * k + 1, none⟩) hdv).trans fv1))))
    have hcases : (keep k ≤ 0 ∧ y = 0) ∨ (0 < keep k ∧ keep k ≤ ((D.d k).2.length : Int) ∧ (y : Int) = keep k) ∨ (0 < keep k ∧ ((D.d k).2.length : Int) < keep k ∧ y = (D.d k).2.length) := by
      rw [← hy]; unfold keepN; omega
    clear hp hlo hbs hbl hbt hy hsv hlv
    generalize hkk : keep k = x at *
    go_wp2_with fail
    · simp only [if_max0] at *
      obtain rfl : y = (D.d k).2.length := by omega
      clear hcases
      go_region_with (first | (go_at_call 45; refine (HC.out _ (by exact (by repeat (first | (with_reducible exact Below.refl _ _) | (with_reducible assumption) | (with_reducible refine Below.drew ?_) | (with_reducible refine Below.setCell ?_ (by first | (simp; done) | (simp; omega) | omega) _) | (with_reducible refine Below.alloc ?_ (by first | (simp; done) | (simp; omega) | omega) _) | (with_reducible refine below_drewN ?_ _) | (refine Below.trans ?_ (Below.mono (by with_reducible assumption) (by first | (simp; done) | (simp; omega) | omega)))))) _ (by simp) (by go_simp) (by go_simp)).mono ?_; go_must (rintro e w1 ⟨⟨v, rfl, hown⟩, hb1⟩; have hb2 : Below wr.heap.size wr w1 := (by exact (by repeat (first | (with_reducible exact Below.refl _ _) | (with_reducible assumption) | (with_reducible refine Below.drew ?_) | (with_reducible refine Below.setCell ?_ (by first | (simp; done) | (simp; omega) | omega) _) | (with_reducible refine Below.alloc ?_ (by first | (simp; done) | (simp; omega) | omega) _) | (with_reducible refine below_drewN ?_ _) | (refine Below.trans ?_ (Below.mono (by with_reducible assumption) (by first | (simp; done) | (simp; omega) | omega)))))); have HO := Lib.hid hown; have HB := Lib.hid hb2; have hsh : ∃ a n c, v = .slice a n c := (by obtain ⟨-, a, c, e, -⟩ := hown.bb; exact ⟨a, _, c, e⟩); obtain ⟨va, vn, vc, rfl⟩ := hsh; obtain ⟨x1, x2, x3, x4⟩ := HV1.out _ hb2; clear hown hb1 HC hb2)))
      all_goals (try go_wp2)
      all_goals go_roundw
      all_goals first
        | (case measure => simp only [intOf]; omega)
        | (case measure => simp [intOf]; omega)
        | (case rel => exact ⟨k + 1, by omega, by simp, Lib.hid (HSTEP.out _ _ HB.out (HO.out.mono (by first | omega | (simp; done) | (simp; omega)))).1, Lib.hid (HSTEP.out _ _ HB.out (HO.out.mono (by first | omega | (simp; done) | (simp; omega)))).2⟩)
    · simp only [if_max0] at *
      obtain rfl : x = (y : Int) := by omega
      clear hcases
      go_region_with (first | (go_at_call 45; refine (HC.out _ (by exact (by repeat (first | (with_reducible exact Below.refl _ _) | (with_reducible assumption) | (with_reducible refine Below.drew ?_) | (with_reducible refine Below.setCell ?_ (by first | (simp; done) | (simp; omega) | omega) _) | (with_reducible refine Below.alloc ?_ (by first | (simp; done) | (simp; omega) | omega) _) | (with_reducible refine below_drewN ?_ _) | (refine Below.trans ?_ (Below.mono (by with_reducible assumption) (by first | (simp; done) | (simp; omega) | omega)))))) _ (by simp) (by go_simp) (by go_simp)).mono ?_; go_must (rintro e w1 ⟨⟨v, rfl, hown⟩, hb1⟩; have hb2 : Below wr.heap.size wr w1 := (by exact (by repeat (first | (with_reducible exact Below.refl _ _) | (with_reducible assumption) | (with_reducible refine Below.drew ?_) | (with_reducible refine Below.setCell ?_ (by first | (simp; done) | (simp; omega) | omega) _) | (with_reducible refine Below.alloc ?_ (by first | (simp; done) | (simp; omega) | omega) _) | (with_reducible refine below_drewN ?_ _) | (refine Below.trans ?_ (Below.mono (by with_reducible assumption) (by first | (simp; done) | (simp; omega) | omega)))))); have HO := Lib.hid hown; have HB := Lib.hid hb2; have hsh : ∃ a n c, v = .slice a n c := (by obtain ⟨-, a, c, e, -⟩ := hown.bb; exact ⟨a, _, c, e⟩); obtain ⟨va, vn, vc, rfl⟩ := hsh; obtain ⟨x1, x2, x3, x4⟩ := HV1.out _ hb2; clear hown hb1 HC hb2)))
      all_goals (try go_wp2)
      all_goals go_roundw
      all_goals first
        | (case measure => simp only [intOf]; omega)
        | (case measure => simp [intOf]; omega)
        | (case rel => exact ⟨k + 1, by omega, by simp, Lib.hid (HSTEP.out _ _ HB.out (HO.out.mono (by first | omega | (simp; done) | (simp; omega)))).1, Lib.hid (HSTEP.out _ _ HB.out (HO.out.mono (by first | omega | (simp; done) | (simp; omega)))).2⟩)
    · simp only [if_max0] at *
      obtain rfl : y = 0 := by omega
      simp only [Int.natCast_zero] at hcut
      clear hcases
      go_region_with (first | (go_at_call 45; refine (HC.out _ (by exact (by repeat (first | (with_reducible exact Below.refl _ _) | (with_reducible assumption) | (with_reducible refine Below.drew ?_) | (with_reducible refine Below.setCell ?_ (by first | (simp; done) | (simp; omega) | omega) _) | (with_reducible refine Below.alloc ?_ (by first | (simp; done) | (simp; omega) | omega) _) | (with_reducible refine below_drewN ?_ _) | (refine Below.trans ?_ (Below.mono (by with_reducible assumption) (by first | (simp; done) | (simp; omega) | omega)))))) _ (by simp) (by go_simp) (by go_simp)).mono ?_; go_must (rintro e w1 ⟨⟨v, rfl, hown⟩, hb1⟩; have hb2 : Below wr.heap.size wr w1 := (by exact (by repeat (first | (with_reducible exact Below.refl _ _) | (with_reducible assumption) | (with_reducible refine Below.drew ?_) | (with_reducible refine Below.setCell ?_ (by first | (simp; done) | (simp; omega) | omega) _) | (with_reducible refine Below.alloc ?_ (by first | (simp; done) | (simp; omega) | omega) _) | (with_reducible refine below_drewN ?_ _) | (refine Below.trans ?_ (Below.mono (by with_reducible assumption) (by first | (simp; done) | (simp; omega) | omega)))))); have HO := Lib.hid hown; have HB := Lib.hid hb2; have hsh : ∃ a n c, v = .slice a n c := (by obtain ⟨-, a, c, e, -⟩ := hown.bb; exact ⟨a, _, c, e⟩); obtain ⟨va, vn, vc, rfl⟩ := hsh; obtain ⟨x1, x2, x3, x4⟩ := HV1.out _ hb2; clear hown hb1 HC hb2)))
      all_goals (try go_wp2)
      all_goals go_roundw
      all_goals first
        | (case measure => simp only [intOf]; omega)
        | (case measure => simp [intOf]; omega)
        | (case rel => exact ⟨k + 1, by omega, by simp, Lib.hid (HSTEP.out _ _ HB.out (HO.out.mono (by first | omega | (simp; done) | (simp; omega)))).1, Lib.hid (HSTEP.out _ _ HB.out (HO.out.mono (by first | omega | (simp; done) | (simp; omega)))).2⟩)
end Go.Proofs.Ytlljfbakpljenaa
