/- Racks: the reference's Crash: its walk. -/
import Derived.Test.YtlljfbakpljenaaRackI
import Derived.Test.YtlljfbakpljenaaRackF
namespace Go.Proofs.Ytlljfbakpljenaa
open Go.RowKit Go.Lib
set_option linter.unusedVariables false
set_option maxHeartbeats 16000000 in
set_option maxRecDepth 100000 in
theorem rCrash_l (D : RackD) (hm : D.upto 4000) (keep : Nat → Int) (k0 k1 k2 : Int) (h0 : keep 0 = k0) (h1 : keep 1 = k1) (h2 : keep 2 = k2) (mb : Nat) (w : World) (hr : RackQ w mb D) :
    Calls Try.prog 17 #[.pointer (some ⟨mb, 0, none⟩), .agg #[.int .i64 k0, .int .i64 k1, .int .i64 k2]] w fun e w' => RqV w mb (crashD D keep) e w' := by
  obtain ⟨dv, hq⟩ := hr
  obtain ⟨hm1, hm2, hm3⟩ := hm
  obtain ⟨W0, hW0⟩ : ∃ W : World, w.alloc (Obj.cells #[.int .i64 k0, .int .i64 k1, .int .i64 k2] 29) = W := ⟨_, rfl⟩
  have kw0 : Below w.heap.size w W0 := by rw [← hW0]; exact (by repeat (first | exact Below.refl _ _ | assumption | (refine Below.drew ?_) | (refine below_drewN ?_ _) | (refine Below.alloc ?_ (by first | (simp; done) | (simp; omega) | omega) _) | (refine Below.setCell ?_ (by first | (simp; done) | (simp; omega) | omega) _) | (refine Below.trans ?_ (Below.mono (by assumption) (by first | (simp; done) | (simp; omega) | omega)))))
  have ks0 : W0.heap.size = w.heap.size + 1 := by rw [← hW0]; simp
  have RD0 := Lib.hid (show ∀ V, Below W0.heap.size W0 V → V.cell? ⟨w.heap.size, 0, none⟩ = some (.int .i64 k0) ∧ V.cell? ⟨w.heap.size, 1, none⟩ = some (.int .i64 k1) ∧ V.cell? ⟨w.heap.size, 2, none⟩ = some (.int .i64 k2) from fun V h => by
      refine ⟨(h.cell (p := ⟨w.heap.size, 0, none⟩) (by simp; omega)).trans ?_, (h.cell (p := ⟨w.heap.size, 1, none⟩) (by simp; omega)).trans ?_, (h.cell (p := ⟨w.heap.size, 2, none⟩) (by simp; omega)).trans ?_⟩ <;> (subst hW0; go_simp))
  have HW0 := Lib.hid hW0; have KW0 := Lib.hid kw0; clear hW0 kw0
  have HQ0 := Lib.hid (hq.below KW0.out)
  have HMU := Lib.hid hm1
  have HF0 := Lib.hid (FrS.of_below (S := fun b => b = mb) KW0.out)
  have hmb := hq.lt
  clear hq hm1
  have K0 := Below.refl W0.heap.size W0
  obtain ⟨k0_0, k0_1, k0_2⟩ := RD0.out _ K0
  have hKC : ∀ i, i < 3 → W0.cell? ⟨w.heap.size, i, none⟩ = some (.int .i64 (keep i)) := by
    intro i hi
    rcases i3 hi with rfl | rfl | rfl
    · rw [h0]; assumption
    · rw [h1]; assumption
    · rw [h2]; assumption
  have HKC := Lib.hid hKC
  have HIX := Lib.hid (fun (i : Nat) (hi : i < 3) (W : World) => ixn w.heap.size 0 i hi W)
  have hw0 : w.heap.size < W0.heap.size := by omega
  clear K0 hKC
  go_enter Try.func17, Try.ntmps17
  go_wp2_with fail
  rw [HW0.out]
  go_loopw [4, 5, 6] (fun t4 t5 t6 wr => ∃ k : Nat, k ≤ 3 ∧ t4 = .int .i64 (k : Int) ∧ Hid (RackQ wr mb (crashTo D keep k)) ∧ Hid (FrS (fun b => b = mb) W0 wr)) (fun t4 _ _ _ => 3 - (intOf t4).toNat)
  case atStart => exact ⟨0, by omega, rfl, Lib.hid (by rw [crashTo_zero]; exact ⟨_, HQ0.out⟩), Lib.hid (FrS.refl _ _)⟩
  case round =>
    obtain ⟨k, hk, rfl, HRK, HFK⟩ := hrel
    obtain ⟨dv', hp⟩ := HRK.out
    obtain ⟨c6, c7⟩ := hp.cells
    have y6 := hp.free 6
    have y7 := hp.free 7
    have hml := hp.lt
    have HP := Lib.hid hp
    by_cases hlt : k < 3
    rotate_left
    · have hke : k = 3 := by omega
      subst hke
      have HE := Lib.hid (show RqV w mb (crashD D keep) (.returned (.tuple #[])) ((wr.setCell ⟨mb, 6, none⟩ (.bool false)).setCell ⟨mb, 7, none⟩ (.int .i64 0)) from ⟨rfl, ⟨_, (HP.out.turn false).armed 0⟩, (HF0.out.trans HFK.out).trans ((HP.out.ku _ _).trans ((HP.out.turn false).ku _ _))⟩)
      clear hp hk hlt
      go_wp2
      go_end0
      exact HE.out
    have hz : (k : Int) < 3 := by omega
    have hz0 : (0 : Int) ≤ (k : Int) := by omega
    have hid3 := fun W => ixm mb k hlt W
    have hin3 := fun W => ixn mb 3 k hlt W
    have hik3 := fun W => HIX.out k hlt W
    simp only [Nat.zero_add] at hik3
    obtain ⟨d0, d3⟩ := hp.dcell hlt
    have fri := hp.free k
    have frn := hp.free (3 + k)
    rw [crashTo_at] at d3
    have ck := (HFK.out.cell (o := k) (b := w.heap.size) hw0 (by omega)).trans (HKC.out k hlt)
    have hbb := hp.disk k hlt
    have hall : (crashTo D keep k).all k = D.all k := by unfold RackD.all; rw [crashTo_at]
    rw [hall] at hbb
    obtain ⟨a1, k1', hdv⟩ : ∃ a c, dv' k = .slice a (D.all k).length c := by obtain ⟨-, a, c, e, -⟩ := hbb; exact ⟨a, c, e⟩
    rw [hdv] at d0
    have hlo := HMU.out k hlt
    obtain ⟨y, hy⟩ : ∃ y, keepN D keep k = y := ⟨_, rfl⟩
    have hcases : (keep k ≤ 0 ∧ y = 0) ∨ (0 < keep k ∧ keep k ≤ ((D.d k).2.length : Int) ∧ (y : Int) = keep k) ∨ (0 < keep k ∧ ((D.d k).2.length : Int) < keep k ∧ y = (D.d k).2.length) := by
      rw [← hy]; unfold keepN; omega
    have hyl : y ≤ (D.d k).2.length := by omega
    have hal : (D.all k).length = (D.d k).1.length + (D.d k).2.length := by unfold RackD.all; rw [List.length_append]
    have e1 : IntKind.i64.wrap (((D.all k).length : Int) - ((D.d k).1.length : Int)) = ((D.d k).2.length : Int) := by rw [IntWalk.i64_in _ (by omega)]; omega
    have e2 : IntKind.i64.wrap (((D.d k).1.length : Int) + (y : Int)) = (((D.d k).1.length + y : Nat) : Int) := by rw [IntWalk.i64_in _ (by omega)]; omega
    have HSTEP := Lib.hid (show ∀ (V W : World) (N : Nat) (v : Value), N = (D.d k).1.length + y → Below wr.heap.size wr V → Below V.heap.size V W → BB W v ((D.all k).take N) → RackQ ((W.setCell ⟨mb, k, none⟩ v).setCell ⟨mb, 3 + k, none⟩ (.int .i64 (N : Int))) mb (crashTo D keep (k + 1)) ∧ FrS (fun b => b = mb) W0 ((W.setCell ⟨mb, k, none⟩ v).setCell ⟨mb, 3 + k, none⟩ (.int .i64 (N : Int))) from fun V W N v hN h1 h2 hv => by
      have hb := h1.trans (h2.mono h1.size)
      have e9 : (D.all k).take N = (D.d k).1 ++ (D.d k).2.take y := by unfold RackD.all; rw [hN, List.take_append, List.take_of_length_le (by omega)]; simp
      have h3 := (HP.out.below hb).disk2 (s := (D.d k).1 ++ (D.d k).2.take y) (l := []) hlt (by rw [List.append_nil, ← e9]; exact hv)
      have e8 : ((D.d k).1 ++ (D.d k).2.take y).length = N := by rw [List.length_append, List.length_take]; omega
      rw [e8] at h3
      rw [crashTo_succ, hy]
      exact ⟨⟨_, h3⟩, (HFK.out.trans (FrS.of_below hb)).trans (FrS.set2 (HP.out.below hb) _ _ _ _)⟩)
    clear hp hall hal
    go_wp2_with fail
    go_quiet (fail)
    obtain ⟨n1, rfl⟩ : ∃ x, x = nq := ⟨_, rfl⟩
    rcases hcases with ⟨q1, q2⟩ | ⟨q1, q2, q3⟩ | ⟨q1, q2, q3⟩
    · have q3 : (if keep k < 0 then 0 else keep k) = (0 : Int) := by split <;> omega
      generalize keep k = x at *
      go_wp2_with fail
      go_quiet (fail)
      subst q2
      have hbV : Below wr.heap.size wr ((wr.drewN n1).drewN nq) := by exact (by repeat (first | exact Below.refl _ _ | assumption | (refine Below.drew ?_) | (refine below_drewN ?_ _) | (refine Below.alloc ?_ (by first | (simp; done) | (simp; omega) | omega) _) | (refine Below.setCell ?_ (by first | (simp; done) | (simp; omega) | omega) _) | (refine Below.trans ?_ (Below.mono (by assumption) (by first | (simp; done) | (simp; omega) | omega)))))
      generalize (wr.drewN n1).drewN nq = V at hbV ⊢
      have hvs : mb < V.heap.size := by have := hbV.size; omega
      have q0 := (hbV.cell (p := ⟨mb, k, none⟩) hml).trans d0
      have qf := (hbV.frozen (p := ⟨mb, k, none⟩) hml).trans fri
      have z3 := (hbV.cell (p := ⟨mb, 3 + k, none⟩) hml).trans d3
      have qf3 := (hbV.frozen (p := ⟨mb, 3 + k, none⟩) hml).trans frn
      rw [← hdv] at q0
      rw [hdv] at q0
      have HO := Lib.hid (show (V.alloc (Obj.cells #[] 5)).drew.ownsRow V.heap.size 5 1 (.slice (some ⟨V.heap.size, 0, none⟩) 0 0) 0 [] from World.ownsRow_lit (base := V.heap.size) (e := 5) (size := 1) V #[] 0 (Nat.le_refl _) (by unfold maxLen; omega) (by simp))
      have hal : (D.all k).length = (D.d k).1.length + (D.d k).2.length := by unfold RackD.all; rw [List.length_append]
      have hbb2 := hbb.kept (KU.of_below (hbV))
      rw [hdv] at hbb2
      obtain ⟨ct, cc, hcut, hbt⟩ := bb_cut hbb2 ((D.d k).1.length) (by omega)
      have hctl : ((D.all k).take ((D.d k).1.length)).length = (D.d k).1.length := by rw [List.length_take]; omega
      (try simp only [Int.natCast_add] at hcut)
      have HS1 := Lib.hid (fun (W : World) (kb : Below V.heap.size V W) => hbt.sl.kept kb)
      have HC1 := Lib.hid (fun (W : World) (kb : Below V.heap.size V W) => And.intro ((kb.cell (p := ⟨mb, k, none⟩) hvs).trans q0) (And.intro ((kb.frozen (p := ⟨mb, k, none⟩) hvs).trans qf) (And.intro ((kb.cell (p := ⟨mb, 3 + k, none⟩) hvs).trans z3) ((kb.frozen (p := ⟨mb, 3 + k, none⟩) hvs).trans qf3))))
      have HY1 := Lib.hid hbt.1
      have HLE := Lib.hid hctl
      have HBV := Lib.hid hbV
      have hne3 : (k = 3 + k) = False := eq_false (by omega)
      have hne4 : (3 + k = k) = False := eq_false (by omega)
      have hs1a := (HS1.out (V.alloc (Obj.cells #[] 5)).drew (by exact (by repeat (first | exact Below.refl _ _ | assumption | (refine Below.drew ?_) | (refine below_drewN ?_ _) | (refine Below.alloc ?_ (by first | (simp; done) | (simp; omega) | omega) _) | (refine Below.setCell ?_ (by first | (simp; done) | (simp; omega) | omega) _) | (refine Below.trans ?_ (Below.mono (by assumption) (by first | (simp; done) | (simp; omega) | omega))))))).1
      rw [hctl] at hs1a
      have HS1a := Lib.hid hs1a
      clear hs1a hbb2 hbt hal hbb e1 e2 hbV HS1
      go_wp2_with fail
      go_region_law (refine step_concat (n := 0) (m := (D.d k).1.length) rfl _ _ _ (by rfl) slU8 rfl HO.out rfl HS1a.out (oneCell_vals _) (by first | omega | (simp only [vals, List.length_map]; omega) | (simp; omega)) (by omega) (by simp) ?_; intro b3 c3 w3 hown3 hg3; have hb3 : Below V.heap.size V w3 := below_push (by exact (by repeat (first | (with_reducible exact Below.refl _ _) | (with_reducible assumption) | (with_reducible refine Below.drew ?_) | (with_reducible refine Below.setCell ?_ (by first | (simp; done) | (simp; omega) | omega) _) | (with_reducible refine Below.alloc ?_ (by first | (simp; done) | (simp; omega) | omega) _) | (with_reducible refine below_drewN ?_ _) | (refine Below.trans ?_ (Below.mono (by with_reducible assumption) (by first | (simp; done) | (simp; omega) | omega)))))) HO.out (by simp) (by simp) hg3; simp only [Nat.zero_add, List.nil_append] at hown3 ⊢; have HW3 := Lib.hid hown3; obtain ⟨x1, x2, x3, x4⟩ := HC1.out _ hb3; clear hown3 hg3)
      go_wp2
      all_goals go_roundw
      all_goals first
        | (case measure => simp only [intOf]; omega)
        | (case measure => simp [intOf]; omega)
        | (case rel => have hq := HSTEP.out V _ ((D.d k).1.length) _ (by omega) HBV.out hb3 (bown_mk2 HW3.out HLE.out HY1.out).bb; (try simp only [Int.natCast_add] at hq); exact ⟨k + 1, by omega, by simp, Lib.hid hq.1, Lib.hid hq.2⟩)
    · generalize keep k = x at *
      subst q3
      go_wp2_with fail
      go_quiet (fail)
      have hbV : Below wr.heap.size wr ((wr.drewN n1).drewN nq) := by exact (by repeat (first | exact Below.refl _ _ | assumption | (refine Below.drew ?_) | (refine below_drewN ?_ _) | (refine Below.alloc ?_ (by first | (simp; done) | (simp; omega) | omega) _) | (refine Below.setCell ?_ (by first | (simp; done) | (simp; omega) | omega) _) | (refine Below.trans ?_ (Below.mono (by assumption) (by first | (simp; done) | (simp; omega) | omega)))))
      generalize (wr.drewN n1).drewN nq = V at hbV ⊢
      have hvs : mb < V.heap.size := by have := hbV.size; omega
      have q0 := (hbV.cell (p := ⟨mb, k, none⟩) hml).trans d0
      have qf := (hbV.frozen (p := ⟨mb, k, none⟩) hml).trans fri
      have z3 := (hbV.cell (p := ⟨mb, 3 + k, none⟩) hml).trans d3
      have qf3 := (hbV.frozen (p := ⟨mb, 3 + k, none⟩) hml).trans frn
      rw [← hdv] at q0
      rw [hdv] at q0
      have HO := Lib.hid (show (V.alloc (Obj.cells #[] 5)).drew.ownsRow V.heap.size 5 1 (.slice (some ⟨V.heap.size, 0, none⟩) 0 0) 0 [] from World.ownsRow_lit (base := V.heap.size) (e := 5) (size := 1) V #[] 0 (Nat.le_refl _) (by unfold maxLen; omega) (by simp))
      have hal : (D.all k).length = (D.d k).1.length + (D.d k).2.length := by unfold RackD.all; rw [List.length_append]
      have hbb2 := hbb.kept (KU.of_below (hbV))
      rw [hdv] at hbb2
      obtain ⟨ct, cc, hcut, hbt⟩ := bb_cut hbb2 ((D.d k).1.length + y) (by omega)
      have hctl : ((D.all k).take ((D.d k).1.length + y)).length = (D.d k).1.length + y := by rw [List.length_take]; omega
      (try simp only [Int.natCast_add] at hcut)
      have HS1 := Lib.hid (fun (W : World) (kb : Below V.heap.size V W) => hbt.sl.kept kb)
      have HC1 := Lib.hid (fun (W : World) (kb : Below V.heap.size V W) => And.intro ((kb.cell (p := ⟨mb, k, none⟩) hvs).trans q0) (And.intro ((kb.frozen (p := ⟨mb, k, none⟩) hvs).trans qf) (And.intro ((kb.cell (p := ⟨mb, 3 + k, none⟩) hvs).trans z3) ((kb.frozen (p := ⟨mb, 3 + k, none⟩) hvs).trans qf3))))
      have HY1 := Lib.hid hbt.1
      have HLE := Lib.hid hctl
      have HBV := Lib.hid hbV
      have hne3 : (k = 3 + k) = False := eq_false (by omega)
      have hne4 : (3 + k = k) = False := eq_false (by omega)
      have hs1a := (HS1.out (V.alloc (Obj.cells #[] 5)).drew (by exact (by repeat (first | exact Below.refl _ _ | assumption | (refine Below.drew ?_) | (refine below_drewN ?_ _) | (refine Below.alloc ?_ (by first | (simp; done) | (simp; omega) | omega) _) | (refine Below.setCell ?_ (by first | (simp; done) | (simp; omega) | omega) _) | (refine Below.trans ?_ (Below.mono (by assumption) (by first | (simp; done) | (simp; omega) | omega))))))).1
      rw [hctl] at hs1a
      have HS1a := Lib.hid hs1a
      clear hs1a hbb2 hbt hal hbb e1 e2 hbV HS1
      go_wp2_with fail
      go_region_law (refine step_concat (n := 0) (m := (D.d k).1.length + y) rfl _ _ _ (by rfl) slU8 rfl HO.out rfl HS1a.out (oneCell_vals _) (by first | omega | (simp only [vals, List.length_map]; omega) | (simp; omega)) (by omega) (by simp) ?_; intro b3 c3 w3 hown3 hg3; have hb3 : Below V.heap.size V w3 := below_push (by exact (by repeat (first | (with_reducible exact Below.refl _ _) | (with_reducible assumption) | (with_reducible refine Below.drew ?_) | (with_reducible refine Below.setCell ?_ (by first | (simp; done) | (simp; omega) | omega) _) | (with_reducible refine Below.alloc ?_ (by first | (simp; done) | (simp; omega) | omega) _) | (with_reducible refine below_drewN ?_ _) | (refine Below.trans ?_ (Below.mono (by with_reducible assumption) (by first | (simp; done) | (simp; omega) | omega)))))) HO.out (by simp) (by simp) hg3; simp only [Nat.zero_add, List.nil_append] at hown3 ⊢; have HW3 := Lib.hid hown3; obtain ⟨x1, x2, x3, x4⟩ := HC1.out _ hb3; clear hown3 hg3)
      go_wp2
      all_goals go_roundw
      all_goals first
        | (case measure => simp only [intOf]; omega)
        | (case measure => simp [intOf]; omega)
        | (case rel => have hq := HSTEP.out V _ ((D.d k).1.length + y) _ (by omega) HBV.out hb3 (bown_mk2 HW3.out HLE.out HY1.out).bb; (try simp only [Int.natCast_add] at hq); exact ⟨k + 1, by omega, by simp, Lib.hid hq.1, Lib.hid hq.2⟩)
    · generalize keep k = x at *
      go_wp2_with fail
      go_quiet (fail)
      subst q3
      have hbV : Below wr.heap.size wr ((wr.drewN n1).drewN nq) := by exact (by repeat (first | exact Below.refl _ _ | assumption | (refine Below.drew ?_) | (refine below_drewN ?_ _) | (refine Below.alloc ?_ (by first | (simp; done) | (simp; omega) | omega) _) | (refine Below.setCell ?_ (by first | (simp; done) | (simp; omega) | omega) _) | (refine Below.trans ?_ (Below.mono (by assumption) (by first | (simp; done) | (simp; omega) | omega)))))
      generalize (wr.drewN n1).drewN nq = V at hbV ⊢
      have hvs : mb < V.heap.size := by have := hbV.size; omega
      have q0 := (hbV.cell (p := ⟨mb, k, none⟩) hml).trans d0
      have qf := (hbV.frozen (p := ⟨mb, k, none⟩) hml).trans fri
      have z3 := (hbV.cell (p := ⟨mb, 3 + k, none⟩) hml).trans d3
      have qf3 := (hbV.frozen (p := ⟨mb, 3 + k, none⟩) hml).trans frn
      rw [← hdv] at q0
      rw [hdv] at q0
      have HO := Lib.hid (show (V.alloc (Obj.cells #[] 5)).drew.ownsRow V.heap.size 5 1 (.slice (some ⟨V.heap.size, 0, none⟩) 0 0) 0 [] from World.ownsRow_lit (base := V.heap.size) (e := 5) (size := 1) V #[] 0 (Nat.le_refl _) (by unfold maxLen; omega) (by simp))
      have hal : (D.all k).length = (D.d k).1.length + (D.d k).2.length := by unfold RackD.all; rw [List.length_append]
      have hbb2 := hbb.kept (KU.of_below (hbV))
      rw [hdv] at hbb2
      obtain ⟨ct, cc, hcut, hbt⟩ := bb_cut hbb2 ((D.d k).1.length + (D.d k).2.length) (by omega)
      have hctl : ((D.all k).take ((D.d k).1.length + (D.d k).2.length)).length = (D.d k).1.length + (D.d k).2.length := by rw [List.length_take]; omega
      (try simp only [Int.natCast_add] at hcut)
      have HS1 := Lib.hid (fun (W : World) (kb : Below V.heap.size V W) => hbt.sl.kept kb)
      have HC1 := Lib.hid (fun (W : World) (kb : Below V.heap.size V W) => And.intro ((kb.cell (p := ⟨mb, k, none⟩) hvs).trans q0) (And.intro ((kb.frozen (p := ⟨mb, k, none⟩) hvs).trans qf) (And.intro ((kb.cell (p := ⟨mb, 3 + k, none⟩) hvs).trans z3) ((kb.frozen (p := ⟨mb, 3 + k, none⟩) hvs).trans qf3))))
      have HY1 := Lib.hid hbt.1
      have HLE := Lib.hid hctl
      have HBV := Lib.hid hbV
      have hne3 : (k = 3 + k) = False := eq_false (by omega)
      have hne4 : (3 + k = k) = False := eq_false (by omega)
      have hs1a := (HS1.out (V.alloc (Obj.cells #[] 5)).drew (by exact (by repeat (first | exact Below.refl _ _ | assumption | (refine Below.drew ?_) | (refine below_drewN ?_ _) | (refine Below.alloc ?_ (by first | (simp; done) | (simp; omega) | omega) _) | (refine Below.setCell ?_ (by first | (simp; done) | (simp; omega) | omega) _) | (refine Below.trans ?_ (Below.mono (by assumption) (by first | (simp; done) | (simp; omega) | omega))))))).1
      rw [hctl] at hs1a
      have HS1a := Lib.hid hs1a
      clear hs1a hbb2 hbt hal hbb e1 e2 hbV HS1
      go_wp2_with fail
      go_region_law (refine step_concat (n := 0) (m := (D.d k).1.length + (D.d k).2.length) rfl _ _ _ (by rfl) slU8 rfl HO.out rfl HS1a.out (oneCell_vals _) (by first | omega | (simp only [vals, List.length_map]; omega) | (simp; omega)) (by omega) (by simp) ?_; intro b3 c3 w3 hown3 hg3; have hb3 : Below V.heap.size V w3 := below_push (by exact (by repeat (first | (with_reducible exact Below.refl _ _) | (with_reducible assumption) | (with_reducible refine Below.drew ?_) | (with_reducible refine Below.setCell ?_ (by first | (simp; done) | (simp; omega) | omega) _) | (with_reducible refine Below.alloc ?_ (by first | (simp; done) | (simp; omega) | omega) _) | (with_reducible refine below_drewN ?_ _) | (refine Below.trans ?_ (Below.mono (by with_reducible assumption) (by first | (simp; done) | (simp; omega) | omega)))))) HO.out (by simp) (by simp) hg3; simp only [Nat.zero_add, List.nil_append] at hown3 ⊢; have HW3 := Lib.hid hown3; obtain ⟨x1, x2, x3, x4⟩ := HC1.out _ hb3; clear hown3 hg3)
      go_wp2
      all_goals go_roundw
      all_goals first
        | (case measure => simp only [intOf]; omega)
        | (case measure => simp [intOf]; omega)
        | (case rel => have hq := HSTEP.out V _ ((D.d k).1.length + (D.d k).2.length) _ (by omega) HBV.out hb3 (bown_mk2 HW3.out HLE.out HY1.out).bb; (try simp only [Int.natCast_add] at hq); exact ⟨k + 1, by omega, by simp, Lib.hid hq.1, Lib.hid hq.2⟩)
end Go.Proofs.Ytlljfbakpljenaa
