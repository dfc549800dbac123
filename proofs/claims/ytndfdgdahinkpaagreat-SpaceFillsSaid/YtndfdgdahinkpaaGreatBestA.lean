/- The direction with the fewest cells: plainly; the program's Best: its walk. -/
import Derived.Test.YtndfdgdahinkpaaGreatUseB
namespace Go.Proofs.YtndfdgdahinkpaaGreat
open Go.RowKit Go.WideMaps
set_option linter.unusedVariables false
/-- The k-th of the 27 directions. -/
def dirK (k : Nat) : P3 := (((k / 9 : Nat) : Int) - 1, ((k / 3 % 3 : Nat) : Int) - 1, ((k % 3 : Nat) : Int) - 1)
/-- Whether a direction may serve. -/
def goodB (r : RecD) (s : SchedD) (d : P3) : Bool := decide (askS r s d = 0) && (decide (0 < (ptsL r.n r.l).length) && (clashL r s d).isNone)
def bestStep (r : RecD) (s : SchedD) (st : P3 × Nat) (d : P3) : P3 × Nat :=
  if goodB r s d = true then (if st.2 = 0 ∨ (cellsL r d).length < st.2 then (d, (cellsL r d).length) else st) else st
def bestTo (r : RecD) (s : SchedD) (k : Nat) : P3 × Nat := (List.range k).foldl (fun st i => bestStep r s st (dirK i)) ((0, 0, 0), 0)
theorem bestTo_succ (r : RecD) (s : SchedD) (k : Nat) : bestTo r s (k + 1) = bestStep r s (bestTo r s k) (dirK k) := by
  unfold bestTo; rw [List.range_succ, List.foldl_append]; rfl
theorem bestTo_bd (r : RecD) (s : SchedD) (hv : validR r.n r.l r.vars = true) (k : Nat) : (bestTo r s k).2 ≤ 1000 := by
  induction k with
  | zero => exact Nat.zero_le _
  | succ k ih =>
    rw [bestTo_succ]
    have h1 := cellsL_len r (dirK k)
    have h2 := (validR_out hv).2.1
    unfold bestStep
    split
    · split
      · simp only; omega
      · exact ih
    · exact ih
theorem step_bad {r : RecD} {s : SchedD} {d : P3} (h : goodB r s d = false) (st : P3 × Nat) : bestStep r s st d = st := by
  unfold bestStep; rw [h]; rfl
theorem step_take {r : RecD} {s : SchedD} {d : P3} (h : goodB r s d = true) {st : P3 × Nat} (h2 : st.2 = 0 ∨ (cellsL r d).length < st.2) : bestStep r s st d = (d, (cellsL r d).length) := by
  unfold bestStep; rw [if_pos h, if_pos h2]
theorem step_keep {r : RecD} {s : SchedD} {d : P3} {st : P3 × Nat} (h2 : ¬ (st.2 = 0 ∨ (cellsL r d).length < st.2)) : bestStep r s st d = st := by
  unfold bestStep; rw [if_neg h2]; split <;> rfl
/-- What Best returns. -/
def bestErr (r : RecD) (s : SchedD) : Int := if askD r s = 0 then (if (bestTo r s 27).2 = 0 then 5 else 0) else askD r s
def bestV (r : RecD) (s : SchedD) : Value := .tuple #[ptV (if bestErr r s = 0 then (bestTo r s 27).1 else (0, 0, 0)), .int .i64 (bestErr r s)]
theorem below_setBoth {N : Nat} {A B : World} (h : Below N A B) (p : Addr) (x : Value) : Below N (A.setCell p x) (B.setCell p x) :=
  ⟨h.os, h.tape, h.output, by have := h.size; simpa [World.setCell] using this, fun k hk => by
    have := h.block k hk
    simp only [World.setCell, Array.getElem?_modify, this]⟩
theorem alloc_set3 (w : World) (a b c x y z : Value) : (((w.alloc (Obj.cells #[a, b, c] 29)).setCell ⟨w.heap.size, 0, none⟩ x).setCell ⟨w.heap.size, 1, none⟩ y).setCell ⟨w.heap.size, 2, none⟩ z = w.alloc (Obj.cells #[x, y, z] 29) := by
  simp [World.setCell_alloc_new]
theorem askS_dir {r : RecD} {s : SchedD} (hv : validR r.n r.l r.vars = true) (hs : schedB r s = true) (d : P3) : askS r s d = if dirB r.n d = true then 0 else 40 := by
  unfold askS askE; rw [if_pos hv, if_pos hs, if_pos hv]
set_option maxHeartbeats 4000000 in
set_option maxRecDepth 100000 in
theorem Best_l (r : RecD) (s : SchedD) (w : World) (hr : RecRd w r) (hs : SchedRd w s) :
    Calls Tryz.prog 21 #[.agg #[.int .i64 r.n, r.lv, r.vv], .agg #[.int .i64 s.f.1, .int .i64 s.f.2.1, .int .i64 s.f.2.2, s.ov]] w fun x w' => x = .returned (bestV r s) ∧ Below w.heap.size w w' := by
  have HR := Lib.hid hr
  have HS := Lib.hid hs
  clear hr hs
  have HRV := Lib.hid (fun (W : World) (h : RecRd W r) => rValid_l r W h)
  have HSV := Lib.hid (fun (W : World) (h : RecRd W r) (h2 : SchedRd W s) => sValid_l r s W h h2)
  obtain ⟨W0, hW0⟩ : ∃ W : World, ((w.alloc (Obj.cells #[.int .i64 r.n, r.lv, r.vv] 27)).alloc (Obj.cells #[.int .i64 s.f.1, .int .i64 s.f.2.1, .int .i64 s.f.2.2, s.ov] 32)).alloc (Obj.cells #[.int .i64 0, .int .i64 0, .int .i64 0] 29) = W := ⟨_, rfl⟩
  have kw0 : Below w.heap.size w W0 := by rw [← hW0]; exact (by repeat (first | exact Below.refl _ _ | assumption | (refine Below.drew ?_) | (refine below_drewN ?_ _) | (refine Below.alloc ?_ (by first | (simp; done) | (simp; omega) | omega) _) | (refine Below.setCell ?_ (by first | (simp; done) | (simp; omega) | omega) _) | (refine Below.trans ?_ (Below.mono (by assumption) (by first | (simp; done) | (simp; omega) | omega)))))
  have ks0 : W0.heap.size = w.heap.size + 3 := by rw [← hW0]; simp
  have RD0 := Lib.hid (show ∀ V, Below W0.heap.size W0 V → V.cell? ⟨w.heap.size, 0, none⟩ = some (.int .i64 r.n) ∧ V.cell? ⟨w.heap.size, 1, none⟩ = some (r.lv) ∧ V.cell? ⟨w.heap.size, 2, none⟩ = some (r.vv) ∧ V.cell? ⟨w.heap.size + 1, 0, none⟩ = some (.int .i64 s.f.1) ∧ V.cell? ⟨w.heap.size + 1, 1, none⟩ = some (.int .i64 s.f.2.1) ∧ V.cell? ⟨w.heap.size + 1, 2, none⟩ = some (.int .i64 s.f.2.2) ∧ V.cell? ⟨w.heap.size + 1, 3, none⟩ = some (s.ov) ∧ V.cell? ⟨w.heap.size + 1 + 1, 0, none⟩ = some (.int .i64 0) ∧ V.cell? ⟨w.heap.size + 1 + 1, 1, none⟩ = some (.int .i64 0) ∧ V.cell? ⟨w.heap.size + 1 + 1, 2, none⟩ = some (.int .i64 0) from fun V h => by
      refine ⟨(h.cell (p := ⟨w.heap.size, 0, none⟩) (by simp; omega)).trans ?_, (h.cell (p := ⟨w.heap.size, 1, none⟩) (by simp; omega)).trans ?_, (h.cell (p := ⟨w.heap.size, 2, none⟩) (by simp; omega)).trans ?_, (h.cell (p := ⟨w.heap.size + 1, 0, none⟩) (by simp; omega)).trans ?_, (h.cell (p := ⟨w.heap.size + 1, 1, none⟩) (by simp; omega)).trans ?_, (h.cell (p := ⟨w.heap.size + 1, 2, none⟩) (by simp; omega)).trans ?_, (h.cell (p := ⟨w.heap.size + 1, 3, none⟩) (by simp; omega)).trans ?_, (h.cell (p := ⟨w.heap.size + 1 + 1, 0, none⟩) (by simp; omega)).trans ?_, (h.cell (p := ⟨w.heap.size + 1 + 1, 1, none⟩) (by simp; omega)).trans ?_, (h.cell (p := ⟨w.heap.size + 1 + 1, 2, none⟩) (by simp; omega)).trans ?_⟩ <;> (subst hW0; go_simp))
  have HW0 := Lib.hid hW0; have KW0 := Lib.hid kw0; clear hW0 kw0
  have FZ := Lib.hid (show ∀ V, Below W0.heap.size W0 V → ∀ b o, b < W0.heap.size → V.frozen? ⟨b, o, none⟩ = _ from fun V h b o hb => (bcellB h).2 b o hb)
  by_cases ha : askD r s = 0
  rotate_left
  · have HV := Lib.hid (show bestV r s = .tuple #[.agg #[.int .i64 0, .int .i64 0, .int .i64 0], .int .i64 (askD r s)] by
      have : bestErr r s = askD r s := by unfold bestErr; rw [if_neg ha]
      unfold bestV; rw [this, if_neg ha]; rfl)
    rw [HV.out]
    cases hv : validR r.n r.l r.vars
    · have HE := Lib.hid (show askD r s = 20 by unfold askD; rw [hv]; rfl)
      rw [HE.out]
      rw [hv] at HRV
      clear ha hv HE HV
      go_enter Tryz.func21, Tryz.ntmps21
      go_wp2_with (go_at_call 56; rw [HW0.out]; refine (HRV.out _ (HR.out.below KW0.out)).mono ?_; go_must (rintro e w1 ⟨rfl, hb1⟩; have K0 := hb1; have HB1 := Lib.hid hb1; clear hb1; obtain ⟨k0_0, k0_1, k0_2, k0_3, k0_4, k0_5, k0_6, k0_7, k0_8, k0_9⟩ := RD0.out _ K0; have hfz := FZ.out _ K0; rw [← HW0.out] at hfz))
      have KX := (KW0.out.trans (K0.mono (by omega)))
      refine bodyPost_ret (v := .tuple #[.agg #[.int .i64 0, .int .i64 0, .int .i64 0], .int .i64 20]) (by simp only [results, Tryz.results21]; first | (go_simp; done) | (go_simp; rfl)) rfl ⟨rfl, ?_⟩
      exact (by (repeat (first | (with_reducible refine Below.setCell ?_ (by first | (simp; done) | (simp; omega) | omega) _) | (with_reducible refine Below.drew ?_) | (with_reducible refine below_drewN ?_ _))); with_reducible exact KX)
    · have hsb : schedB r s = false := by
        cases h : schedB r s
        · rfl
        · exact absurd (askD_ok h) ha
      have HE := Lib.hid (show askD r s = 30 by
        unfold askD; rw [if_pos hv]; rw [if_neg]; intro h; exact absurd (show schedB r s = true by simp only [schedB, Bool.and_eq_true]; exact ⟨hv, h⟩) (by rw [hsb]; simp))
      rw [HE.out]
      rw [hv] at HRV
      rw [hsb] at HSV
      clear ha hv HE HV hsb
      go_enter Tryz.func21, Tryz.ntmps21
      go_wp2_with (first | (go_at_call 56; rw [HW0.out]; refine (HRV.out _ (HR.out.below KW0.out)).mono ?_; go_must (rintro e w1 ⟨rfl, hb1⟩; have K0 := hb1; have HB1 := Lib.hid hb1; clear hb1; obtain ⟨k0_0, k0_1, k0_2, k0_3, k0_4, k0_5, k0_6, k0_7, k0_8, k0_9⟩ := RD0.out _ K0; skip)) | (go_at_call 57; refine (HSV.out _ (HR.out.below (KW0.out.trans (K0.mono (by omega)))) (HS.out.below (KW0.out.trans (K0.mono (by omega))))).mono ?_; go_must (rintro e w2 ⟨rfl, hb2⟩; have K' := (by first | exact below_at K0 (by have := K0.size; omega) hb2 | exact below_at K0 (by have := K0.size; omega) (by repeat (first | exact Below.refl _ _ | assumption | (refine Below.drew ?_) | (refine below_drewN ?_ _) | (refine Below.alloc ?_ (by first | (simp; done) | (simp; omega) | omega) _) | (refine Below.setCell ?_ (by first | (simp; done) | (simp; omega) | omega) _) | (refine Below.trans ?_ (Below.mono (by assumption) (by first | (simp; done) | (simp; omega) | omega))))) : Below W0.heap.size W0 w2); have HB2 := Lib.hid hb2; clear K0 hb2; (try clear k0_0); (try clear k0_1); (try clear k0_2); (try clear k0_3); (try clear k0_4); (try clear k0_5); (try clear k0_6); (try clear k0_7); (try clear k0_8); (try clear k0_9); have K0 := K'; clear K'; obtain ⟨k0_0, k0_1, k0_2, k0_3, k0_4, k0_5, k0_6, k0_7, k0_8, k0_9⟩ := RD0.out _ K0; have hfz := FZ.out _ K0; rw [← HW0.out] at hfz)))
      have KX := (KW0.out.trans (K0.mono (by omega)))
      refine bodyPost_ret (v := .tuple #[.agg #[.int .i64 0, .int .i64 0, .int .i64 0], .int .i64 30]) (by simp only [results, Tryz.results21]; first | (go_simp; done) | (go_simp; rfl)) rfl ⟨rfl, ?_⟩
      exact (by (repeat (first | (with_reducible refine Below.setCell ?_ (by first | (simp; done) | (simp; omega) | omega) _) | (with_reducible refine Below.drew ?_) | (with_reducible refine below_drewN ?_ _))); with_reducible exact KX)
  have hao := askD_out ha
  rw [hao.1] at HRV
  rw [hao.2] at HSV
  have HEV := Lib.hid (show bestErr r s = if (bestTo r s 27).2 = 0 then 5 else 0 by unfold bestErr; rw [if_pos ha])
  clear ha
  have HBD := Lib.hid (fun k => bestTo_bd r s hao.1 k)
  have hsW : w.heap.size ≤ W0.heap.size := by omega
  go_enter Tryz.func21, Tryz.ntmps21
  go_wp2_with (first | (go_at_call 56; rw [HW0.out]; refine (HRV.out _ (HR.out.below KW0.out)).mono ?_; go_must (rintro e w1 ⟨rfl, hb1⟩; have K0 := hb1; have HB1 := Lib.hid hb1; clear hb1; obtain ⟨k0_0, k0_1, k0_2, k0_3, k0_4, k0_5, k0_6, k0_7, k0_8, k0_9⟩ := RD0.out _ K0; skip)) | (go_at_call 57; refine (HSV.out _ (HR.out.below (KW0.out.trans (K0.mono (by omega)))) (HS.out.below (KW0.out.trans (K0.mono (by omega))))).mono ?_; go_must (rintro e w2 ⟨rfl, hb2⟩; have K' := (by first | exact below_at K0 (by have := K0.size; omega) hb2 | exact below_at K0 (by have := K0.size; omega) (by repeat (first | exact Below.refl _ _ | assumption | (refine Below.drew ?_) | (refine below_drewN ?_ _) | (refine Below.alloc ?_ (by first | (simp; done) | (simp; omega) | omega) _) | (refine Below.setCell ?_ (by first | (simp; done) | (simp; omega) | omega) _) | (refine Below.trans ?_ (Below.mono (by assumption) (by first | (simp; done) | (simp; omega) | omega))))) : Below W0.heap.size W0 w2); have HB2 := Lib.hid hb2; clear K0 hb2; (try clear k0_0); (try clear k0_1); (try clear k0_2); (try clear k0_3); (try clear k0_4); (try clear k0_5); (try clear k0_6); (try clear k0_7); (try clear k0_8); (try clear k0_9); have K0 := K'; clear K'; obtain ⟨k0_0, k0_1, k0_2, k0_3, k0_4, k0_5, k0_6, k0_7, k0_8, k0_9⟩ := RD0.out _ K0; skip)))
  have KK0 := Lib.hid K0
  have hs2 := K0.size
  clear K0; (try clear k0_0); (try clear k0_1); (try clear k0_2); (try clear k0_3); (try clear k0_4); (try clear k0_5); (try clear k0_6); (try clear k0_7); (try clear k0_8); (try clear k0_9)
  have RB := Lib.hid (show ∀ (p : P3) (V : World), Below (w2.heap.size + 1) (w2.alloc (Obj.cells #[.int .i64 p.1, .int .i64 p.2.1, .int .i64 p.2.2] 29)) V → (V.cell? ⟨w2.heap.size, 0, none⟩ = some (.int .i64 p.1) ∧ V.cell? ⟨w2.heap.size, 1, none⟩ = some (.int .i64 p.2.1) ∧ V.cell? ⟨w2.heap.size, 2, none⟩ = some (.int .i64 p.2.2)) ∧ Below w2.heap.size w2 V ∧ (∀ b o, b < w2.heap.size + 1 → V.frozen? ⟨b, o, none⟩ = (w2.alloc (Obj.cells #[.int .i64 p.1, .int .i64 p.2.1, .int .i64 p.2.2] 29)).frozen? ⟨b, o, none⟩) from fun p V h => by
    refine ⟨⟨(h.cell (p := ⟨w2.heap.size, 0, none⟩) (by simp)).trans ?_, (h.cell (p := ⟨w2.heap.size, 1, none⟩) (by simp)).trans ?_, (h.cell (p := ⟨w2.heap.size, 2, none⟩) (by simp)).trans ?_⟩, ((Below.refl _ _).alloc (Nat.le_refl _) _).trans (h.mono (by omega)), ?_⟩
    · go_simp
    · go_simp
    · go_simp
    · intro b o hb; exact h.frozen (p := ⟨b, o, none⟩) hb)
  go_loopw [7, 27] (fun t7 t27 wr => ∃ k : Nat, k ≤ 27 ∧ t27 = .int .i64 (k : Nat) ∧ t7 = .int .i64 ((bestTo r s k).2 : Nat) ∧ Below (w2.heap.size + 1) (w2.alloc (Obj.cells #[.int .i64 (bestTo r s k).1.1, .int .i64 (bestTo r s k).1.2.1, .int .i64 (bestTo r s k).1.2.2] 29)) wr) (fun _ t27 _ => 27 - (intOf t27).toNat)
  case atStart => exact ⟨0, by omega, rfl, rfl, Below.refl _ _⟩
  case round =>
    obtain ⟨k, hk, rfl, rfl, hb⟩ := hrel
    have hsr := hb.size
    simp at hsr
    have HST := Lib.hid (bestTo_succ r s k)
    have hbd := HBD.out k
    have HB := Lib.hid hb
    obtain ⟨⟨p0, p1, p2⟩, hb2, hfb⟩ := RB.out _ _ hb
    clear hb
    by_cases hlt : k < 27
    rotate_left
    · have hke : k = 27 := by omega
      subst hke
      have K0 := below_at KK0.out hs2 hb2
      have hfz := FZ.out _ K0
      rw [← HW0.out] at hfz
      obtain ⟨k0_0, k0_1, k0_2, k0_3, k0_4, k0_5, k0_6, k0_7, k0_8, k0_9⟩ := RD0.out _ K0
      have KX := KW0.out.trans (K0.mono hsW)
      by_cases hf : (bestTo r s 27).2 = 0
      · have HV := Lib.hid (show bestV r s = .tuple #[.agg #[.int .i64 0, .int .i64 0, .int .i64 0], .int .i64 5] by
          have : bestErr r s = 5 := by rw [HEV.out, if_pos hf]
          unfold bestV; rw [this]; rfl)
        have hz : (((bestTo r s 27).2 : Int) == 0) = true := by rw [beq_iff_eq]; omega
        clear HST hf
        generalize (bestTo r s 27).2 = f at *
        go_wp2
        refine bodyPost_ret (v := .tuple #[.agg #[.int .i64 0, .int .i64 0, .int .i64 0], .int .i64 5]) (by simp only [results, Tryz.results21]; first | (go_simp; done) | (go_simp; rfl)) rfl ⟨by rw [HV.out], ?_⟩
        exact (by (repeat (first | (with_reducible refine Below.setCell ?_ (by first | (simp; done) | (simp; omega) | omega) _) | (with_reducible refine Below.drew ?_) | (with_reducible refine below_drewN ?_ _))); with_reducible exact KX)
      · have HV := Lib.hid (show bestV r s = .tuple #[.agg #[.int .i64 (bestTo r s 27).1.1, .int .i64 (bestTo r s 27).1.2.1, .int .i64 (bestTo r s 27).1.2.2], .int .i64 0] by
          have : bestErr r s = 0 := by rw [HEV.out, if_neg hf]
          unfold bestV; rw [this]; rfl)
        have hz : (((bestTo r s 27).2 : Int) == 0) = false := by rw [beq_eq_false_iff_ne]; omega
        clear HST hf
        generalize bestTo r s 27 = st at *
        obtain ⟨⟨s0, s1, s2⟩, f⟩ := st
        simp only at HV p0 p1 p2 hz
        go_wp2
        refine bodyPost_ret (v := .tuple #[.agg #[.int .i64 s0, .int .i64 s1, .int .i64 s2], .int .i64 0]) (by simp only [results, Tryz.results21]; first | (go_simp; done) | (go_simp; rfl)) rfl ⟨by rw [HV.out], ?_⟩
        exact (by (repeat (first | (with_reducible refine Below.setCell ?_ (by first | (simp; done) | (simp; omega) | omega) _) | (with_reducible refine Below.drew ?_) | (with_reducible refine below_drewN ?_ _))); with_reducible exact KX)
    generalize bestTo r s k = st at *
    obtain ⟨sp, sf⟩ := st
    simp only at *
    go_upto_region 11 with fail
    generalize hd0 : ((k : Int) / 9 - 1) = d0
    generalize hd1 : ((k : Int) / 3 % 3 - 1) = d1
    generalize hd2 : ((k : Int) % 3 - 1) = d2
    have HDK := Lib.hid (show dirK k = (d0, d1, d2) by rw [← hd0, ← hd1, ← hd2]; rfl)
    rw [HDK.out] at HST
    clear hd0 hd1 hd2
    have HLT := Lib.hid hlt
    obtain ⟨W1, hW1⟩ : ∃ W : World, wr.alloc (Obj.cells #[.int .i64 d0, .int .i64 d1, .int .i64 d2] 29) = W := ⟨_, rfl⟩
    have kw1 : Below wr.heap.size wr W1 := by rw [← hW1]; exact (by repeat (first | exact Below.refl _ _ | assumption | (refine Below.drew ?_) | (refine below_drewN ?_ _) | (refine Below.alloc ?_ (by first | (simp; done) | (simp; omega) | omega) _) | (refine Below.setCell ?_ (by first | (simp; done) | (simp; omega) | omega) _) | (refine Below.trans ?_ (Below.mono (by assumption) (by first | (simp; done) | (simp; omega) | omega)))))
    have ks1 : W1.heap.size = wr.heap.size + 1 := by rw [← hW1]; simp
    have RD1 := Lib.hid (show ∀ V, Below W1.heap.size W1 V → V.cell? ⟨wr.heap.size, 0, none⟩ = some (.int .i64 d0) ∧ V.cell? ⟨wr.heap.size, 1, none⟩ = some (.int .i64 d1) ∧ V.cell? ⟨wr.heap.size, 2, none⟩ = some (.int .i64 d2) from fun V h => by
        refine ⟨(h.cell (p := ⟨wr.heap.size, 0, none⟩) (by simp; omega)).trans ?_, (h.cell (p := ⟨wr.heap.size, 1, none⟩) (by simp; omega)).trans ?_, (h.cell (p := ⟨wr.heap.size, 2, none⟩) (by simp; omega)).trans ?_⟩ <;> (subst hW1; go_simp))
    have HW1 := Lib.hid hW1; have KW1 := Lib.hid kw1; clear hW1 kw1
    rw [HW1.out]
    have hsx : wr.heap.size ≤ W1.heap.size := by omega
    have K0 := (below_at KK0.out hs2 hb2).trans (KW1.out.mono (by omega))
    obtain ⟨k0_0, k0_1, k0_2, k0_3, k0_4, k0_5, k0_6, k0_7, k0_8, k0_9⟩ := RD0.out _ K0
    have HR1 := Lib.hid (HR.out.below (KW0.out.trans (K0.mono hsW)))
    have HS1 := Lib.hid (HS.out.below (KW0.out.trans (K0.mono hsW)))
    have HDR := Lib.hid (draw_l r s (d0, d1, d2) W1 HR1.out HS1.out)
    have HCL := Lib.hid (fun ha (bp bv : Nat) (pv : Value) (W : World) (h : PlanAt W bp bv r s (d0, d1, d2) pv) => clash_l r s (d0, d1, d2) ha bp bv pv W h)
    have HCE := Lib.hid (fun (hd : dirB r.n (d0, d1, d2) = true) (b : Nat) (pv : Value) (W : World) (h : ViewAt W b r (d0, d1, d2) pv) => cells_l r (d0, d1, d2) hd (validR_out hao.1).2.1 b pv W h)
    have hR1 : ∀ V, Below W1.heap.size W1 V → V.cell? ⟨wr.heap.size, 0, none⟩ = some (.int .i64 d0) ∧ V.cell? ⟨wr.heap.size, 1, none⟩ = some (.int .i64 d1) ∧ V.cell? ⟨wr.heap.size, 2, none⟩ = some (.int .i64 d2) := RD1.out
    have HRD := Lib.hid hR1; clear hR1
    obtain ⟨e0, e1, e2⟩ := HRD.out W1 (Below.refl _ _)
    by_cases ha : askS r s (d0, d1, d2) = 0
    rotate_left
    · have HSB := Lib.hid (show (sp, sf) = bestStep r s (sp, sf) (d0, d1, d2) from (step_bad (by unfold goodB; rw [decide_eq_false ha]; rfl) _).symm)
      have hnz : (askS r s (d0, d1, d2) != 0) = true := by simpa using ha
      have HDA := Lib.hid (HDR.out.mono (fun e w' h => (⟨by have := h.1; unfold DrawR at this; rw [if_neg ha] at this; exact this, h.2⟩ : (∃ p, e = .returned (.tuple #[p, .int .i64 (askS r s (d0, d1, d2))])) ∧ Below W1.heap.size W1 w')))
      clear ha HDR
      generalize askS r s (d0, d1, d2) = A at *
      go_wp2_with (go_at_call 30; refine HDA.out.mono ?_; go_must (rintro e w4 ⟨⟨p, rfl⟩, hb4⟩))
      go_roundw
      case rel => exact ⟨k + 1, HLT.out, by simp, by rw [HST.out, ← HSB.out], by rw [HST.out, ← HSB.out]; exact HB.out.trans ((below_at KW1.out hsx hb4).mono (by omega))⟩
      case measure => simp only [intOf]; have := HLT.out; omega
    have HA := Lib.hid ha
    have HDA := Lib.hid (HDR.out.mono (fun e w' h => (⟨by have := h.1; unfold DrawR at this; rw [if_pos ha] at this; exact this, h.2⟩ : (∃ b bv pv, e = .returned (.tuple #[.pointer (some ⟨b, 0, none⟩), .int .i64 0]) ∧ PlanAt w' b bv r s (d0, d1, d2) pv) ∧ Below W1.heap.size W1 w')))
    clear HDR
    have HDD := Lib.hid (askS_ok ha).2.2.1
    have hnp : (ptsL r.n r.l).length ≤ 1000 := (validR_out hao.1).2.1
    have hcl := cellsL_len r (d0, d1, d2)
    by_cases hn : 0 < (ptsL r.n r.l).length
    rotate_left
    · have HSB := Lib.hid (show (sp, sf) = bestStep r s (sp, sf) (d0, d1, d2) from (step_bad (by unfold goodB; rw [decide_eq_false hn]; simp) _).symm)
      have hn2 : (((ptsL r.n r.l).length : Int) == 0) = true := by rw [beq_iff_eq]; omega
      clear ha hcl hnp
      have hn3 : (ptsL r.n r.l).length = 0 := by omega
      have HN3 := Lib.hid hn3; clear hn3 hn
      go_upto_region 12 with (go_at_call 30; refine HDA.out.mono ?_; go_must (rintro e w4 ⟨⟨bp, bv, pv, rfl, hpl⟩, hb4⟩; have HPL := Lib.hid hpl; clear hpl))
      obtain ⟨pa, pc, hpe, -⟩ := HPL.out.view.pts.shape
      subst hpe
      have c0 := HPL.out.c0
      have c8 := HPL.out.view.c8
      generalize (ptsL r.n r.l).length = nl at *
      go_wp2
      go_roundw
      case rel => exact ⟨k + 1, HLT.out, by simp, by rw [HST.out, ← HSB.out], by rw [HST.out, ← HSB.out]; exact HB.out.trans ((below_at KW1.out hsx hb4).mono (by omega))⟩
      case measure => simp only [intOf]; have := HLT.out; omega
    have hn2 : (((ptsL r.n r.l).length : Int) == 0) = false := by rw [beq_eq_false_iff_ne]; omega
    cases hc : clashL r s (d0, d1, d2) with
    | some q =>
      have HSB := Lib.hid (show (sp, sf) = bestStep r s (sp, sf) (d0, d1, d2) from (step_bad (by unfold goodB; rw [hc]; simp) _).symm)
      rw [hc] at HCL
      obtain ⟨qi, qk⟩ := q
      clear ha hcl hnp hc hn
      go_upto_region 12 with (go_at_call 30; refine HDA.out.mono ?_; go_must (rintro e w4 ⟨⟨bp, bv, pv, rfl, hpl⟩, hb4⟩; have HPL := Lib.hid hpl; clear hpl))
      have HPQ := Lib.hid (HCL.out HA.out _ _ _ _ HPL.out)
      simp only [clashV] at HPQ
      obtain ⟨pa, pc, hpe, -⟩ := HPL.out.view.pts.shape
      subst hpe
      have c0 := HPL.out.c0
      have c8 := HPL.out.view.c8
      generalize (ptsL r.n r.l).length = nl at *
      go_wp2_with (go_at_call 32; refine HPQ.out.mono ?_; go_must (rintro e w5 ⟨rfl, hb5⟩))
      go_roundw
      case rel => exact ⟨k + 1, HLT.out, by simp, by rw [HST.out, ← HSB.out], by rw [HST.out, ← HSB.out]; exact HB.out.trans ((below_at (below_at KW1.out hsx hb4) (by have := hb4.size; omega) hb5).mono (by omega))⟩
      case measure => simp only [intOf]; have := HLT.out; omega
    | none =>
      have HG := Lib.hid (show goodB r s (d0, d1, d2) = true by unfold goodB; rw [hc, decide_eq_true ha, decide_eq_true hn]; rfl)
      rw [hc] at HCL
      have HCX := Lib.hid (fun (e : Ending) (w' : World) (h : CellsR r (d0, d1, d2) e w') => show ∃ v, e = .returned v ∧ SlOf w' w'.heap.size 2 encC v (cellsL r (d0, d1, d2)) from h)
      clear ha hc hn
      go_upto_region 12 with (go_at_call 30; refine HDA.out.mono ?_; go_must (rintro e w4 ⟨⟨bp, bv, pv, rfl, hpl⟩, hb4⟩; have HPL := Lib.hid hpl; clear hpl))
      have HPQ := Lib.hid (HCL.out HA.out _ _ _ _ HPL.out)
      simp only [clashV] at HPQ
      obtain ⟨pa, pc, hpe, -⟩ := HPL.out.view.pts.shape
      subst hpe
      have c0 := HPL.out.c0
      have c8 := HPL.out.view.c8
      have HC0 := Lib.hid (HPL.out.c0)
      have hbp := HPL.out.lt
      by_cases hq : sf = 0 ∨ (cellsL r (d0, d1, d2)).length < sf
      · have HSB := Lib.hid (step_take HG.out (st := (sp, sf)) hq)
        generalize cellsL r (d0, d1, d2) = CL at *
        have HW7 := Lib.hid (fun (V : World) (h : Below W1.heap.size W1 V) => HB.out.trans ((below_at KW1.out hsx h).mono (show w2.heap.size + 1 ≤ wr.heap.size by omega)))
        have hq' : (((sf : Int) == 0) = true) ∨ ((((sf : Int) == 0) = false) ∧ (CL.length : Int) < (sf : Int)) := by
          rcases hq with hq | hq
          · left; rw [beq_iff_eq]; omega
          · right; refine ⟨?_, by omega⟩; rw [beq_eq_false_iff_ne]; omega
        clear hq
        rcases hq' with hq | ⟨hq, hq2⟩
        all_goals
          go_wp2_with (first | (go_at_call 32; refine HPQ.out.mono ?_; go_must (rintro e w5 ⟨rfl, hb5⟩; have hc0 := (hb5.cell (p := ⟨bp, 0, none⟩) hbp).trans HC0.out)) | (go_at_call 53; refine (HCE.out HDD.out _ _ _ (HPL.out.view.below hb5)).mono ?_; go_must (rintro e w6 ⟨hce, hb6⟩; obtain ⟨cv, rfl, hcs⟩ := HCX.out _ _ hce; obtain ⟨ca, cc, hcv, -⟩ := hcs.shape; subst hcv; clear hcs hce; have hx6 := below_at (below_at hb4 hb4.size hb5) (by have := hb4.size; have := hb5.size; omega) hb6; obtain ⟨y0, y1, y2⟩ := HRD.out _ hx6; have HX7 := Lib.hid (HW7.out _ hx6); obtain ⟨⟨z0, z1, z2⟩, hz2, hfz⟩ := RB.out _ _ HX7.out)))
          go_roundw
          case rel => exact ⟨k + 1, HLT.out, by simp, by rw [HST.out, HSB.out], by
            rw [HST.out, HSB.out]
            have := below_setBoth (below_setBoth (below_setBoth HX7.out ⟨w2.heap.size, 0, none⟩ (.int .i64 d0)) ⟨w2.heap.size, 1, none⟩ (.int .i64 d1)) ⟨w2.heap.size, 2, none⟩ (.int .i64 d2)
            rw [alloc_set3] at this
            exact this⟩
          case measure => simp only [intOf]; have := HLT.out; omega
      · have HSB := Lib.hid (step_keep (r := r) (s := s) (d := (d0, d1, d2)) (st := (sp, sf)) hq)
        generalize cellsL r (d0, d1, d2) = CL at *
        have hq1 : ((sf : Int) == 0) = false := by rw [beq_eq_false_iff_ne]; omega
        have hq2 : ¬ ((CL.length : Int) < (sf : Int)) := by omega
        go_wp2_with (first | (go_at_call 32; refine HPQ.out.mono ?_; go_must (rintro e w5 ⟨rfl, hb5⟩; have hc0 := (hb5.cell (p := ⟨bp, 0, none⟩) hbp).trans HC0.out)) | (go_at_call 53; refine (HCE.out HDD.out _ _ _ (HPL.out.view.below hb5)).mono ?_; go_must (rintro e w6 ⟨hce, hb6⟩; obtain ⟨cv, rfl, hcs⟩ := HCX.out _ _ hce; obtain ⟨ca, cc, hcv, -⟩ := hcs.shape; subst hcv; clear hcs hce)))
        go_roundw
        case rel => exact ⟨k + 1, HLT.out, by simp, by rw [HST.out, HSB.out], by rw [HST.out, HSB.out]; exact HB.out.trans ((below_at (below_at (below_at KW1.out hsx hb4) (by have := hb4.size; omega) hb5) (by have := hb4.size; have := hb5.size; omega) hb6).mono (by omega))⟩
        case measure => simp only [intOf]; have := HLT.out; omega
end Go.Proofs.YtndfdgdahinkpaaGreat
