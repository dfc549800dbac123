/- The walk of the law SpaceFolds. Conditions: none. -/
import Derived.Test.YtndfdgdahinkpaaFolA
import Derived.Test.YtndfdgdahinkpaaFolB
namespace Go.Proofs.Ytndfdgdahinkpaa
open Go.RowKit Go.Lib Go.WideMaps
set_option linter.unusedVariables false
theorem dir_sm {n : Int} {u : P3} (hd : dirB n u = true) : Sm 3 u := flat_out (validB_out hd).2.1
theorem CellOf_pt {r : RecD} {u : P3} (hv : validR r.n r.l r.vars = true) (hd : dirB r.n u = true) {p : P3} (hp : p ∈ ptsL r.n r.l) (W : World) :
    Calls Try.prog 28 #[.int .i64 r.n, .agg #[.int .i64 u.1, .int .i64 u.2.1, .int .i64 u.2.2], .agg #[.int .i64 p.1, .int .i64 p.2.1, .int .i64 p.2.2]] W fun e w' => e = .returned (.tuple #[.agg #[.int .i64 (cellC r.n u p).1, .int .i64 (cellC r.n u p).2], .int .i64 0]) ∧ Below W.heap.size W w' := by
  have h := CellOf_any r.n u.1 u.2.1 u.2.2 p.1 p.2.1 p.2.2 W
  have hf : flatB r.n p.1 p.2.1 p.2.2 1000 = true := by
    have h20 := ((mem_ptsL (validD_out (validR_out hv).1).1 p).1 hp).1
    simp only [flatB, btw, Bool.and_eq_true, decide_eq_true_eq] at h20 ⊢
    obtain ⟨⟨⟨⟨⟨a, b⟩, c⟩, d⟩, e⟩ , f⟩ := h20
    refine ⟨⟨⟨⟨⟨by omega, by omega⟩, by omega⟩, d⟩, by omega⟩, f⟩
  have ho : okC r.n u.1 u.2.1 u.2.2 p.1 p.2.1 p.2.2 = true := by unfold okC; rw [show validB r.n u.1 u.2.1 u.2.2 = true from hd, hf]; rfl
  rw [errC_ok hd hf] at h
  simpa [cellA, cellB, ho, cellC, axK] using h
set_option maxHeartbeats 4000000 in
set_option maxRecDepth 100000 in
theorem SpaceFolds_any (r : RecD) (u : P3) (w : World) (hr : RecRd w r) :
    Calls Try.prog 7 #[.agg #[.int .i64 r.n, r.lv, r.vv], .agg #[.int .i64 u.1, .int .i64 u.2.1, .int .i64 u.2.2]] w fun e w' => e = .returned (.bool true) ∧ Below w.heap.size w w' := by
  have HR := Lib.hid hr
  clear hr
  obtain ⟨W0, hW0⟩ : ∃ W : World, (w.alloc (Obj.cells #[.int .i64 r.n, r.lv, r.vv] 27)).alloc (Obj.cells #[.int .i64 u.1, .int .i64 u.2.1, .int .i64 u.2.2] 29) = W := ⟨_, rfl⟩
  have kw0 : Below w.heap.size w W0 := by rw [← hW0]; exact (by repeat (first | exact Below.refl _ _ | assumption | (refine Below.drew ?_) | (refine below_drewN ?_ _) | (refine Below.alloc ?_ (by first | (simp; done) | (simp; omega) | omega) _) | (refine Below.setCell ?_ (by first | (simp; done) | (simp; omega) | omega) _) | (refine Below.trans ?_ (Below.mono (by assumption) (by first | (simp; done) | (simp; omega) | omega)))))
  have ks0 : W0.heap.size = w.heap.size + 2 := by rw [← hW0]; simp
  have RD0 := Lib.hid (show ∀ V, Below W0.heap.size W0 V → V.cell? ⟨w.heap.size, 0, none⟩ = some (.int .i64 r.n) ∧ V.cell? ⟨w.heap.size, 1, none⟩ = some (r.lv) ∧ V.cell? ⟨w.heap.size, 2, none⟩ = some (r.vv) ∧ V.cell? ⟨w.heap.size + 1, 0, none⟩ = some (.int .i64 u.1) ∧ V.cell? ⟨w.heap.size + 1, 1, none⟩ = some (.int .i64 u.2.1) ∧ V.cell? ⟨w.heap.size + 1, 2, none⟩ = some (.int .i64 u.2.2) from fun V h => by
      refine ⟨(h.cell (p := ⟨w.heap.size, 0, none⟩) (by simp; omega)).trans ?_, (h.cell (p := ⟨w.heap.size, 1, none⟩) (by simp; omega)).trans ?_, (h.cell (p := ⟨w.heap.size, 2, none⟩) (by simp; omega)).trans ?_, (h.cell (p := ⟨w.heap.size + 1, 0, none⟩) (by simp; omega)).trans ?_, (h.cell (p := ⟨w.heap.size + 1, 1, none⟩) (by simp; omega)).trans ?_, (h.cell (p := ⟨w.heap.size + 1, 2, none⟩) (by simp; omega)).trans ?_⟩ <;> (subst hW0; go_simp))
  have HW0 := Lib.hid hW0; have KW0 := Lib.hid kw0; clear hW0 kw0
  have HWD := Lib.hid (fun (W : World) (h : RecRd W r) => Wide_l r 100 (by omega) W h)
  cases hwd : wideB r.n r.l r.vars 100
  rotate_left
  · have HV := Lib.hid hwd; clear hwd
    go_enter Try.func7, Try.ntmps7
    go_wp2_with (first | (go_at_call 9; rw [HW0.out]; refine (HWD.out _ (HR.out.below KW0.out)).mono ?_; go_must (rintro e w1 ⟨rfl, hb1⟩; have K0 := hb1; have HB1 := Lib.hid hb1; clear hb1; obtain ⟨k0_0, k0_1, k0_2, k0_3, k0_4, k0_5⟩ := RD0.out _ K0; rw [HV.out])) | (go_at_call 10; refine (sane04 _).mono ?_; go_must (rintro e w9 ⟨rfl, hb9⟩)))
    go_ret
    exact ⟨rfl, below_at KW0.out (by omega) (below_at K0 (by have := K0.size; omega) hb9)⟩
  have HV := Lib.hid hwd; clear hwd
  have HAS := Lib.hid (fun (W : World) (h : RecRd W r) => Asked_l r u W h)
  by_cases ha : askE r u = 0
  rotate_left
  · have hnz : (askE r u != 0) = true := by simpa using ha
    clear ha
    generalize askE r u = A at *
    go_enter Try.func7, Try.ntmps7
    go_wp2_with (first | (go_at_call 9; rw [HW0.out]; refine (HWD.out _ (HR.out.below KW0.out)).mono ?_; go_must (rintro e w1 ⟨rfl, hb1⟩; have K0 := hb1; have HB1 := Lib.hid hb1; clear hb1; obtain ⟨k0_0, k0_1, k0_2, k0_3, k0_4, k0_5⟩ := RD0.out _ K0; rw [HV.out])) | (go_at_call 25; refine (HAS.out _ (HR.out.below (KW0.out.trans (K0.mono (by omega))))).mono ?_; go_must (rintro e w2 ⟨rfl, hb2⟩; have K' := (by first | exact below_at K0 (by have := K0.size; omega) hb2 | exact below_at K0 (by have := K0.size; omega) (by repeat (first | exact Below.refl _ _ | assumption | (refine Below.drew ?_) | (refine below_drewN ?_ _) | (refine Below.alloc ?_ (by first | (simp; done) | (simp; omega) | omega) _) | (refine Below.setCell ?_ (by first | (simp; done) | (simp; omega) | omega) _) | (refine Below.trans ?_ (Below.mono (by assumption) (by first | (simp; done) | (simp; omega) | omega))))) : Below W0.heap.size W0 w2); have HB2 := Lib.hid hb2; clear K0 hb2; (try clear k0_0); (try clear k0_1); (try clear k0_2); (try clear k0_3); (try clear k0_4); (try clear k0_5); have K0 := K'; clear K'; obtain ⟨k0_0, k0_1, k0_2, k0_3, k0_4, k0_5⟩ := RD0.out _ K0; skip)) | (go_at_call 10; refine (sane04 _).mono ?_; go_must (rintro e w9 ⟨rfl, hb9⟩)))
    go_ret
    exact ⟨rfl, below_at KW0.out (by omega) (below_at K0 (by have := K0.size; omega) hb9)⟩
  have HA := Lib.hid ha
  have hao := askE_ok ha
  have HAO := Lib.hid hao
  have hL1 : (ptsL r.n r.l).length ≤ 1000 := (validR_out hao.1).2.1
  have hcl : (cellsL r u).length ≤ 1000 := Nat.le_trans (sortC_len _) (by rw [List.length_map]; exact hL1)
  obtain ⟨⟨u0a, u0b⟩, ⟨u1a, u1b⟩, ⟨u2a, u2b⟩⟩ := dir_sm hao.2
  have HC1 := Lib.hid (fun (W : World) (h : RecRd W r) => show Calls Try.prog 26 #[.agg #[.int .i64 r.n, r.lv, r.vv], .agg #[.int .i64 u.1, .int .i64 u.2.1, .int .i64 u.2.2]] W fun e w' => (∃ v, e = .returned (.tuple #[v, .int .i64 0]) ∧ SlOf w' w'.heap.size 2 encC v (cellsL r u)) ∧ Below W.heap.size W w' from by have := Cells_l r u W h; unfold CellsE at this; rw [ha] at this; exact this)
  have HCT := Lib.hid (fun (W : World) (h : RecRd W r) => show Calls Try.prog 27 #[.agg #[.int .i64 r.n, r.lv]] W fun e w' => e = .returned (.tuple #[.int .i64 (ptsL r.n r.l).length, .int .i64 0]) ∧ Below W.heap.size W w' from by have := Count_l r.n r.l W r.lv h.l; rw [if_pos (validR_out hao.1).1] at this; exact this)
  have HLN := Lib.hid (fun (c : Int × Int) (W : World) (h : RecRd W r) => show Calls Try.prog 11 #[.agg #[.int .i64 r.n, r.lv, r.vv], .agg #[.int .i64 u.1, .int .i64 u.2.1, .int .i64 u.2.2], .agg #[.int .i64 c.1, .int .i64 c.2]] W fun e w' => (∃ v, e = .returned (.tuple #[v, .int .i64 0]) ∧ SlOf w' w'.heap.size 3 encP v (lineL r u c)) ∧ Below W.heap.size W w' from by have := Line_l r u c W h; unfold LineR at this; rw [ha] at this; exact this)
  have hab : askE r (negP u) = 0 := by unfold askE; rw [hao.1, dirB_neg, hao.2]; rfl
  have HLB := Lib.hid (fun (c : Int × Int) (W : World) (h : RecRd W r) => show Calls Try.prog 11 #[.agg #[.int .i64 r.n, r.lv, r.vv], .agg #[.int .i64 (-u.1), .int .i64 (-u.2.1), .int .i64 (-u.2.2)], .agg #[.int .i64 c.1, .int .i64 c.2]] W fun e w' => (∃ v, e = .returned (.tuple #[v, .int .i64 0]) ∧ SlOf w' w'.heap.size 3 encP v (lineL r u c)) ∧ Below W.heap.size W w' from by have := Line_l r (negP u) c W h; unfold LineR at this; rw [hab, line_neg hao.1 hao.2] at this; exact this)
  have HCO := Lib.hid (fun (p : P3) (hp : p ∈ ptsL r.n r.l) (W : World) => CellOf_pt (u := u) hao.1 hao.2 hp W)
  have HCB := Lib.hid (fun (p : P3) (hp : p ∈ ptsL r.n r.l) (W : World) => show Calls Try.prog 28 #[.int .i64 r.n, .agg #[.int .i64 (-u.1), .int .i64 (-u.2.1), .int .i64 (-u.2.2)], .agg #[.int .i64 p.1, .int .i64 p.2.1, .int .i64 p.2.2]] W fun e w' => e = .returned (.tuple #[.agg #[.int .i64 (cellC r.n u p).1, .int .i64 (cellC r.n u p).2], .int .i64 0]) ∧ Below W.heap.size W w' from by have := CellOf_pt (u := negP u) hao.1 (by rw [dirB_neg]; exact hao.2) hp W; rw [cell_neg hao.2 (pts_sm hao.1 hp)] at this; exact this)
  have HSM := Lib.hid (fun (l : List P3) (W : World) (v1 v2 : Value) (h1 : SlOf W W.heap.size 3 encP v1 l) (h2 : SlOf W W.heap.size 3 encP v2 l) => by have := samePoints_l l l W v1 v2 h1 h2; rwa [decide_eq_true rfl] at this)
  have HPS := Lib.hid (fun (p : P3) (hp : p ∈ ptsL r.n r.l) => (mem_ptsL (validD_out (validR_out hao.1).1).1 p).1 hp |>.1)
  clear ha hao hab
  have hmm := @run_makeMap Try.prog
  go_enter Try.func7, Try.ntmps7
  go_wp2_with (first | (go_at_call 9; rw [HW0.out]; refine (HWD.out _ (HR.out.below KW0.out)).mono ?_; go_must (rintro e w1 ⟨rfl, hb1⟩; have K0 := hb1; have HB1 := Lib.hid hb1; clear hb1; obtain ⟨k0_0, k0_1, k0_2, k0_3, k0_4, k0_5⟩ := RD0.out _ K0; rw [HV.out])) | (go_at_call 25; refine (HAS.out _ (HR.out.below (KW0.out.trans (K0.mono (by omega))))).mono ?_; go_must (rintro e w2 ⟨rfl, hb2⟩; have K' := (by first | exact below_at K0 (by have := K0.size; omega) hb2 | exact below_at K0 (by have := K0.size; omega) (by repeat (first | exact Below.refl _ _ | assumption | (refine Below.drew ?_) | (refine below_drewN ?_ _) | (refine Below.alloc ?_ (by first | (simp; done) | (simp; omega) | omega) _) | (refine Below.setCell ?_ (by first | (simp; done) | (simp; omega) | omega) _) | (refine Below.trans ?_ (Below.mono (by assumption) (by first | (simp; done) | (simp; omega) | omega))))) : Below W0.heap.size W0 w2); have HB2 := Lib.hid hb2; clear K0 hb2; (try clear k0_0); (try clear k0_1); (try clear k0_2); (try clear k0_3); (try clear k0_4); (try clear k0_5); have K0 := K'; clear K'; obtain ⟨k0_0, k0_1, k0_2, k0_3, k0_4, k0_5⟩ := RD0.out _ K0; rw [HA.out])) | (go_at_call 26; refine (HC1.out _ (HR.out.below (KW0.out.trans (K0.mono (by omega))))).mono ?_; go_must (rintro e w3 ⟨⟨v1, rfl, hs1⟩, hb3⟩; have K' := (by first | exact below_at K0 (by have := K0.size; omega) hb3 | exact below_at K0 (by have := K0.size; omega) (by repeat (first | exact Below.refl _ _ | assumption | (refine Below.drew ?_) | (refine below_drewN ?_ _) | (refine Below.alloc ?_ (by first | (simp; done) | (simp; omega) | omega) _) | (refine Below.setCell ?_ (by first | (simp; done) | (simp; omega) | omega) _) | (refine Below.trans ?_ (Below.mono (by assumption) (by first | (simp; done) | (simp; omega) | omega))))) : Below W0.heap.size W0 w3); have HB3 := Lib.hid hb3; clear K0 hb3; (try clear k0_0); (try clear k0_1); (try clear k0_2); (try clear k0_3); (try clear k0_4); (try clear k0_5); have K0 := K'; clear K'; obtain ⟨k0_0, k0_1, k0_2, k0_3, k0_4, k0_5⟩ := RD0.out _ K0; have HS1 := Lib.hid hs1; clear hs1)) | (go_at_call 27; refine (HCT.out _ (HR.out.below (KW0.out.trans (K0.mono (by omega))))).mono ?_; go_must (rintro e w4 ⟨rfl, hb4⟩; have K' := (by first | exact below_at K0 (by have := K0.size; omega) hb4 | exact below_at K0 (by have := K0.size; omega) (by repeat (first | exact Below.refl _ _ | assumption | (refine Below.drew ?_) | (refine below_drewN ?_ _) | (refine Below.alloc ?_ (by first | (simp; done) | (simp; omega) | omega) _) | (refine Below.setCell ?_ (by first | (simp; done) | (simp; omega) | omega) _) | (refine Below.trans ?_ (Below.mono (by assumption) (by first | (simp; done) | (simp; omega) | omega))))) : Below W0.heap.size W0 w4); have HB4 := Lib.hid hb4; clear K0 hb4; (try clear k0_0); (try clear k0_1); (try clear k0_2); (try clear k0_3); (try clear k0_4); (try clear k0_5); have K0 := K'; clear K'; obtain ⟨k0_0, k0_1, k0_2, k0_3, k0_4, k0_5⟩ := RD0.out _ K0; have HT1 := Lib.hid (HS1.out.below HB4.out); obtain ⟨ca, cc, cg, co, rfl, hcl2, hcm, hcx⟩ := SlOf.at (enc := encC) (fun _ => rfl) un_ce sz_ce HT1.out; have HCX := Lib.hid hcx; clear hcx)))
  unfold maxLen at hcm
  clear HWD HAS HC1 HCT HS1 HB1 HB2 HB3 HB4 hmm
  have hs4 := K0.size
  have KX4 := Lib.hid ((KW0.out.trans (K0.mono (by omega))))
  have KK0 := Lib.hid K0
  clear K0; (try clear k0_0); (try clear k0_1); (try clear k0_2); (try clear k0_3); (try clear k0_4); (try clear k0_5)
  obtain ⟨W5, hW5⟩ : ∃ W : World, (w4.alloc (Obj.cells #[.int .i64 (-u.1), .int .i64 (-u.2.1), .int .i64 (-u.2.2)] 29)).alloc (.map #[] 0) = W := ⟨_, rfl⟩
  rw [hW5]
  have K45 := Lib.hid (show Below w4.heap.size w4 W5 by rw [← hW5]; exact (by repeat (first | exact Below.refl _ _ | assumption | (refine Below.drew ?_) | (refine below_drewN ?_ _) | (refine Below.alloc ?_ (by first | (simp; done) | (simp; omega) | omega) _) | (refine Below.setCell ?_ (by first | (simp; done) | (simp; omega) | omega) _) | (refine Below.trans ?_ (Below.mono (by assumption) (by first | (simp; done) | (simp; omega) | omega))))))
  have hs5 : W5.heap.size = w4.heap.size + 1 + 1 := by rw [← hW5]; simp
  have HSN := Lib.hid (show SeenN W5 (w4.heap.size + 1) 0 [] by
    have := SeenN.made (w4.alloc (Obj.cells #[.int .i64 (-u.1), .int .i64 (-u.2.1), .int .i64 (-u.2.2)] 29))
    rw [hW5] at this; simpa using this)
  have BX := Lib.hid (show ∀ V, Below (w4.heap.size + 1) W5 V → V.cell? ⟨w4.heap.size, 0, none⟩ = some (.int .i64 (-u.1)) ∧ V.cell? ⟨w4.heap.size, 1, none⟩ = some (.int .i64 (-u.2.1)) ∧ V.cell? ⟨w4.heap.size, 2, none⟩ = some (.int .i64 (-u.2.2)) from fun V h => by
    refine ⟨(h.cell (p := ⟨w4.heap.size, 0, none⟩) (by simp)).trans ?_, (h.cell (p := ⟨w4.heap.size, 1, none⟩) (by simp)).trans ?_, (h.cell (p := ⟨w4.heap.size, 2, none⟩) (by simp)).trans ?_⟩ <;> (subst hW5; go_simp))
  clear hW5
  -- everything below block w4.heap.size + 1 in a later world
  have LD := Lib.hid (show ∀ V, Below (w4.heap.size + 1) W5 V → (V.cell? ⟨w.heap.size, 0, none⟩ = some (.int .i64 r.n) ∧ V.cell? ⟨w.heap.size, 1, none⟩ = some (r.lv) ∧ V.cell? ⟨w.heap.size, 2, none⟩ = some (r.vv) ∧ V.cell? ⟨w.heap.size + 1, 0, none⟩ = some (.int .i64 u.1) ∧ V.cell? ⟨w.heap.size + 1, 1, none⟩ = some (.int .i64 u.2.1) ∧ V.cell? ⟨w.heap.size + 1, 2, none⟩ = some (.int .i64 u.2.2)) ∧ RecRd V r from fun V h => by
    have h1 : Below w4.heap.size w4 V := K45.out.trans (h.mono (by omega))
    exact ⟨RD0.out V (below_at KK0.out hs4 h1), HR.out.below (KX4.out.trans (h1.mono (by omega)))⟩)
  have HE0 := Lib.hid (show linesTo r u 0 = [] by simp [linesTo])
  have HLS := Lib.hid (fun i h => linesTo_succ r u i h)
  have HLW := Lib.hid (fun (i : Nat) (h : i < (cellsL r u).length) (p : P3) (hp : p ∈ lineL r u (cellsL r u)[i]) => lines_new h hp)
  have HML := Lib.hid (fun (c : Int × Int) (p : P3) => mem_line (r := r) (u := u) (c := c) (p := p))
  have HND := Lib.hid (fun (c : Int × Int) => line_nodup r u c)
  have HLP := Lib.hid (fun (c : Int × Int) (h : c ∈ cellsL r u) => line_pos h)
  have HLA := Lib.hid (lines_all r u)
  have HLL := Lib.hid (fun (i : Nat) (h : i ≤ (cellsL r u).length) => show (linesTo r u i).length ≤ 1000 from by
    refine Nat.le_trans ?_ (show (linesTo r u (cellsL r u).length).length ≤ 1000 by rw [lines_all]; exact hL1)
    unfold linesTo
    rw [List.take_length]
    conv => rhs; rw [← List.take_append_drop i (cellsL r u), List.flatMap_append, List.length_append]
    omega)
  generalize linesTo r u = T at *
  generalize cellsL r u = C at *
  generalize lineL r u = LN at *
  go_loopw [11] (fun t11 wr => ∃ i : Nat, i ≤ C.length ∧ t11 = .int .i64 (i : Nat) ∧ Hid (SeenN wr (w4.heap.size + 1) (T i).length (T i)) ∧ Below (w4.heap.size + 1) W5 wr) (fun t11 _ => C.length - (intOf t11).toNat)
  case atStart => exact ⟨0, Nat.zero_le _, rfl, Lib.hid (by rw [HE0.out]; exact HSN.out), Below.refl _ _⟩
  case round =>
    obtain ⟨i, hi, rfl, HM, hb⟩ := hrel
    have hs := hb.size
    have hsr : W5.heap.size ≤ wr.heap.size := hs
    by_cases hlt : i < C.length
    rotate_left
    · have hie : i = C.length := by omega
      have hlen := fun ty => MapN.len (t := 69) HM.out Try.underlying69 ty
      rw [hie, HLA.out] at hlen
      generalize (ptsL r.n r.l).length = N at *
      go_wp2_with (go_at_call 10; refine (sane04 _).mono ?_; go_must (rintro e w9 ⟨rfl, hb9⟩))
      go_ret
      exact ⟨rfl, ((KX4.out.trans (K45.out.mono (by omega))).trans (hb.mono (by omega))).trans (hb9.mono (by omega))⟩
    obtain ⟨-, hii, hgc, hcc⟩ := HCX.out i hlt
    have CC := Lib.hid (show ∀ V, Below (w4.heap.size + 1) W5 V → V.cell? ⟨cg, co + 2 * i, none⟩ = some (.int .i64 C[i].1) ∧ V.cell? ⟨cg, co + 2 * i + 1, none⟩ = some (.int .i64 C[i].2) from fun V h => by
      have h1 : Below w4.heap.size w4 V := K45.out.trans (h.mono (by omega))
      exact ⟨(h1.cell (p := ⟨cg, co + 2 * i, none⟩) hgc).trans (hcc 0 (by omega)), (h1.cell (p := ⟨cg, co + 2 * i + 1, none⟩) hgc).trans (hcc 1 (by omega))⟩)
    clear hcc
    have hpos := HLP.out C[i] (List.getElem_mem hlt)
    have HT := Lib.hid (HLS.out i hlt)
    have HNW := Lib.hid (HLW.out i hlt)
    have HMM := Lib.hid (fun (p : P3) (hp : p ∈ LN C[i]) => (HML.out C[i] p).1 hp)
    have HNDi := Lib.hid (HND.out C[i])
    have hTl := HLL.out (i + 1) hlt
    rw [HT.out, List.length_append] at hTl
    have HLNi := Lib.hid (fun (W : World) (h : RecRd W r) => HLN.out C[i] W h)
    have HLBi := Lib.hid (fun (W : World) (h : RecRd W r) => HLB.out C[i] W h)
    have HLT1 := Lib.hid hlt
    have hil : (i : Int) < (C.length : Int) := by omega
    have hi0 : (0 : Int) ≤ (i : Int) := by omega
    generalize LN C[i] = Ln at *
    generalize C[i] = c at *
    generalize T i = Ti at *
    obtain ⟨c0, c1⟩ := c
    have hne : ((Ln.length : Int) == 0) = false := by rw [beq_eq_false_iff_ne]; omega
    have hne2 : (Ln.length == 0) = false := by rw [beq_eq_false_iff_ne]; omega
    have S12 := Lib.hid (show ∀ V, Below wr.heap.size wr V → Below wr.heap.size wr V ∧ (V.cell? ⟨w.heap.size, 0, none⟩ = some (.int .i64 r.n) ∧ V.cell? ⟨w.heap.size, 1, none⟩ = some (r.lv) ∧ V.cell? ⟨w.heap.size, 2, none⟩ = some (r.vv) ∧ V.cell? ⟨w.heap.size + 1, 0, none⟩ = some (.int .i64 u.1) ∧ V.cell? ⟨w.heap.size + 1, 1, none⟩ = some (.int .i64 u.2.1) ∧ V.cell? ⟨w.heap.size + 1, 2, none⟩ = some (.int .i64 u.2.2)) ∧ V.cell? ⟨cg, co + 2 * i, none⟩ = some (.int .i64 c0) ∧ V.cell? ⟨cg, co + 2 * i + 1, none⟩ = some (.int .i64 c1) from fun V h => by
      have h1 : Below (w4.heap.size + 1) W5 V := hb.trans (h.mono (by omega))
      exact ⟨h, (LD.out V h1).1, CC.out V h1⟩)
    obtain ⟨-, k0, k1⟩ := S12.out wr (Below.refl _ _)
    go_wp2
    go_region_held3 (fun w' => Below wr.heap.size wr w' ∧ (w'.cell? ⟨w.heap.size, 0, none⟩ = some (.int .i64 r.n) ∧ w'.cell? ⟨w.heap.size, 1, none⟩ = some (r.lv) ∧ w'.cell? ⟨w.heap.size, 2, none⟩ = some (r.vv) ∧ w'.cell? ⟨w.heap.size + 1, 0, none⟩ = some (.int .i64 u.1) ∧ w'.cell? ⟨w.heap.size + 1, 1, none⟩ = some (.int .i64 u.2.1) ∧ w'.cell? ⟨w.heap.size + 1, 2, none⟩ = some (.int .i64 u.2.2)) ∧ w'.cell? ⟨cg, co + 2 * i, none⟩ = some (.int .i64 c0) ∧ w'.cell? ⟨cg, co + 2 * i + 1, none⟩ = some (.int .i64 c1)) ((refine S12.out _ ?_; exact (by repeat (first | (with_reducible exact Below.refl _ _) | (with_reducible assumption) | (with_reducible refine Below.drew ?_) | (with_reducible refine Below.setCell ?_ (by first | (simp; done) | (simp; omega) | omega) _) | (with_reducible refine Below.alloc ?_ (by first | (simp; done) | (simp; omega) | omega) _) | (with_reducible refine below_drewN ?_ _) | (refine Below.trans ?_ (Below.mono (by with_reducible assumption) (by first | (simp; done) | (simp; omega) | omega))))))) (first | (go_at_call 11; refine (HLNi.out _ (LD.out _ (hb.trans ((show Below wr.heap.size wr _ from (by repeat (first | (with_reducible exact Below.refl _ _) | (with_reducible assumption) | (with_reducible refine Below.drew ?_) | (with_reducible refine Below.setCell ?_ (by first | (simp; done) | (simp; omega) | omega) _) | (with_reducible refine Below.alloc ?_ (by first | (simp; done) | (simp; omega) | omega) _) | (with_reducible refine below_drewN ?_ _) | (refine Below.trans ?_ (Below.mono (by with_reducible assumption) (by first | (simp; done) | (simp; omega) | omega)))))).mono (by omega)))).2).mono ?_; go_must (rintro e w6 ⟨⟨v6, rfl, hsl6⟩, hb6⟩; obtain ⟨la, lc, lg, lo, rfl, hll, hlm, hlx⟩ := SlOf.at (enc := encP) (fun _ => rfl) un_pts sz_pts hsl6; have HLX := Lib.hid hlx; have HSL6 := Lib.hid hsl6; clear hlx hsl6)))
    have hw6 : Below wr.heap.size wr w6 := (by exact (by repeat (first | (with_reducible exact Below.refl _ _) | (with_reducible assumption) | (with_reducible refine Below.drew ?_) | (with_reducible refine Below.setCell ?_ (by first | (simp; done) | (simp; omega) | omega) _) | (with_reducible refine Below.alloc ?_ (by first | (simp; done) | (simp; omega) | omega) _) | (with_reducible refine below_drewN ?_ _) | (refine Below.trans ?_ (Below.mono (by with_reducible assumption) (by first | (simp; done) | (simp; omega) | omega))))))
    clear k0 k1
    go_wp2
    unfold maxLen at hlm
    refine forgetW (fun V => Below w6.heap.size w6 V) (by first | exact (by repeat (first | (with_reducible exact Below.refl _ _) | (with_reducible assumption) | (with_reducible refine Below.drew ?_) | (with_reducible refine Below.setCell ?_ (by first | (simp; done) | (simp; omega) | omega) _) | (with_reducible refine Below.alloc ?_ (by first | (simp; done) | (simp; omega) | omega) _) | (with_reducible refine below_drewN ?_ _) | (refine Below.trans ?_ (Below.mono (by with_reducible assumption) (by first | (simp; done) | (simp; omega) | omega)))))) ?_
    intro V hV
    clear hb6
    have HSV := Lib.hid (HSL6.out.below hV)
    have hwV : Below wr.heap.size wr V := below_at hw6 hw6.size hV
    have HMV := Lib.hid (MapN.kept HM.out hwV)
    have hVs := hwV.size
    have hV6 := hV.size
    have hbV : Below (w4.heap.size + 1) W5 V := hb.trans (hwV.mono (by omega))
    have hlV : ∀ k (hk : k < Ln.length), lg < V.heap.size ∧ lg ≠ w4.heap.size + 1 := fun k hk => by
      obtain ⟨-, -, h1, h2⟩ := HLX.out k hk
      refine ⟨by omega, fun e => ?_⟩
      obtain ⟨o, h3, h4, -⟩ := MapV.isWalk (MapN.mapV HMV.out)
      obtain ⟨o', h5, h6⟩ := cells_of_cell ((hV.cell (p := ⟨lg, lo + 3 * k + 0, none⟩) h1).trans ((h2 0 (by omega)).trans (by rfl : (encP Ln[k])[0]? = some (.int .i64 Ln[k].1))))
      simp only [e] at h5
      rw [h3] at h5
      cases h5
      rw [h4] at h6; cases h6
    have HLV := Lib.hid (show ∀ k (hk : k < Ln.length), ∀ wx, KeepS (fun b => b = w4.heap.size + 1) V.heap.size V wx → wx.cell? ⟨lg, lo + 3 * k, none⟩ = some (.int .i64 Ln[k].1) ∧ wx.cell? ⟨lg, lo + 3 * k + 1, none⟩ = some (.int .i64 Ln[k].2.1) ∧ wx.cell? ⟨lg, lo + 3 * k + 2, none⟩ = some (.int .i64 Ln[k].2.2) from fun k hk wx h => by
      obtain ⟨a1, a2⟩ := hlV k hk
      obtain ⟨-, -, h1, h2⟩ := HLX.out k hk
      have e := h.2 lg a1 a2
      exact ⟨(World.cell?_of_block (a := ⟨lg, lo + 3 * k, none⟩) e).trans ((hV.cell (p := ⟨lg, lo + 3 * k, none⟩) h1).trans (h2 0 (by omega))), (World.cell?_of_block (a := ⟨lg, lo + 3 * k + 1, none⟩) e).trans ((hV.cell (p := ⟨lg, lo + 3 * k + 1, none⟩) h1).trans (h2 1 (by omega))), (World.cell?_of_block (a := ⟨lg, lo + 3 * k + 2, none⟩) e).trans ((hV.cell (p := ⟨lg, lo + 3 * k + 2, none⟩) h1).trans (h2 2 (by omega)))⟩)
    have hlv0 := (hlV 0 hpos).1
    have HLG := Lib.hid (hlV 0 hpos).2
    have hlix := fun k hk => (HLX.out k hk).2.1
    have HLI := Lib.hid hlix
    clear hlV hw6 hV hV6 HM hlix S12
    have hwsV : w4.heap.size + 1 < V.heap.size := by omega
    obtain ⟨wo, rfl⟩ : ∃ x : World, x = wr := ⟨_, rfl⟩
    go_loopw [14] (fun t14 wr => ∃ k : Nat, k ≤ Ln.length ∧ t14 = .int .i64 (k : Nat) ∧ Hid (SeenN wr (w4.heap.size + 1) (Ti.length + k) (Ti ++ Ln.take k)) ∧ Below (w4.heap.size + 1) V wr ∧ Hid (KeepS (fun b => b = w4.heap.size + 1) V.heap.size V wr)) (fun t14 _ => Ln.length - (intOf t14).toNat)
    case atStart => exact ⟨0, Nat.zero_le _, rfl, Lib.hid (by simpa using HMV.out), Below.refl _ _, Lib.hid (KeepS.refl _ _ _)⟩
    case round =>
      obtain ⟨k, hk, rfl, HM2, hb2, HKS⟩ := hrel
      have hs2 := hb2.size
      have hbr : Below (w4.heap.size + 1) W5 wr := hbV.trans hb2
      by_cases hltk : k < Ln.length
      rotate_left
      · have hke : k = Ln.length := by omega
        have HMZ := Lib.hid (show SeenN wr (w4.heap.size + 1) (Ti.length + Ln.length) (Ti ++ Ln) by have := HM2.out; rwa [hke, List.take_length] at this)
        have hlix0 := HLI.out 0 hpos
        have PC0 := HLV.out 0 hpos
        obtain ⟨hpL, hpc⟩ := HMM.out Ln[0] (List.getElem_mem hpos)
        have HSK := Lib.hid (HCB.out Ln[0] hpL)
        rw [hpc] at HSK
        have hpos2 : (0 : Int) < (Ln.length : Int) := by omega
        clear hpL hpc hke
        generalize Ln[0] = p at *
        obtain ⟨p0, p1, p2⟩ := p
        simp only at HSK PC0
        have hlz : ∀ W, (Instr.indexAt 34 (.slice la Ln.length lc) (.int .i64 0)).run Try.prog W = .ok (.pointer (some ⟨lg, lo, none⟩)) W := fun W => by simpa using hlix0 W
        have S22 := Lib.hid (show ∀ V, Below wr.heap.size wr V → Below wr.heap.size wr V ∧ (V.cell? ⟨w.heap.size, 0, none⟩ = some (.int .i64 r.n) ∧ V.cell? ⟨w.heap.size, 1, none⟩ = some (r.lv) ∧ V.cell? ⟨w.heap.size, 2, none⟩ = some (r.vv) ∧ V.cell? ⟨w.heap.size + 1, 0, none⟩ = some (.int .i64 u.1) ∧ V.cell? ⟨w.heap.size + 1, 1, none⟩ = some (.int .i64 u.2.1) ∧ V.cell? ⟨w.heap.size + 1, 2, none⟩ = some (.int .i64 u.2.2)) ∧ (V.cell? ⟨w4.heap.size, 0, none⟩ = some (.int .i64 (-u.1)) ∧ V.cell? ⟨w4.heap.size, 1, none⟩ = some (.int .i64 (-u.2.1)) ∧ V.cell? ⟨w4.heap.size, 2, none⟩ = some (.int .i64 (-u.2.2))) ∧ V.cell? ⟨lg, lo, none⟩ = some (.int .i64 p0) ∧ V.cell? ⟨lg, lo + 1, none⟩ = some (.int .i64 p1) ∧ V.cell? ⟨lg, lo + 2, none⟩ = some (.int .i64 p2) from fun V h => by
          have h1 : Below (w4.heap.size + 1) W5 V := hbr.trans (h.mono (by omega))
          exact ⟨h, (LD.out V h1).1, BX.out V h1, by have := PC0 V (HKS.out.trans (KeepS.of_below (h.mono hs2))); simpa using this⟩)
        clear hlix0 PC0
        go_wp2_with fail
        go_cut [11, 13, 17] from 58 to 169 (fun t11 t13 t17 wx => ∃ g8, t17 = .pointer (some ⟨g8, 0, none⟩) ∧ t11 = .int .i64 (i : Nat) ∧ t13 = .int .i64 0 ∧ wr.heap.size ≤ g8 ∧ g8 < wx.heap.size ∧ wx.cell? ⟨g8, 0, none⟩ = some (.int .i64 c0) ∧ wx.cell? ⟨g8, 1, none⟩ = some (.int .i64 c1) ∧ Below wr.heap.size wr wx)
        case first =>
          go_region_held3 (fun w' => Below wr.heap.size wr w' ∧ (w'.cell? ⟨w.heap.size, 0, none⟩ = some (.int .i64 r.n) ∧ w'.cell? ⟨w.heap.size, 1, none⟩ = some (r.lv) ∧ w'.cell? ⟨w.heap.size, 2, none⟩ = some (r.vv) ∧ w'.cell? ⟨w.heap.size + 1, 0, none⟩ = some (.int .i64 u.1) ∧ w'.cell? ⟨w.heap.size + 1, 1, none⟩ = some (.int .i64 u.2.1) ∧ w'.cell? ⟨w.heap.size + 1, 2, none⟩ = some (.int .i64 u.2.2)) ∧ (w'.cell? ⟨w4.heap.size, 0, none⟩ = some (.int .i64 (-u.1)) ∧ w'.cell? ⟨w4.heap.size, 1, none⟩ = some (.int .i64 (-u.2.1)) ∧ w'.cell? ⟨w4.heap.size, 2, none⟩ = some (.int .i64 (-u.2.2))) ∧ w'.cell? ⟨lg, lo, none⟩ = some (.int .i64 p0) ∧ w'.cell? ⟨lg, lo + 1, none⟩ = some (.int .i64 p1) ∧ w'.cell? ⟨lg, lo + 2, none⟩ = some (.int .i64 p2)) ((refine S22.out _ ?_; exact (by repeat (first | exact Below.refl _ _ | assumption | (refine Below.drew ?_) | (refine below_drewN ?_ _) | (refine Below.alloc ?_ (by first | (simp; done) | (simp; omega) | omega) _) | (refine Below.setCell ?_ (by first | (simp; done) | (simp; omega) | omega) _) | (refine Below.trans ?_ (Below.mono (by assumption) (by first | (simp; done) | (simp; omega) | omega))))))) (first | (go_at_call 28; refine (HSK.out _).mono ?_; go_must (rintro e w5 ⟨rfl, hb5⟩; have hs5 := hb5.size; (try simp at hs5); obtain ⟨hc5, hf5⟩ := bcell hb5; (first | have z := z10 hs5 | have z := z9 hs5 | have z := z8 hs5 | have z := z7 hs5 | have z := z6 hs5 | have z := z5 hs5 | have z := z4 hs5 | have z := z3 hs5 | have z := z2 hs5 | have z := z1 hs5 | skip))))
          all_goals (try go_wp2_with fail)
          all_goals go_meet
          all_goals (refine ⟨_, rfl, rfl, rfl, by omega, by first | (simp; done) | (simp; omega), by go_simp, by go_simp, by repeat (first | exact Below.refl _ _ | assumption | (refine Below.drew ?_) | (refine below_drewN ?_ _) | (refine Below.alloc ?_ (by first | (simp; done) | (simp; omega) | omega) _) | (refine Below.setCell ?_ (by first | (simp; done) | (simp; omega) | omega) _) | (refine Below.trans ?_ (Below.mono (by assumption) (by first | (simp; done) | (simp; omega) | omega))))⟩)
        case rest =>
          obtain ⟨g8, rfl, rfl, rfl, hg8, hg8', y0, y1, hbx⟩ := hcut
          have hsx := hbx.size
          have h1 : Below (w4.heap.size + 1) W5 wc := hbr.trans (hbx.mono (by omega))
          obtain ⟨-, k0, k1, -⟩ := S22.out wc hbx
          have HRC := Lib.hid (LD.out wc h1).2
          have HSVX := Lib.hid (show SlOf wc V.heap.size 3 encP (.slice la Ln.length lc) Ln from by
            obtain ⟨a, cap, he, q1, q2, q3, q4, q5⟩ := HSV.out
            refine ⟨a, cap, he, q1, q2, q3, q4, q5.imp id ?_⟩
            rintro ⟨b', off', rfl, hlt', hx'⟩
            simp only [Value.slice.injEq, true_and] at he
            obtain ⟨rfl, rfl⟩ := he
            have hk2 := HKS.out.trans (KeepS.of_below (hbx.mono hs2))
            refine ⟨b', off', rfl, hlt', fun j hj => ?_⟩
            rw [← hx' j hj]
            refine World.cell?_of_block (a := ⟨b', off' + j, none⟩) (hk2.2 b' hlt' (fun e => ?_))
            have ha := (HLX.out 0 hpos).1
            simp only [Option.some.injEq, Addr.mk.injEq, and_true] at ha
            exact HLG.out (by rw [← ha.1]; exact e))
          go_wp2_with (first | (go_at_call 11; refine (HLBi.out _ HRC.out).mono ?_; go_must (rintro e w7 ⟨⟨v7, rfl, hsl7⟩, hb7⟩; have HSL7 := Lib.hid hsl7; clear hsl7)) | (go_at_call 13; refine (HSM.out Ln _ _ _ ((HSVX.out.mono (by omega)).below hb7) HSL7.out).mono ?_; go_must (rintro e w8 ⟨rfl, hb8⟩)))
          go_roundw
          case rel => exact ⟨i + 1, HLT1.out, by simp, Lib.hid (by rw [HT.out, List.length_append]; exact (HMZ.out.kept (below_at (below_at hbx hsx hb7) (by have := hb7.size; omega) hb8))), h1.trans ((below_at (Below.mono hb7 (Nat.le_refl _)) (by have := hb7.size; omega) hb8).mono (by omega))⟩
          case measure => simp only [intOf]; have := HLT1.out; omega
      have hlixk := HLI.out k hltk
      have PC0 := HLV.out k hltk
      have hpm : Ln[k] ∈ Ln := List.getElem_mem hltk
      obtain ⟨hpL, hpc⟩ := HMM.out Ln[k] hpm
      have HSK := Lib.hid (HCO.out Ln[k] hpL)
      rw [hpc] at HSK
      have hfl := HPS.out Ln[k] hpL
      have HWF := Lib.hid (show wf3 Ln[k] from by obtain ⟨a, b, c⟩ := flat_sm hfl; exact ⟨wf_sm (by simp only at a; omega), wf_sm (by simp only at b; omega), wf_sm (by simp only at c; omega)⟩)
      have HNEW := Lib.hid (show Ln[k] ∉ Ti ++ Ln.take k from fun hm => by
        rcases List.mem_append.1 hm with h | h
        · exact HNW.out _ hpm h
        · obtain ⟨j, hj, e⟩ := List.getElem_of_mem h
          rw [List.length_take] at hj
          rw [List.getElem_take] at e
          have := (List.getElem_inj HNDi.out).1 e
          omega)
      have HAL := Lib.hid (show ∀ kk (h : kk < Ln.length), ∃ t : Int, Ln[k].1 - Ln[kk].1 = t * u.1 ∧ Ln[k].2.1 - Ln[kk].2.1 = t * u.2.1 ∧ Ln[k].2.2 - Ln[kk].2.2 = t * u.2.2 from fun kk h => by
        obtain ⟨h1, h2⟩ := HMM.out Ln[kk] (List.getElem_mem h)
        exact cell_along HAO.out.2 (Int.le_refl 20) (HPS.out _ h1) hfl (h2.trans hpc.symm))
      have HTK := Lib.hid (show Ln.take (k + 1) = Ln.take k ++ [Ln[k]] from List.take_succ_eq_append_getElem hltk)
      have HSMP := Lib.hid (flat_sm hfl)
      have HLT := Lib.hid hltk
      have hkl : (k : Int) < (Ln.length : Int) := by omega
      clear hpm hpL hpc hfl
      generalize hp : Ln[k] = p at *
      obtain ⟨p0, p1, p2⟩ := p
      have HPE := Lib.hid hp; clear hp
      simp only at HSK PC0
      have PC := Lib.hid (show ∀ wx, Below wr.heap.size wr wx → wx.cell? ⟨lg, lo + 3 * k, none⟩ = some (.int .i64 p0) ∧ wx.cell? ⟨lg, lo + 3 * k + 1, none⟩ = some (.int .i64 p1) ∧ wx.cell? ⟨lg, lo + 3 * k + 2, none⟩ = some (.int .i64 p2) from fun wx h => PC0 wx (HKS.out.trans (KeepS.of_below (h.mono hs2))))
      clear PC0
      have S18 := Lib.hid (show ∀ V, Below wr.heap.size wr V → Below wr.heap.size wr V ∧ (V.cell? ⟨w.heap.size, 0, none⟩ = some (.int .i64 r.n) ∧ V.cell? ⟨w.heap.size, 1, none⟩ = some (r.lv) ∧ V.cell? ⟨w.heap.size, 2, none⟩ = some (r.vv) ∧ V.cell? ⟨w.heap.size + 1, 0, none⟩ = some (.int .i64 u.1) ∧ V.cell? ⟨w.heap.size + 1, 1, none⟩ = some (.int .i64 u.2.1) ∧ V.cell? ⟨w.heap.size + 1, 2, none⟩ = some (.int .i64 u.2.2)) ∧ V.cell? ⟨lg, lo + 3 * k, none⟩ = some (.int .i64 p0) ∧ V.cell? ⟨lg, lo + 3 * k + 1, none⟩ = some (.int .i64 p1) ∧ V.cell? ⟨lg, lo + 3 * k + 2, none⟩ = some (.int .i64 p2) from fun V h => by
        have h1 : Below (w4.heap.size + 1) W5 V := hbr.trans (h.mono (by omega))
        exact ⟨h, (LD.out V h1).1, PC.out V h⟩)
      go_wp2_with fail
      go_cut [14, 15, 16] from 81 to 139 (fun t14 t15 t16 wx => ∃ g8, t15 = .pointer (some ⟨g8, 0, none⟩) ∧ t14 = .int .i64 (k : Nat) ∧ t16 = .int .i64 0 ∧ wr.heap.size ≤ g8 ∧ g8 < wx.heap.size ∧ wx.cell? ⟨g8, 0, none⟩ = some (.int .i64 c0) ∧ wx.cell? ⟨g8, 1, none⟩ = some (.int .i64 c1) ∧ Below wr.heap.size wr wx)
      case first =>
        go_region_held3 (fun w' => Below wr.heap.size wr w' ∧ (w'.cell? ⟨w.heap.size, 0, none⟩ = some (.int .i64 r.n) ∧ w'.cell? ⟨w.heap.size, 1, none⟩ = some (r.lv) ∧ w'.cell? ⟨w.heap.size, 2, none⟩ = some (r.vv) ∧ w'.cell? ⟨w.heap.size + 1, 0, none⟩ = some (.int .i64 u.1) ∧ w'.cell? ⟨w.heap.size + 1, 1, none⟩ = some (.int .i64 u.2.1) ∧ w'.cell? ⟨w.heap.size + 1, 2, none⟩ = some (.int .i64 u.2.2)) ∧ w'.cell? ⟨lg, lo + 3 * k, none⟩ = some (.int .i64 p0) ∧ w'.cell? ⟨lg, lo + 3 * k + 1, none⟩ = some (.int .i64 p1) ∧ w'.cell? ⟨lg, lo + 3 * k + 2, none⟩ = some (.int .i64 p2)) ((refine S18.out _ ?_; exact (by repeat (first | exact Below.refl _ _ | assumption | (refine Below.drew ?_) | (refine below_drewN ?_ _) | (refine Below.alloc ?_ (by first | (simp; done) | (simp; omega) | omega) _) | (refine Below.setCell ?_ (by first | (simp; done) | (simp; omega) | omega) _) | (refine Below.trans ?_ (Below.mono (by assumption) (by first | (simp; done) | (simp; omega) | omega))))))) (first | (go_at_call 28; refine (HSK.out _).mono ?_; go_must (rintro e w5 ⟨rfl, hb5⟩; have hs5 := hb5.size; (try simp at hs5); obtain ⟨hc5, hf5⟩ := bcell hb5; (first | have z := z10 hs5 | have z := z9 hs5 | have z := z8 hs5 | have z := z7 hs5 | have z := z6 hs5 | have z := z5 hs5 | have z := z4 hs5 | have z := z3 hs5 | have z := z2 hs5 | have z := z1 hs5 | skip))))
        all_goals (try go_wp2_with fail)
        all_goals go_meet
        all_goals (refine ⟨_, rfl, rfl, rfl, by omega, by first | (simp; done) | (simp; omega), by go_simp, by go_simp, by repeat (first | exact Below.refl _ _ | assumption | (refine Below.drew ?_) | (refine below_drewN ?_ _) | (refine Below.alloc ?_ (by first | (simp; done) | (simp; omega) | omega) _) | (refine Below.setCell ?_ (by first | (simp; done) | (simp; omega) | omega) _) | (refine Below.trans ?_ (Below.mono (by assumption) (by first | (simp; done) | (simp; omega) | omega))))⟩)
      case rest =>
        obtain ⟨g8, rfl, rfl, rfl, hg8, hg8', y0, y1, hbx⟩ := hcut
        have hsx := hbx.size
        have heq : ∀ W : World, (Op.equalIn 10000 31 (.agg #[.int .i64 c0, .int .i64 c1]) (.agg #[.int .i64 c0, .int .i64 c1])).run Try.prog W = .ok true W := fun W => by simpa using eq_cell c0 c1 c0 c1 W
        have hsb : seenB (Ti ++ Ln.take k) (p0, p1, p2) = false := by unfold seenB; rw [decide_eq_false_iff_not]; exact HNEW.out
        have HLK := Lib.hid (show ∀ W, Below wr.heap.size wr W → (Instr.lookup 69 (.map (some (w4.heap.size + 1))) (.agg #[.int .i64 p0, .int .i64 p1, .int .i64 p2]) false).run Try.prog W = .ok (.bool false) W from fun W hW => by
          have := SeenP.look (MapN.mapV HM2.out) (p0, p1, p2) HWF.out W hW
          rw [hsb] at this
          exact this)
        have S19 := Lib.hid (show ∀ W, Below wr.heap.size wr W → W.cell? ⟨cg, co + 2 * i, none⟩ = some (.int .i64 c0) ∧ W.cell? ⟨cg, co + 2 * i + 1, none⟩ = some (.int .i64 c1) from fun W h => CC.out W (hbr.trans (h.mono (by omega))))
        obtain ⟨x0, x1, x2⟩ := PC.out wc hbx
        obtain ⟨e0, e1⟩ := S19.out wc hbx
        by_cases hk0 : k = 0
        · have hd0 : decide ((0 : Int) < (k : Int)) = false := by rw [decide_eq_false_iff_not]; omega
          have hd1 : decide (0 < k) = false := by rw [decide_eq_false_iff_not]; omega
          clear hk0
          have hlk := HLK.out wc hbx
          have hlk1 := fun n => HLK.out (wc.drewN n) (below_drewN hbx n)
          go_wp2
          go_quiet (fail)
          go_upto_region 21 with fail
          refine forgetW (fun V2 => Below wc.heap.size wc V2) (by first | exact (by repeat (first | (with_reducible exact Below.refl _ _) | (with_reducible assumption) | (with_reducible refine Below.drew ?_) | (with_reducible refine Below.setCell ?_ (by first | (simp; done) | (simp; omega) | omega) _) | (with_reducible refine Below.alloc ?_ (by first | (simp; done) | (simp; omega) | omega) _) | (with_reducible refine below_drewN ?_ _) | (refine Below.trans ?_ (Below.mono (by with_reducible assumption) (by first | (simp; done) | (simp; omega) | omega)))))) ?_
          intro V2 hV2
          have hw2 : Below wr.heap.size wr V2 := hbx.trans (hV2.mono hsx)
          have hz2 := hw2.size
          obtain ⟨p0', p1', p2'⟩ := PC.out V2 hw2
          obtain ⟨w3, hr3, hm3, hg3⟩ := SeenN.step (MapN.kept HM2.out hw2) (by omega) (p0, p1, p2) HWF.out HNEW.out
          simp only [ptV] at hr3
          go_wp2
          go_roundw
          case rel => exact ⟨k + 1, HLT.out, by simp, Lib.hid (by rw [HTK.out, ← List.append_assoc]; exact hm3), (hb2.trans (hw2.mono (by omega))).grown hg3 (by omega) (fun r e => by cases e; omega), Lib.hid ((HKS.out.trans (KeepS.of_below (hw2.mono hs2))).trans (KeepS.grown hg3 (by omega) (fun r e => by cases e; exact .inl rfl)))⟩
          case measure => simp only [intOf]; have := HLT.out; omega
        · have hd0 : decide ((0 : Int) < (k : Int)) = true := by rw [decide_eq_true_iff]; omega
          have hd1 : decide (0 < k) = true := by rw [decide_eq_true_iff]; omega
          obtain ⟨kk, hkk1⟩ : ∃ kk, k = kk + 1 := ⟨k - 1, by omega⟩
          have hkk : kk < Ln.length := by omega
          obtain ⟨t, t0, t1, t2⟩ := HAL.out kk hkk
          have hlixq := HLI.out kk hkk
          have Q0 := HLV.out kk hkk
          have HSQ := Lib.hid (flat_sm (HPS.out _ (HMM.out Ln[kk] (List.getElem_mem hkk)).1))
          generalize Ln[kk] = q at *
          obtain ⟨q0, q1, q2⟩ := q
          simp only at Q0
          have HAC := Lib.hid (fun (W : World) => show Calls Try.prog 29 #[.agg #[.int .i64 q0, .int .i64 q1, .int .i64 q2], .agg #[.int .i64 p0, .int .i64 p1, .int .i64 p2], .agg #[.int .i64 u.1, .int .i64 u.2.1, .int .i64 u.2.2]] W fun e w' => e = .returned (.bool true) ∧ Below W.heap.size W w' from along_l (q0, q1, q2) (p0, p1, p2) u t t0 t1 t2 HSQ.out HSMP.out (dir_sm HAO.out.2) W)
          have SQ := Lib.hid (show ∀ V, Below wc.heap.size wc V → Below wc.heap.size wc V ∧ (V.cell? ⟨w.heap.size, 0, none⟩ = some (.int .i64 r.n) ∧ V.cell? ⟨w.heap.size, 1, none⟩ = some (r.lv) ∧ V.cell? ⟨w.heap.size, 2, none⟩ = some (r.vv) ∧ V.cell? ⟨w.heap.size + 1, 0, none⟩ = some (.int .i64 u.1) ∧ V.cell? ⟨w.heap.size + 1, 1, none⟩ = some (.int .i64 u.2.1) ∧ V.cell? ⟨w.heap.size + 1, 2, none⟩ = some (.int .i64 u.2.2)) ∧ (V.cell? ⟨g8, 0, none⟩ = some (.int .i64 c0) ∧ V.cell? ⟨g8, 1, none⟩ = some (.int .i64 c1)) ∧ (V.cell? ⟨cg, co + 2 * i, none⟩ = some (.int .i64 c0) ∧ V.cell? ⟨cg, co + 2 * i + 1, none⟩ = some (.int .i64 c1)) ∧ (V.cell? ⟨lg, lo + 3 * k, none⟩ = some (.int .i64 p0) ∧ V.cell? ⟨lg, lo + 3 * k + 1, none⟩ = some (.int .i64 p1) ∧ V.cell? ⟨lg, lo + 3 * k + 2, none⟩ = some (.int .i64 p2)) ∧ (V.cell? ⟨lg, lo + 3 * kk, none⟩ = some (.int .i64 q0) ∧ V.cell? ⟨lg, lo + 3 * kk + 1, none⟩ = some (.int .i64 q1) ∧ V.cell? ⟨lg, lo + 3 * kk + 2, none⟩ = some (.int .i64 q2)) ∧ (Instr.lookup 69 (.map (some (w4.heap.size + 1))) (.agg #[.int .i64 p0, .int .i64 p1, .int .i64 p2]) false).run Try.prog V = .ok (.bool false) V from fun V h => by
            have h1 : Below wr.heap.size wr V := hbx.trans (h.mono hsx)
            have h2 : Below (w4.heap.size + 1) W5 V := hbr.trans (h1.mono (by omega))
            exact ⟨h, (LD.out V h2).1, ⟨(h.cell (p := ⟨g8, 0, none⟩) hg8').trans y0, (h.cell (p := ⟨g8, 1, none⟩) hg8').trans y1⟩, S19.out V h1, PC.out V h1, Q0 V (HKS.out.trans (KeepS.of_below (h1.mono hs2))), HLK.out V h1⟩)
          have hw1 : IntKind.i64.wrap (kk : Int) = (kk : Int) := IntWalk.i64_in _ (by omega)
          have hw2 : (k : Int) - 1 = (kk : Int) := by omega
          have HK1 := Lib.hid hkk1
          clear hkk1 Q0 t0 t1 t2
          have hkkl : (kk : Int) < (Ln.length : Int) := by omega
          clear x0 x1 x2 e0 e1
          go_wp2
          go_region_held3 (fun w' => Below wc.heap.size wc w' ∧ (w'.cell? ⟨w.heap.size, 0, none⟩ = some (.int .i64 r.n) ∧ w'.cell? ⟨w.heap.size, 1, none⟩ = some (r.lv) ∧ w'.cell? ⟨w.heap.size, 2, none⟩ = some (r.vv) ∧ w'.cell? ⟨w.heap.size + 1, 0, none⟩ = some (.int .i64 u.1) ∧ w'.cell? ⟨w.heap.size + 1, 1, none⟩ = some (.int .i64 u.2.1) ∧ w'.cell? ⟨w.heap.size + 1, 2, none⟩ = some (.int .i64 u.2.2)) ∧ (w'.cell? ⟨g8, 0, none⟩ = some (.int .i64 c0) ∧ w'.cell? ⟨g8, 1, none⟩ = some (.int .i64 c1)) ∧ (w'.cell? ⟨cg, co + 2 * i, none⟩ = some (.int .i64 c0) ∧ w'.cell? ⟨cg, co + 2 * i + 1, none⟩ = some (.int .i64 c1)) ∧ (w'.cell? ⟨lg, lo + 3 * k, none⟩ = some (.int .i64 p0) ∧ w'.cell? ⟨lg, lo + 3 * k + 1, none⟩ = some (.int .i64 p1) ∧ w'.cell? ⟨lg, lo + 3 * k + 2, none⟩ = some (.int .i64 p2)) ∧ (w'.cell? ⟨lg, lo + 3 * kk, none⟩ = some (.int .i64 q0) ∧ w'.cell? ⟨lg, lo + 3 * kk + 1, none⟩ = some (.int .i64 q1) ∧ w'.cell? ⟨lg, lo + 3 * kk + 2, none⟩ = some (.int .i64 q2)) ∧ (Instr.lookup 69 (.map (some (w4.heap.size + 1))) (.agg #[.int .i64 p0, .int .i64 p1, .int .i64 p2]) false).run Try.prog w' = .ok (.bool false) w') ((refine SQ.out _ ?_; exact (by repeat (first | (with_reducible exact Below.refl _ _) | (with_reducible assumption) | (with_reducible refine Below.drew ?_) | (with_reducible refine Below.setCell ?_ (by first | (simp; done) | (simp; omega) | omega) _) | (with_reducible refine Below.alloc ?_ (by first | (simp; done) | (simp; omega) | omega) _) | (with_reducible refine below_drewN ?_ _) | (refine Below.trans ?_ (Below.mono (by with_reducible assumption) (by first | (simp; done) | (simp; omega) | omega))))))) (first | (go_at_call 29; refine (HAC.out _).mono ?_; go_must (rintro e w8 ⟨rfl, hb8⟩)))
          clear hw1 hw2
          go_upto_region 21 with fail
          refine forgetW (fun V2 => Below wc.heap.size wc V2) (by first | exact (by repeat (first | (with_reducible exact Below.refl _ _) | (with_reducible assumption) | (with_reducible refine Below.drew ?_) | (with_reducible refine Below.setCell ?_ (by first | (simp; done) | (simp; omega) | omega) _) | (with_reducible refine Below.alloc ?_ (by first | (simp; done) | (simp; omega) | omega) _) | (with_reducible refine below_drewN ?_ _) | (refine Below.trans ?_ (Below.mono (by with_reducible assumption) (by first | (simp; done) | (simp; omega) | omega)))))) ?_
          intro V2 hV2
          have hw2 : Below wr.heap.size wr V2 := hbx.trans (hV2.mono hsx)
          have hz2 := hw2.size
          obtain ⟨p0', p1', p2'⟩ := PC.out V2 hw2
          obtain ⟨w3, hr3, hm3, hg3⟩ := SeenN.step (MapN.kept HM2.out hw2) (by omega) (p0, p1, p2) HWF.out HNEW.out
          simp only [ptV] at hr3
          go_wp2
          go_roundw
          case rel => exact ⟨k + 1, HLT.out, by simp, Lib.hid (by rw [HTK.out, ← List.append_assoc]; exact hm3), (hb2.trans (hw2.mono (by omega))).grown hg3 (by omega) (fun r e => by cases e; omega), Lib.hid ((HKS.out.trans (KeepS.of_below (hw2.mono hs2))).trans (KeepS.grown hg3 (by omega) (fun r e => by cases e; exact .inl rfl)))⟩
          case measure => simp only [intOf]; have := HLT.out; omega
end Go.Proofs.Ytndfdgdahinkpaa
