/- Whether two lists of cells are the same: its walk; the walk of the law SpaceCells. Conditions: none. -/
import Derived.Test.YtndfdgdahinkpaaCelL
namespace Go.Proofs.Ytndfdgdahinkpaa
open Go.RowKit Go.Lib
set_option linter.unusedVariables false
set_option maxHeartbeats 4000000 in
set_option maxRecDepth 100000 in
theorem Same_l (l m : List (Int × Int)) (w : World) (v u : Value) (hv : SlOf w w.heap.size 2 encC v l) (hu : SlOf w w.heap.size 2 encC u m) :
    Calls Try.prog 35 #[v, u] w fun e w' => e = .returned (.bool (decide (l = m))) ∧ Below w.heap.size w w' := by
  obtain ⟨a, cap, g, off, rfl, hlc, hcm, hx⟩ := SlOf.at (enc := encC) (fun _ => rfl) un_ce sz_ce hv
  obtain ⟨a2, cap2, g2, off2, rfl, hlc2, hcm2, hx2⟩ := SlOf.at (enc := encC) (fun _ => rfl) un_ce sz_ce hu
  have HX := Lib.hid hx; have HX2 := Lib.hid hx2; clear hx hx2 hv hu
  unfold maxLen at hcm hcm2
  by_cases hlen : l.length = m.length
  rotate_left
  · have hne : ¬ ((l.length : Int) = (m.length : Int)) := by omega
    have HF := Lib.hid (show decide (l = m) = false by rw [decide_eq_false_iff_not]; intro e; exact hlen (by rw [e]))
    clear hlen
    go_enter Try.func35, Try.ntmps35
    go_wp2
    go_ret
    exact ⟨ret_bool HF.out.symm, by repeat (first | exact Below.refl _ _ | assumption | (refine Below.drew ?_) | (refine below_drewN ?_ _) | (refine Below.alloc ?_ (by first | (simp; done) | (simp; omega) | omega) _) | (refine Below.setCell ?_ (by first | (simp; done) | (simp; omega) | omega) _) | (refine Below.trans ?_ (Below.mono (by assumption) (by first | (simp; done) | (simp; omega) | omega))))⟩
  have HLEN := Lib.hid hlen
  rw [← hlen]
  clear hlen
  have hk4 : (l.length : Int) ≤ 9223372036854775807 := by omega
  go_enter Try.func35, Try.ntmps35
  go_wp2
  go_loopw [5] (fun i wr => ∃ k : Nat, k ≤ l.length ∧ i = .int .i64 (k : Nat) ∧ Hid (∀ j, j < k → l[j]? = m[j]?) ∧ Below w.heap.size w wr) (fun i _ => l.length - (intOf i).toNat)
  case atStart => exact ⟨0, by omega, rfl, Lib.hid (fun j h => absurd h (by omega)), Below.refl _ _⟩
  case round =>
    obtain ⟨k, hk, rfl, HS, hb⟩ := hrel
    by_cases hlt : k < l.length
    rotate_left
    · have HK := Lib.hid (show k = l.length by omega)
      have HT := Lib.hid (show decide (l = m) = true by
        rw [decide_eq_true_eq]
        refine List.ext_getElem? (fun j => ?_)
        rcases Nat.lt_or_ge j l.length with h | h
        · exact HS.out j (by rw [HK.out]; exact h)
        · rw [List.getElem?_eq_none h, List.getElem?_eq_none (by rw [← HLEN.out]; exact h)])
      go_wp2
      go_ret
      exact ⟨ret_bool HT.out.symm, hb⟩
    have hlt2 : k < m.length := by rw [← HLEN.out]; exact hlt
    obtain ⟨-, hi, hg, hc⟩ := HX.out k hlt
    obtain ⟨-, hi2, hg2, hc2⟩ := HX2.out k hlt2
    rw [← HLEN.out] at hi2
    have rd := fun j hj => (hb.cell (p := ⟨g, off + 2 * k + j, none⟩) hg).trans (hc j hj)
    have rd2 := fun j hj => (hb.cell (p := ⟨g2, off2 + 2 * k + j, none⟩) hg2).trans (hc2 j hj)
    have HE := Lib.hid (show l[k]? = some l[k] ∧ m[k]? = some m[k] by simp [hlt, hlt2])
    clear hc hc2
    generalize l[k] = p at *
    generalize m[k] = q at *
    obtain ⟨p0, p1⟩ := p
    obtain ⟨q0, q1⟩ := q
    have heq := fun W => eq_cell p0 p1 q0 q1 W
    have r0 : wr.cell? ⟨g, off + 2 * k, none⟩ = some (.int .i64 p0) := rd 0 (by omega)
    have r1 : wr.cell? ⟨g, off + 2 * k + 1, none⟩ = some (.int .i64 p1) := rd 1 (by omega)
    have s0 : wr.cell? ⟨g2, off2 + 2 * k, none⟩ = some (.int .i64 q0) := rd2 0 (by omega)
    have s1 : wr.cell? ⟨g2, off2 + 2 * k + 1, none⟩ = some (.int .i64 q1) := rd2 1 (by omega)
    clear rd rd2
    by_cases hpq : ((p0, p1) : Int × Int) = (q0, q1)
    · have HPQ := Lib.hid hpq
      rw [← Bool.decide_and, decide_eq_true (by simpa using hpq)] at heq
      clear hpq
      go_wp2
      go_quiet (fail)
      go_wp2
      go_roundw
      case rel =>
        refine ⟨k + 1, hlt, by simp, Lib.hid (fun j hj => ?_), below_drewN hb _⟩
        by_cases he : j = k
        · subst he; rw [HE.out.1, HE.out.2, HPQ.out]
        · exact HS.out j (by omega)
      case measure => simp only [intOf]; omega
    · have HF := Lib.hid (show decide (l = m) = false by
        rw [decide_eq_false_iff_not]; intro e
        have h1 := HE.out.1
        rw [e, HE.out.2] at h1
        exact hpq (Option.some.inj h1).symm)
      rw [← Bool.decide_and, decide_eq_false (by simpa using hpq)] at heq
      clear hpq
      go_wp2
      go_quiet (fail)
      go_wp2
      go_ret
      exact ⟨ret_bool HF.out.symm, below_drewN hb _⟩
theorem sz_rw (W : World) : (sizeOf (Try.prog.elem 75)).run Try.prog W = .ok 1 W := by kernel_rfl
theorem un_rw : Try.prog.underlying 75 = some (.slice (Try.prog.elem 75)) := by kernel_rfl
theorem RowsSl.at {α : Type} {P : Program} {t : TypeId} {sz : Nat} {enc : α → List Value} {w : World} {v : Value} {ll : List (List α)} (hu : P.underlying t = some (.slice (P.elem t))) (hsz : ∀ W, (sizeOf (P.elem t)).run P W = .ok 1 W) (h : RowsSl w sz enc v ll) :
    ∃ a cap g off, v = .slice a ll.length cap ∧ ll.length ≤ cap ∧ cap ≤ maxLen ∧ ∀ i (hi : i < ll.length), (∀ W, (Instr.indexAt t (.slice a ll.length cap) (.int .i64 (i : Int))).run P W = .ok (.pointer (some ⟨g, off + i, none⟩)) W) ∧ g < w.heap.size ∧ ∃ x, w.cell? ⟨g, off + i, none⟩ = some x ∧ SlOf w w.heap.size sz enc x ll[i] := by
  obtain ⟨vs, h1, h2, h3⟩ := h
  obtain ⟨a, cap, g, off, rfl, hlc, hcm, hx⟩ := SlOf.at (enc := encW) (fun _ => rfl) hu hsz h1
  refine ⟨a, cap, g, off, by rw [h2], by omega, hcm, fun i hi => ?_⟩
  have hv : i < vs.length := by rw [h2]; exact hi
  obtain ⟨-, hi1, hg, hc⟩ := hx i hv
  refine ⟨fun W => by rw [← h2]; simpa using hi1 W, hg, vs[i], ?_, h3 i _ _ (List.getElem?_eq_getElem _) (List.getElem?_eq_getElem hi)⟩
  have := hc 0 (Nat.lt_succ_self 0)
  simpa [encW] using this
set_option maxHeartbeats 4000000 in
set_option maxRecDepth 100000 in
theorem SpaceCells_any (r : RecD) (u : P3) (w : World) (hr : RecRd w r) :
    Calls Try.prog 8 #[.agg #[.int .i64 r.n, r.lv, r.vv], .agg #[.int .i64 u.1, .int .i64 u.2.1, .int .i64 u.2.2]] w fun e w' => e = .returned (.bool true) ∧ Below w.heap.size w w' := by
  have HR := Lib.hid hr
  clear hr
  obtain ⟨W0, hW0⟩ : ∃ W : World, (w.alloc (Obj.cells #[.int .i64 r.n, r.lv, r.vv] 27)).alloc (Obj.cells #[.int .i64 u.1, .int .i64 u.2.1, .int .i64 u.2.2] 29) = W := ⟨_, rfl⟩
  have kw0 : Below w.heap.size w W0 := by rw [← hW0]; exact (by repeat (first | exact Below.refl _ _ | assumption | (refine Below.drew ?_) | (refine below_drewN ?_ _) | (refine Below.alloc ?_ (by first | (simp; done) | (simp; omega) | omega) _) | (refine Below.setCell ?_ (by first | (simp; done) | (simp; omega) | omega) _) | (refine Below.trans ?_ (Below.mono (by assumption) (by first | (simp; done) | (simp; omega) | omega)))))
  have ks0 : W0.heap.size = w.heap.size + 2 := by rw [← hW0]; simp
  have RD0 := Lib.hid (show ∀ V, Below W0.heap.size W0 V → V.cell? ⟨w.heap.size, 0, none⟩ = some (.int .i64 r.n) ∧ V.cell? ⟨w.heap.size, 1, none⟩ = some (r.lv) ∧ V.cell? ⟨w.heap.size, 2, none⟩ = some (r.vv) ∧ V.cell? ⟨w.heap.size + 1, 0, none⟩ = some (.int .i64 u.1) ∧ V.cell? ⟨w.heap.size + 1, 1, none⟩ = some (.int .i64 u.2.1) ∧ V.cell? ⟨w.heap.size + 1, 2, none⟩ = some (.int .i64 u.2.2) from fun V h => by
      refine ⟨(h.cell (p := ⟨w.heap.size, 0, none⟩) (by simp; omega)).trans ?_, (h.cell (p := ⟨w.heap.size, 1, none⟩) (by simp; omega)).trans ?_, (h.cell (p := ⟨w.heap.size, 2, none⟩) (by simp; omega)).trans ?_, (h.cell (p := ⟨w.heap.size + 1, 0, none⟩) (by simp; omega)).trans ?_, (h.cell (p := ⟨w.heap.size + 1, 1, none⟩) (by simp; omega)).trans ?_, (h.cell (p := ⟨w.heap.size + 1, 2, none⟩) (by simp; omega)).trans ?_⟩ <;> (subst hW0; go_simp))
  have HW0 := Lib.hid hW0; have KW0 := Lib.hid kw0; clear hW0 kw0
  have HWD := Lib.hid (fun (W : World) (h : RecRd W r) => Wide_l r 120 (by omega) W h)
  cases hwd : wideB r.n r.l r.vars 120
  rotate_left
  · have HV := Lib.hid hwd; clear hwd
    go_enter Try.func8, Try.ntmps8
    go_wp2_with (first | (go_at_call 9; rw [HW0.out]; refine (HWD.out _ (HR.out.below KW0.out)).mono ?_; go_must (rintro e w1 ⟨rfl, hb1⟩; have K0 := hb1; have HB1 := Lib.hid hb1; clear hb1; obtain ⟨k0_0, k0_1, k0_2, k0_3, k0_4, k0_5⟩ := RD0.out _ K0; rw [HV.out])) | (go_at_call 10; refine (sane04 _).mono ?_; go_must (rintro e w9 ⟨rfl, hb9⟩)))
    go_ret
    exact ⟨rfl, below_at KW0.out (by omega) (below_at K0 (by have := K0.size; omega) hb9)⟩
  have HV := Lib.hid hwd; clear hwd
  have HC1 := Lib.hid (fun (W : World) (h : RecRd W r) => show Calls Try.prog 26 #[.agg #[.int .i64 r.n, r.lv, r.vv], .agg #[.int .i64 u.1, .int .i64 u.2.1, .int .i64 u.2.2]] W fun e w' => (∃ v, e = .returned (.tuple #[v, .int .i64 (askE r u)]) ∧ SlOf w' w'.heap.size 2 encC v (if askE r u = 0 then cellsL r u else [])) ∧ Below W.heap.size W w' from Cells_l r u W h)
  have HC2 := Lib.hid (fun (W : World) (h : RecRd W r) => show Calls Try.prog 30 #[.agg #[.int .i64 r.n, r.lv, r.vv], .agg #[.int .i64 u.1, .int .i64 u.2.1, .int .i64 u.2.2]] W fun e w' => (∃ v, e = .returned (.tuple #[v, .int .i64 (askE r u)]) ∧ SlOf w' w'.heap.size 2 encC v (if askE r u = 0 then cellsL r u else [])) ∧ Below W.heap.size W w' from rCells_l r u W h)
  have HB1' := Lib.hid (fun (W : World) (h : RecRd W r) => show Calls Try.prog 31 #[.agg #[.int .i64 r.n, r.lv, r.vv], .agg #[.int .i64 u.1, .int .i64 u.2.1, .int .i64 u.2.2]] W fun e w' => e = .returned (.tuple #[.int .i64 (if askE r u = 0 then (busyL r u : Int) else 0), .int .i64 (askE r u)]) ∧ Below W.heap.size W w' from Busy_l r u W h)
  have HB2' := Lib.hid (fun (W : World) (h : RecRd W r) => show Calls Try.prog 32 #[.agg #[.int .i64 r.n, r.lv, r.vv], .agg #[.int .i64 u.1, .int .i64 u.2.1, .int .i64 u.2.2]] W fun e w' => e = .returned (.tuple #[.int .i64 (if askE r u = 0 then (busyL r u : Int) else 0), .int .i64 (askE r u)]) ∧ Below W.heap.size W w' from rBusy_l r u W h)
  have HM1 := Lib.hid (fun (W : World) (h : RecRd W r) => show Calls Try.prog 33 #[.agg #[.int .i64 r.n, r.lv, r.vv], .agg #[.int .i64 u.1, .int .i64 u.2.1, .int .i64 u.2.2]] W fun e w' => (∃ v, e = .returned (.tuple #[v, .int .i64 (askE r u)]) ∧ RowsSl w' 2 encC v (if askE r u = 0 then movesL r u else [])) ∧ Below W.heap.size W w' from Moves_l r u W h)
  have HM2 := Lib.hid (fun (W : World) (h : RecRd W r) => show Calls Try.prog 34 #[.agg #[.int .i64 r.n, r.lv, r.vv], .agg #[.int .i64 u.1, .int .i64 u.2.1, .int .i64 u.2.2]] W fun e w' => (∃ v, e = .returned (.tuple #[v, .int .i64 (askE r u)]) ∧ RowsSl w' 2 encC v (if askE r u = 0 then movesL r u else [])) ∧ Below W.heap.size W w' from rMoves_l r u W h)
  generalize (if askE r u = 0 then cellsL r u else []) = X at *
  generalize (if askE r u = 0 then (busyL r u : Int) else 0) = B at *
  generalize (if askE r u = 0 then movesL r u else []) = Y at *
  generalize askE r u = A at *
  have HSM := Lib.hid (fun (l : List (Int × Int)) (W : World) (v1 v2 : Value) (h1 : SlOf W W.heap.size 2 encC v1 l) (h2 : SlOf W W.heap.size 2 encC v2 l) => by have := Same_l l l W v1 v2 h1 h2; rwa [decide_eq_true rfl] at this)
  go_enter Try.func8, Try.ntmps8
  go_wp2_with (first | (go_at_call 9; rw [HW0.out]; refine (HWD.out _ (HR.out.below KW0.out)).mono ?_; go_must (rintro e w1 ⟨rfl, hb1⟩; have K0 := hb1; have HB1 := Lib.hid hb1; clear hb1; obtain ⟨k0_0, k0_1, k0_2, k0_3, k0_4, k0_5⟩ := RD0.out _ K0; rw [HV.out])) | (go_at_call 26; refine (HC1.out _ (HR.out.below (KW0.out.trans (K0.mono (by omega))))).mono ?_; go_must (rintro e w2 ⟨⟨v1, rfl, hs1⟩, hb2⟩; have K' := (by first | exact below_at K0 (by have := K0.size; omega) hb2 | exact below_at K0 (by have := K0.size; omega) (by repeat (first | exact Below.refl _ _ | assumption | (refine Below.drew ?_) | (refine below_drewN ?_ _) | (refine Below.alloc ?_ (by first | (simp; done) | (simp; omega) | omega) _) | (refine Below.setCell ?_ (by first | (simp; done) | (simp; omega) | omega) _) | (refine Below.trans ?_ (Below.mono (by assumption) (by first | (simp; done) | (simp; omega) | omega))))) : Below W0.heap.size W0 w2); have HB2 := Lib.hid hb2; clear K0 hb2; (try clear k0_0); (try clear k0_1); (try clear k0_2); (try clear k0_3); (try clear k0_4); (try clear k0_5); have K0 := K'; clear K'; obtain ⟨k0_0, k0_1, k0_2, k0_3, k0_4, k0_5⟩ := RD0.out _ K0; have HS1 := Lib.hid hs1; clear hs1)) | (go_at_call 30; refine (HC2.out _ (HR.out.below (KW0.out.trans (K0.mono (by omega))))).mono ?_; go_must (rintro e w3 ⟨⟨v2, rfl, hs2⟩, hb3⟩; have K' := (by first | exact below_at K0 (by have := K0.size; omega) hb3 | exact below_at K0 (by have := K0.size; omega) (by repeat (first | exact Below.refl _ _ | assumption | (refine Below.drew ?_) | (refine below_drewN ?_ _) | (refine Below.alloc ?_ (by first | (simp; done) | (simp; omega) | omega) _) | (refine Below.setCell ?_ (by first | (simp; done) | (simp; omega) | omega) _) | (refine Below.trans ?_ (Below.mono (by assumption) (by first | (simp; done) | (simp; omega) | omega))))) : Below W0.heap.size W0 w3); have HB3 := Lib.hid hb3; clear K0 hb3; (try clear k0_0); (try clear k0_1); (try clear k0_2); (try clear k0_3); (try clear k0_4); (try clear k0_5); have K0 := K'; clear K'; obtain ⟨k0_0, k0_1, k0_2, k0_3, k0_4, k0_5⟩ := RD0.out _ K0; have HS2 := Lib.hid hs2; clear hs2)) | (go_at_call 31; refine (HB1'.out _ (HR.out.below (KW0.out.trans (K0.mono (by omega))))).mono ?_; go_must (rintro e w4 ⟨rfl, hb4⟩; have K' := (by first | exact below_at K0 (by have := K0.size; omega) hb4 | exact below_at K0 (by have := K0.size; omega) (by repeat (first | exact Below.refl _ _ | assumption | (refine Below.drew ?_) | (refine below_drewN ?_ _) | (refine Below.alloc ?_ (by first | (simp; done) | (simp; omega) | omega) _) | (refine Below.setCell ?_ (by first | (simp; done) | (simp; omega) | omega) _) | (refine Below.trans ?_ (Below.mono (by assumption) (by first | (simp; done) | (simp; omega) | omega))))) : Below W0.heap.size W0 w4); have HB4 := Lib.hid hb4; clear K0 hb4; (try clear k0_0); (try clear k0_1); (try clear k0_2); (try clear k0_3); (try clear k0_4); (try clear k0_5); have K0 := K'; clear K'; obtain ⟨k0_0, k0_1, k0_2, k0_3, k0_4, k0_5⟩ := RD0.out _ K0; skip)) | (go_at_call 32; refine (HB2'.out _ (HR.out.below (KW0.out.trans (K0.mono (by omega))))).mono ?_; go_must (rintro e w5 ⟨rfl, hb5⟩; have K' := (by first | exact below_at K0 (by have := K0.size; omega) hb5 | exact below_at K0 (by have := K0.size; omega) (by repeat (first | exact Below.refl _ _ | assumption | (refine Below.drew ?_) | (refine below_drewN ?_ _) | (refine Below.alloc ?_ (by first | (simp; done) | (simp; omega) | omega) _) | (refine Below.setCell ?_ (by first | (simp; done) | (simp; omega) | omega) _) | (refine Below.trans ?_ (Below.mono (by assumption) (by first | (simp; done) | (simp; omega) | omega))))) : Below W0.heap.size W0 w5); have HB5 := Lib.hid hb5; clear K0 hb5; (try clear k0_0); (try clear k0_1); (try clear k0_2); (try clear k0_3); (try clear k0_4); (try clear k0_5); have K0 := K'; clear K'; obtain ⟨k0_0, k0_1, k0_2, k0_3, k0_4, k0_5⟩ := RD0.out _ K0; skip)) | (go_at_call 33; refine (HM1.out _ (HR.out.below (KW0.out.trans (K0.mono (by omega))))).mono ?_; go_must (rintro e w6 ⟨⟨v3, rfl, hs3⟩, hb6⟩; have K' := (by first | exact below_at K0 (by have := K0.size; omega) hb6 | exact below_at K0 (by have := K0.size; omega) (by repeat (first | exact Below.refl _ _ | assumption | (refine Below.drew ?_) | (refine below_drewN ?_ _) | (refine Below.alloc ?_ (by first | (simp; done) | (simp; omega) | omega) _) | (refine Below.setCell ?_ (by first | (simp; done) | (simp; omega) | omega) _) | (refine Below.trans ?_ (Below.mono (by assumption) (by first | (simp; done) | (simp; omega) | omega))))) : Below W0.heap.size W0 w6); have HB6 := Lib.hid hb6; clear K0 hb6; (try clear k0_0); (try clear k0_1); (try clear k0_2); (try clear k0_3); (try clear k0_4); (try clear k0_5); have K0 := K'; clear K'; obtain ⟨k0_0, k0_1, k0_2, k0_3, k0_4, k0_5⟩ := RD0.out _ K0; have HS3 := Lib.hid hs3; clear hs3)) | (go_at_call 34; refine (HM2.out _ (HR.out.below (KW0.out.trans (K0.mono (by omega))))).mono ?_; go_must (rintro e w7 ⟨⟨v4, rfl, hs4⟩, hb7⟩; have K' := (by first | exact below_at K0 (by have := K0.size; omega) hb7 | exact below_at K0 (by have := K0.size; omega) (by repeat (first | exact Below.refl _ _ | assumption | (refine Below.drew ?_) | (refine below_drewN ?_ _) | (refine Below.alloc ?_ (by first | (simp; done) | (simp; omega) | omega) _) | (refine Below.setCell ?_ (by first | (simp; done) | (simp; omega) | omega) _) | (refine Below.trans ?_ (Below.mono (by assumption) (by first | (simp; done) | (simp; omega) | omega))))) : Below W0.heap.size W0 w7); have HB7 := Lib.hid hb7; clear K0 hb7; (try clear k0_0); (try clear k0_1); (try clear k0_2); (try clear k0_3); (try clear k0_4); (try clear k0_5); have K0 := K'; clear K'; obtain ⟨k0_0, k0_1, k0_2, k0_3, k0_4, k0_5⟩ := RD0.out _ K0; have HS4 := Lib.hid hs4; clear hs4; have HT1 := Lib.hid (((((HS1.out.below HB3.out).below HB4.out).below HB5.out).below HB6.out).below HB7.out); have HT2 := Lib.hid ((((HS2.out.below HB4.out).below HB5.out).below HB6.out).below HB7.out); have HT3 := Lib.hid (HS3.out.below HB7.out); obtain ⟨xa, xc, xg, xo, rfl, hxl, hxm, hxx⟩ := RowsSl.at un_rw sz_rw HT3.out; obtain ⟨ya, yc, yg, yo, rfl, hyl, hym, hyy⟩ := RowsSl.at un_rw sz_rw HS4.out; have HXX := Lib.hid hxx; have HYY := Lib.hid hyy; clear hxx hyy; unfold maxLen at hxm hym)) | (go_at_call 35; refine (HSM.out X _ _ _ HT1.out HT2.out).mono ?_; go_must (rintro e w8 ⟨rfl, hb8⟩; have K' := (by first | exact below_at K0 (by have := K0.size; omega) hb8 | exact below_at K0 (by have := K0.size; omega) (by repeat (first | exact Below.refl _ _ | assumption | (refine Below.drew ?_) | (refine below_drewN ?_ _) | (refine Below.alloc ?_ (by first | (simp; done) | (simp; omega) | omega) _) | (refine Below.setCell ?_ (by first | (simp; done) | (simp; omega) | omega) _) | (refine Below.trans ?_ (Below.mono (by assumption) (by first | (simp; done) | (simp; omega) | omega))))) : Below W0.heap.size W0 w8); have HB8 := Lib.hid hb8; clear K0 hb8; (try clear k0_0); (try clear k0_1); (try clear k0_2); (try clear k0_3); (try clear k0_4); (try clear k0_5); have K0 := K'; clear K'; obtain ⟨k0_0, k0_1, k0_2, k0_3, k0_4, k0_5⟩ := RD0.out _ K0; skip)))
  have KX := Lib.hid ((KW0.out.trans (K0.mono (by omega))))
  have hw8 : w.heap.size ≤ w8.heap.size := by have := K0.size; omega
  have hb78 := HB8.out
  clear HT1 HT2 HT3 HS1 HS2 HS3 HS4 HB1 HB2 HB3 HB4 HB5 HB6 HB7 HC1 HC2 HB1' HB2' HM1 HM2 HWD ks0 K0
  (try clear k0_0); (try clear k0_1); (try clear k0_2); (try clear k0_3); (try clear k0_4); (try clear k0_5)
  go_loopw [17] (fun t17 wr => ∃ i : Nat, i ≤ Y.length ∧ t17 = .int .i64 (i : Nat) ∧ Below w8.heap.size w8 wr) (fun t17 _ => Y.length - (intOf t17).toNat)
  case atStart => exact ⟨0, Nat.zero_le _, rfl, Below.refl _ _⟩
  case round =>
    obtain ⟨i, hi, rfl, hb⟩ := hrel
    have hs := hb.size
    by_cases hlt : i < Y.length
    rotate_left
    · go_wp2_with (go_at_call 10; refine (sane04 _).mono ?_; go_must (rintro e w9 ⟨rfl, hb9⟩))
      go_ret
      exact ⟨rfl, below_at KX.out hw8 (below_at hb hs hb9)⟩
    obtain ⟨hix, hgx, x, hcx, hsx⟩ := HXX.out i hlt
    obtain ⟨hiy, hgy, y, hcy, hsy⟩ := HYY.out i hlt
    have hb7 : Below w7.heap.size w7 wr := below_at hb78 hb78.size hb
    have c0 := (hb7.cell (p := ⟨xg, xo + i, none⟩) hgx).trans hcx
    have c1 := (hb7.cell (p := ⟨yg, yo + i, none⟩) hgy).trans hcy
    have HSX := Lib.hid (hsx.below hb7)
    have HSY := Lib.hid (hsy.below hb7)
    have h78 := hb78.size
    have g0 : xg < wr.heap.size := by omega
    have g1 : yg < wr.heap.size := by omega
    have HSQ := Lib.hid (fun (W : World) (hW : Below wr.heap.size wr W) => HSM.out Y[i] W x y (HSX.out.below hW) (HSY.out.below hW))
    have hil : (i : Int) < (Y.length : Int) := by omega
    clear hsx hsy hcx hcy HXX HYY hb78
    obtain ⟨xa2, xc2, hxe, -⟩ := HSX.out.shape
    obtain ⟨ya2, yc2, hye, -⟩ := HSY.out.shape
    subst hxe hye
    generalize Y[i].length = nx at *
    go_wp2
    go_region_held3 (fun w' => Below wr.heap.size wr w' ∧ w'.cell? ⟨xg, xo + i, none⟩ = some (.slice xa2 nx xc2) ∧ w'.cell? ⟨yg, yo + i, none⟩ = some (.slice ya2 nx yc2)) (((refine (fun kb => (⟨kb, (kb.cell (p := ⟨xg, xo + i, none⟩) g0).trans c0, (kb.cell (p := ⟨yg, yo + i, none⟩) g1).trans c1⟩)) (?_ : Below wr.heap.size wr _); exact (by repeat (first | (with_reducible exact Below.refl _ _) | (with_reducible assumption) | (with_reducible refine Below.drew ?_) | (with_reducible refine Below.setCell ?_ (by first | (simp; done) | (simp; omega) | omega) _) | (with_reducible refine Below.alloc ?_ (by first | (simp; done) | (simp; omega) | omega) _) | (with_reducible refine below_drewN ?_ _) | (refine Below.trans ?_ (Below.mono (by with_reducible assumption) (by first | (simp; done) | (simp; omega) | omega)))))))) (first | (go_at_call 35; refine (HSQ.out _ (by exact (by repeat (first | (with_reducible exact Below.refl _ _) | (with_reducible assumption) | (with_reducible refine Below.drew ?_) | (with_reducible refine Below.setCell ?_ (by first | (simp; done) | (simp; omega) | omega) _) | (with_reducible refine Below.alloc ?_ (by first | (simp; done) | (simp; omega) | omega) _) | (with_reducible refine below_drewN ?_ _) | (refine Below.trans ?_ (Below.mono (by with_reducible assumption) (by first | (simp; done) | (simp; omega) | omega))))))).mono ?_; go_must (rintro e w9 ⟨rfl, hb9⟩)))
    go_wp2
    go_roundw
    case rel => exact ⟨i + 1, hlt, by simp, below_at hb hs (show Below wr.heap.size wr _ from (by repeat (first | (with_reducible exact Below.refl _ _) | (with_reducible assumption) | (with_reducible refine Below.drew ?_) | (with_reducible refine Below.setCell ?_ (by first | (simp; done) | (simp; omega) | omega) _) | (with_reducible refine Below.alloc ?_ (by first | (simp; done) | (simp; omega) | omega) _) | (with_reducible refine below_drewN ?_ _) | (refine Below.trans ?_ (Below.mono (by with_reducible assumption) (by first | (simp; done) | (simp; omega) | omega))))))⟩
    case measure => simp only [intOf]; omega
end Go.Proofs.Ytndfdgdahinkpaa
