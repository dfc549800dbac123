/- The walk of the law SpaceEvents: it returns true. -/
import Derived.Test.YtndfdgdahinkpaaEvQ
import Derived.Test.YtndfdgdahinkpaaEvI
import Derived.Test.YtndfdgdahinkpaaSafeO
namespace Go.Proofs.Ytndfdgdahinkpaa
open Go.RowKit
set_option linter.unusedVariables false
def planV (r : RecD) (s : SchedD) (u : P3) : Value := .agg #[.int .i64 r.n, r.lv, r.vv, .int .i64 s.f.1, .int .i64 s.f.2.1, .int .i64 s.f.2.2, s.ov, .int .i64 u.1, .int .i64 u.2.1, .int .i64 u.2.2]
theorem sz_els (W : World) : (sizeOf (Try.prog.elem 57)).run Try.prog W = .ok 4 W := by kernel_rfl
theorem un_els : Try.prog.underlying 57 = some (.slice (Try.prog.elem 57)) := by kernel_rfl
set_option maxHeartbeats 8000000 in
set_option maxRecDepth 100000 in
theorem SpaceEvents_any (r : RecD) (s : SchedD) (u : P3) (e : ElD) (x : EvD) (he : wf3 e.2) (w : World) (hr : RecRd w r) (hs : SchedRd w s) :
    Calls Try.prog 5 #[.agg #[.int .i64 r.n, r.lv, r.vv, .int .i64 s.f.1, .int .i64 s.f.2.1, .int .i64 s.f.2.2, s.ov, .int .i64 u.1, .int .i64 u.2.1, .int .i64 u.2.2], .agg #[.int .i64 e.1, .int .i64 e.2.1, .int .i64 e.2.2.1, .int .i64 e.2.2.2], .agg #[.int .i64 x.t, .int .i64 x.c.1, .int .i64 x.c.2, .int .i64 x.e.1, .int .i64 x.e.2.1, .int .i64 x.e.2.2.1, .int .i64 x.e.2.2.2]] w fun z w' => z = .returned (.bool true) ∧ Below w.heap.size w w' := by
  have HR := Lib.hid hr
  have HS := Lib.hid hs
  obtain ⟨lla, llc, hll, -⟩ := hr.l.shape
  obtain ⟨vva, vvc, hvv, -⟩ := hr.vars.shape
  obtain ⟨ooa, ooc, hoo, -⟩ := hs.shape
  clear hr hs
  have HWD := Lib.hid (fun (W : World) (h : RecRd W r) (h2 : SchedRd W s) => Wide4_l r s W h h2)
  have H1 := Lib.hid (fun (W : World) (h : RecRd W r) (h2 : SchedRd W s) => Event_l r s u e W h h2)
  have H2 := Lib.hid (fun (W : World) (h : RecRd W r) (h2 : SchedRd W s) => rEvent_l r s u e he W h h2)
  have H3 := Lib.hid (fun (t : Int) (c : Int × Int) (W : World) (h : RecRd W r) (h2 : SchedRd W s) => At_l r s u t c W h h2)
  have H4 := Lib.hid (fun (t : Int) (c : Int × Int) (W : World) (h : RecRd W r) (h2 : SchedRd W s) => rAt_l r s u t c W h h2)
  have HAR := Lib.hid (fun t c z w' => show AtR r s u t c z w' ↔ ∃ v', z = .returned (.tuple #[v', .int .i64 (askS r s u)]) ∧ SlOf w' w'.heap.size 4 encEl v' (if askS r s u = 0 then atL r s u t c else []) from Iff.rfl)
  have HL := Lib.hid (fun t c => show (if askS r s u = 0 then atL r s u t c else []).length ≤ 4000 by
    split
    · unfold atL
      rw [List.length_map]
      refine Nat.le_trans (List.length_filter_le _ _) ?_
      rw [evsL_len]
      have hvo := validR_out (askS_ok (by assumption)).1
      exact Nat.mul_le_mul hvo.2.2.1.2 hvo.2.1
    · simp)
  rw [hll, hvv, hoo]
  rw [hll, hvv, hoo] at HWD H1 H2 H3 H4
  have HX := Lib.hid (show evX r s u e = .tuple #[evD (evVal r s u e), .int .i64 (evErr r s u e)] from rfl)
  rw [HX.out] at H1 H2
  generalize evVal r s u e = y at *
  generalize evErr r s u e = E at *
  obtain ⟨yt, ⟨y0, y1⟩, ⟨yv, yp, yq, yr⟩⟩ := y
  obtain ⟨ev, e0, e1, e2⟩ := e
  simp only [evD] at H1 H2
  obtain ⟨W0, hW0⟩ : ∃ W : World, ((w.alloc (Obj.cells #[.int .i64 r.n, .slice lla r.l.length llc, .slice vva r.vars.length vvc, .int .i64 s.f.1, .int .i64 s.f.2.1, .int .i64 s.f.2.2, .slice ooa s.off.length ooc, .int .i64 u.1, .int .i64 u.2.1, .int .i64 u.2.2] 52)).alloc (Obj.cells #[.int .i64 ev, .int .i64 e0, .int .i64 e1, .int .i64 e2] 47)).alloc (Obj.cells #[.int .i64 x.t, .int .i64 x.c.1, .int .i64 x.c.2, .int .i64 x.e.1, .int .i64 x.e.2.1, .int .i64 x.e.2.2.1, .int .i64 x.e.2.2.2] 54) = W := ⟨_, rfl⟩
  have kw0 : Below w.heap.size w W0 := by rw [← hW0]; exact (by repeat (first | exact Below.refl _ _ | assumption | (refine Below.drew ?_) | (refine below_drewN ?_ _) | (refine Below.alloc ?_ (by first | (simp; done) | (simp; omega) | omega) _) | (refine Below.setCell ?_ (by first | (simp; done) | (simp; omega) | omega) _) | (refine Below.trans ?_ (Below.mono (by assumption) (by first | (simp; done) | (simp; omega) | omega)))))
  have ks0 : W0.heap.size = w.heap.size + 3 := by rw [← hW0]; simp
  have RD0 := Lib.hid (show ∀ V, Below W0.heap.size W0 V → V.cell? ⟨w.heap.size, 0, none⟩ = some (.int .i64 r.n) ∧ V.cell? ⟨w.heap.size, 1, none⟩ = some (.slice lla r.l.length llc) ∧ V.cell? ⟨w.heap.size, 2, none⟩ = some (.slice vva r.vars.length vvc) ∧ V.cell? ⟨w.heap.size, 3, none⟩ = some (.int .i64 s.f.1) ∧ V.cell? ⟨w.heap.size, 4, none⟩ = some (.int .i64 s.f.2.1) ∧ V.cell? ⟨w.heap.size, 5, none⟩ = some (.int .i64 s.f.2.2) ∧ V.cell? ⟨w.heap.size, 6, none⟩ = some (.slice ooa s.off.length ooc) ∧ V.cell? ⟨w.heap.size, 7, none⟩ = some (.int .i64 u.1) ∧ V.cell? ⟨w.heap.size, 8, none⟩ = some (.int .i64 u.2.1) ∧ V.cell? ⟨w.heap.size, 9, none⟩ = some (.int .i64 u.2.2) ∧ V.cell? ⟨w.heap.size + 1, 0, none⟩ = some (.int .i64 ev) ∧ V.cell? ⟨w.heap.size + 1, 1, none⟩ = some (.int .i64 e0) ∧ V.cell? ⟨w.heap.size + 1, 2, none⟩ = some (.int .i64 e1) ∧ V.cell? ⟨w.heap.size + 1, 3, none⟩ = some (.int .i64 e2) ∧ V.cell? ⟨w.heap.size + 1 + 1, 0, none⟩ = some (.int .i64 x.t) ∧ V.cell? ⟨w.heap.size + 1 + 1, 1, none⟩ = some (.int .i64 x.c.1) ∧ V.cell? ⟨w.heap.size + 1 + 1, 2, none⟩ = some (.int .i64 x.c.2) ∧ V.cell? ⟨w.heap.size + 1 + 1, 3, none⟩ = some (.int .i64 x.e.1) ∧ V.cell? ⟨w.heap.size + 1 + 1, 4, none⟩ = some (.int .i64 x.e.2.1) ∧ V.cell? ⟨w.heap.size + 1 + 1, 5, none⟩ = some (.int .i64 x.e.2.2.1) ∧ V.cell? ⟨w.heap.size + 1 + 1, 6, none⟩ = some (.int .i64 x.e.2.2.2) from fun V h => by
      refine ⟨(h.cell (p := ⟨w.heap.size, 0, none⟩) (by simp; omega)).trans ?_, (h.cell (p := ⟨w.heap.size, 1, none⟩) (by simp; omega)).trans ?_, (h.cell (p := ⟨w.heap.size, 2, none⟩) (by simp; omega)).trans ?_, (h.cell (p := ⟨w.heap.size, 3, none⟩) (by simp; omega)).trans ?_, (h.cell (p := ⟨w.heap.size, 4, none⟩) (by simp; omega)).trans ?_, (h.cell (p := ⟨w.heap.size, 5, none⟩) (by simp; omega)).trans ?_, (h.cell (p := ⟨w.heap.size, 6, none⟩) (by simp; omega)).trans ?_, (h.cell (p := ⟨w.heap.size, 7, none⟩) (by simp; omega)).trans ?_, (h.cell (p := ⟨w.heap.size, 8, none⟩) (by simp; omega)).trans ?_, (h.cell (p := ⟨w.heap.size, 9, none⟩) (by simp; omega)).trans ?_, (h.cell (p := ⟨w.heap.size + 1, 0, none⟩) (by simp; omega)).trans ?_, (h.cell (p := ⟨w.heap.size + 1, 1, none⟩) (by simp; omega)).trans ?_, (h.cell (p := ⟨w.heap.size + 1, 2, none⟩) (by simp; omega)).trans ?_, (h.cell (p := ⟨w.heap.size + 1, 3, none⟩) (by simp; omega)).trans ?_, (h.cell (p := ⟨w.heap.size + 1 + 1, 0, none⟩) (by simp; omega)).trans ?_, (h.cell (p := ⟨w.heap.size + 1 + 1, 1, none⟩) (by simp; omega)).trans ?_, (h.cell (p := ⟨w.heap.size + 1 + 1, 2, none⟩) (by simp; omega)).trans ?_, (h.cell (p := ⟨w.heap.size + 1 + 1, 3, none⟩) (by simp; omega)).trans ?_, (h.cell (p := ⟨w.heap.size + 1 + 1, 4, none⟩) (by simp; omega)).trans ?_, (h.cell (p := ⟨w.heap.size + 1 + 1, 5, none⟩) (by simp; omega)).trans ?_, (h.cell (p := ⟨w.heap.size + 1 + 1, 6, none⟩) (by simp; omega)).trans ?_⟩ <;> (subst hW0; go_simp))
  have HW0 := Lib.hid hW0; have KW0 := Lib.hid kw0; clear hW0 kw0
  have heq := fun W => eq_ev 9996 ⟨yt, (y0, y1), (yv, yp, yq, yr)⟩ ⟨yt, (y0, y1), (yv, yp, yq, yr)⟩ W
  simp only [evD, decide_true] at heq
  cases hwd : wide4B r s
  rotate_left
  · have HV := Lib.hid hwd; clear hwd
    go_enter Try.func5, Try.ntmps5
    go_wp2_with (first | (go_at_call 14; rw [HW0.out]; refine (HWD.out _ (HR.out.below KW0.out) (HS.out.below KW0.out)).mono ?_; go_must (rintro e w1 ⟨rfl, hb1⟩; have K0 := hb1; have HB1 := Lib.hid hb1; clear hb1; obtain ⟨k0_0, k0_1, k0_2, k0_3, k0_4, k0_5, k0_6, k0_7, k0_8, k0_9, k0_10, k0_11, k0_12, k0_13, k0_14, k0_15, k0_16, k0_17, k0_18, k0_19, k0_20⟩ := RD0.out _ K0; rw [HV.out])) | (go_at_call 10; refine (sane04 _).mono ?_; go_must (rintro e w2 ⟨rfl, hb2⟩; have K' := (by first | exact below_at K0 (by have := K0.size; omega) hb2 | exact below_at K0 (by have := K0.size; omega) (by repeat (first | exact Below.refl _ _ | assumption | (refine Below.drew ?_) | (refine below_drewN ?_ _) | (refine Below.alloc ?_ (by first | (simp; done) | (simp; omega) | omega) _) | (refine Below.setCell ?_ (by first | (simp; done) | (simp; omega) | omega) _) | (refine Below.trans ?_ (Below.mono (by assumption) (by first | (simp; done) | (simp; omega) | omega))))) : Below W0.heap.size W0 w2); have HB2 := Lib.hid hb2; clear K0 hb2; (try clear k0_0); (try clear k0_1); (try clear k0_2); (try clear k0_3); (try clear k0_4); (try clear k0_5); (try clear k0_6); (try clear k0_7); (try clear k0_8); (try clear k0_9); (try clear k0_10); (try clear k0_11); (try clear k0_12); (try clear k0_13); (try clear k0_14); (try clear k0_15); (try clear k0_16); (try clear k0_17); (try clear k0_18); (try clear k0_19); (try clear k0_20); have K0 := K'; clear K'; obtain ⟨k0_0, k0_1, k0_2, k0_3, k0_4, k0_5, k0_6, k0_7, k0_8, k0_9, k0_10, k0_11, k0_12, k0_13, k0_14, k0_15, k0_16, k0_17, k0_18, k0_19, k0_20⟩ := RD0.out _ K0)))
    go_ret
    exact ⟨rfl, (KW0.out.trans (K0.mono (by omega)))⟩
  have HV := Lib.hid hwd; clear hwd
  go_enter Try.func5, Try.ntmps5
  go_upto_if 52 with (first | (go_at_call 14; rw [HW0.out]; refine (HWD.out _ (HR.out.below KW0.out) (HS.out.below KW0.out)).mono ?_; go_must (rintro e w1 ⟨rfl, hb1⟩; have K0 := hb1; have HB1 := Lib.hid hb1; clear hb1; obtain ⟨k0_0, k0_1, k0_2, k0_3, k0_4, k0_5, k0_6, k0_7, k0_8, k0_9, k0_10, k0_11, k0_12, k0_13, k0_14, k0_15, k0_16, k0_17, k0_18, k0_19, k0_20⟩ := RD0.out _ K0; rw [HV.out])) | (go_at_call 19; refine (H1.out _ (HR.out.below (KW0.out.trans (K0.mono (by omega)))) (HS.out.below (KW0.out.trans (K0.mono (by omega))))).mono ?_; go_must (rintro e w2 ⟨rfl, hb2⟩; have K' := (by first | exact below_at K0 (by have := K0.size; omega) hb2 | exact below_at K0 (by have := K0.size; omega) (by repeat (first | exact Below.refl _ _ | assumption | (refine Below.drew ?_) | (refine below_drewN ?_ _) | (refine Below.alloc ?_ (by first | (simp; done) | (simp; omega) | omega) _) | (refine Below.setCell ?_ (by first | (simp; done) | (simp; omega) | omega) _) | (refine Below.trans ?_ (Below.mono (by assumption) (by first | (simp; done) | (simp; omega) | omega))))) : Below W0.heap.size W0 w2); have HB2 := Lib.hid hb2; clear K0 hb2; (try clear k0_0); (try clear k0_1); (try clear k0_2); (try clear k0_3); (try clear k0_4); (try clear k0_5); (try clear k0_6); (try clear k0_7); (try clear k0_8); (try clear k0_9); (try clear k0_10); (try clear k0_11); (try clear k0_12); (try clear k0_13); (try clear k0_14); (try clear k0_15); (try clear k0_16); (try clear k0_17); (try clear k0_18); (try clear k0_19); (try clear k0_20); have K0 := K'; clear K'; obtain ⟨k0_0, k0_1, k0_2, k0_3, k0_4, k0_5, k0_6, k0_7, k0_8, k0_9, k0_10, k0_11, k0_12, k0_13, k0_14, k0_15, k0_16, k0_17, k0_18, k0_19, k0_20⟩ := RD0.out _ K0; have hs2 := K0.size; have hq2 : w.heap.size + 1 + 1 + 1 ≤ w2.heap.size := (by omega); (first | have z := z10 hq2 | have z := z9 hq2 | have z := z8 hq2 | have z := z7 hq2 | have z := z6 hq2 | have z := z5 hq2 | have z := z4 hq2 | have z := z3 hq2 | have z := z2 hq2 | have z := z1 hq2 | skip))) | (go_at_call 20; refine (H2.out _ (HR.out.below (KW0.out.trans (Below.mono (show Below W0.heap.size W0 _ from (by repeat (first | exact Below.refl _ _ | assumption | (refine Below.drew ?_) | (refine below_drewN ?_ _) | (refine Below.alloc ?_ (by first | (simp; done) | (simp; omega) | omega) _) | (refine Below.setCell ?_ (by first | (simp; done) | (simp; omega) | omega) _) | (refine Below.trans ?_ (Below.mono (by assumption) (by first | (simp; done) | (simp; omega) | omega)))))) (by omega)))) (HS.out.below (KW0.out.trans (Below.mono (show Below W0.heap.size W0 _ from (by repeat (first | exact Below.refl _ _ | assumption | (refine Below.drew ?_) | (refine below_drewN ?_ _) | (refine Below.alloc ?_ (by first | (simp; done) | (simp; omega) | omega) _) | (refine Below.setCell ?_ (by first | (simp; done) | (simp; omega) | omega) _) | (refine Below.trans ?_ (Below.mono (by assumption) (by first | (simp; done) | (simp; omega) | omega)))))) (by omega))))).mono ?_; go_must (rintro e w3 ⟨rfl, hb3⟩; have K' := (by first | exact below_at K0 (by have := K0.size; omega) hb3 | exact below_at K0 (by have := K0.size; omega) (by repeat (first | exact Below.refl _ _ | assumption | (refine Below.drew ?_) | (refine below_drewN ?_ _) | (refine Below.alloc ?_ (by first | (simp; done) | (simp; omega) | omega) _) | (refine Below.setCell ?_ (by first | (simp; done) | (simp; omega) | omega) _) | (refine Below.trans ?_ (Below.mono (by assumption) (by first | (simp; done) | (simp; omega) | omega))))) : Below W0.heap.size W0 w3); have HB3 := Lib.hid hb3; clear K0 hb3; (try clear k0_0); (try clear k0_1); (try clear k0_2); (try clear k0_3); (try clear k0_4); (try clear k0_5); (try clear k0_6); (try clear k0_7); (try clear k0_8); (try clear k0_9); (try clear k0_10); (try clear k0_11); (try clear k0_12); (try clear k0_13); (try clear k0_14); (try clear k0_15); (try clear k0_16); (try clear k0_17); (try clear k0_18); (try clear k0_19); (try clear k0_20); have K0 := K'; clear K'; obtain ⟨k0_0, k0_1, k0_2, k0_3, k0_4, k0_5, k0_6, k0_7, k0_8, k0_9, k0_10, k0_11, k0_12, k0_13, k0_14, k0_15, k0_16, k0_17, k0_18, k0_19, k0_20⟩ := RD0.out _ K0; obtain ⟨hc3, hf3⟩ := bcell HB3.out; have hz3 := HB3.out.size; (try simp at hz3); (first | have z := z10 hz3 | have z := z9 hz3 | have z := z8 hz3 | have z := z7 hz3 | have z := z6 hz3 | have z := z5 hz3 | have z := z4 hz3 | have z := z3 hz3 | have z := z2 hz3 | have z := z1 hz3 | skip); have hq3 : w.heap.size + 1 + 1 + 1 ≤ w3.heap.size := (by omega); (first | have z := z10 hq3 | have z := z9 hq3 | have z := z8 hq3 | have z := z7 hq3 | have z := z6 hq3 | have z := z5 hq3 | have z := z4 hq3 | have z := z3 hq3 | have z := z2 hq3 | have z := z1 hq3 | skip))))
  obtain ⟨W1, hW1⟩ : ∃ W : World, w3.alloc (Obj.cells #[.int .i64 yt, .int .i64 y0, .int .i64 y1, .int .i64 yv, .int .i64 yp, .int .i64 yq, .int .i64 yr] 54) = W := ⟨_, rfl⟩
  have kw1 : Below w3.heap.size w3 W1 := by rw [← hW1]; exact (by repeat (first | exact Below.refl _ _ | assumption | (refine Below.drew ?_) | (refine below_drewN ?_ _) | (refine Below.alloc ?_ (by first | (simp; done) | (simp; omega) | omega) _) | (refine Below.setCell ?_ (by first | (simp; done) | (simp; omega) | omega) _) | (refine Below.trans ?_ (Below.mono (by assumption) (by first | (simp; done) | (simp; omega) | omega)))))
  have ks1 : W1.heap.size = w3.heap.size + 1 := by rw [← hW1]; simp
  have RD1 := Lib.hid (show ∀ V, Below W1.heap.size W1 V → V.cell? ⟨w3.heap.size, 0, none⟩ = some (.int .i64 yt) ∧ V.cell? ⟨w3.heap.size, 1, none⟩ = some (.int .i64 y0) ∧ V.cell? ⟨w3.heap.size, 2, none⟩ = some (.int .i64 y1) ∧ V.cell? ⟨w3.heap.size, 3, none⟩ = some (.int .i64 yv) ∧ V.cell? ⟨w3.heap.size, 4, none⟩ = some (.int .i64 yp) ∧ V.cell? ⟨w3.heap.size, 5, none⟩ = some (.int .i64 yq) ∧ V.cell? ⟨w3.heap.size, 6, none⟩ = some (.int .i64 yr) from fun V h => by
      refine ⟨(h.cell (p := ⟨w3.heap.size, 0, none⟩) (by simp; omega)).trans ?_, (h.cell (p := ⟨w3.heap.size, 1, none⟩) (by simp; omega)).trans ?_, (h.cell (p := ⟨w3.heap.size, 2, none⟩) (by simp; omega)).trans ?_, (h.cell (p := ⟨w3.heap.size, 3, none⟩) (by simp; omega)).trans ?_, (h.cell (p := ⟨w3.heap.size, 4, none⟩) (by simp; omega)).trans ?_, (h.cell (p := ⟨w3.heap.size, 5, none⟩) (by simp; omega)).trans ?_, (h.cell (p := ⟨w3.heap.size, 6, none⟩) (by simp; omega)).trans ?_⟩ <;> (subst hW1; go_simp))
  have HW1 := Lib.hid hW1; have KW1 := Lib.hid kw1; clear hW1 kw1
  have hs3 := K0.size
  have K01 := below_at K0 hs3 KW1.out
  have FZ := Lib.hid (show ∀ o, W1.frozen? ⟨w.heap.size + 1 + 1, o, none⟩ = false from fun o => by
    rw [(bcellB K01).2 (w.heap.size + 1 + 1) o (by omega), ← HW0.out]
    go_simp)
  rw [HW1.out]
  have hsW1 : W0.heap.size + 1 ≤ W1.heap.size := by omega
  have hy3 : w3.heap.size < W1.heap.size := by omega
  have hy4 : w3.heap.size ≠ w.heap.size + 1 + 1 := by omega
  have PW := Lib.hid (RD0.out W1 K01)
  have PY := Lib.hid (RD1.out W1 (Below.refl _ _))
  have KWW := Lib.hid (KW0.out.trans (K01.mono (by omega)))
  clear HB1 HB2 HB3 hc3 hf3 hz3 K0; (try clear k0_0); (try clear k0_1); (try clear k0_2); (try clear k0_3); (try clear k0_4); (try clear k0_5); (try clear k0_6); (try clear k0_7); (try clear k0_8); (try clear k0_9); (try clear k0_10); (try clear k0_11); (try clear k0_12); (try clear k0_13); (try clear k0_14); (try clear k0_15); (try clear k0_16); (try clear k0_17); (try clear k0_18); (try clear k0_19); (try clear k0_20)
  have hsz0 := ks0
  go_wp2_with fail
  go_loopw [11] (fun t11 wr => ∃ (i : Nat) (z : EvD), i ≤ 2 ∧ t11 = .int .i64 (i : Nat) ∧ Hid (wr.cell? ⟨w.heap.size + 1 + 1, 0, none⟩ = some (.int .i64 z.t) ∧ wr.cell? ⟨w.heap.size + 1 + 1, 1, none⟩ = some (.int .i64 z.c.1) ∧ wr.cell? ⟨w.heap.size + 1 + 1, 2, none⟩ = some (.int .i64 z.c.2) ∧ wr.cell? ⟨w.heap.size + 1 + 1, 3, none⟩ = some (.int .i64 z.e.1) ∧ wr.cell? ⟨w.heap.size + 1 + 1, 4, none⟩ = some (.int .i64 z.e.2.1) ∧ wr.cell? ⟨w.heap.size + 1 + 1, 5, none⟩ = some (.int .i64 z.e.2.2.1) ∧ wr.cell? ⟨w.heap.size + 1 + 1, 6, none⟩ = some (.int .i64 z.e.2.2.2) ∧ wr.frozen? ⟨w.heap.size + 1 + 1, 0, none⟩ = false ∧ wr.frozen? ⟨w.heap.size + 1 + 1, 1, none⟩ = false ∧ wr.frozen? ⟨w.heap.size + 1 + 1, 2, none⟩ = false ∧ wr.frozen? ⟨w.heap.size + 1 + 1, 3, none⟩ = false ∧ wr.frozen? ⟨w.heap.size + 1 + 1, 4, none⟩ = false ∧ wr.frozen? ⟨w.heap.size + 1 + 1, 5, none⟩ = false ∧ wr.frozen? ⟨w.heap.size + 1 + 1, 6, none⟩ = false) ∧ Below w.heap.size w wr ∧ W1.heap.size ≤ wr.heap.size ∧ Hid (∀ b, b < W1.heap.size → b ≠ w.heap.size + 1 + 1 → wr.heap[b]? = W1.heap[b]?)) (fun t11 _ => 2 - (intOf t11).toNat)
  case atStart =>
    obtain ⟨q0, q1, q2, q3, q4, q5, q6, q7, q8, q9, r0, r1, r2, r3, p0, p1, p2, p3, p4, p5, p6⟩ := PW.out
    exact ⟨0, x, by omega, rfl, Lib.hid ⟨p0, p1, p2, p3, p4, p5, p6, FZ.out _, FZ.out _, FZ.out _, FZ.out _, FZ.out _, FZ.out _, FZ.out _⟩, KWW.out, Nat.le_refl _, Lib.hid (fun _ _ _ => rfl)⟩
  case round =>
    obtain ⟨i, z, hi, rfl, HZ, hb, hsz, HF⟩ := hrel
    by_cases hlt : i < 2
    rotate_left
    · go_wp2_with (go_at_call 10; refine (sane04 _).mono ?_; go_must (rintro e w9 ⟨rfl, hb9⟩))
      go_ret
      exact ⟨rfl, below_at hb (by omega) hb9⟩
    have H3z := Lib.hid (fun (W : World) (h : RecRd W r) (h2 : SchedRd W s) => (H3.out z.t z.c W h h2).mono (fun e w' q => (⟨(HAR.out _ _ _ _).1 q.1, q.2⟩ : (∃ v', e = .returned (.tuple #[v', .int .i64 (askS r s u)]) ∧ SlOf w' w'.heap.size 4 encEl v' (if askS r s u = 0 then atL r s u z.t z.c else [])) ∧ Below W.heap.size W w')))
    have H4z := Lib.hid (fun (W : World) (h : RecRd W r) (h2 : SchedRd W s) => (H4.out z.t z.c W h h2).mono (fun e w' q => (⟨(HAR.out _ _ _ _).1 q.1, q.2⟩ : (∃ v', e = .returned (.tuple #[v', .int .i64 (askS r s u)]) ∧ SlOf w' w'.heap.size 4 encEl v' (if askS r s u = 0 then atL r s u z.t z.c else [])) ∧ Below W.heap.size W w')))
    have HLz := Lib.hid (HL.out z.t z.c)
    generalize (if askS r s u = 0 then atL r s u z.t z.c else []) = LL at *
    generalize askS r s u = A at *
    obtain ⟨zt, ⟨z0, z1⟩, ⟨zv, zp, zq, zr⟩⟩ := z
    simp only at HZ H3z H4z
    have RW := Lib.hid (show ∀ V, Below wr.heap.size wr V → (V.cell? ⟨w.heap.size, 0, none⟩ = some (.int .i64 r.n) ∧ V.cell? ⟨w.heap.size, 1, none⟩ = some (.slice lla r.l.length llc) ∧ V.cell? ⟨w.heap.size, 2, none⟩ = some (.slice vva r.vars.length vvc) ∧ V.cell? ⟨w.heap.size, 3, none⟩ = some (.int .i64 s.f.1) ∧ V.cell? ⟨w.heap.size, 4, none⟩ = some (.int .i64 s.f.2.1) ∧ V.cell? ⟨w.heap.size, 5, none⟩ = some (.int .i64 s.f.2.2) ∧ V.cell? ⟨w.heap.size, 6, none⟩ = some (.slice ooa s.off.length ooc) ∧ V.cell? ⟨w.heap.size, 7, none⟩ = some (.int .i64 u.1) ∧ V.cell? ⟨w.heap.size, 8, none⟩ = some (.int .i64 u.2.1) ∧ V.cell? ⟨w.heap.size, 9, none⟩ = some (.int .i64 u.2.2)) ∧ (V.cell? ⟨w.heap.size + 1 + 1, 0, none⟩ = some (.int .i64 (⟨zt, (z0, z1), (zv, zp, zq, zr)⟩ : EvD).t) ∧ V.cell? ⟨w.heap.size + 1 + 1, 1, none⟩ = some (.int .i64 (⟨zt, (z0, z1), (zv, zp, zq, zr)⟩ : EvD).c.1) ∧ V.cell? ⟨w.heap.size + 1 + 1, 2, none⟩ = some (.int .i64 (⟨zt, (z0, z1), (zv, zp, zq, zr)⟩ : EvD).c.2) ∧ V.cell? ⟨w.heap.size + 1 + 1, 3, none⟩ = some (.int .i64 (⟨zt, (z0, z1), (zv, zp, zq, zr)⟩ : EvD).e.1) ∧ V.cell? ⟨w.heap.size + 1 + 1, 4, none⟩ = some (.int .i64 (⟨zt, (z0, z1), (zv, zp, zq, zr)⟩ : EvD).e.2.1) ∧ V.cell? ⟨w.heap.size + 1 + 1, 5, none⟩ = some (.int .i64 (⟨zt, (z0, z1), (zv, zp, zq, zr)⟩ : EvD).e.2.2.1) ∧ V.cell? ⟨w.heap.size + 1 + 1, 6, none⟩ = some (.int .i64 (⟨zt, (z0, z1), (zv, zp, zq, zr)⟩ : EvD).e.2.2.2) ∧ V.frozen? ⟨w.heap.size + 1 + 1, 0, none⟩ = false ∧ V.frozen? ⟨w.heap.size + 1 + 1, 1, none⟩ = false ∧ V.frozen? ⟨w.heap.size + 1 + 1, 2, none⟩ = false ∧ V.frozen? ⟨w.heap.size + 1 + 1, 3, none⟩ = false ∧ V.frozen? ⟨w.heap.size + 1 + 1, 4, none⟩ = false ∧ V.frozen? ⟨w.heap.size + 1 + 1, 5, none⟩ = false ∧ V.frozen? ⟨w.heap.size + 1 + 1, 6, none⟩ = false) ∧ V.cell? ⟨w3.heap.size, 0, none⟩ = some (.int .i64 yt) ∧ V.cell? ⟨w3.heap.size, 1, none⟩ = some (.int .i64 y0) ∧ V.cell? ⟨w3.heap.size, 2, none⟩ = some (.int .i64 y1) ∧ V.cell? ⟨w3.heap.size, 3, none⟩ = some (.int .i64 yv) ∧ V.cell? ⟨w3.heap.size, 4, none⟩ = some (.int .i64 yp) ∧ V.cell? ⟨w3.heap.size, 5, none⟩ = some (.int .i64 yq) ∧ V.cell? ⟨w3.heap.size, 6, none⟩ = some (.int .i64 yr) from fun V hV => by
      obtain ⟨q0, q1, q2, q3, q4, q5, q6, q7, q8, q9, _⟩ := PW.out
      obtain ⟨y0', y1', y2', y3', y4', y5', y6'⟩ := PY.out
      obtain ⟨m0, m1, m2, m3, m4, m5, m6, m7, m8, m9, m10, m11, m12, m13⟩ := HZ.out
      have ep : V.heap[w.heap.size]? = W1.heap[w.heap.size]? := (hV.block _ (by omega)).trans (HF.out _ (by omega) (by omega))
      have ey : V.heap[w3.heap.size]? = W1.heap[w3.heap.size]? := (hV.block _ (by omega)).trans (HF.out _ hy3 hy4)
      have cp := fun o => World.cell?_of_block (a := ⟨w.heap.size, o, none⟩) ep
      have cy := fun o => World.cell?_of_block (a := ⟨w3.heap.size, o, none⟩) ey
      have ca := fun o => (bcellB hV).1 (w.heap.size + 1 + 1) o (by omega)
      have cf := fun o => (bcellB hV).2 (w.heap.size + 1 + 1) o (by omega)
      exact ⟨⟨(cp _).trans q0, (cp _).trans q1, (cp _).trans q2, (cp _).trans q3, (cp _).trans q4, (cp _).trans q5, (cp _).trans q6, (cp _).trans q7, (cp _).trans q8, (cp _).trans q9⟩, ⟨(ca _).trans m0, (ca _).trans m1, (ca _).trans m2, (ca _).trans m3, (ca _).trans m4, (ca _).trans m5, (ca _).trans m6, (cf _).trans m7, (cf _).trans m8, (cf _).trans m9, (cf _).trans m10, (cf _).trans m11, (cf _).trans m12, (cf _).trans m13⟩, (cy _).trans y0', (cy _).trans y1', (cy _).trans y2', (cy _).trans y3', (cy _).trans y4', (cy _).trans y5', (cy _).trans y6'⟩)
    have hbr := hb
    obtain ⟨⟨q0, q1, q2, q3, q4, q5, q6, q7, q8, q9⟩, ⟨m0, m1, m2, m3, m4, m5, m6, m7, m8, m9, m10, m11, m12, m13⟩, n0, n1, n2, n3, n4, n5, n6⟩ := RW.out wr (Below.refl _ _)
    simp only at m0 m1 m2 m3 m4 m5 m6 m7 m8 m9 m10 m11 m12 m13
    have hs0 : w.heap.size ≤ wr.heap.size := hb.size
    have hlti : (i : Int) < 2 := by omega
    go_wp2_with (first | (go_at_call 21; refine (H3z.out _ (HR.out.below hb) (HS.out.below hb)).mono ?_; go_must (rintro e w4 ⟨⟨v4, rfl, hs4⟩, hb4⟩; have HS4 := Lib.hid hs4; have HB4 := Lib.hid hb4; obtain ⟨pa, pc, hpe, -⟩ := hs4.shape; subst hpe; clear hs4 hb4 q0 q1 q2 q3 q4 q5 q6 q7 q8 q9 m0 m1 m2 m3 m4 m5 m6 m7 m8 m9 m10 m11 m12 m13 n0 n1 n2 n3 n4 n5 n6; obtain ⟨⟨q0, q1, q2, q3, q4, q5, q6, q7, q8, q9⟩, ⟨m0, m1, m2, m3, m4, m5, m6, m7, m8, m9, m10, m11, m12, m13⟩, n0, n1, n2, n3, n4, n5, n6⟩ := RW.out w4 HB4.out; simp only at m0 m1 m2 m3 m4 m5 m6 m7 m8 m9 m10 m11 m12 m13)) | (go_at_call 22; refine (H4z.out _ (HR.out.below (below_at hb hs0 HB4.out)) (HS.out.below (below_at hb hs0 HB4.out))).mono ?_; go_must (rintro e w5 ⟨⟨v5, rfl, hs5⟩, hb5⟩; have HS5 := Lib.hid hs5; have HB5 := Lib.hid (below_at HB4.out HB4.out.size hb5); have HS45 := Lib.hid (HS4.out.below hb5); obtain ⟨pb, pd, hpe, -⟩ := hs5.shape; subst hpe; clear hs5 hb5 q0 q1 q2 q3 q4 q5 q6 q7 q8 q9 m0 m1 m2 m3 m4 m5 m6 m7 m8 m9 m10 m11 m12 m13 n0 n1 n2 n3 n4 n5 n6)))
    obtain ⟨a', c', ga, oa, hqe, hlca, hcma, hxa⟩ := SlOf.at (enc := encEl) (fun _ => rfl) un_els sz_els HS45.out
    have hqa : a' = pa := by cases hqe; rfl
    have hqc : c' = pc := by cases hqe; rfl
    subst hqa hqc
    clear hqe
    obtain ⟨b', d', gb, ob, hqe, hlcb, hcmb, hxb⟩ := SlOf.at (enc := encEl) (fun _ => rfl) un_els sz_els HS5.out
    have hqa : b' = pb := by cases hqe; rfl
    have hqc : d' = pd := by cases hqe; rfl
    subst hqa hqc
    clear hqe
    unfold maxLen at hcma hcmb
    have HXA := Lib.hid hxa; have HXB := Lib.hid hxb; clear hxa hxb
    have hs5 := HB5.out.size
    have HLT := Lib.hid hlt
    clear HS4 HS5 HS45 HB4 H3z H4z HZ hlti
    obtain ⟨wq, hwq⟩ : ∃ v : World, v = wr := ⟨_, rfl⟩
    subst hwq
    go_loopw [16] (fun t16 wr => ∃ k : Nat, k ≤ LL.length ∧ t16 = .int .i64 (k : Nat) ∧ Below w5.heap.size w5 wr) (fun t16 _ => LL.length - (intOf t16).toNat)
    case atStart => exact ⟨0, Nat.zero_le _, rfl, Below.refl _ _⟩
    case round =>
      obtain ⟨k, hk, rfl, hb5⟩ := hrel
      by_cases hlt2 : k < LL.length
      rotate_left
      · have K8 := below_at HB5.out hs5 hb5
        obtain ⟨⟨q0, q1, q2, q3, q4, q5, q6, q7, q8, q9⟩, ⟨m0, m1, m2, m3, m4, m5, m6, m7, m8, m9, m10, m11, m12, m13⟩, n0, n1, n2, n3, n4, n5, n6⟩ := RW.out wr K8
        (try simp only at m0 m1 m2 m3 m4 m5 m6 m7 m8 m9 m10 m11 m12 m13)
        have KX := below_at hbr hs0 K8
        have hsz8 := K8.size
        have HF8 := Lib.hid (show ∀ b, b < W1.heap.size → b ≠ w.heap.size + 1 + 1 → wr.heap[b]? = W1.heap[b]? from fun b hb1 hb2 => (K8.block b (by omega)).trans (HF.out b hb1 hb2))
        clear K8 hb5 hb hbr RW HXA HXB HF
        go_wp2
        go_roundw
        case rel =>
          refine ⟨i + 1, ⟨yt, (y0, y1), (yv, yp, yq, yr)⟩, by have := HLT.out; omega, by simp, Lib.hid ⟨by go_simp, by go_simp, by go_simp, by go_simp, by go_simp, by go_simp, by go_simp, by go_simp, by go_simp, by go_simp, by go_simp, by go_simp, by go_simp, by go_simp⟩, (by (repeat (first | (with_reducible refine Below.setCell ?_ (by first | (simp; done) | (simp; omega) | omega) _) | (with_reducible refine Below.drew ?_) | (with_reducible refine below_drewN ?_ _))); with_reducible exact KX), by simp; omega, Lib.hid (fun b hb1 hb2 => ?_)⟩
          have hne : ∀ o, b ≠ (⟨w.heap.size + 1 + 1, o, none⟩ : Addr).block := fun o => hb2
          exact (Below.heap_setCell _ _ _ _ (hne _)).trans ((Below.heap_setCell _ _ _ _ (hne _)).trans ((Below.heap_setCell _ _ _ _ (hne _)).trans ((Below.heap_setCell _ _ _ _ (hne _)).trans ((Below.heap_setCell _ _ _ _ (hne _)).trans ((Below.heap_setCell _ _ _ _ (hne _)).trans ((Below.heap_setCell _ _ _ _ (hne _)).trans (HF8.out b hb1 hb2)))))))
        case measure => simp only [intOf]; have := HLT.out; omega
      have HKLT := Lib.hid hlt2
      obtain ⟨-, hia, hga, hca⟩ := HXA.out k hlt2
      obtain ⟨-, hib, hgb, hcb⟩ := HXB.out k hlt2
      have ra := fun j hj => (hb5.cell (p := ⟨ga, oa + 4 * k + j, none⟩) hga).trans (hca j hj)
      have rb := fun j hj => (hb5.cell (p := ⟨gb, ob + 4 * k + j, none⟩) hgb).trans (hcb j hj)
      clear hca hcb
      generalize LL[k] = el at *
      obtain ⟨l0, l1, l2, l3⟩ := el
      have a0 : wr.cell? ⟨ga, oa + 4 * k, none⟩ = some (.int .i64 l0) := ra 0 (by omega)
      have a1 : wr.cell? ⟨ga, oa + 4 * k + 1, none⟩ = some (.int .i64 l1) := ra 1 (by omega)
      have a2 : wr.cell? ⟨ga, oa + 4 * k + 2, none⟩ = some (.int .i64 l2) := ra 2 (by omega)
      have a3 : wr.cell? ⟨ga, oa + 4 * k + 3, none⟩ = some (.int .i64 l3) := ra 3 (by omega)
      have b0 : wr.cell? ⟨gb, ob + 4 * k, none⟩ = some (.int .i64 l0) := rb 0 (by omega)
      have b1 : wr.cell? ⟨gb, ob + 4 * k + 1, none⟩ = some (.int .i64 l1) := rb 1 (by omega)
      have b2 : wr.cell? ⟨gb, ob + 4 * k + 2, none⟩ = some (.int .i64 l2) := rb 2 (by omega)
      have b3 : wr.cell? ⟨gb, ob + 4 * k + 3, none⟩ = some (.int .i64 l3) := rb 3 (by omega)
      have heq2 := fun W => eq_el 9997 (l0, l1, l2, l3) (l0, l1, l2, l3) W
      simp only [elD, decide_true] at heq2
      have HKL := Lib.hid (show k < 4000 by have := HLz.out; omega)
      clear ra rb RW HXA HXB hb hbr
      go_wp2
      go_region
      all_goals
        go_wp2
        go_roundw
        case rel => exact ⟨k + 1, HKLT.out, by simp, by have KK := hb5; exact (by repeat (first | (with_reducible exact Below.refl _ _) | (with_reducible assumption) | (with_reducible refine Below.drew ?_) | (with_reducible refine Below.setCell ?_ (by first | (simp; done) | (simp; omega) | omega) _) | (with_reducible refine Below.alloc ?_ (by first | (simp; done) | (simp; omega) | omega) _) | (with_reducible refine below_drewN ?_ _) | (refine Below.trans ?_ (Below.mono (by with_reducible assumption) (by first | (simp; done) | (simp; omega) | omega)))))⟩
        case measure => simp only [intOf]; have := HKLT.out; omega
end Go.Proofs.Ytndfdgdahinkpaa
