/- The walk of the law SpaceLines: it returns true. -/
import Derived.Test.YtndfdgdahinkpaaRecU
import Derived.Test.YtndfdgdahinkpaaSpaceK
namespace Go.Proofs.Ytndfdgdahinkpaa
open Go.RowKit
set_option maxHeartbeats 4000000 in
set_option maxRecDepth 100000 in
theorem SpaceLines_any (r : RecD) (u : P3) (c : Int × Int) (w : World) (hr : RecRd w r) :
    Calls Try.prog 3 #[.agg #[.int .i64 r.n, r.lv, r.vv], .agg #[.int .i64 u.1, .int .i64 u.2.1, .int .i64 u.2.2], .agg #[.int .i64 c.1, .int .i64 c.2]] w fun e w' => e = .returned (.bool true) ∧ Below w.heap.size w w' := by
  have HR := Lib.hid hr
  clear hr
  obtain ⟨W0, hW0⟩ : ∃ W : World, ((w.alloc (Obj.cells #[.int .i64 r.n, r.lv, r.vv] 27)).alloc (Obj.cells #[.int .i64 u.1, .int .i64 u.2.1, .int .i64 u.2.2] 29)).alloc (Obj.cells #[.int .i64 c.1, .int .i64 c.2] 31) = W := ⟨_, rfl⟩
  have kw : Below w.heap.size w W0 := by rw [← hW0]; exact (by repeat (first | exact Below.refl _ _ | assumption | (refine Below.drew ?_) | (refine below_drewN ?_ _) | (refine Below.alloc ?_ (by first | (simp; done) | (simp; omega) | omega) _) | (refine Below.setCell ?_ (by first | (simp; done) | (simp; omega) | omega) _) | (refine Below.trans ?_ (Below.mono (by assumption) (by first | (simp; done) | (simp; omega) | omega)))))
  have ks : W0.heap.size = w.heap.size + 3 := by rw [← hW0]; simp
  have RD := Lib.hid (show ∀ V, Below W0.heap.size W0 V → V.cell? ⟨w.heap.size, 0, none⟩ = some (.int .i64 r.n) ∧ V.cell? ⟨w.heap.size, 1, none⟩ = some r.lv ∧ V.cell? ⟨w.heap.size, 2, none⟩ = some r.vv ∧ V.cell? ⟨w.heap.size + 1, 0, none⟩ = some (.int .i64 u.1) ∧ V.cell? ⟨w.heap.size + 1, 1, none⟩ = some (.int .i64 u.2.1) ∧ V.cell? ⟨w.heap.size + 1, 2, none⟩ = some (.int .i64 u.2.2) ∧ V.cell? ⟨w.heap.size + 1 + 1, 0, none⟩ = some (.int .i64 c.1) ∧ V.cell? ⟨w.heap.size + 1 + 1, 1, none⟩ = some (.int .i64 c.2) from
    fun V h => by
      refine ⟨(h.cell (p := ⟨w.heap.size, 0, none⟩) (by simp; omega)).trans ?_, (h.cell (p := ⟨w.heap.size, 1, none⟩) (by simp; omega)).trans ?_, (h.cell (p := ⟨w.heap.size, 2, none⟩) (by simp; omega)).trans ?_, (h.cell (p := ⟨w.heap.size + 1, 0, none⟩) (by simp; omega)).trans ?_, (h.cell (p := ⟨w.heap.size + 1, 1, none⟩) (by simp; omega)).trans ?_, (h.cell (p := ⟨w.heap.size + 1, 2, none⟩) (by simp; omega)).trans ?_, (h.cell (p := ⟨w.heap.size + 1 + 1, 0, none⟩) (by simp; omega)).trans ?_, (h.cell (p := ⟨w.heap.size + 1 + 1, 1, none⟩) (by simp; omega)).trans ?_⟩ <;> (subst hW0; go_simp))
  have HW := Lib.hid hW0; have KW := Lib.hid kw; clear hW0 kw
  have HWD := Lib.hid (fun (W : World) (h : RecRd W r) => Wide_l r 120 (by omega) W h)
  cases hwd : wideB r.n r.l r.vars 120
  rotate_left
  · have HV := Lib.hid hwd; clear hwd
    go_enter Try.func3, Try.ntmps3
    go_wp2_with (first | (go_at_call 9; rw [HW.out]; refine (HWD.out _ (HR.out.below KW.out)).mono ?_; go_must (rintro e w1 ⟨rfl, hb1⟩; rw [HV.out])) | (go_at_call 10; refine (sane04 _).mono ?_; go_must (rintro e w9 ⟨rfl, hb9⟩)))
    go_ret
    exact ⟨rfl, below_at KW.out (by omega) (below_at hb1 (by have := hb1.size; omega) hb9)⟩
  have HV := Lib.hid hwd; clear hwd
  have HL1 := Lib.hid (fun (W : World) (h : RecRd W r) => Line_l r u c W h)
  have HL2 := Lib.hid (fun (W : World) (h : RecRd W r) => rLine_l r u c W h)
  have HLR := Lib.hid (fun e w' => show LineR r u c e w' ↔ ∃ v', e = .returned (.tuple #[v', .int .i64 (askE r u)]) ∧ SlOf w' w'.heap.size 3 encP v' (if askE r u = 0 then lineL r u c else []) from Iff.rfl)
  have heb : (askE r u == askE r u) = true := by simp
  generalize (if askE r u = 0 then lineL r u c else []) = X at *
  generalize askE r u = A at *
  clear heb
  have HSM := Lib.hid (fun (W : World) (v1 v2 : Value) (h1 : SlOf W W.heap.size 3 encP v1 X) (h2 : SlOf W W.heap.size 3 encP v2 X) => by have := samePoints_l X X W v1 v2 h1 h2; rwa [decide_eq_true rfl] at this)
  go_enter Try.func3, Try.ntmps3
  go_wp2_with (first | (go_at_call 9; rw [HW.out]; refine (HWD.out _ (HR.out.below KW.out)).mono ?_; go_must (rintro e w1 ⟨rfl, hb1⟩; rw [HV.out]; have K := hb1; clear hb1; obtain ⟨k0, k1, k2, k3, k4, k5, k6, k7⟩ := RD.out _ K)) | (go_at_call 11; refine (HL1.out _ (HR.out.below (KW.out.trans (K.mono (by omega))))).mono ?_; go_must (rintro e w2 ⟨hl, hb2⟩; obtain ⟨v1, rfl, hs1⟩ := (HLR.out _ _).1 hl; clear hl; have HS1 := Lib.hid hs1; clear hs1; have K' := below_at K (by have := K.size; omega) hb2; clear K k0 k1 k2 k3 k4 k5 k6 k7 hb2; have K := K'; clear K'; obtain ⟨k0, k1, k2, k3, k4, k5, k6, k7⟩ := RD.out _ K)) | (go_at_call 12; refine (HL2.out _ (HR.out.below (KW.out.trans (K.mono (by omega))))).mono ?_; go_must (rintro e w3 ⟨hl, hb3⟩; obtain ⟨v2, rfl, hs2⟩ := (HLR.out _ _).1 hl; clear hl; have HS2 := Lib.hid hs2; clear hs2; have HS3 := Lib.hid (HS1.out.below hb3); have K' := below_at K (by have := K.size; omega) hb3; clear K k0 k1 k2 k3 k4 k5 k6 k7 hb3; have K := K'; clear K')) | (go_at_call 13; refine (HSM.out _ _ _ HS3.out HS2.out).mono ?_; go_must (rintro e w4 ⟨rfl, hb4⟩)) | (go_at_call 10; refine (sane04 _).mono ?_; go_must (rintro e w9 ⟨rfl, hb9⟩)))
  go_ret
  exact ⟨rfl, below_at KW.out (by omega) (below_at K (by have := K.size; omega) (below_at hb4 (by have := hb4.size; omega) hb9))⟩
end Go.Proofs.Ytndfdgdahinkpaa
