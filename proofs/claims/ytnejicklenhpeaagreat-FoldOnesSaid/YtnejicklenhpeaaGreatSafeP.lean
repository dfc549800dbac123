/- The law's Wide of layer 4, and the reference's AskedSched: their walks. Package space: draw: its walk. Package space: dot: its walk. Which keys of a list come twice: plain. Points and spots as keys of maps; a map from keys to the indexes at which they come. Package space: the plan's clash: its walk. Conditions: none. -/
import Derived.Test.YtnejicklenhpeaaGreatSchedG
import Derived.Test.YtnejicklenhpeaaGreatIdxA
import Derived.Test.YtnejicklenhpeaaGreatRecAB
import Derived.Test.YtnejicklenhpeaaGreatKitA
import Derived.DeepKeys4
import Derived.Deep.CutRange
namespace Go.Proofs.YtnejicklenhpeaaGreat
open Go.RowKit
def wide4B (r : RecD) (s : SchedD) : Bool := wideB r.n r.l r.vars 120 || decide (10 < s.off.length)
set_option maxHeartbeats 4000000 in
set_option maxRecDepth 100000 in
theorem Wide4_l (r : RecD) (s : SchedD) (w : World) (hr : RecRd w r) (hs : SchedRd w s) :
    Calls Tryz.prog 57 #[.agg #[.int .i64 r.n, r.lv, r.vv], .agg #[.int .i64 s.f.1, .int .i64 s.f.2.1, .int .i64 s.f.2.2, s.ov]] w fun e w' => e = .returned (.bool (wide4B r s)) ∧ Below w.heap.size w w' := by
  have HR := Lib.hid hr
  obtain ⟨oa, oc, ho, hol⟩ := hs.shape
  clear hr hs
  obtain ⟨f, ov, off⟩ := s
  simp only at ho hol ⊢
  subst ho
  have HWD := Lib.hid (fun (W : World) (h : RecRd W r) => Wide_l r 120 (by omega) W h)
  have EV := Lib.hid (show wide4B r ⟨f, .slice oa off.length oc, off⟩ = (wideB r.n r.l r.vars 120 || decide (10 < off.length)) from rfl)
  generalize wide4B r ⟨f, .slice oa off.length oc, off⟩ = R at *
  obtain ⟨W0, hW0⟩ : ∃ W : World, (w.alloc (Obj.cells #[.int .i64 r.n, r.lv, r.vv] 27)).alloc (Obj.cells #[.int .i64 f.1, .int .i64 f.2.1, .int .i64 f.2.2, .slice oa off.length oc] 47) = W := ⟨_, rfl⟩
  have kw : Below w.heap.size w W0 := by rw [← hW0]; exact (by repeat (first | exact Below.refl _ _ | assumption | (refine Below.drew ?_) | (refine below_drewN ?_ _) | (refine Below.alloc ?_ (by first | (simp; done) | (simp; omega) | omega) _) | (refine Below.setCell ?_ (by first | (simp; done) | (simp; omega) | omega) _) | (refine Below.trans ?_ (Below.mono (by assumption) (by first | (simp; done) | (simp; omega) | omega)))))
  have ks : W0.heap.size = w.heap.size + 2 := by rw [← hW0]; simp
  have y0 : W0.cell? ⟨w.heap.size + 1, 3, none⟩ = some (.slice oa off.length oc) := by subst hW0; go_simp
  have HW := Lib.hid hW0; have KW := Lib.hid kw; clear hW0 kw
  cases hw : wideB r.n r.l r.vars 120 <;> by_cases hl : 10 < off.length
  all_goals
    have HV := Lib.hid hw
    have HRR := Lib.hid EV.out
    rw [hw] at HRR
    clear hw EV
    go_enter Tryz.func57, Tryz.ntmps57
    go_wp2_with (go_at_call 11; rw [HW.out]; refine (HWD.out _ (HR.out.below KW.out)).mono ?_; go_must (rintro e w1 ⟨rfl, hb1⟩; rw [HV.out]; have k0 := (hb1.cell (p := ⟨w.heap.size + 1, 3, none⟩) (by simp; omega)).trans y0))
    go_ret
    exact ⟨ret_bool (by rw [HRR.out]; simp [hl] <;> omega), below_at KW.out (by omega) hb1⟩
/-- The error of a recurrence, a schedule and a direction. -/
def askS (r : RecD) (s : SchedD) (u : P3) : Int := if validR r.n r.l r.vars = true then (if schedB r s = true then askE r u else 30) else 20
set_option maxHeartbeats 4000000 in
set_option maxRecDepth 100000 in
theorem AskedSched_l (r : RecD) (s : SchedD) (u : P3) (w : World) (hr : RecRd w r) (hs : SchedRd w s) :
    Calls Tryz.prog 61 #[.agg #[.int .i64 r.n, r.lv, r.vv], .agg #[.int .i64 s.f.1, .int .i64 s.f.2.1, .int .i64 s.f.2.2, s.ov], .agg #[.int .i64 u.1, .int .i64 u.2.1, .int .i64 u.2.2]] w fun e w' => e = .returned (.int .i64 (askS r s u)) ∧ Below w.heap.size w w' := by
  have HR := Lib.hid hr
  have HS := Lib.hid hs
  clear hr hs
  have HV := Lib.hid (fun (W : World) (h : RecRd W r) => Valid2_l r W h)
  have HV3 := Lib.hid (fun (W : World) (h : RecRd W r) (h2 : SchedRd W s) => rsValid_l r s W h h2)
  have HAK := Lib.hid (fun (W : World) (h : RecRd W r) => Asked_l r u W h)
  obtain ⟨W0, hW0⟩ : ∃ W : World, ((w.alloc (Obj.cells #[.int .i64 r.n, r.lv, r.vv] 27)).alloc (Obj.cells #[.int .i64 s.f.1, .int .i64 s.f.2.1, .int .i64 s.f.2.2, s.ov] 47)).alloc (Obj.cells #[.int .i64 u.1, .int .i64 u.2.1, .int .i64 u.2.2] 29) = W := ⟨_, rfl⟩
  have kw : Below w.heap.size w W0 := by rw [← hW0]; exact (by repeat (first | exact Below.refl _ _ | assumption | (refine Below.drew ?_) | (refine below_drewN ?_ _) | (refine Below.alloc ?_ (by first | (simp; done) | (simp; omega) | omega) _) | (refine Below.setCell ?_ (by first | (simp; done) | (simp; omega) | omega) _) | (refine Below.trans ?_ (Below.mono (by assumption) (by first | (simp; done) | (simp; omega) | omega)))))
  have ks : W0.heap.size = w.heap.size + 3 := by rw [← hW0]; simp
  have RD := Lib.hid (show ∀ V, Below W0.heap.size W0 V → (V.cell? ⟨w.heap.size, 0, none⟩ = some (.int .i64 r.n) ∧ V.cell? ⟨w.heap.size, 1, none⟩ = some r.lv ∧ V.cell? ⟨w.heap.size, 2, none⟩ = some r.vv) ∧ (V.cell? ⟨w.heap.size + 1, 0, none⟩ = some (.int .i64 s.f.1) ∧ V.cell? ⟨w.heap.size + 1, 1, none⟩ = some (.int .i64 s.f.2.1) ∧ V.cell? ⟨w.heap.size + 1, 2, none⟩ = some (.int .i64 s.f.2.2) ∧ V.cell? ⟨w.heap.size + 1, 3, none⟩ = some s.ov) ∧ V.cell? ⟨w.heap.size + 1 + 1, 0, none⟩ = some (.int .i64 u.1) ∧ V.cell? ⟨w.heap.size + 1 + 1, 1, none⟩ = some (.int .i64 u.2.1) ∧ V.cell? ⟨w.heap.size + 1 + 1, 2, none⟩ = some (.int .i64 u.2.2) from
    fun V h => by
      refine ⟨⟨(h.cell (p := ⟨w.heap.size, 0, none⟩) (by simp; omega)).trans ?_, (h.cell (p := ⟨w.heap.size, 1, none⟩) (by simp; omega)).trans ?_, (h.cell (p := ⟨w.heap.size, 2, none⟩) (by simp; omega)).trans ?_⟩, ⟨(h.cell (p := ⟨w.heap.size + 1, 0, none⟩) (by simp; omega)).trans ?_, (h.cell (p := ⟨w.heap.size + 1, 1, none⟩) (by simp; omega)).trans ?_, (h.cell (p := ⟨w.heap.size + 1, 2, none⟩) (by simp; omega)).trans ?_, (h.cell (p := ⟨w.heap.size + 1, 3, none⟩) (by simp; omega)).trans ?_⟩, (h.cell (p := ⟨w.heap.size + 1 + 1, 0, none⟩) (by simp; omega)).trans ?_, (h.cell (p := ⟨w.heap.size + 1 + 1, 1, none⟩) (by simp; omega)).trans ?_, (h.cell (p := ⟨w.heap.size + 1 + 1, 2, none⟩) (by simp; omega)).trans ?_⟩ <;> (subst hW0; go_simp))
  have HW := Lib.hid hW0; have KW := Lib.hid kw; clear hW0 kw
  have EV := Lib.hid (show askS r s u = if validR r.n r.l r.vars = true then (if schedB r s = true then askE r u else 30) else 20 from rfl)
  generalize askS r s u = R at *
  cases hv : validR r.n r.l r.vars <;> cases hs2 : schedB r s
  all_goals
    have HVV := Lib.hid hv
    have HSS := Lib.hid hs2
    have HRR := Lib.hid EV.out
    rw [hv, hs2] at HRR
    clear hv hs2 EV
    go_enter Tryz.func61, Tryz.ntmps61
    go_wp2_with (first | (go_at_call 117; rw [HW.out]; refine (HV.out _ (HR.out.below KW.out)).mono ?_; go_must (rintro e w1 ⟨rfl, hb1⟩; rw [HVV.out]; have K := hb1; obtain ⟨⟨k0, k1, k2⟩, ⟨k3, k4, k5, k6⟩, k7, k8, k9⟩ := RD.out _ K)) | (go_at_call 118; refine (HV3.out _ (HR.out.below (KW.out.trans (K.mono (by omega)))) (HS.out.below (KW.out.trans (K.mono (by omega))))).mono ?_; go_must (rintro e w2 ⟨rfl, hb2⟩; rw [HSS.out]; have K' := below_at K (by have := K.size; omega) hb2; clear K k0 k1 k2 k3 k4 k5 k6 k7 k8 k9; have K := K'; clear K'; obtain ⟨⟨k0, k1, k2⟩, ⟨k3, k4, k5, k6⟩, k7, k8, k9⟩ := RD.out _ K)) | (go_at_call 100; refine (HAK.out _ (HR.out.below (KW.out.trans (K.mono (by omega))))).mono ?_; go_must (rintro e w3 ⟨rfl, hb3⟩; have K' := below_at K (by have := K.size; omega) hb3; clear K; have K := K'; clear K')))
    go_ret
    exact ⟨ret_int (by rw [HRR.out]; simp), KW.out.trans (K.mono (by omega))⟩
end Go.Proofs.YtnejicklenhpeaaGreat
namespace Go.Proofs.YtnejicklenhpeaaGreat
open Go.RowKit
/-- In block b lies the plan: the view in block bv, and the schedule. -/
structure PlanAt (w : World) (b bv : Nat) (r : RecD) (s : SchedD) (u : P3) (pv : Value) : Prop where
  lt : b < w.heap.size
  c0 : w.cell? ⟨b, 0, none⟩ = some (.pointer (some ⟨bv, 0, none⟩))
  c1 : w.cell? ⟨b, 1, none⟩ = some (.int .i64 s.f.1)
  c2 : w.cell? ⟨b, 2, none⟩ = some (.int .i64 s.f.2.1)
  c3 : w.cell? ⟨b, 3, none⟩ = some (.int .i64 s.f.2.2)
  c4 : w.cell? ⟨b, 4, none⟩ = some s.ov
  view : ViewAt w bv r u pv
theorem PlanAt.below {w w' : World} {b bv : Nat} {r : RecD} {s : SchedD} {u : P3} {pv : Value} (h : PlanAt w b bv r s u pv) (hb : Below w.heap.size w w') : PlanAt w' b bv r s u pv :=
  ⟨Nat.lt_of_lt_of_le h.lt hb.size, (hb.cell (p := ⟨b, 0, none⟩) h.lt).trans h.c0, (hb.cell (p := ⟨b, 1, none⟩) h.lt).trans h.c1, (hb.cell (p := ⟨b, 2, none⟩) h.lt).trans h.c2, (hb.cell (p := ⟨b, 3, none⟩) h.lt).trans h.c3, (hb.cell (p := ⟨b, 4, none⟩) h.lt).trans h.c4, h.view.below hb⟩
def DrawR (r : RecD) (s : SchedD) (u : P3) (e : Ending) (w' : World) : Prop := if askS r s u = 0 then ∃ b bv pv, e = .returned (.tuple #[.pointer (some ⟨b, 0, none⟩), .int .i64 0]) ∧ PlanAt w' b bv r s u pv else ∃ p, e = .returned (.tuple #[p, .int .i64 (askS r s u)])
theorem drawR_err {r : RecD} {s : SchedD} {u : P3} {k : Int} (h : askS r s u = k) (hk : k ≠ 0) (p : Value) (w' : World) : DrawR r s u (.returned (.tuple #[p, .int .i64 k])) w' := by
  unfold DrawR
  rw [h, if_neg hk]
  exact ⟨p, rfl⟩
set_option maxHeartbeats 4000000 in
set_option maxRecDepth 100000 in
theorem draw_l (r : RecD) (s : SchedD) (u : P3) (w : World) (hr : RecRd w r) (hs : SchedRd w s) :
    Calls Tryz.prog 68 #[.agg #[.int .i64 r.n, r.lv, r.vv], .agg #[.int .i64 s.f.1, .int .i64 s.f.2.1, .int .i64 s.f.2.2, s.ov], .agg #[.int .i64 u.1, .int .i64 u.2.1, .int .i64 u.2.2]] w fun e w' => DrawR r s u e w' ∧ Below w.heap.size w w' := by
  have HR := Lib.hid hr
  have HS := Lib.hid hs
  obtain ⟨oa, oc, ho, -⟩ := hs.shape
  have HO := Lib.hid ho
  clear hr hs ho
  have HV := Lib.hid (fun (W : World) (h : RecRd W r) => rValid_l r W h)
  have HV3 := Lib.hid (fun (W : World) (h : RecRd W r) (h2 : SchedRd W s) => sValid_l r s W h h2)
  have HAK := Lib.hid (fun (W : World) (h : RecRd W r) => look_l r u W h)
  obtain ⟨W0, hW0⟩ : ∃ W : World, ((w.alloc (Obj.cells #[.int .i64 r.n, r.lv, r.vv] 27)).alloc (Obj.cells #[.int .i64 s.f.1, .int .i64 s.f.2.1, .int .i64 s.f.2.2, s.ov] 47)).alloc (Obj.cells #[.int .i64 u.1, .int .i64 u.2.1, .int .i64 u.2.2] 29) = W := ⟨_, rfl⟩
  have kw : Below w.heap.size w W0 := by rw [← hW0]; exact (by repeat (first | exact Below.refl _ _ | assumption | (refine Below.drew ?_) | (refine below_drewN ?_ _) | (refine Below.alloc ?_ (by first | (simp; done) | (simp; omega) | omega) _) | (refine Below.setCell ?_ (by first | (simp; done) | (simp; omega) | omega) _) | (refine Below.trans ?_ (Below.mono (by assumption) (by first | (simp; done) | (simp; omega) | omega)))))
  have ks : W0.heap.size = w.heap.size + 3 := by rw [← hW0]; simp
  have RD := Lib.hid (show ∀ V, Below W0.heap.size W0 V → (V.cell? ⟨w.heap.size, 0, none⟩ = some (.int .i64 r.n) ∧ V.cell? ⟨w.heap.size, 1, none⟩ = some r.lv ∧ V.cell? ⟨w.heap.size, 2, none⟩ = some r.vv) ∧ (V.cell? ⟨w.heap.size + 1, 0, none⟩ = some (.int .i64 s.f.1) ∧ V.cell? ⟨w.heap.size + 1, 1, none⟩ = some (.int .i64 s.f.2.1) ∧ V.cell? ⟨w.heap.size + 1, 2, none⟩ = some (.int .i64 s.f.2.2) ∧ V.cell? ⟨w.heap.size + 1, 3, none⟩ = some s.ov) ∧ V.cell? ⟨w.heap.size + 1 + 1, 0, none⟩ = some (.int .i64 u.1) ∧ V.cell? ⟨w.heap.size + 1 + 1, 1, none⟩ = some (.int .i64 u.2.1) ∧ V.cell? ⟨w.heap.size + 1 + 1, 2, none⟩ = some (.int .i64 u.2.2) from
    fun V h => by
      refine ⟨⟨(h.cell (p := ⟨w.heap.size, 0, none⟩) (by simp; omega)).trans ?_, (h.cell (p := ⟨w.heap.size, 1, none⟩) (by simp; omega)).trans ?_, (h.cell (p := ⟨w.heap.size, 2, none⟩) (by simp; omega)).trans ?_⟩, ⟨(h.cell (p := ⟨w.heap.size + 1, 0, none⟩) (by simp; omega)).trans ?_, (h.cell (p := ⟨w.heap.size + 1, 1, none⟩) (by simp; omega)).trans ?_, (h.cell (p := ⟨w.heap.size + 1, 2, none⟩) (by simp; omega)).trans ?_, (h.cell (p := ⟨w.heap.size + 1, 3, none⟩) (by simp; omega)).trans ?_⟩, (h.cell (p := ⟨w.heap.size + 1 + 1, 0, none⟩) (by simp; omega)).trans ?_, (h.cell (p := ⟨w.heap.size + 1 + 1, 1, none⟩) (by simp; omega)).trans ?_, (h.cell (p := ⟨w.heap.size + 1 + 1, 2, none⟩) (by simp; omega)).trans ?_⟩ <;> (subst hW0; go_simp))
  have HW := Lib.hid hW0; have KW := Lib.hid kw; clear hW0 kw
  cases hv : validR r.n r.l r.vars
  · have HE := Lib.hid (fun p w' => drawR_err (show askS r s u = 20 by simp [askS, hv]) (by omega) p w')
    have HVV := Lib.hid hv; clear hv
    go_enter Tryz.func68, Tryz.ntmps68
    go_wp2_with (go_at_call 112; rw [HW.out]; refine (HV.out _ (HR.out.below KW.out)).mono ?_; go_must (rintro e w1 ⟨rfl, hb1⟩; rw [HVV.out]))
    go_ret2
    exact ⟨HE.out _ _, below_at KW.out (by omega) hb1⟩
  cases hs2 : schedB r s
  · have HE := Lib.hid (fun p w' => drawR_err (show askS r s u = 30 by simp [askS, hv, hs2]) (by omega) p w')
    have HVV := Lib.hid hv; have HSS := Lib.hid hs2; clear hv hs2
    go_enter Tryz.func68, Tryz.ntmps68
    go_wp2_with (first | (go_at_call 112; rw [HW.out]; refine (HV.out _ (HR.out.below KW.out)).mono ?_; go_must (rintro e w1 ⟨rfl, hb1⟩; rw [HVV.out]; have K := hb1; obtain ⟨⟨k0, k1, k2⟩, ⟨k3, k4, k5, k6⟩, k7, k8, k9⟩ := RD.out _ K)) | (go_at_call 113; refine (HV3.out _ (HR.out.below (KW.out.trans (K.mono (by omega)))) (HS.out.below (KW.out.trans (K.mono (by omega))))).mono ?_; go_must (rintro e w2 ⟨rfl, hb2⟩; rw [HSS.out]; have K' := below_at K (by have := K.size; omega) hb2; clear K; have K := K'; clear K')))
    go_ret2
    exact ⟨HE.out _ _, KW.out.trans (K.mono (by omega))⟩
  have HVV := Lib.hid hv; have HSS := Lib.hid hs2
  have HAS := Lib.hid (show askS r s u = askE r u by simp [askS, hv, hs2])
  clear hv hs2
  by_cases ha : askE r u = 0
  rotate_left
  · have HE := Lib.hid (fun p w' => drawR_err HAS.out ha p w')
    have HA := Lib.hid ha
    clear ha
    go_enter Tryz.func68, Tryz.ntmps68
    go_wp2_with (first | (go_at_call 112; rw [HW.out]; refine (HV.out _ (HR.out.below KW.out)).mono ?_; go_must (rintro e w1 ⟨rfl, hb1⟩; rw [HVV.out]; have K := hb1; obtain ⟨⟨k0, k1, k2⟩, ⟨k3, k4, k5, k6⟩, k7, k8, k9⟩ := RD.out _ K)) | (go_at_call 113; refine (HV3.out _ (HR.out.below (KW.out.trans (K.mono (by omega)))) (HS.out.below (KW.out.trans (K.mono (by omega))))).mono ?_; go_must (rintro e w2 ⟨rfl, hb2⟩; rw [HSS.out]; have K' := below_at K (by have := K.size; omega) hb2; clear K k0 k1 k2 k3 k4 k5 k6 k7 k8 k9; have K := K'; clear K'; obtain ⟨⟨k0, k1, k2⟩, ⟨k3, k4, k5, k6⟩, k7, k8, k9⟩ := RD.out _ K)) | (go_at_call 122; refine (HAK.out _ (HR.out.below (KW.out.trans (K.mono (by omega))))).mono ?_; go_must (rintro e w3 ⟨hl, hb3⟩; unfold LookR at hl; rw [if_neg HA.out] at hl; subst hl; have K' := below_at K (by have := K.size; omega) hb3; clear K k0 k1 k2 k3 k4 k5 k6 k7 k8 k9; have K := K'; clear K'; obtain ⟨⟨k0, k1, k2⟩, ⟨k3, k4, k5, k6⟩, k7, k8, k9⟩ := RD.out _ K; rw [HO.out] at k6)))
    go_ret2
    exact ⟨HE.out _ _, below_at (KW.out.trans (K.mono (by omega))) (by have := K.size; omega) (by repeat (first | exact Below.refl _ _ | assumption | (refine Below.drew ?_) | (refine below_drewN ?_ _) | (refine Below.alloc ?_ (by first | (simp; done) | (simp; omega) | omega) _) | (refine Below.setCell ?_ (by first | (simp; done) | (simp; omega) | omega) _) | (refine Below.trans ?_ (Below.mono (by assumption) (by first | (simp; done) | (simp; omega) | omega)))))⟩
  have HY := Lib.hid (show ∀ w' b bv pv, PlanAt w' b bv r s u pv → DrawR r s u (.returned (.tuple #[.pointer (some ⟨b, 0, none⟩), .int .i64 0])) w' from fun w' b bv pv h => by
    unfold DrawR; rw [if_pos (HAS.out.trans ha)]; exact ⟨b, bv, pv, rfl, h⟩)
  have HA := Lib.hid ha
  clear ha
  go_enter Tryz.func68, Tryz.ntmps68
  go_wp2_with (first | (go_at_call 112; rw [HW.out]; refine (HV.out _ (HR.out.below KW.out)).mono ?_; go_must (rintro e w1 ⟨rfl, hb1⟩; rw [HVV.out]; have K := hb1; obtain ⟨⟨k0, k1, k2⟩, ⟨k3, k4, k5, k6⟩, k7, k8, k9⟩ := RD.out _ K)) | (go_at_call 113; refine (HV3.out _ (HR.out.below (KW.out.trans (K.mono (by omega)))) (HS.out.below (KW.out.trans (K.mono (by omega))))).mono ?_; go_must (rintro e w2 ⟨rfl, hb2⟩; rw [HSS.out]; have K' := below_at K (by have := K.size; omega) hb2; clear K k0 k1 k2 k3 k4 k5 k6 k7 k8 k9; have K := K'; clear K'; obtain ⟨⟨k0, k1, k2⟩, ⟨k3, k4, k5, k6⟩, k7, k8, k9⟩ := RD.out _ K)) | (go_at_call 122; refine (HAK.out _ (HR.out.below (KW.out.trans (K.mono (by omega))))).mono ?_; go_must (rintro e w3 ⟨hl, hb3⟩; unfold LookR at hl; rw [if_pos HA.out] at hl; obtain ⟨bv, pv, rfl, hvw⟩ := hl; have HVW := Lib.hid hvw; clear hvw; have K' := below_at K (by have := K.size; omega) hb3; clear K k0 k1 k2 k3 k4 k5 k6 k7 k8 k9; have K := K'; clear K'; obtain ⟨⟨k0, k1, k2⟩, ⟨k3, k4, k5, k6⟩, k7, k8, k9⟩ := RD.out _ K; rw [HO.out] at k6)))
  refine bodyPost_ret (v := .tuple #[.pointer (some ⟨w3.heap.size, 0, none⟩), .int .i64 0]) (by simp only [results, Tryz.results68]; first | (go_simp; done) | (go_simp; rfl)) rfl ⟨HY.out _ _ bv pv ?_, below_at (KW.out.trans (K.mono (by omega))) (by have := K.size; omega) (by repeat (first | exact Below.refl _ _ | assumption | (refine Below.drew ?_) | (refine below_drewN ?_ _) | (refine Below.alloc ?_ (by first | (simp; done) | (simp; omega) | omega) _) | (refine Below.setCell ?_ (by first | (simp; done) | (simp; omega) | omega) _) | (refine Below.trans ?_ (Below.mono (by assumption) (by first | (simp; done) | (simp; omega) | omega)))))⟩
  refine ⟨by simp, by go_simp, by go_simp, by go_simp, by go_simp, ?_, HVW.out.below ((Below.refl _ _).alloc (Nat.le_refl _) _)⟩
  rw [HO.out]
  go_simp
end Go.Proofs.YtnejicklenhpeaaGreat
namespace Go.Proofs.YtnejicklenhpeaaGreat
open Go.RowKit
set_option maxHeartbeats 4000000 in
set_option maxRecDepth 100000 in
theorem sdot_l (a0 a1 a2 b0 b1 b2 : Int) (h0 : -1000000 ≤ a0 * b0 ∧ a0 * b0 ≤ 1000000) (h1 : -1000000 ≤ a1 * b1 ∧ a1 * b1 ≤ 1000000) (h2 : -1000000 ≤ a2 * b2 ∧ a2 * b2 ≤ 1000000) (w : World) :
    Calls Tryz.prog 125 #[.agg #[.int .i64 a0, .int .i64 a1, .int .i64 a2], .agg #[.int .i64 b0, .int .i64 b1, .int .i64 b2]] w fun e w' => e = .returned (.int .i64 (a0 * b0 + a1 * b1 + a2 * b2)) ∧ Below w.heap.size w w' := by
  obtain ⟨h3, h4⟩ := h0; obtain ⟨h5, h6⟩ := h1; obtain ⟨h7, h8⟩ := h2
  have i0 := ix3_0
  have i1 := ix3_1
  have i2 := ix3_2
  go_enter Tryz.func125, Tryz.ntmps125
  go_wp2
  refine wp_loop_rounds 4 ?_
  iterate 4 (rw [rounds_succ]; go_wp2)
  go_ret
  exact ⟨ret_int (by omega), by repeat (first | exact Below.refl _ _ | assumption | (refine Below.drew ?_) | (refine below_drewN ?_ _) | (refine Below.alloc ?_ (by first | (simp; done) | (simp; omega) | omega) _) | (refine Below.setCell ?_ (by first | (simp; done) | (simp; omega) | omega) _) | (refine Below.trans ?_ (Below.mono (by assumption) (by first | (simp; done) | (simp; omega) | omega))))⟩
end Go.Proofs.YtnejicklenhpeaaGreat
namespace Go.Proofs.YtnejicklenhpeaaGreat
open Go.RowKit Go.WideMaps
theorem ptV_inj (x y : P3) (h : ptV x = ptV y) : x = y := by
  obtain ⟨a, b, c⟩ := x; obtain ⟨d, e, f⟩ := y
  simp [ptV] at h
  simp [h]
def wf3 (k : P3) : Prop := (Lit.int .i64 k.1).wf = true ∧ (Lit.int .i64 k.2.1).wf = true ∧ (Lit.int .i64 k.2.2).wf = true
theorem law_spot : KeyLaw Tryz.prog 212 := deep_law_laid (m := 8) (by kernel_rfl) (by decide) (of_decide_eq_true (by kernel_rfl)) (by kernel_rfl) (by kernel_rfl)
set_option maxRecDepth 100000 in
theorem key_spot (k : P3) (h : wf3 k) : ∃ kl, keyOf Tryz.prog 212 (ptV k) = some kl := by
  obtain ⟨x, y, z⟩ := k
  obtain ⟨hx, hy, hz⟩ := h
  simp only at hx hy hz
  have e1 : Tryz.prog.cellsOf 3 = 1 := by kernel_rfl
  have e2 : Tryz.prog.cellsOf 31 = 2 := by kernel_rfl
  have e4 : Tryz.prog.cellsOf 212 = 3 := by kernel_rfl
  have e3 : Tryz.prog.keyType 212 = true := by kernel_rfl
  obtain ⟨m, hm⟩ := types_some
  have h2 : Tryz.prog.keyLits (m + 3) 212 [.int .i64 x, .int .i64 y, .int .i64 z] = some [.int .i64 x, .int .i64 y, .int .i64 z] := by
    simp [Program.keyLits, Tryz.underlying212, Tryz.underlying31, Tryz.underlying3, e1, e2, e4, List.range_succ, hx, hy, hz]
  unfold keyOf
  rw [hm]
  simp [ptV, Tryz.underlying212, e4, e3, Value.formed, Value.cells, h2]
theorem law_rspot : KeyLaw Tryz.prog 249 := deep_law_laid (m := 8) (by kernel_rfl) (by decide) (of_decide_eq_true (by kernel_rfl)) (by kernel_rfl) (by kernel_rfl)
set_option maxRecDepth 100000 in
theorem key_rspot (k : P3) (h : wf3 k) : ∃ kl, keyOf Tryz.prog 249 (ptV k) = some kl := by
  obtain ⟨x, y, z⟩ := k
  obtain ⟨hx, hy, hz⟩ := h
  simp only at hx hy hz
  have e1 : Tryz.prog.cellsOf 3 = 1 := by kernel_rfl
  have e2 : Tryz.prog.cellsOf 31 = 2 := by kernel_rfl
  have e4 : Tryz.prog.cellsOf 249 = 3 := by kernel_rfl
  have e3 : Tryz.prog.keyType 249 = true := by kernel_rfl
  obtain ⟨m, hm⟩ := types_some
  have h2 : Tryz.prog.keyLits (m + 3) 249 [.int .i64 x, .int .i64 y, .int .i64 z] = some [.int .i64 x, .int .i64 y, .int .i64 z] := by
    simp [Program.keyLits, Tryz.underlying249, Tryz.underlying31, Tryz.underlying3, e1, e2, e4, List.range_succ, hx, hy, hz]
  unfold keyOf
  rw [hm]
  simp [ptV, Tryz.underlying249, e4, e3, Value.formed, Value.cells, h2]
theorem law_pnt : KeyLaw Tryz.prog 29 := deep_law_laid (m := 8) (by kernel_rfl) (by decide) (of_decide_eq_true (by kernel_rfl)) (by kernel_rfl) (by kernel_rfl)
set_option maxRecDepth 100000 in
theorem key_pnt (k : P3) (h : wf3 k) : ∃ kl, keyOf Tryz.prog 29 (ptV k) = some kl := by
  obtain ⟨x, y, z⟩ := k
  obtain ⟨hx, hy, hz⟩ := h
  simp only at hx hy hz
  have e1 : Tryz.prog.cellsOf 3 = 1 := by kernel_rfl
  have e2 : Tryz.prog.cellsOf 29 = 3 := by kernel_rfl
  have e3 : Tryz.prog.keyType 29 = true := by kernel_rfl
  obtain ⟨m, hm⟩ := types_some
  have h2 : Tryz.prog.keyLits (m + 3) 29 [.int .i64 x, .int .i64 y, .int .i64 z] = some [.int .i64 x, .int .i64 y, .int .i64 z] := by
    simp [Program.keyLits, Tryz.underlying29, Tryz.underlying3, e1, e2, List.range_succ, hx, hy, hz]
  unfold keyOf
  rw [hm]
  simp [ptV, Tryz.underlying29, e2, e3, Value.formed, Value.cells, h2]
/-- Block b is a map that has for each key of K the indexes at which it comes, each in a row of its own from block base on. -/
def Met (w : World) (base b n : Nat) (K : List P3) : Prop :=
  ∃ vf : P3 → Value, MapV Tryz.prog 212 ptV w b n (fun a => if idxs K a = [] then none else some (vf a)) ∧
    (∀ a, idxs K a = [] → vf a = .slice none 0 0) ∧
    (∀ a, OwnOf w base 3 1 encNat (vf a) (idxs K a)) ∧
    (∀ a c g, (vf a).ownBlock = some g → (vf c).ownBlock = some g → a = c) ∧
    (∀ a, (vf a).ownBlock ≠ some b)
theorem Met.made (w : World) (base : Nat) : Met (w.alloc (.map #[] 0)) base w.heap.size 0 [] := by
  refine ⟨fun _ => .slice none 0 0, ?_, fun _ _ => rfl, fun _ => OwnOf.nil _ _ _ _ _, fun a c g h _ => by simp [Value.ownBlock] at h, fun a h => by simp [Value.ownBlock] at h⟩
  have := MapV.made Tryz.prog 212 ptV w
  simpa [idxs_nil] using this
theorem Met.kept {w w' : World} {base b n : Nat} {K : List P3} (h : Met w base b n K) (hb : Below w.heap.size w w') : Met w' base b n K := by
  obtain ⟨vf, h1, h2, h3, h4, h5⟩ := h
  exact ⟨vf, h1.kept hb, h2, fun a => (h3 a).kept hb, h4, h5⟩
theorem Met.lt {w : World} {base b n : Nat} {K : List P3} (h : Met w base b n K) : b < w.heap.size := by
  obtain ⟨vf, h1, -⟩ := h
  exact h1.lt
theorem zv_ints (u : World) : (zeroValue 39).run Tryz.prog u = .ok (.slice none 0 0) u := by kernel_rfl
set_option maxRecDepth 100000 in
theorem Met.look {w : World} {base b n : Nat} {K : List P3} (h : Met w base b n K) (a : P3) (ha : wf3 a) :
    ∃ v, ∀ V, Below w.heap.size w V → (Instr.lookup 207 (.map (some b)) (ptV a) false).run Tryz.prog V = .ok v V ∧ OwnOf V base 3 1 encNat v (idxs K a) := by
  obtain ⟨vf, h1, h2, h3, -⟩ := h
  obtain ⟨kl, hk⟩ := key_spot a ha
  refine ⟨vf a, fun V hV => ⟨?_, (h3 a).kept hV⟩⟩
  have := (h1.kept hV).look (Maps.Keyed.of_law law_spot) (t := 207) Tryz.underlying207 (zv_ints V) hk
  rw [this]
  by_cases he : idxs K a = []
  · simp [he, h2 a he]
  · simp [he]
set_option maxRecDepth 100000 in
/-- 'met[a] = append(met[a], k)', k the number of keys till now. -/
theorem Met.step {w : World} {base b n : Nat} {K : List P3} (h : Met w base b n K) (hn : n < 1000000) (a : P3) (ha : wf3 a) :
    ∃ (v : Value) (st : Nat) (w1 : World), (Instr.mapEntry 207 (.map (some b)) (ptV a)).run Tryz.prog w = .ok (.tuple #[v, goInt st]) w1 ∧ w.grownBy w1 (some b) ∧ OwnOf w1 base 3 1 encNat v (idxs K a) ∧
      ∀ (g c' : Nat) (w2 : World), w2.ownsRow base 3 1 (.slice (some ⟨g, 0, none⟩) ((idxs K a).length + 1) c') ((idxs K a).length + 1) ((idxs K a).flatMap encNat ++ [.int .i64 (K.length : Int)]) → w1.grownBy w2 v.ownBlock → (v.ownBlock = some g ∨ w1.heap.size ≤ g) →
        ∃ w3, (Instr.entryStore 207 (.map (some b)) (goInt st) (.slice (some ⟨g, 0, none⟩) ((idxs K a).length + 1) c')).run Tryz.prog w2 = .ok () w3 ∧ Met w3 base b (n + 1) (K ++ [a]) ∧ w2.grownBy w3 (some b) ∧ ∀ B, B ≤ b → B ≤ base → B ≤ w.heap.size → Below B w w3 := by
  obtain ⟨vf, h1, h2, h3, h4, h5⟩ := h
  obtain ⟨kl, hk⟩ := key_spot a ha
  have hblt := h1.lt
  obtain ⟨st, w1, hr, hg1, hst⟩ := h1.entry law_spot (t := 207) Tryz.underlying207 ptV_inj hn zv_ints hk
  have hv : ((if idxs K a = [] then none else some (vf a)) : Option Value).getD (.slice none 0 0) = vf a := by
    by_cases he : idxs K a = []
    · simp [he, h2 a he]
    · simp [he]
  rw [hv] at hr
  have h31 : ∀ c, OwnOf w1 base 3 1 encNat (vf c) (idxs K c) := fun c => (h3 c).grown hg1 (.inl (h5 c))
  refine ⟨vf a, st, w1, hr, hg1, h31 a, fun g c' w2 hown hg2 hat => ?_⟩
  have hb2 : w2.heap[b]? = w1.heap[b]? := hg2.block b (Nat.lt_of_lt_of_le hblt hg1.size) (fun e => h5 a e.symm)
  obtain ⟨w3, hr3, hm3, hg3⟩ := hst w2 (.slice (some ⟨g, 0, none⟩) ((idxs K a).length + 1) c') hb2
  have hgb : g ≠ b := by
    rcases hat with e | e
    · exact fun e' => h5 a (by rw [e, e'])
    · have := hg1.size; omega
  refine ⟨w3, hr3, ⟨fun x => if x = a then .slice (some ⟨g, 0, none⟩) ((idxs K a).length + 1) c' else vf x, ?_, ?_, ?_, ?_, ?_⟩, hg3, ?_⟩
  · have e : (fun x => if idxs (K ++ [a]) x = [] then none else some (if x = a then (.slice (some ⟨g, 0, none⟩) ((idxs K a).length + 1) c' : Value) else vf x)) = (fun x => if x = a then some (.slice (some ⟨g, 0, none⟩) ((idxs K a).length + 1) c') else if idxs K x = [] then none else some (vf x)) := by
      funext x
      rw [idxs_snoc]
      by_cases hx : x = a
      · subst hx; simp
      · have : ¬ (a = x) := fun e => hx e.symm
        simp [hx, this]
    rw [e]
    exact hm3
  · intro x hx
    rw [idxs_snoc] at hx
    by_cases hxa : x = a
    · subst hxa; simp at hx
    · have : ¬ (a = x) := fun e => hxa e.symm
      simp only [this, if_false, List.append_nil] at hx
      simp only [hxa, if_false]
      exact h2 x hx
  · intro x
    rw [idxs_snoc]
    by_cases hxa : x = a
    · subst hxa
      simp only [if_true]
      have h6 : OwnOf w2 base 3 1 encNat (.slice (some ⟨g, 0, none⟩) ((idxs K x).length + 1) c') (idxs K x ++ [K.length]) := OwnOf.snoc hown rfl
      exact h6.grown hg3 (.inl (by simpa [Value.ownBlock] using hgb))
    · have : ¬ (a = x) := fun e => hxa e.symm
      simp only [this, if_false, List.append_nil, hxa]
      refine ((h31 x).grown hg2 ?_).grown hg3 (.inl (h5 x))
      cases hvx : (vf x).ownBlock with
      | none => exact .inr rfl
      | some gx =>
        refine .inl fun e => hxa (h4 x a gx hvx e.symm)
  · intro x c q hx hc
    by_cases hxa : x = a <;> by_cases hca : c = a
    · rw [hxa, hca]
    · simp only [hxa, hca, if_true, if_false] at hx hc
      simp [Value.ownBlock] at hx
      subst hx
      rcases hat with e | e
      · exact absurd (h4 c a g hc e) hca
      · have := ((h31 c).lt g hc).2; omega
    · simp only [hxa, hca, if_true, if_false] at hx hc
      simp [Value.ownBlock] at hc
      subst hc
      rcases hat with e | e
      · exact absurd (h4 x a g hx e) hxa
      · have := ((h31 x).lt g hx).2; omega
    · simp only [hxa, hca, if_false] at hx hc
      exact h4 x c q hx hc
  · intro x
    by_cases hxa : x = a
    · simp only [hxa, if_true]
      simpa [Value.ownBlock] using hgb
    · simp only [hxa, if_false]
      exact h5 x
  · intro B hB1 hB2 hB3
    have k1 : Below B w w1 := (Below.refl B w).grown hg1 hB3 (fun r e => by cases e; exact hB1)
    have k2 : Below B w w2 := k1.grown hg2 (Nat.le_trans hB3 hg1.size) (fun r e => Nat.le_trans hB2 ((h31 a).lt r e).1)
    exact k2.grown hg3 (Nat.le_trans hB3 (Nat.le_trans hg1.size hg2.size)) (fun r e => by cases e; exact hB1)
end Go.Proofs.YtnejicklenhpeaaGreat
namespace Go.Proofs.YtnejicklenhpeaaGreat
open Go.RowKit Go.WideMaps
/-- When, but for the offset, and where a point is computed. -/
def keyS (r : RecD) (s : SchedD) (u p : P3) : P3 := (dot3 s.f p, (cellC r.n u p).1, (cellC r.n u p).2)
def clashL (r : RecD) (s : SchedD) (u : P3) : Option (Nat × Nat) := clashF ((ptsL r.n r.l).map (keyS r s u))
def clashV (o : Option (Nat × Nat)) : Value := match o with
  | none => .tuple #[.int .i64 0, .int .i64 0, .bool false]
  | some (i, k) => .tuple #[.int .i64 (i : Int), .int .i64 (k : Int), .bool true]
theorem wf_w64 (x : Int) : (Lit.int .i64 (wrap64 x)).wf = true := RowKit.wrap64_wf _
theorem cell_wf (n : Int) (u p : P3) : (Lit.int .i64 (cellC n u p).1).wf = true ∧ (Lit.int .i64 (cellC n u p).2).wf = true := by
  unfold cellC
  refine ⟨?_, ?_⟩
  · show (Lit.int .i64 (cA _ _ _ _ _ _ _ _)).wf = true
    unfold cA cw
    split
    · decide
    · split
      · exact wf_w64 _
      · split <;> exact wf_w64 _
  · show (Lit.int .i64 (cB _ _ _ _ _ _ _ _)).wf = true
    unfold cB cw
    split
    · decide
    · split
      · exact wf_w64 _
      · split <;> exact wf_w64 _
theorem flat_sm {n x0 x1 x2 m : Int} (h : flatB n x0 x1 x2 m = true) : Sm m (x0, x1, x2) := by
  simp only [flatB, btw, Bool.and_eq_true, decide_eq_true_eq] at h
  exact ⟨h.1.1.1.1, h.1.1.1.2, h.1.2⟩
theorem askS_ok {r : RecD} {s : SchedD} {u : P3} (h : askS r s u = 0) : validR r.n r.l r.vars = true ∧ schedB r s = true ∧ dirB r.n u = true ∧ askE r u = 0 := by
  unfold askS at h
  split at h
  · split at h
    · have := askE_ok h; exact ⟨this.1, by assumption, this.2, h⟩
    · omega
  · omega
theorem form_sm {r : RecD} {s : SchedD} (h : schedB r s = true) : Sm 9 s.f := by
  simp only [schedB, fitsB, Bool.and_eq_true] at h
  exact flat_sm h.2.1
theorem pts_sm {r : RecD} (h : validR r.n r.l r.vars = true) {p : P3} (hp : p ∈ ptsL r.n r.l) : Sm 20 p :=
  flat_sm ((mem_ptsL (validD_out (validR_out h).1).1 p).1 hp).1
theorem sm_mul {a b : Int} (ha : -9 ≤ a ∧ a ≤ 9) (hb : -20 ≤ b ∧ b ≤ 20) : -180 ≤ a * b ∧ a * b ≤ 180 := by
  have := mul_bd ha hb; omega
theorem key_wf {r : RecD} {s : SchedD} {u : P3} (h : askS r s u = 0) {p : P3} (hp : p ∈ ptsL r.n r.l) : wf3 (keyS r s u p) := by
  obtain ⟨h1, h2, h3, -⟩ := askS_ok h
  obtain ⟨f0, f1, f2⟩ := form_sm h2
  obtain ⟨p0, p1, p2⟩ := pts_sm h1 hp
  have c := cell_wf r.n u p
  refine ⟨wf_sm ?_, c.1, c.2⟩
  have := sm_mul f0 p0; have := sm_mul f1 p1; have := sm_mul f2 p2
  show -1000000 ≤ dot3 s.f p ∧ dot3 s.f p ≤ 1000000
  unfold dot3; omega
theorem dot_key {r : RecD} {s : SchedD} {u : P3} (h : askS r s u = 0) {p : P3} (hp : p ∈ ptsL r.n r.l) (w : World) :
    Calls Tryz.prog 125 #[ptV s.f, ptV p] w fun e w' => e = .returned (.int .i64 (keyS r s u p).1) ∧ Below w.heap.size w w' := by
  obtain ⟨h1, h2, h3, -⟩ := askS_ok h
  obtain ⟨f0, f1, f2⟩ := form_sm h2
  obtain ⟨p0, p1, p2⟩ := pts_sm h1 hp
  have := sm_mul f0 p0; have := sm_mul f1 p1; have := sm_mul f2 p2
  exact sdot_l _ _ _ _ _ _ (by omega) (by omega) (by omega) w
end Go.Proofs.YtnejicklenhpeaaGreat
