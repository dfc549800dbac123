/- Whether a list of points has a point: slices.Index and slices.Contains: their walks. The event of an element: the program's Event. Conditions: none. -/
import Derived.Test.YtndfdgdahinkpaaGreatSafeR
import Derived.Deep.CutRange
import Derived.Test.YtndfdgdahinkpaaGreatEvE
namespace Go.Proofs.YtndfdgdahinkpaaGreat
open Go.RowKit
set_option maxHeartbeats 4000000 in
set_option maxRecDepth 100000 in
theorem index_l (l : List P3) (p : P3) (w : World) (v : Value) (hv : SlOf w w.heap.size 3 encP v l) :
    Calls Tryz.prog 84 #[v, .agg #[.int .i64 p.1, .int .i64 p.2.1, .int .i64 p.2.2]] w fun e w' => (∃ z : Int, e = .returned (.int .i64 z) ∧ decide (0 ≤ z) = decide (p ∈ l)) ∧ Below w.heap.size w w' := by
  obtain ⟨qa, qc, g, off, rfl, hlc, hcm, hx⟩ := SlOf.at (enc := encP) (fun _ => rfl) un_pts sz_pts hv
  unfold maxLen at hcm
  have HX := Lib.hid hx; clear hx hv
  obtain ⟨p0, p1, p2⟩ := p
  obtain ⟨W0, hW0⟩ : ∃ W : World, w.alloc (Obj.cells #[.int .i64 p0, .int .i64 p1, .int .i64 p2] 29) = W := ⟨_, rfl⟩
  have kw0 : Below w.heap.size w W0 := by rw [← hW0]; exact (by repeat (first | exact Below.refl _ _ | assumption | (refine Below.drew ?_) | (refine below_drewN ?_ _) | (refine Below.alloc ?_ (by first | (simp; done) | (simp; omega) | omega) _) | (refine Below.setCell ?_ (by first | (simp; done) | (simp; omega) | omega) _) | (refine Below.trans ?_ (Below.mono (by assumption) (by first | (simp; done) | (simp; omega) | omega)))))
  have ks0 : W0.heap.size = w.heap.size + 1 := by rw [← hW0]; simp
  have RD0 := Lib.hid (show ∀ V, Below W0.heap.size W0 V → V.cell? ⟨w.heap.size, 0, none⟩ = some (.int .i64 p0) ∧ V.cell? ⟨w.heap.size, 1, none⟩ = some (.int .i64 p1) ∧ V.cell? ⟨w.heap.size, 2, none⟩ = some (.int .i64 p2) from fun V h => by
      refine ⟨(h.cell (p := ⟨w.heap.size, 0, none⟩) (by simp; omega)).trans ?_, (h.cell (p := ⟨w.heap.size, 1, none⟩) (by simp; omega)).trans ?_, (h.cell (p := ⟨w.heap.size, 2, none⟩) (by simp; omega)).trans ?_⟩ <;> (subst hW0; go_simp))
  have HW0 := Lib.hid hW0; have KW0 := Lib.hid kw0; clear hW0 kw0
  go_enter Tryz.func84, Tryz.ntmps84
  go_wp2
  rw [HW0.out]
  go_loopw [8] (fun t8 wr => ∃ k : Nat, k ≤ l.length ∧ t8 = .int .i64 (k : Nat) ∧ Hid (∀ j (h : j < l.length), j < k → l[j] ≠ (p0, p1, p2)) ∧ Below W0.heap.size W0 wr) (fun t8 _ => l.length - (intOf t8).toNat)
  case atStart => exact ⟨0, Nat.zero_le _, rfl, Lib.hid (fun j _ h => by omega), Below.refl _ _⟩
  case round =>
    obtain ⟨k, hk, rfl, HNO, K0⟩ := hrel
    by_cases hlt : k < l.length
    rotate_left
    · go_wp2
      go_ret
      refine ⟨⟨-1, rfl, ?_⟩, (KW0.out.trans (K0.mono (by omega)))⟩
      have : ¬ ((p0, p1, p2) ∈ l) := fun hm => by
        obtain ⟨j, hj, e⟩ := List.getElem_of_mem hm
        exact HNO.out j hj (by omega) e
      simp [this]
    obtain ⟨-, hi, hg, hc⟩ := HX.out k hlt
    have rd := fun j hj => ((KW0.out.trans (K0.mono (by omega))).cell (p := ⟨g, off + 3 * k + j, none⟩) hg).trans (hc j hj)
    clear hc
    have HMM := Lib.hid (show l[k] ∈ l from List.getElem_mem hlt)
    have HN := Lib.hid (show l[k] ≠ (p0, p1, p2) → ∀ j (h : j < l.length), j < k + 1 → l[j] ≠ (p0, p1, p2) from fun hne j h hj => by
      by_cases e : j = k
      · subst e; exact hne
      · exact HNO.out j h (by omega))
    have HLT := Lib.hid hlt
    generalize l[k] = q at *
    obtain ⟨q0, q1, q2⟩ := q
    have r0 : wr.cell? ⟨g, off + 3 * k, none⟩ = some (.int .i64 q0) := rd 0 (by omega)
    have r1 : wr.cell? ⟨g, off + 3 * k + 1, none⟩ = some (.int .i64 q1) := rd 1 (by omega)
    have r2 : wr.cell? ⟨g, off + 3 * k + 2, none⟩ = some (.int .i64 q2) := rd 2 (by omega)
    clear rd
    obtain ⟨k0_0, k0_1, k0_2⟩ := RD0.out _ K0
    have heq := fun W => eq_pt (p0, p1, p2) (q0, q1, q2) W
    by_cases he : (p0, p1, p2) = (q0, q1, q2)
    · have HE := Lib.hid he
      simp only [decide_eq_true he] at heq
      clear he
      go_wp2
      go_region
      all_goals
        go_wp2
        go_ret
        refine ⟨⟨(k : Int), rfl, ?_⟩, by have KK := (KW0.out.trans (K0.mono (by omega))); exact (by repeat (first | exact Below.refl _ _ | assumption | (refine Below.drew ?_) | (refine below_drewN ?_ _) | (refine Below.alloc ?_ (by first | (simp; done) | (simp; omega) | omega) _) | (refine Below.setCell ?_ (by first | (simp; done) | (simp; omega) | omega) _) | (refine Below.trans ?_ (Below.mono (by assumption) (by first | (simp; done) | (simp; omega) | omega)))))⟩
        have hm := HMM.out
        rw [← HE.out] at hm
        simp [hm]
    · have HE := Lib.hid he
      simp only [decide_eq_false he] at heq
      clear he
      go_wp2
      go_region
      all_goals
        go_wp2
        go_roundw
        case rel => exact ⟨k + 1, HLT.out, by simp, Lib.hid (HN.out (fun e => HE.out e.symm)), by have KK := K0; exact (by repeat (first | exact Below.refl _ _ | assumption | (refine Below.drew ?_) | (refine below_drewN ?_ _) | (refine Below.alloc ?_ (by first | (simp; done) | (simp; omega) | omega) _) | (refine Below.setCell ?_ (by first | (simp; done) | (simp; omega) | omega) _) | (refine Below.trans ?_ (Below.mono (by assumption) (by first | (simp; done) | (simp; omega) | omega)))))⟩
        case measure => simp only [intOf]; have := HLT.out; omega
set_option maxHeartbeats 4000000 in
set_option maxRecDepth 100000 in
theorem contains_l (l : List P3) (p : P3) (w : World) (v : Value) (hv : SlOf w w.heap.size 3 encP v l) :
    Calls Tryz.prog 50 #[v, .agg #[.int .i64 p.1, .int .i64 p.2.1, .int .i64 p.2.2]] w fun e w' => e = .returned (.bool (decide (p ∈ l))) ∧ Below w.heap.size w w' := by
  have HV := Lib.hid hv
  obtain ⟨qa, qc, hqe, -⟩ := hv.shape
  subst hqe
  clear hv
  have HI := Lib.hid (fun (W : World) (h : SlOf W W.heap.size 3 encP (.slice qa l.length qc) l) => index_l l p W _ h)
  obtain ⟨W0, hW0⟩ : ∃ W : World, w.alloc (Obj.cells #[.int .i64 p.1, .int .i64 p.2.1, .int .i64 p.2.2] 29) = W := ⟨_, rfl⟩
  have kw0 : Below w.heap.size w W0 := by rw [← hW0]; exact (by repeat (first | exact Below.refl _ _ | assumption | (refine Below.drew ?_) | (refine below_drewN ?_ _) | (refine Below.alloc ?_ (by first | (simp; done) | (simp; omega) | omega) _) | (refine Below.setCell ?_ (by first | (simp; done) | (simp; omega) | omega) _) | (refine Below.trans ?_ (Below.mono (by assumption) (by first | (simp; done) | (simp; omega) | omega)))))
  have ks0 : W0.heap.size = w.heap.size + 1 := by rw [← hW0]; simp
  have RD0 := Lib.hid (show ∀ V, Below W0.heap.size W0 V → V.cell? ⟨w.heap.size, 0, none⟩ = some (.int .i64 p.1) ∧ V.cell? ⟨w.heap.size, 1, none⟩ = some (.int .i64 p.2.1) ∧ V.cell? ⟨w.heap.size, 2, none⟩ = some (.int .i64 p.2.2) from fun V h => by
      refine ⟨(h.cell (p := ⟨w.heap.size, 0, none⟩) (by simp; omega)).trans ?_, (h.cell (p := ⟨w.heap.size, 1, none⟩) (by simp; omega)).trans ?_, (h.cell (p := ⟨w.heap.size, 2, none⟩) (by simp; omega)).trans ?_⟩ <;> (subst hW0; go_simp))
  have HW0 := Lib.hid hW0; have KW0 := Lib.hid kw0; clear hW0 kw0
  generalize decide (p ∈ l) = B at *
  go_enter Tryz.func50, Tryz.ntmps50
  go_wp2_with (go_at_call 84; rw [HW0.out]; refine (HI.out _ (HV.out.below KW0.out)).mono ?_; go_must (rintro e w1 ⟨⟨z, rfl, hz⟩, hb1⟩; have K0 := hb1; have HB1 := Lib.hid hb1; clear hb1; obtain ⟨k0_0, k0_1, k0_2⟩ := RD0.out _ K0; have HZ := Lib.hid hz; clear hz))
  go_ret
  exact ⟨ret_bool HZ.out, (KW0.out.trans (K0.mono (by omega)))⟩
end Go.Proofs.YtndfdgdahinkpaaGreat
namespace Go.Proofs.YtndfdgdahinkpaaGreat
open Go.RowKit Go.WideMaps
def evErr (r : RecD) (s : SchedD) (u : P3) (e : ElD) : Int := if askS r s u = 0 then (if isEl r e = true then 0 else 2) else askS r s u
def evVal (r : RecD) (s : SchedD) (u : P3) (e : ElD) : EvD := if askS r s u = 0 ∧ isEl r e = true then evAt r s u e.1.toNat e.2 else ⟨0, (0, 0), (0, (0, 0, 0))⟩
def evX (r : RecD) (s : SchedD) (u : P3) (e : ElD) : Value := .tuple #[evD (evVal r s u e), .int .i64 (evErr r s u e)]
def evZ : Value := .agg #[.int .i64 0, .int .i64 0, .int .i64 0, .int .i64 0, .int .i64 0, .int .i64 0, .int .i64 0]
theorem evX_bad {r : RecD} {s : SchedD} {u : P3} {e : ElD} (h : askS r s u ≠ 0) : evX r s u e = .tuple #[evZ, .int .i64 (askS r s u)] := by
  unfold evX evVal evErr
  rw [if_neg (fun q => h q.1), if_neg h]; rfl
theorem evX_none {r : RecD} {s : SchedD} {u : P3} {e : ElD} (h : askS r s u = 0) (he : isEl r e = false) : evX r s u e = .tuple #[evZ, .int .i64 2] := by
  unfold evX evVal evErr
  rw [if_neg (fun q => by rw [he] at q; exact Bool.noConfusion q.2), if_pos h, he]; rfl
theorem evX_some {r : RecD} {s : SchedD} {u : P3} {e : ElD} (h : askS r s u = 0) (he : isEl r e = true) : evX r s u e = .tuple #[evD (evAt r s u e.1.toNat e.2), .int .i64 0] := by
  unfold evX evVal evErr
  rw [if_pos ⟨h, he⟩, if_pos h, he]; rfl
set_option maxHeartbeats 4000000 in
set_option maxRecDepth 100000 in
theorem Event_l (r : RecD) (s : SchedD) (u : P3) (e : ElD) (w : World) (hr : RecRd w r) (hs : SchedRd w s) :
    Calls Tryz.prog 17 #[.agg #[.int .i64 r.n, r.lv, r.vv], .agg #[.int .i64 s.f.1, .int .i64 s.f.2.1, .int .i64 s.f.2.2, s.ov], .agg #[.int .i64 u.1, .int .i64 u.2.1, .int .i64 u.2.2], .agg #[.int .i64 e.1, .int .i64 e.2.1, .int .i64 e.2.2.1, .int .i64 e.2.2.2]] w fun x w' => x = .returned (evX r s u e) ∧ Below w.heap.size w w' := by
  have HR := Lib.hid hr
  have HS := Lib.hid hs
  obtain ⟨va, vc, hvv, -⟩ := hr.vars.shape
  clear hr hs
  have HDR := Lib.hid (fun (W : World) (h : RecRd W r) (h2 : SchedRd W s) => draw_l r s u W h h2)
  have HEV := Lib.hid (fun ha (v : Nat) (hv : v < r.vars.length) (p : P3) (hp : p ∈ ptsL r.n r.l) (bp bv : Nat) (pv : Value) (W : World) (hpl : PlanAt W bp bv r s u pv) (h2 : SchedRd W s) => event_l r s u ha v hv p hp bp bv pv W hpl h2)
  have HCO := Lib.hid (fun (W : World) (v : Value) (h : SlOf W W.heap.size 3 encP v (ptsL r.n r.l)) => contains_l (ptsL r.n r.l) e.2 W v h)
  rw [hvv] at HDR ⊢
  have HBT := Lib.hid (fun (W : World) => between_any 0 e.1 ((r.vars.length : Int) - 1) W)
  have HX0 := Lib.hid (fun h => evX_bad (r := r) (s := s) (u := u) (e := e) h)
  have HX1 := Lib.hid (fun h h' => evX_none (r := r) (s := s) (u := u) (e := e) h h')
  have HX2 := Lib.hid (fun h h' => evX_some (r := r) (s := s) (u := u) (e := e) h h')
  have HIS := Lib.hid (show isEl r e = (decide (e.2 ∈ ptsL r.n r.l) && (decide (0 ≤ e.1) && decide (e.1 < (r.vars.length : Int)))) from rfl)
  generalize evX r s u e = X at *
  generalize isEl r e = I at *
  generalize hnn : r.vars.length = nv at *
  have HNN := Lib.hid hnn; clear hnn
  obtain ⟨v, p0, p1, p2⟩ := e
  obtain ⟨W0, hW0⟩ : ∃ W : World, ((((w.alloc (Obj.cells #[.int .i64 r.n, r.lv, .slice va nv vc] 27)).alloc (Obj.cells #[.int .i64 s.f.1, .int .i64 s.f.2.1, .int .i64 s.f.2.2, s.ov] 32)).alloc (Obj.cells #[.int .i64 u.1, .int .i64 u.2.1, .int .i64 u.2.2] 29)).alloc (Obj.cells #[.int .i64 v, .int .i64 p0, .int .i64 p1, .int .i64 p2] 55)).alloc (Obj.cells #[.int .i64 0, .int .i64 0, .int .i64 0, .int .i64 0, .int .i64 0, .int .i64 0, .int .i64 0] 57) = W := ⟨_, rfl⟩
  have kw0 : Below w.heap.size w W0 := by rw [← hW0]; exact (by repeat (first | exact Below.refl _ _ | assumption | (refine Below.drew ?_) | (refine below_drewN ?_ _) | (refine Below.alloc ?_ (by first | (simp; done) | (simp; omega) | omega) _) | (refine Below.setCell ?_ (by first | (simp; done) | (simp; omega) | omega) _) | (refine Below.trans ?_ (Below.mono (by assumption) (by first | (simp; done) | (simp; omega) | omega)))))
  have ks0 : W0.heap.size = w.heap.size + 5 := by rw [← hW0]; simp
  have RD0 := Lib.hid (show ∀ V, Below W0.heap.size W0 V → V.cell? ⟨w.heap.size, 0, none⟩ = some (.int .i64 r.n) ∧ V.cell? ⟨w.heap.size, 1, none⟩ = some (r.lv) ∧ V.cell? ⟨w.heap.size, 2, none⟩ = some (.slice va nv vc) ∧ V.cell? ⟨w.heap.size + 1, 0, none⟩ = some (.int .i64 s.f.1) ∧ V.cell? ⟨w.heap.size + 1, 1, none⟩ = some (.int .i64 s.f.2.1) ∧ V.cell? ⟨w.heap.size + 1, 2, none⟩ = some (.int .i64 s.f.2.2) ∧ V.cell? ⟨w.heap.size + 1, 3, none⟩ = some (s.ov) ∧ V.cell? ⟨w.heap.size + 1 + 1, 0, none⟩ = some (.int .i64 u.1) ∧ V.cell? ⟨w.heap.size + 1 + 1, 1, none⟩ = some (.int .i64 u.2.1) ∧ V.cell? ⟨w.heap.size + 1 + 1, 2, none⟩ = some (.int .i64 u.2.2) ∧ V.cell? ⟨w.heap.size + 1 + 1 + 1, 0, none⟩ = some (.int .i64 v) ∧ V.cell? ⟨w.heap.size + 1 + 1 + 1, 1, none⟩ = some (.int .i64 p0) ∧ V.cell? ⟨w.heap.size + 1 + 1 + 1, 2, none⟩ = some (.int .i64 p1) ∧ V.cell? ⟨w.heap.size + 1 + 1 + 1, 3, none⟩ = some (.int .i64 p2) ∧ V.cell? ⟨w.heap.size + 1 + 1 + 1 + 1, 0, none⟩ = some (.int .i64 0) ∧ V.cell? ⟨w.heap.size + 1 + 1 + 1 + 1, 1, none⟩ = some (.int .i64 0) ∧ V.cell? ⟨w.heap.size + 1 + 1 + 1 + 1, 2, none⟩ = some (.int .i64 0) ∧ V.cell? ⟨w.heap.size + 1 + 1 + 1 + 1, 3, none⟩ = some (.int .i64 0) ∧ V.cell? ⟨w.heap.size + 1 + 1 + 1 + 1, 4, none⟩ = some (.int .i64 0) ∧ V.cell? ⟨w.heap.size + 1 + 1 + 1 + 1, 5, none⟩ = some (.int .i64 0) ∧ V.cell? ⟨w.heap.size + 1 + 1 + 1 + 1, 6, none⟩ = some (.int .i64 0) from fun V h => by
      refine ⟨(h.cell (p := ⟨w.heap.size, 0, none⟩) (by simp; omega)).trans ?_, (h.cell (p := ⟨w.heap.size, 1, none⟩) (by simp; omega)).trans ?_, (h.cell (p := ⟨w.heap.size, 2, none⟩) (by simp; omega)).trans ?_, (h.cell (p := ⟨w.heap.size + 1, 0, none⟩) (by simp; omega)).trans ?_, (h.cell (p := ⟨w.heap.size + 1, 1, none⟩) (by simp; omega)).trans ?_, (h.cell (p := ⟨w.heap.size + 1, 2, none⟩) (by simp; omega)).trans ?_, (h.cell (p := ⟨w.heap.size + 1, 3, none⟩) (by simp; omega)).trans ?_, (h.cell (p := ⟨w.heap.size + 1 + 1, 0, none⟩) (by simp; omega)).trans ?_, (h.cell (p := ⟨w.heap.size + 1 + 1, 1, none⟩) (by simp; omega)).trans ?_, (h.cell (p := ⟨w.heap.size + 1 + 1, 2, none⟩) (by simp; omega)).trans ?_, (h.cell (p := ⟨w.heap.size + 1 + 1 + 1, 0, none⟩) (by simp; omega)).trans ?_, (h.cell (p := ⟨w.heap.size + 1 + 1 + 1, 1, none⟩) (by simp; omega)).trans ?_, (h.cell (p := ⟨w.heap.size + 1 + 1 + 1, 2, none⟩) (by simp; omega)).trans ?_, (h.cell (p := ⟨w.heap.size + 1 + 1 + 1, 3, none⟩) (by simp; omega)).trans ?_, (h.cell (p := ⟨w.heap.size + 1 + 1 + 1 + 1, 0, none⟩) (by simp; omega)).trans ?_, (h.cell (p := ⟨w.heap.size + 1 + 1 + 1 + 1, 1, none⟩) (by simp; omega)).trans ?_, (h.cell (p := ⟨w.heap.size + 1 + 1 + 1 + 1, 2, none⟩) (by simp; omega)).trans ?_, (h.cell (p := ⟨w.heap.size + 1 + 1 + 1 + 1, 3, none⟩) (by simp; omega)).trans ?_, (h.cell (p := ⟨w.heap.size + 1 + 1 + 1 + 1, 4, none⟩) (by simp; omega)).trans ?_, (h.cell (p := ⟨w.heap.size + 1 + 1 + 1 + 1, 5, none⟩) (by simp; omega)).trans ?_, (h.cell (p := ⟨w.heap.size + 1 + 1 + 1 + 1, 6, none⟩) (by simp; omega)).trans ?_⟩ <;> (subst hW0; go_simp))
  have HW0 := Lib.hid hW0; have KW0 := Lib.hid kw0; clear hW0 kw0
  have FZ := Lib.hid (show ∀ V, Below W0.heap.size W0 V → ∀ b o, b < W0.heap.size → V.frozen? ⟨b, o, none⟩ = _ from fun V h b o hb => (bcellB h).2 b o hb)
  by_cases ha : askS r s u = 0
  rotate_left
  · have HA := Lib.hid ha
    have HV := Lib.hid (HX0.out ha)
    have hnz : (askS r s u != 0) = true := by simpa using ha
    clear ha
    rw [HV.out]
    clear HV
    generalize hA : askS r s u = A at *
    go_enter Tryz.func17, Tryz.ntmps17
    go_wp2_with (go_at_call 30; rw [HW0.out]; refine (HDR.out _ (HR.out.below KW0.out) (HS.out.below KW0.out)).mono ?_; go_must (rintro e w1 ⟨hd, hb1⟩; have K0 := hb1; have HB1 := Lib.hid hb1; clear hb1; obtain ⟨k0_0, k0_1, k0_2, k0_3, k0_4, k0_5, k0_6, k0_7, k0_8, k0_9, k0_10, k0_11, k0_12, k0_13, k0_14, k0_15, k0_16, k0_17, k0_18, k0_19, k0_20⟩ := RD0.out _ K0; unfold DrawR at hd; rw [hA, if_neg HA.out] at hd; obtain ⟨p, rfl⟩ := hd; have hfz := FZ.out _ K0; rw [← HW0.out] at hfz))
    have KX := (KW0.out.trans (K0.mono (by omega)))
    refine bodyPost_ret (v := .tuple #[.agg #[.int .i64 0, .int .i64 0, .int .i64 0, .int .i64 0, .int .i64 0, .int .i64 0, .int .i64 0], .int .i64 A]) (by simp only [results, Tryz.results17]; first | (go_simp; done) | (go_simp; rfl)) rfl ⟨rfl, ?_⟩
    exact (by (repeat (first | (with_reducible refine Below.setCell ?_ (by first | (simp; done) | (simp; omega) | omega) _) | (with_reducible refine Below.drew ?_) | (with_reducible refine below_drewN ?_ _))); with_reducible exact KX)
  have HA := Lib.hid ha
  clear ha
  have HB : Hid (∀ {x : Bool}, I = x → True) := Lib.hid (fun _ => trivial)
  clear HB
  go_enter Tryz.func17, Tryz.ntmps17
  go_upto_region 4 with (first | (go_at_call 30; rw [HW0.out]; refine (HDR.out _ (HR.out.below KW0.out) (HS.out.below KW0.out)).mono ?_; go_must (rintro e w1 ⟨hd, hb1⟩; have K0 := hb1; have HB1 := Lib.hid hb1; clear hb1; obtain ⟨k0_0, k0_1, k0_2, k0_3, k0_4, k0_5, k0_6, k0_7, k0_8, k0_9, k0_10, k0_11, k0_12, k0_13, k0_14, k0_15, k0_16, k0_17, k0_18, k0_19, k0_20⟩ := RD0.out _ K0; unfold DrawR at hd; rw [if_pos HA.out] at hd; obtain ⟨bp, bv, pv, rfl, hpl⟩ := hd; have HPL := Lib.hid hpl; clear hpl)))
  obtain ⟨pa, pc, hpe, -⟩ := HPL.out.view.pts.shape
  subst hpe
  have HSL := Lib.hid HPL.out.view.pts
  have c0 := HPL.out.c0
  have c8 := HPL.out.view.c8
  have hbp := HPL.out.lt
  have hbv := HPL.out.view.lt
  have hnv : nv ≤ 4 := by rw [← HNN.out]; exact (validR_out (askS_ok HA.out).1).2.2.1.2
  have VD := Lib.hid (show ∀ V, Below w1.heap.size w1 V → V.cell? ⟨bp, 0, none⟩ = some (.pointer (some ⟨bv, 0, none⟩)) ∧ V.cell? ⟨bv, 8, none⟩ = some (.slice pa (ptsL r.n r.l).length pc) from fun V h => ⟨(h.cell (p := ⟨bp, 0, none⟩) hbp).trans (by assumption), (h.cell (p := ⟨bv, 8, none⟩) hbv).trans (by assumption)⟩)
  clear c0 c8
  have KK0 := Lib.hid K0
  have hs1 := K0.size
  clear K0; (try clear k0_0); (try clear k0_1); (try clear k0_2); (try clear k0_3); (try clear k0_4); (try clear k0_5); (try clear k0_6); (try clear k0_7); (try clear k0_8); (try clear k0_9); (try clear k0_10); (try clear k0_11); (try clear k0_12); (try clear k0_13); (try clear k0_14); (try clear k0_15); (try clear k0_16); (try clear k0_17); (try clear k0_18); (try clear k0_19); (try clear k0_20)
  go_cut [24] from 25 to 45 (fun t24 wx => t24 = .bool (!I) ∧ Below w1.heap.size w1 wx)
  case first =>
    have hwr : IntKind.i64.wrap ((nv : Int) - 1) = (nv : Int) - 1 := by rw [IntKind.wrap_i64]; omega
    cases hb : btw 0 v ((nv : Int) - 1)
    · have HI := Lib.hid (show I = false by
        rw [HIS.out]
        simp only [btw, decide_eq_false_iff_not] at hb
        by_cases h0 : 0 ≤ v
        · have : ¬ (v < (nv : Int)) := by omega
          simp [this]
        · simp [h0])
      have HB3 := Lib.hid (fun (W : World) => show Calls Tryz.prog 49 #[.int .i64 0, .int .i64 v, .int .i64 ((nv : Int) - 1)] W fun e w' => e = .returned (.bool false) ∧ w' = W by have := HBT.out W; rwa [hb] at this)
      clear hb
      have K0 := KK0.out
      obtain ⟨k0_0, k0_1, k0_2, k0_3, k0_4, k0_5, k0_6, k0_7, k0_8, k0_9, k0_10, k0_11, k0_12, k0_13, k0_14, k0_15, k0_16, k0_17, k0_18, k0_19, k0_20⟩ := RD0.out _ K0
      obtain ⟨vd_0, vd_1⟩ := VD.out w1 (Below.refl _ _)
      go_quiet (exact Calls.quiet_of_same (HB3.out _))
      all_goals go_wp2_with fail
      all_goals go_meet
      all_goals exact ⟨by rw [HI.out]; rfl, by repeat (first | (with_reducible exact Below.refl _ _) | (with_reducible assumption) | (with_reducible refine Below.drew ?_) | (with_reducible refine Below.setCell ?_ (by first | (simp; done) | (simp; omega) | omega) _) | (with_reducible refine Below.alloc ?_ (by first | (simp; done) | (simp; omega) | omega) _) | (with_reducible refine below_drewN ?_ _) | (refine Below.trans ?_ (Below.mono (by with_reducible assumption) (by first | (simp; done) | (simp; omega) | omega))))⟩
    · have HI := Lib.hid (show I = decide ((p0, p1, p2) ∈ ptsL r.n r.l) by
        rw [HIS.out]
        simp only [btw, decide_eq_true_eq] at hb
        have h0 : 0 ≤ v := hb.1
        have h1 : v < (nv : Int) := by omega
        simp [h0, h1])
      have HBB := Lib.hid hb
      clear hb
      generalize decide ((p0, p1, p2) ∈ ptsL r.n r.l) = J at *
      go_region_held3 (fun w' => Below w1.heap.size w1 w' ∧ (w'.cell? ⟨w.heap.size, 0, none⟩ = some (.int .i64 r.n) ∧ w'.cell? ⟨w.heap.size, 1, none⟩ = some (r.lv) ∧ w'.cell? ⟨w.heap.size, 2, none⟩ = some (.slice va nv vc) ∧ w'.cell? ⟨w.heap.size + 1, 0, none⟩ = some (.int .i64 s.f.1) ∧ w'.cell? ⟨w.heap.size + 1, 1, none⟩ = some (.int .i64 s.f.2.1) ∧ w'.cell? ⟨w.heap.size + 1, 2, none⟩ = some (.int .i64 s.f.2.2) ∧ w'.cell? ⟨w.heap.size + 1, 3, none⟩ = some (s.ov) ∧ w'.cell? ⟨w.heap.size + 1 + 1, 0, none⟩ = some (.int .i64 u.1) ∧ w'.cell? ⟨w.heap.size + 1 + 1, 1, none⟩ = some (.int .i64 u.2.1) ∧ w'.cell? ⟨w.heap.size + 1 + 1, 2, none⟩ = some (.int .i64 u.2.2) ∧ w'.cell? ⟨w.heap.size + 1 + 1 + 1, 0, none⟩ = some (.int .i64 v) ∧ w'.cell? ⟨w.heap.size + 1 + 1 + 1, 1, none⟩ = some (.int .i64 p0) ∧ w'.cell? ⟨w.heap.size + 1 + 1 + 1, 2, none⟩ = some (.int .i64 p1) ∧ w'.cell? ⟨w.heap.size + 1 + 1 + 1, 3, none⟩ = some (.int .i64 p2) ∧ w'.cell? ⟨w.heap.size + 1 + 1 + 1 + 1, 0, none⟩ = some (.int .i64 0) ∧ w'.cell? ⟨w.heap.size + 1 + 1 + 1 + 1, 1, none⟩ = some (.int .i64 0) ∧ w'.cell? ⟨w.heap.size + 1 + 1 + 1 + 1, 2, none⟩ = some (.int .i64 0) ∧ w'.cell? ⟨w.heap.size + 1 + 1 + 1 + 1, 3, none⟩ = some (.int .i64 0) ∧ w'.cell? ⟨w.heap.size + 1 + 1 + 1 + 1, 4, none⟩ = some (.int .i64 0) ∧ w'.cell? ⟨w.heap.size + 1 + 1 + 1 + 1, 5, none⟩ = some (.int .i64 0) ∧ w'.cell? ⟨w.heap.size + 1 + 1 + 1 + 1, 6, none⟩ = some (.int .i64 0)) ∧ (w'.cell? ⟨bp, 0, none⟩ = some (.pointer (some ⟨bv, 0, none⟩)) ∧ w'.cell? ⟨bv, 8, none⟩ = some (.slice pa (ptsL r.n r.l).length pc))) (((refine (fun kb => (⟨kb, RD0.out _ (below_at KK0.out hs1 kb), VD.out _ kb⟩)) (?_ : Below w1.heap.size w1 _); exact (by repeat (first | (with_reducible exact Below.refl _ _) | (with_reducible assumption) | (with_reducible refine Below.drew ?_) | (with_reducible refine Below.setCell ?_ (by first | (simp; done) | (simp; omega) | omega) _) | (with_reducible refine Below.alloc ?_ (by first | (simp; done) | (simp; omega) | omega) _) | (with_reducible refine below_drewN ?_ _) | (refine Below.trans ?_ (Below.mono (by with_reducible assumption) (by first | (simp; done) | (simp; omega) | omega)))))))) (first | (go_at_call 49; refine (HBT.out _).mono ?_; go_must (rintro e w5 ⟨rfl, rfl⟩; rw [HBB.out])) | (go_at_call 50; refine (HCO.out _ _ (HSL.out.below (by repeat (first | (with_reducible exact Below.refl _ _) | (with_reducible assumption) | (with_reducible refine Below.drew ?_) | (with_reducible refine Below.setCell ?_ (by first | (simp; done) | (simp; omega) | omega) _) | (with_reducible refine Below.alloc ?_ (by first | (simp; done) | (simp; omega) | omega) _) | (with_reducible refine below_drewN ?_ _) | (refine Below.trans ?_ (Below.mono (by with_reducible assumption) (by first | (simp; done) | (simp; omega) | omega))))))).mono ?_; go_must (rintro e w6 ⟨rfl, hb6⟩; have hs6 := hb6.size; (try simp at hs6))))
      all_goals (try go_wp2_with fail)
      all_goals go_meet
      all_goals exact ⟨by rw [HI.out], by repeat (first | (with_reducible exact Below.refl _ _) | (with_reducible assumption) | (with_reducible refine Below.drew ?_) | (with_reducible refine Below.setCell ?_ (by first | (simp; done) | (simp; omega) | omega) _) | (with_reducible refine Below.alloc ?_ (by first | (simp; done) | (simp; omega) | omega) _) | (with_reducible refine below_drewN ?_ _) | (refine Below.trans ?_ (Below.mono (by with_reducible assumption) (by first | (simp; done) | (simp; omega) | omega))))⟩
  case rest =>
    obtain ⟨rfl, hbx⟩ := hcut
    have hsx := hbx.size
    have K0 := below_at KK0.out hs1 hbx
    obtain ⟨k0_0, k0_1, k0_2, k0_3, k0_4, k0_5, k0_6, k0_7, k0_8, k0_9, k0_10, k0_11, k0_12, k0_13, k0_14, k0_15, k0_16, k0_17, k0_18, k0_19, k0_20⟩ := RD0.out _ K0
    cases hI : I
    · have HV := Lib.hid (HX1.out HA.out hI)
      have hfz := FZ.out _ K0
      rw [← HW0.out] at hfz
      have KX := (KW0.out.trans (K0.mono (by omega)))
      go_wp2
      refine bodyPost_ret (v := .tuple #[.agg #[.int .i64 0, .int .i64 0, .int .i64 0, .int .i64 0, .int .i64 0, .int .i64 0, .int .i64 0], .int .i64 2]) (by simp only [results, Tryz.results17]; first | (go_simp; done) | (go_simp; rfl)) rfl ⟨by rw [HV.out]; rfl, ?_⟩
      exact (by (repeat (first | (with_reducible refine Below.setCell ?_ (by first | (simp; done) | (simp; omega) | omega) _) | (with_reducible refine Below.drew ?_) | (with_reducible refine below_drewN ?_ _))); with_reducible exact KX)
    · have HV := Lib.hid (HX2.out HA.out hI)
      have hii : ((p0, p1, p2) ∈ ptsL r.n r.l) ∧ 0 ≤ v ∧ v < (nv : Int) := by
        have := HIS.out
        rw [hI] at this
        simpa using this.symm
      obtain ⟨hmem, hv0, hv1⟩ := hii
      obtain ⟨n, rfl⟩ : ∃ n : Nat, v = (n : Int) := ⟨v.toNat, by omega⟩
      have HEL := Lib.hid (HEV.out HA.out n (by omega) (p0, p1, p2) hmem bp bv _ wc (HPL.out.below hbx) (HS.out.below (KW0.out.trans (K0.mono (by omega)))))
      have HV2 := Lib.hid (show X = .tuple #[evD (evAt r s u n (p0, p1, p2)), .int .i64 0] by rw [HV.out]; simp)
      generalize evAt r s u n (p0, p1, p2) = E at *
      obtain ⟨t, ⟨x, y⟩, ⟨ev, q0, q1, q2⟩⟩ := E
      simp only [evD] at HEL HV2
      clear HV
      go_wp2_with (go_at_call 51; refine HEL.out.mono ?_; go_must (rintro e w5 ⟨rfl, hb5⟩; have K' := below_at K0 (by omega) hb5; clear K0; (try clear k0_0); (try clear k0_1); (try clear k0_2); (try clear k0_3); (try clear k0_4); (try clear k0_5); (try clear k0_6); (try clear k0_7); (try clear k0_8); (try clear k0_9); (try clear k0_10); (try clear k0_11); (try clear k0_12); (try clear k0_13); (try clear k0_14); (try clear k0_15); (try clear k0_16); (try clear k0_17); (try clear k0_18); (try clear k0_19); (try clear k0_20); have K0 := K'; clear K'; obtain ⟨k0_0, k0_1, k0_2, k0_3, k0_4, k0_5, k0_6, k0_7, k0_8, k0_9, k0_10, k0_11, k0_12, k0_13, k0_14, k0_15, k0_16, k0_17, k0_18, k0_19, k0_20⟩ := RD0.out _ K0; have hfz := FZ.out _ K0; rw [← HW0.out] at hfz))
      have KX := (KW0.out.trans (K0.mono (by omega)))
      refine bodyPost_ret (v := .tuple #[.agg #[.int .i64 t, .int .i64 x, .int .i64 y, .int .i64 ev, .int .i64 q0, .int .i64 q1, .int .i64 q2], .int .i64 0]) (by simp only [results, Tryz.results17]; first | (go_simp; done) | (go_simp; rfl)) rfl ⟨by rw [HV2.out], ?_⟩
      exact (by (repeat (first | (with_reducible refine Below.setCell ?_ (by first | (simp; done) | (simp; omega) | omega) _) | (with_reducible refine Below.drew ?_) | (with_reducible refine below_drewN ?_ _))); with_reducible exact KX)
end Go.Proofs.YtndfdgdahinkpaaGreat
