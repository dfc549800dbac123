/- The latency of the reference: Asked, elements, timeOf, Span, Latency: their walks. -/
import Derived.Test.YtndfdgdahinkpaaGreatLatA
import Derived.Test.YtndfdgdahinkpaaGreatEvN
namespace Go.Proofs.YtndfdgdahinkpaaGreat
open Go.RowKit
set_option linter.unusedVariables false
set_option maxHeartbeats 4000000 in
set_option maxRecDepth 100000 in
theorem rAskedD_l (r : RecD) (s : SchedD) (w : World) (hr : RecRd w r) (hs : SchedRd w s) :
    Calls Tryz.prog 97 #[.agg #[.int .i64 r.n, r.lv, r.vv], .agg #[.int .i64 s.f.1, .int .i64 s.f.2.1, .int .i64 s.f.2.2, s.ov]] w fun e w' => e = .returned (.int .i64 (askD r s)) ∧ Below w.heap.size w w' := by
  have HR := Lib.hid hr
  have HS := Lib.hid hs
  have HVS := Lib.hid hr.vars.shape
  clear hr hs
  have HV := Lib.hid (fun (W : World) (h : RecRd W r) => IsRec_l r W h)
  have HA := Lib.hid (show askD r s = if validR r.n r.l r.vars = true then (if fitsB r.n r.vars.length s = true then 0 else 30) else 20 from rfl)
  obtain ⟨W0, hW0⟩ : ∃ W : World, (w.alloc (Obj.cells #[.int .i64 r.n, r.lv, r.vv] 27)).alloc (Obj.cells #[.int .i64 s.f.1, .int .i64 s.f.2.1, .int .i64 s.f.2.2, s.ov] 32) = W := ⟨_, rfl⟩
  have kw0 : Below w.heap.size w W0 := by rw [← hW0]; exact (by repeat (first | exact Below.refl _ _ | assumption | (refine Below.drew ?_) | (refine below_drewN ?_ _) | (refine Below.alloc ?_ (by first | (simp; done) | (simp; omega) | omega) _) | (refine Below.setCell ?_ (by first | (simp; done) | (simp; omega) | omega) _) | (refine Below.trans ?_ (Below.mono (by assumption) (by first | (simp; done) | (simp; omega) | omega)))))
  have ks0 : W0.heap.size = w.heap.size + 2 := by rw [← hW0]; simp
  have RD0 := Lib.hid (show ∀ V, Below W0.heap.size W0 V → V.cell? ⟨w.heap.size, 0, none⟩ = some (.int .i64 r.n) ∧ V.cell? ⟨w.heap.size, 1, none⟩ = some (r.lv) ∧ V.cell? ⟨w.heap.size, 2, none⟩ = some (r.vv) ∧ V.cell? ⟨w.heap.size + 1, 0, none⟩ = some (.int .i64 s.f.1) ∧ V.cell? ⟨w.heap.size + 1, 1, none⟩ = some (.int .i64 s.f.2.1) ∧ V.cell? ⟨w.heap.size + 1, 2, none⟩ = some (.int .i64 s.f.2.2) ∧ V.cell? ⟨w.heap.size + 1, 3, none⟩ = some (s.ov) from fun V h => by
      refine ⟨(h.cell (p := ⟨w.heap.size, 0, none⟩) (by simp; omega)).trans ?_, (h.cell (p := ⟨w.heap.size, 1, none⟩) (by simp; omega)).trans ?_, (h.cell (p := ⟨w.heap.size, 2, none⟩) (by simp; omega)).trans ?_, (h.cell (p := ⟨w.heap.size + 1, 0, none⟩) (by simp; omega)).trans ?_, (h.cell (p := ⟨w.heap.size + 1, 1, none⟩) (by simp; omega)).trans ?_, (h.cell (p := ⟨w.heap.size + 1, 2, none⟩) (by simp; omega)).trans ?_, (h.cell (p := ⟨w.heap.size + 1, 3, none⟩) (by simp; omega)).trans ?_⟩ <;> (subst hW0; go_simp))
  have HW0 := Lib.hid hW0; have KW0 := Lib.hid kw0; clear hW0 kw0
  cases hv : validR r.n r.l r.vars
  · have HE := Lib.hid (show askD r s = 20 by rw [HA.out, hv]; rfl)
    rw [HE.out]
    rw [hv] at HV
    clear hv HA HE
    go_enter Tryz.func97, Tryz.ntmps97
    go_wp2_with (go_at_call 77; rw [HW0.out]; refine (HV.out _ (HR.out.below KW0.out)).mono ?_; go_must (rintro e w1 ⟨rfl, hb1⟩; have K0 := hb1; have HB1 := Lib.hid hb1; clear hb1; obtain ⟨k0_0, k0_1, k0_2, k0_3, k0_4, k0_5, k0_6⟩ := RD0.out _ K0; skip))
    go_ret
    exact ⟨rfl, (KW0.out.trans (K0.mono (by omega)))⟩
  have HLO := Lib.hid (validR_lo hv)
  have HF := Lib.hid (fun (W : World) (h : SchedRd W s) => isSched_l r.n r.lv r.vv r.vars.length s HLO.out.1.1 (by obtain ⟨a, c, h, _⟩ := HVS.out; exact ⟨a, c, h⟩) W h)
  cases hf : fitsB r.n r.vars.length s
  all_goals
    have HE := Lib.hid (show askD r s = _ from by rw [HA.out, hv, hf])
    simp only [if_true, if_false, Bool.false_eq_true] at HE
    rw [HE.out]
    have HV2 := Lib.hid (hv ▸ HV.out)
    have HF2 := Lib.hid (hf ▸ HF.out)
    clear hv hf HA HE HF HV HLO
    go_enter Tryz.func97, Tryz.ntmps97
    go_wp2_with (first | (go_at_call 77; rw [HW0.out]; refine (HV2.out _ (HR.out.below KW0.out)).mono ?_; go_must (rintro e w1 ⟨rfl, hb1⟩; have K0 := hb1; have HB1 := Lib.hid hb1; clear hb1; obtain ⟨k0_0, k0_1, k0_2, k0_3, k0_4, k0_5, k0_6⟩ := RD0.out _ K0; skip)) | (go_at_call 78; refine (HF2.out _ (HS.out.below (KW0.out.trans (K0.mono (by omega))))).mono ?_; go_must (rintro e w2 ⟨rfl, hb2⟩; have K' := (by first | exact below_at K0 (by have := K0.size; omega) hb2 | exact below_at K0 (by have := K0.size; omega) (by repeat (first | exact Below.refl _ _ | assumption | (refine Below.drew ?_) | (refine below_drewN ?_ _) | (refine Below.alloc ?_ (by first | (simp; done) | (simp; omega) | omega) _) | (refine Below.setCell ?_ (by first | (simp; done) | (simp; omega) | omega) _) | (refine Below.trans ?_ (Below.mono (by assumption) (by first | (simp; done) | (simp; omega) | omega))))) : Below W0.heap.size W0 w2); have HB2 := Lib.hid hb2; clear K0 hb2; (try clear k0_0); (try clear k0_1); (try clear k0_2); (try clear k0_3); (try clear k0_4); (try clear k0_5); (try clear k0_6); have K0 := K'; clear K'; obtain ⟨k0_0, k0_1, k0_2, k0_3, k0_4, k0_5, k0_6⟩ := RD0.out _ K0; skip)))
    go_ret
    exact ⟨rfl, (KW0.out.trans (K0.mono (by omega)))⟩
/-- The elements, by variable and then by point. -/
def elsL (r : RecD) : List ElD := (List.range r.vars.length).flatMap fun (v : Nat) => (ptsL r.n r.l).map fun p => ((v : Int), p)
theorem elsL_len (r : RecD) : (elsL r).length = r.vars.length * (ptsL r.n r.l).length := flat_lenE _ _ (fun v => by simp) _
theorem elsL_take (r : RecD) (v k : Nat) (hv : v < r.vars.length) (hk : k < (ptsL r.n r.l).length) :
    (elsL r).take (v * (ptsL r.n r.l).length + k + 1) = (elsL r).take (v * (ptsL r.n r.l).length + k) ++ [((v : Int), (ptsL r.n r.l)[k])] := by
  have h := flat_getE (fun (v : Nat) (p : P3) => (((v : Int), p) : ElD)) (ptsL r.n r.l) r.vars.length v k hv hk
  obtain ⟨h1, h2⟩ := List.getElem?_eq_some_iff.1 (show (elsL r)[v * (ptsL r.n r.l).length + k]? = _ from h)
  rw [List.take_succ_eq_append_getElem h1, h2]
theorem mem_elsL {r : RecD} {e : ElD} (h : e ∈ elsL r) : ∃ v : Nat, v < r.vars.length ∧ e.1 = (v : Int) ∧ e.2 ∈ ptsL r.n r.l := by
  simp only [elsL, List.mem_flatMap, List.mem_range, List.mem_map] at h
  obtain ⟨v, hv, p, hp, rfl⟩ := h
  exact ⟨v, hv, rfl, hp⟩
/-- The time of an element. -/
def timeE (s : SchedD) (e : ElD) : Int := dot3 s.f e.2 + s.off.getD e.1.toNat 0
theorem elsL_times (r : RecD) (s : SchedD) : (elsL r).map (timeE s) = timesL r s := by
  unfold elsL timesL
  rw [List.map_flatMap]
  congr 1
  funext v
  rw [List.map_map]
  rfl
def ElsR (r : RecD) (e : Ending) (w' : World) : Prop := ∃ v, e = .returned v ∧ SlOf w' w'.heap.size 4 encEl v (elsL r)
set_option maxHeartbeats 4000000 in
set_option maxRecDepth 100000 in
theorem relements_l (r : RecD) (hv : validR r.n r.l r.vars = true) (w : World) (hr : RecRd w r) :
    Calls Tryz.prog 98 #[.agg #[.int .i64 r.n, r.lv, r.vv]] w fun e w' => ElsR r e w' ∧ Below w.heap.size w w' := by
  have hvo := validR_out hv
  have hdo := validD_out hvo.1
  have HAL := Lib.hid (fun (W : World) (hw : SlOf W W.heap.size 4 encI r.lv r.l) => rAll_l r.n r.l hdo.1 hdo.2.2 W r.lv hw)
  have hnp : (ptsL r.n r.l).length ≤ 1000 := hvo.2.1
  have hnv : r.vars.length ≤ 4 := hvo.2.2.1.2
  have hsz : (elsL r).length ≤ 4000 := by rw [elsL_len]; exact Nat.mul_le_mul hnv hnp
  have HTK := Lib.hid (fun v k hv hk => elsL_take r v k hv hk)
  have HEL := Lib.hid (elsL_len r)
  have HRR := Lib.hid (fun (e : Ending) (w' : World) (v : Value) (he : e = .returned v) (hs : SlOf w' w'.heap.size 4 encEl v (elsL r)) => show ElsR r e w' from ⟨v, he, hs⟩)
  have HVV := Lib.hid (show ∃ a c, r.vv = .slice a r.vars.length c by obtain ⟨a, c, h, -⟩ := hr.vars.shape; exact ⟨a, c, h⟩)
  have HR := Lib.hid hr
  clear hvo hdo hv hr
  obtain ⟨va, vc, hve⟩ := HVV.out
  rw [hve]
  have hve' := hve
  obtain ⟨W0, hW0⟩ : ∃ W : World, w.alloc (Obj.cells #[.int .i64 r.n, r.lv, .slice va r.vars.length vc] 27) = W := ⟨_, rfl⟩
  have kw0 : Below w.heap.size w W0 := by rw [← hW0]; exact (by repeat (first | exact Below.refl _ _ | assumption | (refine Below.drew ?_) | (refine below_drewN ?_ _) | (refine Below.alloc ?_ (by first | (simp; done) | (simp; omega) | omega) _) | (refine Below.setCell ?_ (by first | (simp; done) | (simp; omega) | omega) _) | (refine Below.trans ?_ (Below.mono (by assumption) (by first | (simp; done) | (simp; omega) | omega)))))
  have ks0 : W0.heap.size = w.heap.size + 1 := by rw [← hW0]; simp
  have RD0 := Lib.hid (show ∀ V, Below W0.heap.size W0 V → V.cell? ⟨w.heap.size, 0, none⟩ = some (.int .i64 r.n) ∧ V.cell? ⟨w.heap.size, 1, none⟩ = some (r.lv) ∧ V.cell? ⟨w.heap.size, 2, none⟩ = some (.slice va r.vars.length vc) from fun V h => by
      refine ⟨(h.cell (p := ⟨w.heap.size, 0, none⟩) (by simp; omega)).trans ?_, (h.cell (p := ⟨w.heap.size, 1, none⟩) (by simp; omega)).trans ?_, (h.cell (p := ⟨w.heap.size, 2, none⟩) (by simp; omega)).trans ?_⟩ <;> (subst hW0; go_simp))
  have HW0 := Lib.hid hW0; have KW0 := Lib.hid kw0; clear hW0 kw0
  have hmm := Lib.hid hve
  clear hve hve'
  generalize elsL r = E at *
  go_enter Tryz.func98, Tryz.ntmps98
  go_wp2_with (go_at_call 24; rw [HW0.out]; refine (HAL.out _ (HR.out.l.below KW0.out)).mono ?_; go_must (rintro e w1 ⟨⟨v', rfl, hsl⟩, hb1⟩; have K0 := hb1; have HB1 := Lib.hid hb1; clear hb1; obtain ⟨k0_0, k0_1, k0_2⟩ := RD0.out _ K0; have hs1 := K0.size; obtain ⟨pa, pc, hpv, -⟩ := hsl.shape; subst hpv))
  obtain ⟨qa, qc, g, off, hqe, hlc, hcm, hx⟩ := SlOf.at (enc := encP) (fun _ => rfl) un_pts sz_pts hsl
  have hqa : qa = pa := by cases hqe; rfl
  have hqc : qc = pc := by cases hqe; rfl
  subst hqa hqc
  clear hqe hsl
  unfold maxLen at hcm
  have HX := Lib.hid hx; clear hx
  have KK0 := Lib.hid K0
  clear K0
  generalize ptsL r.n r.l = L at *
  go_loopw [3, 14] (fun t3 t14 wr => ∃ i : Nat, i ≤ r.vars.length ∧ t14 = .int .i64 (i : Nat) ∧ Hid (OwnL wr w1.heap.size t3 (E.take (i * L.length))) ∧ Below w1.heap.size w1 wr) (fun _ t14 _ => r.vars.length - (intOf t14).toNat)
  case atStart => exact ⟨0, Nat.zero_le _, rfl, Lib.hid (by rw [Nat.zero_mul]; exact OwnOf.nil _ _ _ _ _), Below.refl _ _⟩
  case round =>
    obtain ⟨i, hi, rfl, HO, hb⟩ := hrel
    have hsr := hb.size
    by_cases hlt : i < r.vars.length
    rotate_left
    · have hie : i = r.vars.length := by omega
      subst hie
      have HO2 := Lib.hid (show OwnL wr w1.heap.size u3 E by have := HO.out; rwa [List.take_of_length_le (by rw [HEL.out]; omega)] at this)
      clear HO
      go_wp2
      refine bodyPost_ret (v := u3) (by simp only [results, Tryz.results98]; first | (go_simp; done) | (go_simp; rfl)) rfl ⟨HRR.out _ _ _ rfl HO2.out.sl, below_at (KW0.out.trans (KK0.out.mono (by omega))) (by omega) hb⟩
    have HLT := Lib.hid hlt
    go_wp2
    go_loopw [3, 19] (fun t3 t19 wz => ∃ k : Nat, k ≤ L.length ∧ t19 = .int .i64 (k : Nat) ∧ Hid (OwnL wz w1.heap.size t3 (E.take (i * L.length + k))) ∧ Below w1.heap.size w1 wz) (fun _ t19 _ => L.length - (intOf t19).toNat)
    case atStart => exact ⟨0, Nat.zero_le _, rfl, HO, hb⟩
    case round =>
      obtain ⟨k, hk, rfl, HO2, hb2⟩ := hrel
      have hs2 := hb2.size
      by_cases hltk : k < L.length
      rotate_left
      · have hke : k = L.length := by omega
        subst hke
        go_wp2
        go_roundw
        case rel => exact ⟨i + 1, HLT.out, by simp, Lib.hid (by rw [Nat.succ_mul]; exact HO2.out), hb2⟩
        case measure => simp only [intOf]; have := HLT.out; omega
      obtain ⟨-, hii, hg, hc⟩ := HX.out k hltk
      have rd := fun j hj => (hb2.cell (p := ⟨g, off + 3 * k + j, none⟩) hg).trans (hc j hj)
      clear hc
      have HT := Lib.hid (HTK.out i k HLT.out hltk)
      have HLK := Lib.hid hltk
      have hacc : (E.take (i * L.length + k)).length ≤ 4000 := by rw [List.length_take]; omega
      have HN := Lib.hid (fun (a : Nat) (h : a = i * L.length + k) => (show a + 1 = i * L.length + (k + 1) by omega))
      generalize L[k] = p at *
      obtain ⟨p0, p1, p2⟩ := p
      have r0 : wr.cell? ⟨g, off + 3 * k, none⟩ = some (.int .i64 p0) := rd 0 (by omega)
      have r1 : wr.cell? ⟨g, off + 3 * k + 1, none⟩ = some (.int .i64 p1) := rd 1 (by omega)
      have r2 : wr.cell? ⟨g, off + 3 * k + 2, none⟩ = some (.int .i64 p2) := rd 2 (by omega)
      clear rd
      generalize E.take (i * L.length + k) = D at *
      obtain ⟨da, dc, hde⟩ := HO2.out.shape
      subst hde
      go_wp2_with (at_builtin; refine wpList_push rfl _ _ _ rfl slEl (HO2.out.kept (show Below wr.heap.size wr _ from (by repeat (first | (with_reducible exact Below.refl _ _) | (with_reducible assumption) | (with_reducible refine Below.drew ?_) | (with_reducible refine Below.setCell ?_ (by first | (simp; done) | (simp; omega) | omega) _) | (with_reducible refine Below.alloc ?_ (by first | (simp; done) | (simp; omega) | omega) _) | (with_reducible refine below_drewN ?_ _) | (refine Below.trans ?_ (Below.mono (by with_reducible assumption) (by first | (simp; done) | (simp; omega) | omega))))))) rfl rfl (by first | rfl | simp) rfl rfl (by omega) (by omega) (by simp; omega) ?_; intro g5 c5 w6 hown6 hg6 hat6)
      go_roundw
      case rel =>
        refine ⟨k + 1, HLK.out, by simp, Lib.hid ?_, ?_⟩
        · rw [← Nat.add_assoc, HT.out]
          exact OwnOf.snoc (l := D) (x := ((i : Int), p0, p1, p2)) (enc := encEl) (by simpa [encEl] using hown6) rfl
        · exact below_push (show Below w1.heap.size w1 _ from hb2.trans (show Below w1.heap.size wr _ from (by repeat (first | (with_reducible exact Below.refl _ _) | (with_reducible assumption) | (with_reducible refine Below.drew ?_) | (with_reducible refine Below.setCell ?_ (by first | (simp; done) | (simp; omega) | omega) _) | (with_reducible refine Below.alloc ?_ (by first | (simp; done) | (simp; omega) | omega) _) | (with_reducible refine below_drewN ?_ _) | (refine Below.trans ?_ (Below.mono (by with_reducible assumption) (by first | (simp; done) | (simp; omega) | omega))))))) (HO2.out.kept (show Below wr.heap.size wr _ from (by repeat (first | (with_reducible exact Below.refl _ _) | (with_reducible assumption) | (with_reducible refine Below.drew ?_) | (with_reducible refine Below.setCell ?_ (by first | (simp; done) | (simp; omega) | omega) _) | (with_reducible refine Below.alloc ?_ (by first | (simp; done) | (simp; omega) | omega) _) | (with_reducible refine below_drewN ?_ _) | (refine Below.trans ?_ (Below.mono (by with_reducible assumption) (by first | (simp; done) | (simp; omega) | omega))))))) (by omega) (by simp; omega) hg6
      case measure => simp only [intOf]; have := HLK.out; omega
theorem off_get2 {r : RecD} {s : SchedD} (h : schedB r s = true) (v : Nat) : 0 ≤ s.off.getD v 0 ∧ s.off.getD v 0 ≤ 1000 := off_get h v
theorem rdot_D {r : RecD} {s : SchedD} (hv : validR r.n r.l r.vars = true) (hsb : schedB r s = true) {p : P3} (hp : p ∈ ptsL r.n r.l) (w : World) :
    Calls Tryz.prog 96 #[.agg #[.int .i64 s.f.1, .int .i64 s.f.2.1, .int .i64 s.f.2.2], .agg #[.int .i64 p.1, .int .i64 p.2.1, .int .i64 p.2.2]] w fun e w' => e = .returned (.int .i64 (dot3 s.f p)) ∧ Below w.heap.size w w' := by
  obtain ⟨f0, f1, f2⟩ := form_sm hsb
  obtain ⟨p0, p1, p2⟩ := pts_sm hv hp
  have := sm_mul f0 p0; have := sm_mul f1 p1; have := sm_mul f2 p2
  exact rdot_l _ _ _ _ _ _ (by omega) (by omega) (by omega) w
set_option maxHeartbeats 4000000 in
set_option maxRecDepth 100000 in
theorem rtimeOf_l (r : RecD) (s : SchedD) (hvr : validR r.n r.l r.vars = true) (hsb : schedB r s = true) (e : ElD) (he : e ∈ elsL r) (w : World) (hs : SchedRd w s) :
    Calls Tryz.prog 99 #[.agg #[.int .i64 s.f.1, .int .i64 s.f.2.1, .int .i64 s.f.2.2, s.ov], .agg #[.int .i64 e.1, .int .i64 e.2.1, .int .i64 e.2.2.1, .int .i64 e.2.2.2]] w fun z w' => z = .returned (.int .i64 (timeE s e)) ∧ Below w.heap.size w w' := by
  obtain ⟨v, hv, hev, hp⟩ := mem_elsL he
  obtain ⟨ev, p⟩ := e
  simp only at hev hp
  subst hev
  have hso := off_bd hsb
  have hog := off_get hsb v
  have hdb := dots_bd hvr hsb hp
  have hvl : v < s.off.length := by omega
  obtain ⟨oa, oc, og, oo, hoe, hol, hom, hox⟩ := SlOf.at (enc := encInt) (fun _ => rfl) un_sf1 sz_sf1 hs
  obtain ⟨-, hoi, hog2, hoc⟩ := hox v hvl
  have o0 := hoc 0 (Nat.lt_succ_self 0)
  have hget : s.off.getD v 0 = s.off[v] := by rw [List.getD_eq_getElem?_getD, List.getElem?_eq_getElem hvl]; rfl
  rw [← hget] at o0
  have HD := Lib.hid (fun (W : World) => rdot_D hvr hsb hp W)
  have HE := Lib.hid (show timeE s ((v : Int), p) = dot3 s.f p + s.off.getD v 0 from rfl)
  rw [HE.out]
  clear he hp hget HE hox hoc hs hso hvr hsb
  rw [hoe]
  clear hoe
  generalize dot3 s.f p = d at *
  generalize s.off.getD v 0 = o at *
  generalize s.off.length = no at *
  have o1 : w.cell? ⟨og, oo + v, none⟩ = some (.int .i64 o) := by simpa [encInt] using o0
  have hoi2 : ∀ W, (Instr.indexAt 30 (.slice oa no oc) (.int .i64 (v : Int))).run Tryz.prog W = .ok (.pointer (some ⟨og, oo + v, none⟩)) W := fun W => by simpa using hoi W
  clear o0 hoi
  have VD := Lib.hid (show ∀ V, Below w.heap.size w V → V.cell? ⟨og, oo + v, none⟩ = some (.int .i64 o) from fun V h => (h.cell (p := ⟨og, oo + v, none⟩) hog2).trans (by assumption))
  clear o1
  obtain ⟨W0, hW0⟩ : ∃ W : World, (w.alloc (Obj.cells #[.int .i64 s.f.1, .int .i64 s.f.2.1, .int .i64 s.f.2.2, .slice oa no oc] 32)).alloc (Obj.cells #[.int .i64 (v : Int), .int .i64 p.1, .int .i64 p.2.1, .int .i64 p.2.2] 55) = W := ⟨_, rfl⟩
  have kw0 : Below w.heap.size w W0 := by rw [← hW0]; exact (by repeat (first | exact Below.refl _ _ | assumption | (refine Below.drew ?_) | (refine below_drewN ?_ _) | (refine Below.alloc ?_ (by first | (simp; done) | (simp; omega) | omega) _) | (refine Below.setCell ?_ (by first | (simp; done) | (simp; omega) | omega) _) | (refine Below.trans ?_ (Below.mono (by assumption) (by first | (simp; done) | (simp; omega) | omega)))))
  have ks0 : W0.heap.size = w.heap.size + 2 := by rw [← hW0]; simp
  have RD0 := Lib.hid (show ∀ V, Below W0.heap.size W0 V → V.cell? ⟨w.heap.size, 0, none⟩ = some (.int .i64 s.f.1) ∧ V.cell? ⟨w.heap.size, 1, none⟩ = some (.int .i64 s.f.2.1) ∧ V.cell? ⟨w.heap.size, 2, none⟩ = some (.int .i64 s.f.2.2) ∧ V.cell? ⟨w.heap.size, 3, none⟩ = some (.slice oa no oc) ∧ V.cell? ⟨w.heap.size + 1, 0, none⟩ = some (.int .i64 (v : Int)) ∧ V.cell? ⟨w.heap.size + 1, 1, none⟩ = some (.int .i64 p.1) ∧ V.cell? ⟨w.heap.size + 1, 2, none⟩ = some (.int .i64 p.2.1) ∧ V.cell? ⟨w.heap.size + 1, 3, none⟩ = some (.int .i64 p.2.2) from fun V h => by
      refine ⟨(h.cell (p := ⟨w.heap.size, 0, none⟩) (by simp; omega)).trans ?_, (h.cell (p := ⟨w.heap.size, 1, none⟩) (by simp; omega)).trans ?_, (h.cell (p := ⟨w.heap.size, 2, none⟩) (by simp; omega)).trans ?_, (h.cell (p := ⟨w.heap.size, 3, none⟩) (by simp; omega)).trans ?_, (h.cell (p := ⟨w.heap.size + 1, 0, none⟩) (by simp; omega)).trans ?_, (h.cell (p := ⟨w.heap.size + 1, 1, none⟩) (by simp; omega)).trans ?_, (h.cell (p := ⟨w.heap.size + 1, 2, none⟩) (by simp; omega)).trans ?_, (h.cell (p := ⟨w.heap.size + 1, 3, none⟩) (by simp; omega)).trans ?_⟩ <;> (subst hW0; go_simp))
  have HW0 := Lib.hid hW0; have KW0 := Lib.hid kw0; clear hW0 kw0
  have hsW : w.heap.size ≤ W0.heap.size := by omega
  have hsum : IntKind.i64.wrap (d + o) = d + o := by rw [IntKind.wrap_i64]; omega
  go_enter Tryz.func99, Tryz.ntmps99
  go_wp2_with fail
  rw [HW0.out]
  go_region_held3 (fun w' => Below W0.heap.size W0 w' ∧ (w'.cell? ⟨w.heap.size, 0, none⟩ = some (.int .i64 s.f.1) ∧ w'.cell? ⟨w.heap.size, 1, none⟩ = some (.int .i64 s.f.2.1) ∧ w'.cell? ⟨w.heap.size, 2, none⟩ = some (.int .i64 s.f.2.2) ∧ w'.cell? ⟨w.heap.size, 3, none⟩ = some (.slice oa no oc) ∧ w'.cell? ⟨w.heap.size + 1, 0, none⟩ = some (.int .i64 (v : Int)) ∧ w'.cell? ⟨w.heap.size + 1, 1, none⟩ = some (.int .i64 p.1) ∧ w'.cell? ⟨w.heap.size + 1, 2, none⟩ = some (.int .i64 p.2.1) ∧ w'.cell? ⟨w.heap.size + 1, 3, none⟩ = some (.int .i64 p.2.2)) ∧ (w'.cell? ⟨og, oo + v, none⟩ = some (.int .i64 o))) (((refine (fun kb => (⟨kb, RD0.out _ kb, VD.out _ (below_at KW0.out hsW kb)⟩)) (?_ : Below W0.heap.size W0 _); exact (by repeat (first | (with_reducible exact Below.refl _ _) | (with_reducible assumption) | (with_reducible refine Below.drew ?_) | (with_reducible refine Below.setCell ?_ (by first | (simp; done) | (simp; omega) | omega) _) | (with_reducible refine Below.alloc ?_ (by first | (simp; done) | (simp; omega) | omega) _) | (with_reducible refine below_drewN ?_ _) | (refine Below.trans ?_ (Below.mono (by with_reducible assumption) (by first | (simp; done) | (simp; omega) | omega)))))))) (first | (go_at_call 96; refine (HD.out _).mono ?_; go_must (rintro e w5 ⟨rfl, hb5⟩; have hs5 := hb5.size; (try simp at hs5))))
  all_goals
    go_wp2
    refine bodyPost_ret (v := .int .i64 (d + o)) (by simp only [results, Tryz.results99]; first | (go_simp; done) | (go_simp; rfl)) rfl ⟨rfl, KW0.out.trans (Below.mono (show Below W0.heap.size W0 _ from (by repeat (first | (with_reducible exact Below.refl _ _) | (with_reducible assumption) | (with_reducible refine Below.drew ?_) | (with_reducible refine Below.setCell ?_ (by first | (simp; done) | (simp; omega) | omega) _) | (with_reducible refine Below.alloc ?_ (by first | (simp; done) | (simp; omega) | omega) _) | (with_reducible refine below_drewN ?_ _) | (refine Below.trans ?_ (Below.mono (by with_reducible assumption) (by first | (simp; done) | (simp; omega) | omega)))))) hsW)⟩
theorem un_elz : Tryz.prog.underlying 173 = some (.slice (Tryz.prog.elem 173)) := by kernel_rfl
theorem sz_elz (W : World) : (sizeOf (Tryz.prog.elem 173)).run Tryz.prog W = .ok 4 W := by kernel_rfl
theorem timesL_bd {r : RecD} {s : SchedD} (hv : validR r.n r.l r.vars = true) (hsb : schedB r s = true) {t : Int} (h : t ∈ timesL r s) : -540 ≤ t ∧ t ≤ 1540 := by
  have hso := off_bd hsb
  obtain ⟨d, hd, o, ho, rfl⟩ := (mem_timesL hso.1).1 h
  have := dots_bd2 hv hsb hd
  have := hso.2 _ ho
  omega
set_option maxHeartbeats 4000000 in
set_option maxRecDepth 100000 in
theorem rSpan_l (r : RecD) (s : SchedD) (w : World) (hr : RecRd w r) (hs : SchedRd w s) :
    Calls Tryz.prog 62 #[.agg #[.int .i64 r.n, r.lv, r.vv], .agg #[.int .i64 s.f.1, .int .i64 s.f.2.1, .int .i64 s.f.2.2, s.ov]] w fun e w' => e = .returned (spanV r s) ∧ Below w.heap.size w w' := by
  have HR := Lib.hid hr
  have HS := Lib.hid hs
  clear hr hs
  have HAS := Lib.hid (fun (W : World) (h1 : RecRd W r) (h2 : SchedRd W s) => rAskedD_l r s W h1 h2)
  obtain ⟨W0, hW0⟩ : ∃ W : World, (w.alloc (Obj.cells #[.int .i64 r.n, r.lv, r.vv] 27)).alloc (Obj.cells #[.int .i64 s.f.1, .int .i64 s.f.2.1, .int .i64 s.f.2.2, s.ov] 32) = W := ⟨_, rfl⟩
  have kw0 : Below w.heap.size w W0 := by rw [← hW0]; exact (by repeat (first | exact Below.refl _ _ | assumption | (refine Below.drew ?_) | (refine below_drewN ?_ _) | (refine Below.alloc ?_ (by first | (simp; done) | (simp; omega) | omega) _) | (refine Below.setCell ?_ (by first | (simp; done) | (simp; omega) | omega) _) | (refine Below.trans ?_ (Below.mono (by assumption) (by first | (simp; done) | (simp; omega) | omega)))))
  have ks0 : W0.heap.size = w.heap.size + 2 := by rw [← hW0]; simp
  have RD0 := Lib.hid (show ∀ V, Below W0.heap.size W0 V → V.cell? ⟨w.heap.size, 0, none⟩ = some (.int .i64 r.n) ∧ V.cell? ⟨w.heap.size, 1, none⟩ = some (r.lv) ∧ V.cell? ⟨w.heap.size, 2, none⟩ = some (r.vv) ∧ V.cell? ⟨w.heap.size + 1, 0, none⟩ = some (.int .i64 s.f.1) ∧ V.cell? ⟨w.heap.size + 1, 1, none⟩ = some (.int .i64 s.f.2.1) ∧ V.cell? ⟨w.heap.size + 1, 2, none⟩ = some (.int .i64 s.f.2.2) ∧ V.cell? ⟨w.heap.size + 1, 3, none⟩ = some (s.ov) from fun V h => by
      refine ⟨(h.cell (p := ⟨w.heap.size, 0, none⟩) (by simp; omega)).trans ?_, (h.cell (p := ⟨w.heap.size, 1, none⟩) (by simp; omega)).trans ?_, (h.cell (p := ⟨w.heap.size, 2, none⟩) (by simp; omega)).trans ?_, (h.cell (p := ⟨w.heap.size + 1, 0, none⟩) (by simp; omega)).trans ?_, (h.cell (p := ⟨w.heap.size + 1, 1, none⟩) (by simp; omega)).trans ?_, (h.cell (p := ⟨w.heap.size + 1, 2, none⟩) (by simp; omega)).trans ?_, (h.cell (p := ⟨w.heap.size + 1, 3, none⟩) (by simp; omega)).trans ?_⟩ <;> (subst hW0; go_simp))
  have HW0 := Lib.hid hW0; have KW0 := Lib.hid kw0; clear hW0 kw0
  by_cases ha : askD r s = 0
  rotate_left
  · have hnz : (askD r s != 0) = true := by simpa using ha
    have HV := Lib.hid (show spanV r s = .tuple #[.int .i64 0, .int .i64 0, .int .i64 (askD r s)] by unfold spanV latErr; rw [if_neg ha, if_neg ha])
    clear ha
    rw [HV.out]
    generalize askD r s = A at *
    go_enter Tryz.func62, Tryz.ntmps62
    go_wp2_with (go_at_call 97; rw [HW0.out]; refine (HAS.out _ (HR.out.below KW0.out) (HS.out.below KW0.out)).mono ?_; go_must (rintro e w1 ⟨rfl, hb1⟩; have K0 := hb1; have HB1 := Lib.hid hb1; clear hb1; obtain ⟨k0_0, k0_1, k0_2, k0_3, k0_4, k0_5, k0_6⟩ := RD0.out _ K0; skip))
    go_ret3
    exact ⟨rfl, (KW0.out.trans (K0.mono (by omega)))⟩
  have hao := askD_out ha
  have hvo := validR_out hao.1
  rw [ha] at HAS
  have HEL := Lib.hid (fun (W : World) (h : RecRd W r) => relements_l r hao.1 W h)
  have HEX := Lib.hid (fun (e : Ending) (w' : World) (h : ElsR r e w') => show ∃ v, e = .returned v ∧ SlOf w' w'.heap.size 4 encEl v (elsL r) from h)
  by_cases hn : (ptsL r.n r.l).length = 0
  · have HV := Lib.hid (show spanV r s = .tuple #[.int .i64 0, .int .i64 0, .int .i64 5] by unfold spanV latErr; rw [if_pos ha, if_pos hn]; rfl)
    have hel : (elsL r).length = 0 := by rw [elsL_len, hn, Nat.mul_zero]
    rw [HV.out]
    clear ha hao hvo hn
    generalize elsL r = L at *
    obtain rfl : L = [] := List.eq_nil_of_length_eq_zero hel
    clear hel
    go_enter Tryz.func62, Tryz.ntmps62
    go_wp2_with (first | (go_at_call 97; rw [HW0.out]; refine (HAS.out _ (HR.out.below KW0.out) (HS.out.below KW0.out)).mono ?_; go_must (rintro e w1 ⟨rfl, hb1⟩; have K0 := hb1; have HB1 := Lib.hid hb1; clear hb1; obtain ⟨k0_0, k0_1, k0_2, k0_3, k0_4, k0_5, k0_6⟩ := RD0.out _ K0; skip)) | (go_at_call 98; refine (HEL.out _ (HR.out.below (KW0.out.trans (K0.mono (by omega))))).mono ?_; go_must (rintro e w2 ⟨he, hb2⟩; have K' := (by first | exact below_at K0 (by have := K0.size; omega) hb2 | exact below_at K0 (by have := K0.size; omega) (by repeat (first | exact Below.refl _ _ | assumption | (refine Below.drew ?_) | (refine below_drewN ?_ _) | (refine Below.alloc ?_ (by first | (simp; done) | (simp; omega) | omega) _) | (refine Below.setCell ?_ (by first | (simp; done) | (simp; omega) | omega) _) | (refine Below.trans ?_ (Below.mono (by assumption) (by first | (simp; done) | (simp; omega) | omega))))) : Below W0.heap.size W0 w2); have HB2 := Lib.hid hb2; clear K0 hb2; (try clear k0_0); (try clear k0_1); (try clear k0_2); (try clear k0_3); (try clear k0_4); (try clear k0_5); (try clear k0_6); have K0 := K'; clear K'; obtain ⟨k0_0, k0_1, k0_2, k0_3, k0_4, k0_5, k0_6⟩ := RD0.out _ K0; obtain ⟨pv, rfl, hpv⟩ := HEX.out _ _ he; obtain ⟨pa, pc, hpe, -⟩ := hpv.shape; subst hpe; clear hpv)))
    go_ret3
    exact ⟨rfl, (KW0.out.trans (K0.mono (by omega)))⟩
  have HV := Lib.hid (show spanV r s = .tuple #[.int .i64 (loT r s), .int .i64 (hiT r s), .int .i64 0] by unfold spanV latErr; rw [if_pos ha, if_neg hn]; rfl)
  rw [HV.out]
  have hne : 0 < (elsL r).length := by rw [elsL_len]; exact Nat.mul_pos (by have := hvo.2.2.1; omega) (by omega)
  have hdn : dotsL r s ≠ [] := by
    intro e; have := congrArg List.length e; unfold dotsL at this; simp at this; exact hn (by rw [this]; rfl)
  have hso := off_bd hao.2
  have hon : s.off ≠ [] := List.ne_nil_of_length_pos (by have := hvo.2.2.1; omega)
  have HLO := Lib.hid (show loT r s = minI ((elsL r).map (timeE s)) by rw [elsL_times]; exact (loT_eq hso.1 hdn hon).symm)
  have HHI := Lib.hid (show hiT r s = maxI ((elsL r).map (timeE s)) by rw [elsL_times]; exact (hiT_eq hso.1 hdn hon).symm)
  have HTM := Lib.hid (fun (e : ElD) (he : e ∈ elsL r) (W : World) (h : SchedRd W s) => rtimeOf_l r s hao.1 hao.2 e he W h)
  have hL1 : (elsL r).length ≤ 4000 := by rw [elsL_len]; exact Nat.mul_le_mul hvo.2.2.1.2 hvo.2.1
  clear ha hao hvo hn hdn hso hon
  generalize loT r s = lo at *
  generalize hiT r s = hi at *
  generalize elsL r = L at *
  generalize timeE s = F at *
  have hn2 : ((L.length : Int) == 0) = false := by rw [beq_eq_false_iff_ne]; omega
  have hn3 : (L.length == 0) = false := by rw [beq_eq_false_iff_ne]; omega
  have HN := Lib.hid hne
  go_enter Tryz.func62, Tryz.ntmps62
  go_wp2_with (first | (go_at_call 97; rw [HW0.out]; refine (HAS.out _ (HR.out.below KW0.out) (HS.out.below KW0.out)).mono ?_; go_must (rintro e w1 ⟨rfl, hb1⟩; have K0 := hb1; have HB1 := Lib.hid hb1; clear hb1; obtain ⟨k0_0, k0_1, k0_2, k0_3, k0_4, k0_5, k0_6⟩ := RD0.out _ K0; skip)) | (go_at_call 98; refine (HEL.out _ (HR.out.below (KW0.out.trans (K0.mono (by omega))))).mono ?_; go_must (rintro e w2 ⟨he, hb2⟩; have K' := (by first | exact below_at K0 (by have := K0.size; omega) hb2 | exact below_at K0 (by have := K0.size; omega) (by repeat (first | exact Below.refl _ _ | assumption | (refine Below.drew ?_) | (refine below_drewN ?_ _) | (refine Below.alloc ?_ (by first | (simp; done) | (simp; omega) | omega) _) | (refine Below.setCell ?_ (by first | (simp; done) | (simp; omega) | omega) _) | (refine Below.trans ?_ (Below.mono (by assumption) (by first | (simp; done) | (simp; omega) | omega))))) : Below W0.heap.size W0 w2); have HB2 := Lib.hid hb2; clear K0 hb2; (try clear k0_0); (try clear k0_1); (try clear k0_2); (try clear k0_3); (try clear k0_4); (try clear k0_5); (try clear k0_6); have K0 := K'; clear K'; obtain ⟨k0_0, k0_1, k0_2, k0_3, k0_4, k0_5, k0_6⟩ := RD0.out _ K0; obtain ⟨pv, rfl, hpv⟩ := HEX.out _ _ he; obtain ⟨qa, qc, g, off, rfl, hlc, hcm, hx⟩ := SlOf.at (enc := encEl) (fun _ => rfl) un_elz sz_elz hpv; obtain ⟨-, hi0, hg, hc0⟩ := hx 0 HN.out; have HX := Lib.hid hx; have hi00 : ∀ W, (Instr.indexAt 173 (.slice qa L.length qc) (.int .i64 0)).run Tryz.prog W = .ok (.pointer (some ⟨g, off, none⟩)) W := (fun W => by simpa using hi0 W); clear hx hpv)))
  unfold maxLen at hcm
  have hs2 := K0.size
  have HKA := Lib.hid K0; clear K0
  have hsW : w.heap.size ≤ W0.heap.size := by omega
  have PC0 := Lib.hid (show ∀ V, Below w2.heap.size w2 V → V.cell? ⟨g, off, none⟩ = some (.int .i64 L[0].1) ∧ V.cell? ⟨g, off + 1, none⟩ = some (.int .i64 L[0].2.1) ∧ V.cell? ⟨g, off + 2, none⟩ = some (.int .i64 L[0].2.2.1) ∧ V.cell? ⟨g, off + 3, none⟩ = some (.int .i64 L[0].2.2.2) from fun V h => ⟨(h.cell (p := ⟨g, off, none⟩) hg).trans (hc0 0 (by omega)), (h.cell (p := ⟨g, off + 1, none⟩) hg).trans (hc0 1 (by omega)), (h.cell (p := ⟨g, off + 2, none⟩) hg).trans (hc0 2 (by omega)), (h.cell (p := ⟨g, off + 3, none⟩) hg).trans (hc0 3 (by omega))⟩)
  have HT0 := Lib.hid (fun (W : World) (h : Below w2.heap.size w2 W) => HTM.out L[0] (List.getElem_mem hne) W (HS.out.below (below_at (KW0.out.trans (HKA.out.mono hsW)) (by omega) h)))
  have HD0 := Lib.hid (show F L[0] ∈ L.map F from List.mem_map_of_mem (List.getElem_mem hne))
  clear hc0 hi0
  generalize hF0 : F L[0] = d0 at *
  clear hF0
  generalize L[0] = e0 at *
  obtain ⟨ev, ep0, ep1, ep2⟩ := e0
  simp only at PC0 HT0
  have S1 := Lib.hid (show ∀ V, Below w2.heap.size w2 V → Below w2.heap.size w2 V ∧ (V.cell? ⟨w.heap.size, 0, none⟩ = some (.int .i64 r.n) ∧ V.cell? ⟨w.heap.size, 1, none⟩ = some (r.lv) ∧ V.cell? ⟨w.heap.size, 2, none⟩ = some (r.vv) ∧ V.cell? ⟨w.heap.size + 1, 0, none⟩ = some (.int .i64 s.f.1) ∧ V.cell? ⟨w.heap.size + 1, 1, none⟩ = some (.int .i64 s.f.2.1) ∧ V.cell? ⟨w.heap.size + 1, 2, none⟩ = some (.int .i64 s.f.2.2) ∧ V.cell? ⟨w.heap.size + 1, 3, none⟩ = some (s.ov)) ∧ V.cell? ⟨g, off, none⟩ = some (.int .i64 ev) ∧ V.cell? ⟨g, off + 1, none⟩ = some (.int .i64 ep0) ∧ V.cell? ⟨g, off + 2, none⟩ = some (.int .i64 ep1) ∧ V.cell? ⟨g, off + 3, none⟩ = some (.int .i64 ep2) from fun V h => ⟨h, RD0.out V (below_at HKA.out hs2 h), PC0.out V h⟩)
  (try clear k0_0); (try clear k0_1); (try clear k0_2); (try clear k0_3); (try clear k0_4); (try clear k0_5); (try clear k0_6)
  go_region_held3 (fun w' => Below w2.heap.size w2 w' ∧ (w'.cell? ⟨w.heap.size, 0, none⟩ = some (.int .i64 r.n) ∧ w'.cell? ⟨w.heap.size, 1, none⟩ = some (r.lv) ∧ w'.cell? ⟨w.heap.size, 2, none⟩ = some (r.vv) ∧ w'.cell? ⟨w.heap.size + 1, 0, none⟩ = some (.int .i64 s.f.1) ∧ w'.cell? ⟨w.heap.size + 1, 1, none⟩ = some (.int .i64 s.f.2.1) ∧ w'.cell? ⟨w.heap.size + 1, 2, none⟩ = some (.int .i64 s.f.2.2) ∧ w'.cell? ⟨w.heap.size + 1, 3, none⟩ = some (s.ov)) ∧ w'.cell? ⟨g, off, none⟩ = some (.int .i64 ev) ∧ w'.cell? ⟨g, off + 1, none⟩ = some (.int .i64 ep0) ∧ w'.cell? ⟨g, off + 2, none⟩ = some (.int .i64 ep1) ∧ w'.cell? ⟨g, off + 3, none⟩ = some (.int .i64 ep2)) ((refine S1.out _ ?_; exact (by repeat (first | (with_reducible exact Below.refl _ _) | (with_reducible assumption) | (with_reducible refine Below.drew ?_) | (with_reducible refine Below.setCell ?_ (by first | (simp; done) | (simp; omega) | omega) _) | (with_reducible refine Below.alloc ?_ (by first | (simp; done) | (simp; omega) | omega) _) | (with_reducible refine below_drewN ?_ _) | (refine Below.trans ?_ (Below.mono (by with_reducible assumption) (by first | (simp; done) | (simp; omega) | omega))))))) (first | (go_at_call 99; refine (HT0.out _ (show Below w2.heap.size w2 _ from (by repeat (first | (with_reducible exact Below.refl _ _) | (with_reducible assumption) | (with_reducible refine Below.drew ?_) | (with_reducible refine Below.setCell ?_ (by first | (simp; done) | (simp; omega) | omega) _) | (with_reducible refine Below.alloc ?_ (by first | (simp; done) | (simp; omega) | omega) _) | (with_reducible refine below_drewN ?_ _) | (refine Below.trans ?_ (Below.mono (by with_reducible assumption) (by first | (simp; done) | (simp; omega) | omega))))))).mono ?_; go_must (rintro e w5 ⟨rfl, hb5⟩; have hs5 := hb5.size; (try simp at hs5))))
  all_goals
    go_wp2
    refine forgetW (fun V => Below w2.heap.size w2 V) (by first | exact (by repeat (first | (with_reducible exact Below.refl _ _) | (with_reducible assumption) | (with_reducible refine Below.drew ?_) | (with_reducible refine Below.setCell ?_ (by first | (simp; done) | (simp; omega) | omega) _) | (with_reducible refine Below.alloc ?_ (by first | (simp; done) | (simp; omega) | omega) _) | (with_reducible refine below_drewN ?_ _) | (refine Below.trans ?_ (Below.mono (by with_reducible assumption) (by first | (simp; done) | (simp; omega) | omega)))))) ?_
    intro w3 hb3
    have hs3 := hb3.size
    have HBA := Lib.hid (below_at HKA.out hs2 hb3)
    have HBP := Lib.hid hb3
    clear hb3
    clear HAS HEL HEX HT0 PC0 S1
    go_loopw [4, 5, 34] (fun t4 t5 t34 wr => ∃ k : Nat, k ≤ L.length ∧ t34 = .int .i64 (k : Nat) ∧ t4 = .int .i64 (minI (d0 :: (L.take k).map F)) ∧ t5 = .int .i64 (maxI (d0 :: (L.take k).map F)) ∧ Below w3.heap.size w3 wr) (fun _ _ t34 _ => L.length - (intOf t34).toNat)
    case atStart => exact ⟨0, Nat.zero_le _, rfl, rfl, rfl, Below.refl _ _⟩
    case round =>
      obtain ⟨k, hk, rfl, rfl, rfl, hb⟩ := hrel
      have hsr := hb.size
      by_cases hlt : k < L.length
      rotate_left
      · have hke : L.take k = L := List.take_of_length_le (by omega)
        rw [hke, minI_again HD0.out, maxI_again HD0.out]
        clear hke
        have HL2 := Lib.hid HLO.out; have HH2 := Lib.hid HHI.out
        generalize minI (L.map F) = m1 at *
        generalize maxI (L.map F) = m2 at *
        go_wp2
        refine bodyPost_ret (v := .tuple #[.int .i64 m1, .int .i64 m2, .int .i64 0]) (by simp only [results, Tryz.results62]; first | (go_simp; done) | (go_simp; rfl)) rfl ⟨by rw [HL2.out, HH2.out], below_at (KW0.out.trans (HBA.out.mono hsW)) (by omega) hb⟩
      obtain ⟨-, hii, hg2, hc⟩ := HX.out k hlt
      have rd := fun j hj => ((HBP.out.trans (hb.mono hs3)).cell (p := ⟨g, off + 4 * k + j, none⟩) hg2).trans (hc j hj)
      clear hc
      have hmem := List.getElem_mem hlt
      have HTK := Lib.hid (fun (W : World) (h : Below w3.heap.size w3 W) => HTM.out L[k] hmem W (HS.out.below (below_at (KW0.out.trans (HBA.out.mono hsW)) (by omega) h)))
      clear hmem
      have HM1 := Lib.hid (show minI (d0 :: (L.take (k + 1)).map F) = min (minI (d0 :: (L.take k).map F)) (F L[k]) by
        rw [List.take_succ_eq_append_getElem hlt, List.map_append, ← List.cons_append]; exact minI_snoc (by simp) _)
      have HM2 := Lib.hid (show maxI (d0 :: (L.take (k + 1)).map F) = max (maxI (d0 :: (L.take k).map F)) (F L[k]) by
        rw [List.take_succ_eq_append_getElem hlt, List.map_append, ← List.cons_append]; exact maxI_snoc (by simp) _)
      have HLT := Lib.hid hlt
      generalize minI (d0 :: (L.take k).map F) = m1 at *
      generalize maxI (d0 :: (L.take k).map F) = m2 at *
      generalize F L[k] = dk at *
      generalize L[k] = e at *
      obtain ⟨xv, x0, x1, x2⟩ := e
      simp only at HTK
      have r0 : wr.cell? ⟨g, off + 4 * k, none⟩ = some (.int .i64 xv) := rd 0 (by omega)
      have r1 : wr.cell? ⟨g, off + 4 * k + 1, none⟩ = some (.int .i64 x0) := rd 1 (by omega)
      have r2 : wr.cell? ⟨g, off + 4 * k + 2, none⟩ = some (.int .i64 x1) := rd 2 (by omega)
      have r3 : wr.cell? ⟨g, off + 4 * k + 3, none⟩ = some (.int .i64 x2) := rd 3 (by omega)
      clear rd
      obtain ⟨W1, hW1⟩ : ∃ W : World, wr.alloc (Obj.cells #[.int .i64 xv, .int .i64 x0, .int .i64 x1, .int .i64 x2] 55) = W := ⟨_, rfl⟩
      have kw1 : Below wr.heap.size wr W1 := by rw [← hW1]; exact (by repeat (first | exact Below.refl _ _ | assumption | (refine Below.drew ?_) | (refine below_drewN ?_ _) | (refine Below.alloc ?_ (by first | (simp; done) | (simp; omega) | omega) _) | (refine Below.setCell ?_ (by first | (simp; done) | (simp; omega) | omega) _) | (refine Below.trans ?_ (Below.mono (by assumption) (by first | (simp; done) | (simp; omega) | omega)))))
      have ks1 : W1.heap.size = wr.heap.size + 1 := by rw [← hW1]; simp
      have RD1 := Lib.hid (show ∀ V, Below W1.heap.size W1 V → V.cell? ⟨wr.heap.size, 0, none⟩ = some (.int .i64 xv) ∧ V.cell? ⟨wr.heap.size, 1, none⟩ = some (.int .i64 x0) ∧ V.cell? ⟨wr.heap.size, 2, none⟩ = some (.int .i64 x1) ∧ V.cell? ⟨wr.heap.size, 3, none⟩ = some (.int .i64 x2) from fun V h => by
          refine ⟨(h.cell (p := ⟨wr.heap.size, 0, none⟩) (by simp; omega)).trans ?_, (h.cell (p := ⟨wr.heap.size, 1, none⟩) (by simp; omega)).trans ?_, (h.cell (p := ⟨wr.heap.size, 2, none⟩) (by simp; omega)).trans ?_, (h.cell (p := ⟨wr.heap.size, 3, none⟩) (by simp; omega)).trans ?_⟩ <;> (subst hW1; go_simp))
      have HW1 := Lib.hid hW1; have KW1 := Lib.hid kw1; clear hW1 kw1
      have hsx : wr.heap.size ≤ W1.heap.size := by omega
      have S2 := Lib.hid (show ∀ V, Below W1.heap.size W1 V → Below W1.heap.size W1 V ∧ (V.cell? ⟨w.heap.size, 0, none⟩ = some (.int .i64 r.n) ∧ V.cell? ⟨w.heap.size, 1, none⟩ = some (r.lv) ∧ V.cell? ⟨w.heap.size, 2, none⟩ = some (r.vv) ∧ V.cell? ⟨w.heap.size + 1, 0, none⟩ = some (.int .i64 s.f.1) ∧ V.cell? ⟨w.heap.size + 1, 1, none⟩ = some (.int .i64 s.f.2.1) ∧ V.cell? ⟨w.heap.size + 1, 2, none⟩ = some (.int .i64 s.f.2.2) ∧ V.cell? ⟨w.heap.size + 1, 3, none⟩ = some (s.ov)) ∧ (V.cell? ⟨wr.heap.size, 0, none⟩ = some (.int .i64 xv) ∧ V.cell? ⟨wr.heap.size, 1, none⟩ = some (.int .i64 x0) ∧ V.cell? ⟨wr.heap.size, 2, none⟩ = some (.int .i64 x1) ∧ V.cell? ⟨wr.heap.size, 3, none⟩ = some (.int .i64 x2)) from fun V h => ⟨h, RD0.out V (below_at (below_at HBA.out (by omega) hb) (by omega) (below_at KW1.out hsx h)), RD1.out V h⟩)
      go_wp2_with fail
      rw [HW1.out]
      go_region_held3 (fun w' => Below W1.heap.size W1 w' ∧ (w'.cell? ⟨w.heap.size, 0, none⟩ = some (.int .i64 r.n) ∧ w'.cell? ⟨w.heap.size, 1, none⟩ = some (r.lv) ∧ w'.cell? ⟨w.heap.size, 2, none⟩ = some (r.vv) ∧ w'.cell? ⟨w.heap.size + 1, 0, none⟩ = some (.int .i64 s.f.1) ∧ w'.cell? ⟨w.heap.size + 1, 1, none⟩ = some (.int .i64 s.f.2.1) ∧ w'.cell? ⟨w.heap.size + 1, 2, none⟩ = some (.int .i64 s.f.2.2) ∧ w'.cell? ⟨w.heap.size + 1, 3, none⟩ = some (s.ov)) ∧ (w'.cell? ⟨wr.heap.size, 0, none⟩ = some (.int .i64 xv) ∧ w'.cell? ⟨wr.heap.size, 1, none⟩ = some (.int .i64 x0) ∧ w'.cell? ⟨wr.heap.size, 2, none⟩ = some (.int .i64 x1) ∧ w'.cell? ⟨wr.heap.size, 3, none⟩ = some (.int .i64 x2))) ((refine S2.out _ ?_; exact (by repeat (first | (with_reducible exact Below.refl _ _) | (with_reducible assumption) | (with_reducible refine Below.drew ?_) | (with_reducible refine Below.setCell ?_ (by first | (simp; done) | (simp; omega) | omega) _) | (with_reducible refine Below.alloc ?_ (by first | (simp; done) | (simp; omega) | omega) _) | (with_reducible refine below_drewN ?_ _) | (refine Below.trans ?_ (Below.mono (by with_reducible assumption) (by first | (simp; done) | (simp; omega) | omega))))))) (first | (go_at_call 99; refine (HTK.out _ (below_at hb hsr (below_at KW1.out hsx (show Below W1.heap.size W1 _ from (by repeat (first | (with_reducible exact Below.refl _ _) | (with_reducible assumption) | (with_reducible refine Below.drew ?_) | (with_reducible refine Below.setCell ?_ (by first | (simp; done) | (simp; omega) | omega) _) | (with_reducible refine Below.alloc ?_ (by first | (simp; done) | (simp; omega) | omega) _) | (with_reducible refine below_drewN ?_ _) | (refine Below.trans ?_ (Below.mono (by with_reducible assumption) (by first | (simp; done) | (simp; omega) | omega))))))))).mono ?_; go_must (rintro e w5 ⟨rfl, hb5⟩; have hs5 := hb5.size; (try simp at hs5))))
      all_goals
        go_wp2
        go_roundw
        case rel => exact ⟨k + 1, HLT.out, by simp, by rw [HM1.out]; try (congr 1; (first | omega | (split <;> omega))), by rw [HM2.out]; try (congr 1; (first | omega | (split <;> omega))), below_at hb hsr (below_at KW1.out hsx (show Below W1.heap.size W1 _ from (by repeat (first | (with_reducible exact Below.refl _ _) | (with_reducible assumption) | (with_reducible refine Below.drew ?_) | (with_reducible refine Below.setCell ?_ (by first | (simp; done) | (simp; omega) | omega) _) | (with_reducible refine Below.alloc ?_ (by first | (simp; done) | (simp; omega) | omega) _) | (with_reducible refine below_drewN ?_ _) | (refine Below.trans ?_ (Below.mono (by with_reducible assumption) (by first | (simp; done) | (simp; omega) | omega)))))))⟩
        case measure => simp only [intOf]; have := HLT.out; omega
set_option maxHeartbeats 4000000 in
set_option maxRecDepth 100000 in
theorem rLatency_l (r : RecD) (s : SchedD) (w : World) (hr : RecRd w r) (hs : SchedRd w s) :
    Calls Tryz.prog 26 #[.agg #[.int .i64 r.n, r.lv, r.vv], .agg #[.int .i64 s.f.1, .int .i64 s.f.2.1, .int .i64 s.f.2.2, s.ov]] w fun e w' => e = .returned (latV r s) ∧ Below w.heap.size w w' := by
  have HR := Lib.hid hr
  have HS := Lib.hid hs
  clear hr hs
  have HSP := Lib.hid (fun (W : World) (h1 : RecRd W r) (h2 : SchedRd W s) => rSpan_l r s W h1 h2)
  obtain ⟨W0, hW0⟩ : ∃ W : World, (w.alloc (Obj.cells #[.int .i64 r.n, r.lv, r.vv] 27)).alloc (Obj.cells #[.int .i64 s.f.1, .int .i64 s.f.2.1, .int .i64 s.f.2.2, s.ov] 32) = W := ⟨_, rfl⟩
  have kw0 : Below w.heap.size w W0 := by rw [← hW0]; exact (by repeat (first | exact Below.refl _ _ | assumption | (refine Below.drew ?_) | (refine below_drewN ?_ _) | (refine Below.alloc ?_ (by first | (simp; done) | (simp; omega) | omega) _) | (refine Below.setCell ?_ (by first | (simp; done) | (simp; omega) | omega) _) | (refine Below.trans ?_ (Below.mono (by assumption) (by first | (simp; done) | (simp; omega) | omega)))))
  have ks0 : W0.heap.size = w.heap.size + 2 := by rw [← hW0]; simp
  have RD0 := Lib.hid (show ∀ V, Below W0.heap.size W0 V → V.cell? ⟨w.heap.size, 0, none⟩ = some (.int .i64 r.n) ∧ V.cell? ⟨w.heap.size, 1, none⟩ = some (r.lv) ∧ V.cell? ⟨w.heap.size, 2, none⟩ = some (r.vv) ∧ V.cell? ⟨w.heap.size + 1, 0, none⟩ = some (.int .i64 s.f.1) ∧ V.cell? ⟨w.heap.size + 1, 1, none⟩ = some (.int .i64 s.f.2.1) ∧ V.cell? ⟨w.heap.size + 1, 2, none⟩ = some (.int .i64 s.f.2.2) ∧ V.cell? ⟨w.heap.size + 1, 3, none⟩ = some (s.ov) from fun V h => by
      refine ⟨(h.cell (p := ⟨w.heap.size, 0, none⟩) (by simp; omega)).trans ?_, (h.cell (p := ⟨w.heap.size, 1, none⟩) (by simp; omega)).trans ?_, (h.cell (p := ⟨w.heap.size, 2, none⟩) (by simp; omega)).trans ?_, (h.cell (p := ⟨w.heap.size + 1, 0, none⟩) (by simp; omega)).trans ?_, (h.cell (p := ⟨w.heap.size + 1, 1, none⟩) (by simp; omega)).trans ?_, (h.cell (p := ⟨w.heap.size + 1, 2, none⟩) (by simp; omega)).trans ?_, (h.cell (p := ⟨w.heap.size + 1, 3, none⟩) (by simp; omega)).trans ?_⟩ <;> (subst hW0; go_simp))
  have HW0 := Lib.hid hW0; have KW0 := Lib.hid kw0; clear hW0 kw0
  by_cases h0 : latErr r s = 0
  · have HB := Lib.hid (lat_bd h0)
    have HV := Lib.hid (show spanV r s = .tuple #[.int .i64 (loT r s), .int .i64 (hiT r s), .int .i64 0] by unfold spanV; rw [if_pos h0])
    have HL := Lib.hid (show latV r s = .tuple #[.int .i64 (hiT r s - loT r s + 1), .int .i64 0] by unfold latV latI; rw [if_pos h0, h0])
    rw [HL.out]
    rw [HV.out] at HSP
    clear h0
    generalize loT r s = lo at *
    generalize hiT r s = hi at *
    obtain ⟨⟨b1, b2⟩, ⟨b3, b4⟩, b5⟩ := HB.out
    go_enter Tryz.func26, Tryz.ntmps26
    go_wp2_with (go_at_call 62; rw [HW0.out]; refine (HSP.out _ (HR.out.below KW0.out) (HS.out.below KW0.out)).mono ?_; go_must (rintro e w1 ⟨rfl, hb1⟩; have K0 := hb1; have HB1 := Lib.hid hb1; clear hb1; obtain ⟨k0_0, k0_1, k0_2, k0_3, k0_4, k0_5, k0_6⟩ := RD0.out _ K0; skip))
    go_ret2
    exact ⟨rfl, (KW0.out.trans (K0.mono (by omega)))⟩
  · have HV := Lib.hid (show spanV r s = .tuple #[.int .i64 0, .int .i64 0, .int .i64 (latErr r s)] by unfold spanV; rw [if_neg h0])
    have HL := Lib.hid (show latV r s = .tuple #[.int .i64 0, .int .i64 (latErr r s)] by unfold latV latI; rw [if_neg h0])
    have hnz : (latErr r s != 0) = true := by simpa using h0
    rw [HL.out]
    rw [HV.out] at HSP
    clear h0
    generalize latErr r s = A at *
    go_enter Tryz.func26, Tryz.ntmps26
    go_wp2_with (go_at_call 62; rw [HW0.out]; refine (HSP.out _ (HR.out.below KW0.out) (HS.out.below KW0.out)).mono ?_; go_must (rintro e w1 ⟨rfl, hb1⟩; have K0 := hb1; have HB1 := Lib.hid hb1; clear hb1; obtain ⟨k0_0, k0_1, k0_2, k0_3, k0_4, k0_5, k0_6⟩ := RD0.out _ K0; skip))
    go_ret2
    exact ⟨rfl, (KW0.out.trans (K0.mono (by omega)))⟩
end Go.Proofs.YtndfdgdahinkpaaGreat
