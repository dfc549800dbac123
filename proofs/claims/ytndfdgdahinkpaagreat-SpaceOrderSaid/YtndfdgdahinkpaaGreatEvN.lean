/- Events in order: the contract of the reference's Arranged; the reference's events: its walk. The elements at a time and a cell: plain; the reference's At: its walk. Conditions: none. -/
import Derived.Test.YtndfdgdahinkpaaGreatEvL
import Derived.Test.YtndfdgdahinkpaaGreatEvE
namespace Go.Proofs.YtndfdgdahinkpaaGreat
open Go.RowKit
set_option linter.unusedVariables false
set_option maxHeartbeats 4000000 in
set_option maxRecDepth 100000 in
theorem arr_base (l : List EvD) (h2 : l.length < 2) (w : World) (v : Value) (hv : SlOf w w.heap.size 7 encE v l) :
    Calls Tryz.prog 75 #[v] w fun e w' => ArrR l e w' ∧ Below w.heap.size w w' := by
  have HV := Lib.hid hv
  obtain ⟨qa, qc, hqe, -⟩ := hv.shape
  subst hqe
  clear hv
  have HS := Lib.hid (show SortedE l by
    cases l with
    | nil => exact List.Pairwise.nil
    | cons x t =>
      cases t with
      | nil => exact List.pairwise_singleton _ _
      | cons y t2 => simp only [List.length_cons] at h2; omega)
  have h2' : (l.length : Int) < 2 := by omega
  generalize hn : l.length = n at *
  go_enter Tryz.func75, Tryz.ntmps75
  go_wp2
  refine bodyPost_ret (v := .slice qa n qc) (by simp only [results, Tryz.results75]; first | (go_simp; done) | (go_simp; rfl)) rfl ⟨⟨_, l, rfl, HV.out, List.Perm.refl _, HS.out⟩, by repeat (first | (with_reducible exact Below.refl _ _) | (with_reducible assumption) | (with_reducible refine Below.drew ?_) | (with_reducible refine Below.setCell ?_ (by first | (simp; done) | (simp; omega) | omega) _) | (with_reducible refine Below.alloc ?_ (by first | (simp; done) | (simp; omega) | omega) _) | (with_reducible refine below_drewN ?_ _) | (refine Below.trans ?_ (Below.mono (by with_reducible assumption) (by first | (simp; done) | (simp; omega) | omega))))⟩
theorem arranged_l : ∀ (n : Nat) (l : List EvD), l.length ≤ n → l.length ≤ 100000 → ∀ (w : World) (v : Value), SlOf w w.heap.size 7 encE v l → Calls Tryz.prog 75 #[v] w fun e w' => ArrR l e w' ∧ Below w.heap.size w w'
  | 0, l, hn, _, w, v, hv => arr_base l (by omega) w v hv
  | n + 1, l, hn, hb, w, v, hv => by
    by_cases h2 : 2 ≤ l.length
    · exact arr_step l h2 hb w v hv (fun l' hl' W u hu => arranged_l n l' (by omega) (by omega) W u hu)
    · exact arr_base l (by omega) w v hv
/-- The events of all elements, by variable and then by point. -/
def evsL (r : RecD) (s : SchedD) (u : P3) : List EvD := (List.range r.vars.length).flatMap fun v => (ptsL r.n r.l).map (evAt r s u v)
theorem flat_lenE {β : Type} (f : Nat → List β) (m : Nat) (h : ∀ v, (f v).length = m) : ∀ n, ((List.range n).flatMap f).length = n * m
  | 0 => by simp
  | n + 1 => by rw [List.range_succ, List.flatMap_append, List.length_append, flat_lenE f m h n, Nat.succ_mul]; simp [h]
theorem evsL_len (r : RecD) (s : SchedD) (u : P3) : (evsL r s u).length = r.vars.length * (ptsL r.n r.l).length := by
  exact flat_lenE _ _ (fun v => by simp) _
theorem flat_getE {α β : Type} (f : Nat → β → α) (L : List β) : ∀ (n v k : Nat) (hv : v < n) (hk : k < L.length), ((List.range n).flatMap fun v => L.map (f v))[v * L.length + k]? = some (f v L[k])
  | n + 1, v, k, hv, hk => by
    rw [List.range_succ, List.flatMap_append]
    have hl : ((List.range n).flatMap fun v => L.map (f v)).length = n * L.length := flat_lenE _ _ (fun v => by simp) n
    by_cases h : v < n
    · have hlt : v * L.length + k < n * L.length := by
        have : (v + 1) * L.length ≤ n * L.length := Nat.mul_le_mul_right _ h
        rw [Nat.succ_mul] at this; omega
      rw [List.getElem?_append_left (by rw [hl]; exact hlt)]
      exact flat_getE f L n v k h hk
    · have hv' : v = n := by omega
      subst hv'
      rw [List.getElem?_append_right (by rw [hl]; omega), hl, Nat.add_sub_cancel_left]
      simp [hk]
theorem evsL_take (r : RecD) (s : SchedD) (u : P3) (v k : Nat) (hv : v < r.vars.length) (hk : k < (ptsL r.n r.l).length) :
    (evsL r s u).take (v * (ptsL r.n r.l).length + k + 1) = (evsL r s u).take (v * (ptsL r.n r.l).length + k) ++ [evAt r s u v (ptsL r.n r.l)[k]] := by
  have h := flat_getE (fun v => evAt r s u v) (ptsL r.n r.l) r.vars.length v k hv hk
  obtain ⟨h1, h2⟩ := List.getElem?_eq_some_iff.1 (show (evsL r s u)[v * (ptsL r.n r.l).length + k]? = _ from h)
  rw [List.take_succ_eq_append_getElem h1, h2]
def EvsR (r : RecD) (s : SchedD) (u : P3) (e : Ending) (w' : World) : Prop := ArrR (evsL r s u) e w'
set_option maxHeartbeats 4000000 in
set_option maxRecDepth 100000 in
theorem events_l (r : RecD) (s : SchedD) (u : P3) (ha : askS r s u = 0) (w : World) (hr : RecRd w r) (hs : SchedRd w s) :
    Calls Tryz.prog 41 #[.agg #[.int .i64 r.n, r.lv, r.vv], .agg #[.int .i64 s.f.1, .int .i64 s.f.2.1, .int .i64 s.f.2.2, s.ov], .agg #[.int .i64 u.1, .int .i64 u.2.1, .int .i64 u.2.2]] w fun e w' => EvsR r s u e w' ∧ Below w.heap.size w w' := by
  have HR := Lib.hid hr
  have HS := Lib.hid hs
  have HVV := Lib.hid (show ∃ a c, r.vv = .slice a r.vars.length c by obtain ⟨a, c, h, -⟩ := hr.vars.shape; exact ⟨a, c, h⟩)
  clear hr hs
  have hvo := validR_out (askS_ok ha).1
  have hnp : (ptsL r.n r.l).length ≤ 1000 := hvo.2.1
  have hnv : r.vars.length ≤ 4 := hvo.2.2.1.2
  have hsz : r.vars.length * (ptsL r.n r.l).length ≤ 4000 := Nat.mul_le_mul hnv hnp
  have HOF := Lib.hid (fun (W : World) (h : RecRd W r) => Of_l r (askS_ok ha).1 W h)
  have HSZ := Lib.hid (fun (b bm n : Nat) (pv : Value) (W : World) (h : WorldAt W b bm n r pv (ptsL r.n r.l)) => Size_l r (by omega) HVV.out b bm n pv (ptsL r.n r.l) W h)
  have HEL := Lib.hid (fun (v k : Nat) (hv : v ≤ 1000000) (hk : k < (ptsL r.n r.l).length) (b bm n : Nat) (pv : Value) (W : World) (h : WorldAt W b bm n r pv (ptsL r.n r.l)) => Element_l r _ v k hv hk rfl b bm n pv (ptsL r.n r.l) W h)
  have HEV := Lib.hid (fun (v : Nat) (hv : v < r.vars.length) (p : P3) (hp : p ∈ ptsL r.n r.l) (W : World) (h2 : SchedRd W s) => revent_l r s u ha v hv p hp W h2)
  have HAR := Lib.hid (fun (W : World) (v : Value) (h : SlOf W W.heap.size 7 encE v (evsL r s u)) => arranged_l _ (evsL r s u) (Nat.le_refl _) (by rw [evsL_len]; omega) W v h)
  clear ha hvo
  obtain ⟨W0, hW0⟩ : ∃ W : World, ((w.alloc (Obj.cells #[.int .i64 r.n, r.lv, r.vv] 27)).alloc (Obj.cells #[.int .i64 s.f.1, .int .i64 s.f.2.1, .int .i64 s.f.2.2, s.ov] 32)).alloc (Obj.cells #[.int .i64 u.1, .int .i64 u.2.1, .int .i64 u.2.2] 29) = W := ⟨_, rfl⟩
  have kw0 : Below w.heap.size w W0 := by rw [← hW0]; exact (by repeat (first | exact Below.refl _ _ | assumption | (refine Below.drew ?_) | (refine below_drewN ?_ _) | (refine Below.alloc ?_ (by first | (simp; done) | (simp; omega) | omega) _) | (refine Below.setCell ?_ (by first | (simp; done) | (simp; omega) | omega) _) | (refine Below.trans ?_ (Below.mono (by assumption) (by first | (simp; done) | (simp; omega) | omega)))))
  have ks0 : W0.heap.size = w.heap.size + 3 := by rw [← hW0]; simp
  have RD0 := Lib.hid (show ∀ V, Below W0.heap.size W0 V → V.cell? ⟨w.heap.size, 0, none⟩ = some (.int .i64 r.n) ∧ V.cell? ⟨w.heap.size, 1, none⟩ = some (r.lv) ∧ V.cell? ⟨w.heap.size, 2, none⟩ = some (r.vv) ∧ V.cell? ⟨w.heap.size + 1, 0, none⟩ = some (.int .i64 s.f.1) ∧ V.cell? ⟨w.heap.size + 1, 1, none⟩ = some (.int .i64 s.f.2.1) ∧ V.cell? ⟨w.heap.size + 1, 2, none⟩ = some (.int .i64 s.f.2.2) ∧ V.cell? ⟨w.heap.size + 1, 3, none⟩ = some (s.ov) ∧ V.cell? ⟨w.heap.size + 1 + 1, 0, none⟩ = some (.int .i64 u.1) ∧ V.cell? ⟨w.heap.size + 1 + 1, 1, none⟩ = some (.int .i64 u.2.1) ∧ V.cell? ⟨w.heap.size + 1 + 1, 2, none⟩ = some (.int .i64 u.2.2) from fun V h => by
      refine ⟨(h.cell (p := ⟨w.heap.size, 0, none⟩) (by simp; omega)).trans ?_, (h.cell (p := ⟨w.heap.size, 1, none⟩) (by simp; omega)).trans ?_, (h.cell (p := ⟨w.heap.size, 2, none⟩) (by simp; omega)).trans ?_, (h.cell (p := ⟨w.heap.size + 1, 0, none⟩) (by simp; omega)).trans ?_, (h.cell (p := ⟨w.heap.size + 1, 1, none⟩) (by simp; omega)).trans ?_, (h.cell (p := ⟨w.heap.size + 1, 2, none⟩) (by simp; omega)).trans ?_, (h.cell (p := ⟨w.heap.size + 1, 3, none⟩) (by simp; omega)).trans ?_, (h.cell (p := ⟨w.heap.size + 1 + 1, 0, none⟩) (by simp; omega)).trans ?_, (h.cell (p := ⟨w.heap.size + 1 + 1, 1, none⟩) (by simp; omega)).trans ?_, (h.cell (p := ⟨w.heap.size + 1 + 1, 2, none⟩) (by simp; omega)).trans ?_⟩ <;> (subst hW0; go_simp))
  have HW0 := Lib.hid hW0; have KW0 := Lib.hid kw0; clear hW0 kw0
  go_enter Tryz.func41, Tryz.ntmps41
  go_wp2_with (go_at_call 15; rw [HW0.out]; refine (HOF.out _ (HR.out.below KW0.out)).mono ?_; go_must (rintro e w1 ⟨⟨b, bm, n, pv, rfl, hwa⟩, hb1⟩; have K0 := hb1; have HB1 := Lib.hid hb1; clear hb1; obtain ⟨k0_0, k0_1, k0_2, k0_3, k0_4, k0_5, k0_6, k0_7, k0_8, k0_9⟩ := RD0.out _ K0; have HWA := Lib.hid hwa; clear hwa; have hs1 := K0.size))
  have KK0 := Lib.hid K0
  clear K0; (try clear k0_0); (try clear k0_1); (try clear k0_2); (try clear k0_3); (try clear k0_4); (try clear k0_5); (try clear k0_6); (try clear k0_7); (try clear k0_8); (try clear k0_9)
  go_loopw [8, 9] (fun t8 t9 wr => ∃ i : Nat, i ≤ r.vars.length * (ptsL r.n r.l).length ∧ t9 = .int .i64 (i : Nat) ∧ Hid (OwnE wr w1.heap.size t8 ((evsL r s u).take i)) ∧ Below w1.heap.size w1 wr) (fun _ t9 _ => r.vars.length * (ptsL r.n r.l).length - (intOf t9).toNat)
  case atStart => exact ⟨0, Nat.zero_le _, rfl, Lib.hid (OwnOf.nil _ _ _ _ _), Below.refl _ _⟩
  case round =>
    obtain ⟨i, hi, rfl, HO, hb⟩ := hrel
    have hsr := hb.size
    have HSZ2 := Lib.hid (HSZ.out _ _ _ _ wr (HWA.out.below hb))
    by_cases hlt : i < r.vars.length * (ptsL r.n r.l).length
    rotate_left
    · have hie : i = r.vars.length * (ptsL r.n r.l).length := by omega
      have HO2 := Lib.hid (show OwnE wr w1.heap.size u8 (evsL r s u) by have := HO.out; rwa [List.take_of_length_le (by rw [evsL_len]; omega)] at this)
      generalize hN : r.vars.length * (ptsL r.n r.l).length = N at *
      subst hie
      go_wp2_with (first | (go_at_call 16; refine HSZ2.out.mono ?_; go_must (rintro e w2 ⟨rfl, hb2⟩; have HB2 := Lib.hid hb2; clear hb2)) | (go_at_call 75; refine (HAR.out _ _ ((HO2.out.kept HB2.out).sl)).mono ?_; go_must (rintro e w3 ⟨har, hb3⟩; obtain ⟨v3, l3, rfl, hsl3, hp3, ho3⟩ := har)))
      obtain ⟨oa, oc, hoe, -⟩ := hsl3.shape
      subst hoe
      have HSL3 := Lib.hid hsl3; clear hsl3
      have HP3 := Lib.hid hp3; have HO3 := Lib.hid ho3; clear hp3 ho3
      generalize hn3 : l3.length = n3 at *
      refine bodyPost_ret (v := .slice oa n3 oc) (by simp only [results, Tryz.results41]; first | (go_simp; done) | (go_simp; rfl)) rfl ⟨⟨_, l3, rfl, by have := HSL3.out; exact this, HP3.out, HO3.out⟩, ?_⟩
      have k2 := below_at hb hsr HB2.out
      have k3 := below_at k2 (by have := HB2.out.size; omega) hb3
      exact below_at (KW0.out.trans (KK0.out.mono (by omega))) (by omega) k3
    obtain ⟨v, k, hv, hk, hik⟩ : ∃ v k, v < r.vars.length ∧ k < (ptsL r.n r.l).length ∧ i = v * (ptsL r.n r.l).length + k := by
      have h0 : 0 < (ptsL r.n r.l).length := by
        rcases Nat.eq_zero_or_pos (ptsL r.n r.l).length with h | h
        · rw [h, Nat.mul_zero] at hlt; omega
        · exact h
      refine ⟨i / (ptsL r.n r.l).length, i % (ptsL r.n r.l).length, Nat.div_lt_of_lt_mul (by rw [Nat.mul_comm]; exact hlt), Nat.mod_lt _ h0, ?_⟩
      rw [Nat.mul_comm]; exact (Nat.div_add_mod _ _).symm
    have HEL2 := Lib.hid (fun (W : World) (hW : Below w1.heap.size w1 W) => HEL.out v k (by omega) hk _ _ _ _ W (HWA.out.below hW))
    have hgd : (ptsL r.n r.l).getD k (0, 0, 0) = (ptsL r.n r.l)[k] := by simp [List.getD, hk]
    rw [hgd, ← hik] at HEL2
    have HEV2 := Lib.hid (fun (W : World) (h2 : SchedRd W s) => HEV.out v hv (ptsL r.n r.l)[k] (List.getElem_mem hk) W h2)
    have HT := Lib.hid (show (evsL r s u).take (i + 1) = (evsL r s u).take i ++ [evAt r s u v (ptsL r.n r.l)[k]] by rw [hik]; exact evsL_take r s u v k hv hk)
    have HLT := Lib.hid hlt
    have hacc : ((evsL r s u).take i).length + 1 ≤ 1073741824 := by rw [List.length_take, evsL_len]; omega
    clear hgd hik
    generalize hN : r.vars.length * (ptsL r.n r.l).length = N at *
    generalize (evsL r s u).take i = D at *
    generalize (ptsL r.n r.l)[k] = p at *
    generalize evAt r s u v p = E at *
    obtain ⟨t, ⟨x, y⟩, ⟨ev, q0, q1, q2⟩⟩ := E
    obtain ⟨p0, p1, p2⟩ := p
    simp only [evD, elD] at HEL2 HEV2
    have hs0 : w.heap.size ≤ W0.heap.size := by omega
    go_wp2_with (go_at_call 16; refine HSZ2.out.mono ?_; go_must (rintro e w2 ⟨rfl, hb2⟩; have HB2 := Lib.hid hb2; clear hb2))
    clear HSZ HEL HEV HAR HOF HSZ2
    have hs2 := HB2.out.size
    have hbw : Below wr.heap.size wr w2 := HB2.out
    have hbw1 : Below w1.heap.size wr w2 := HB2.out.mono hsr
    have hw2 : w1.heap.size ≤ w2.heap.size := by omega
    clear HB2
    go_region_held3 (fun w' => Below w1.heap.size wr w' ∧ w'.cell? ⟨w.heap.size, 0, none⟩ = some (.int .i64 r.n) ∧ w'.cell? ⟨w.heap.size, 1, none⟩ = some (r.lv) ∧ w'.cell? ⟨w.heap.size, 2, none⟩ = some (r.vv) ∧ w'.cell? ⟨w.heap.size + 1, 0, none⟩ = some (.int .i64 s.f.1) ∧ w'.cell? ⟨w.heap.size + 1, 1, none⟩ = some (.int .i64 s.f.2.1) ∧ w'.cell? ⟨w.heap.size + 1, 2, none⟩ = some (.int .i64 s.f.2.2) ∧ w'.cell? ⟨w.heap.size + 1, 3, none⟩ = some (s.ov) ∧ w'.cell? ⟨w.heap.size + 1 + 1, 0, none⟩ = some (.int .i64 u.1) ∧ w'.cell? ⟨w.heap.size + 1 + 1, 1, none⟩ = some (.int .i64 u.2.1) ∧ w'.cell? ⟨w.heap.size + 1 + 1, 2, none⟩ = some (.int .i64 u.2.2)) (((refine (fun kb => ⟨kb, RD0.out _ (below_at KK0.out hs1 (hb.trans kb))⟩) (?_ : Below w1.heap.size wr _); first | exact hbE | exact (by repeat (first | (with_reducible exact Below.refl _ _) | (with_reducible assumption) | (with_reducible refine Below.drew ?_) | (with_reducible refine Below.setCell ?_ (by first | (simp; done) | (simp; omega) | omega) _) | (with_reducible refine Below.alloc ?_ (by first | (simp; done) | (simp; omega) | omega) _) | (with_reducible refine below_drewN ?_ _) | (refine Below.trans ?_ (Below.mono (by with_reducible assumption) (by first | (simp; done) | (simp; omega) | omega)))))))) (first | (go_at_call 74; refine (HEL2.out _ (hb.trans (show Below w1.heap.size wr _ from (by repeat (first | (with_reducible exact Below.refl _ _) | (with_reducible assumption) | (with_reducible refine Below.drew ?_) | (with_reducible refine Below.setCell ?_ (by first | (simp; done) | (simp; omega) | omega) _) | (with_reducible refine Below.alloc ?_ (by first | (simp; done) | (simp; omega) | omega) _) | (with_reducible refine below_drewN ?_ _) | (refine Below.trans ?_ (Below.mono (by with_reducible assumption) (by first | (simp; done) | (simp; omega) | omega)))))))).mono ?_; go_must (rintro e w5 ⟨rfl, hb5⟩; have hs5 := hb5.size; (try simp at hs5))) | (go_at_call 73; refine (HEV2.out _ (HS.out.below (KW0.out.trans ((below_at KK0.out hs1 (hb.trans (show Below w1.heap.size wr _ from (by repeat (first | (with_reducible exact Below.refl _ _) | (with_reducible assumption) | (with_reducible refine Below.drew ?_) | (with_reducible refine Below.setCell ?_ (by first | (simp; done) | (simp; omega) | omega) _) | (with_reducible refine Below.alloc ?_ (by first | (simp; done) | (simp; omega) | omega) _) | (with_reducible refine below_drewN ?_ _) | (refine Below.trans ?_ (Below.mono (by with_reducible assumption) (by first | (simp; done) | (simp; omega) | omega)))))))).mono hs0)))).mono ?_; go_must (rintro e w6 ⟨rfl, hb6⟩; have hs6 := hb6.size; (try simp at hs6); have hw6 : w1.heap.size ≤ w6.heap.size := (by omega); have HO6 := Lib.hid (HO.out.kept (show Below wr.heap.size wr w6 from (by repeat (first | (with_reducible exact Below.refl _ _) | (with_reducible assumption) | (with_reducible refine Below.drew ?_) | (with_reducible refine Below.setCell ?_ (by first | (simp; done) | (simp; omega) | omega) _) | (with_reducible refine Below.alloc ?_ (by first | (simp; done) | (simp; omega) | omega) _) | (with_reducible refine below_drewN ?_ _) | (refine Below.trans ?_ (Below.mono (by with_reducible assumption) (by first | (simp; done) | (simp; omega) | omega))))))); have hbx : Below w1.heap.size wr w6 := (by repeat (first | (with_reducible exact Below.refl _ _) | (with_reducible assumption) | (with_reducible refine Below.drew ?_) | (with_reducible refine Below.setCell ?_ (by first | (simp; done) | (simp; omega) | omega) _) | (with_reducible refine Below.alloc ?_ (by first | (simp; done) | (simp; omega) | omega) _) | (with_reducible refine below_drewN ?_ _) | (refine Below.trans ?_ (Below.mono (by with_reducible assumption) (by first | (simp; done) | (simp; omega) | omega))))))) | (refine step_push rfl _ _ _ (by rfl) slEv HO6.out (by rfl) (by rfl) (heap_alloc_new _ _) rfl rfl hacc (by omega) hw6 (World.grownBy_alloc _ _ _) ?_; intro g7 c7 w7 hown7 hg7 hat7; have hbE : Below w1.heap.size wr w7 := below_push hbx HO6.out (Nat.le_refl _) hw6 hg7))
    go_wp2
    go_roundw
    case rel => exact ⟨i + 1, HLT.out, by simp, Lib.hid (by rw [HT.out]; exact OwnOf.snoc (enc := encE) (by simpa [encE] using hown7) rfl), hb.trans hbE⟩
    case measure => simp only [intOf]; have := HLT.out; omega
end Go.Proofs.YtndfdgdahinkpaaGreat
namespace Go.Proofs.YtndfdgdahinkpaaGreat
open Go.RowKit
set_option linter.unusedVariables false
def isAt (t : Int) (c : Int × Int) (x : EvD) : Bool := decide (x.t = t) && (decide (x.c.1 = c.1) && decide (x.c.2 = c.2))
/-- The elements at a time and a cell. -/
def atL (r : RecD) (s : SchedD) (u : P3) (t : Int) (c : Int × Int) : List ElD := ((evsL r s u).filter (isAt t c)).map EvD.e
def elB (a b : ElD) : Prop := a.1 < b.1 ∨ (a.1 = b.1 ∧ ltP a.2 b.2)
theorem evsL_sorted (r : RecD) (s : SchedD) (u : P3) : (evsL r s u).Pairwise (fun a b => elB a.e b.e) := by
  unfold evsL
  rw [List.pairwise_flatMap]
  refine ⟨fun v _ => ?_, ?_⟩
  · rw [List.pairwise_map]
    exact (ptsL_sorted r.n r.l).imp (fun h => .inr ⟨rfl, h⟩)
  · refine List.pairwise_lt_range.imp (fun {a b} hab => ?_)
    intro x hx y hy
    obtain ⟨p, _, rfl⟩ := List.mem_map.1 hx
    obtain ⟨q, _, rfl⟩ := List.mem_map.1 hy
    exact .inl (by show (a : Int) < (b : Int); omega)
theorem isAt_out {t : Int} {c : Int × Int} {x : EvD} (h : isAt t c x = true) : x.t = t ∧ x.c.1 = c.1 ∧ x.c.2 = c.2 := by
  simpa [isAt] using h
theorem at_le {t : Int} {c : Int × Int} {a b : EvD} (ha : isAt t c a = true) (hb : isAt t c b = true) (h : elB a.e b.e) : leB a b = true := by
  obtain ⟨a1, a2, a3⟩ := isAt_out ha
  obtain ⟨b1, b2, b3⟩ := isAt_out hb
  unfold leB
  have : ¬ (beforeB b a = true) := by
    rw [beforeB_iff]
    unfold elB ltP at h
    omega
  simpa using this
theorem at_same {r : RecD} {s : SchedD} {u : P3} {t : Int} {c : Int × Int} {l : List EvD} (hp : l.Perm (evsL r s u)) (ho : SortedE l) : (l.filter (isAt t c)).map EvD.e = atL r s u t c := by
  unfold atL
  congr 1
  refine List.Perm.eq_of_pairwise (le := fun a b => leB a b = true) (fun a b _ _ h1 h2 => leB_anti a b h1 h2) (List.Pairwise.filter _ ho) ?_ (hp.filter _)
  have h1 := List.Pairwise.filter (isAt t c) (evsL_sorted r s u)
  refine List.Pairwise.imp_of_mem (fun {a b} ha hb h => ?_) h1
  exact at_le (List.mem_filter.1 ha).2 (List.mem_filter.1 hb).2 h
def encEl (e : ElD) : List Value := [.int .i64 e.1, .int .i64 e.2.1, .int .i64 e.2.2.1, .int .i64 e.2.2.2]
abbrev OwnL (w : World) (base : Nat) (v : Value) (l : List ElD) : Prop := OwnOf w base 55 4 encEl v l
theorem slEl : SlT Tryz.prog 173 55 (.agg #[.int .i64 0, .int .i64 0, .int .i64 0, .int .i64 0]) 4 32 := ⟨Tryz.underlying173, by kernel_rfl, rfl, by decide⟩
def AtR (r : RecD) (s : SchedD) (u : P3) (t : Int) (c : Int × Int) (e : Ending) (w' : World) : Prop := ∃ v', e = .returned (.tuple #[v', .int .i64 (askS r s u)]) ∧ SlOf w' w'.heap.size 4 encEl v' (if askS r s u = 0 then atL r s u t c else [])
theorem atR_err {r : RecD} {s : SchedD} {u : P3} {t : Int} {c : Int × Int} {k : Int} (h : askS r s u = k) (hk : k ≠ 0) (w' : World) : AtR r s u t c (.returned (.tuple #[.slice none 0 0, .int .i64 k])) w' := by
  unfold AtR
  rw [h, if_neg hk]
  exact ⟨_, rfl, Sl.nil _ _ _⟩
theorem atR_ok {r : RecD} {s : SchedD} {u : P3} {t : Int} {c : Int × Int} (h : askS r s u = 0) {w' : World} {v' : Value} (hs : SlOf w' w'.heap.size 4 encEl v' (atL r s u t c)) : AtR r s u t c (.returned (.tuple #[v', .int .i64 0])) w' := by
  unfold AtR
  rw [h, if_pos rfl]
  exact ⟨_, rfl, hs⟩
end Go.Proofs.YtndfdgdahinkpaaGreat
