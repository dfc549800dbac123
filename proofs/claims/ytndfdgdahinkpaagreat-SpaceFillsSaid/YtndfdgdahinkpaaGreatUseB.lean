/- How full a fold is: the reference's Used: its walk. -/
import Derived.Test.YtndfdgdahinkpaaGreatUseA
namespace Go.Proofs.YtndfdgdahinkpaaGreat
open Go.RowKit Go.WideMaps
set_option linter.unusedVariables false
theorem KeepS.setS {S : Nat → Prop} {N0 : Nat} {W V : World} (h : KeepS S N0 W V) {p : Addr} (hp : S p.block) (x : Value) : KeepS S N0 W (V.setCell p x) :=
  ⟨by have := h.1; simpa [World.setCell] using this, fun b hb hs => by
    rw [← h.2 b hb hs]
    simp only [World.setCell, Array.getElem?_modify]
    rw [if_neg (fun e : p.block = b => hs (e ▸ hp))]⟩
theorem KeepS.cell {S : Nat → Prop} {N0 : Nat} {W V : World} (h : KeepS S N0 W V) {p : Addr} (hb : p.block < N0) (hs : ¬ S p.block) : V.cell? p = W.cell? p := World.cell?_of_block (h.2 _ hb hs)
set_option maxHeartbeats 4000000 in
set_option maxRecDepth 100000 in
theorem rUsed_l (r : RecD) (s : SchedD) (u : P3) (w : World) (hr : RecRd w r) (hs : SchedRd w s) :
    Calls Tryz.prog 20 #[.agg #[.int .i64 r.n, r.lv, r.vv], .agg #[.int .i64 s.f.1, .int .i64 s.f.2.1, .int .i64 s.f.2.2, s.ov], .agg #[.int .i64 u.1, .int .i64 u.2.1, .int .i64 u.2.2]] w fun x w' => x = .returned (useV r s u) ∧ Below w.heap.size w w' := by
  have HR := Lib.hid hr
  have HS := Lib.hid hs
  clear hr hs
  have HDR := Lib.hid (fun (W : World) (h : RecRd W r) (h2 : SchedRd W s) => AskedSched_l r s u W h h2)
  have HLA := Lib.hid (fun (W : World) (h : RecRd W r) (h2 : SchedRd W s) => rLatency_l r s W h h2)
  obtain ⟨W0, hW0⟩ : ∃ W : World, (((w.alloc (Obj.cells #[.int .i64 r.n, r.lv, r.vv] 27)).alloc (Obj.cells #[.int .i64 s.f.1, .int .i64 s.f.2.1, .int .i64 s.f.2.2, s.ov] 32)).alloc (Obj.cells #[.int .i64 u.1, .int .i64 u.2.1, .int .i64 u.2.2] 29)).alloc (Obj.cells #[.int .i64 0, .int .i64 0] 68) = W := ⟨_, rfl⟩
  have kw0 : Below w.heap.size w W0 := by rw [← hW0]; exact (by repeat (first | exact Below.refl _ _ | assumption | (refine Below.drew ?_) | (refine below_drewN ?_ _) | (refine Below.alloc ?_ (by first | (simp; done) | (simp; omega) | omega) _) | (refine Below.setCell ?_ (by first | (simp; done) | (simp; omega) | omega) _) | (refine Below.trans ?_ (Below.mono (by assumption) (by first | (simp; done) | (simp; omega) | omega)))))
  have ks0 : W0.heap.size = w.heap.size + 4 := by rw [← hW0]; simp
  have RD0 := Lib.hid (show ∀ V, Below W0.heap.size W0 V → V.cell? ⟨w.heap.size, 0, none⟩ = some (.int .i64 r.n) ∧ V.cell? ⟨w.heap.size, 1, none⟩ = some (r.lv) ∧ V.cell? ⟨w.heap.size, 2, none⟩ = some (r.vv) ∧ V.cell? ⟨w.heap.size + 1, 0, none⟩ = some (.int .i64 s.f.1) ∧ V.cell? ⟨w.heap.size + 1, 1, none⟩ = some (.int .i64 s.f.2.1) ∧ V.cell? ⟨w.heap.size + 1, 2, none⟩ = some (.int .i64 s.f.2.2) ∧ V.cell? ⟨w.heap.size + 1, 3, none⟩ = some (s.ov) ∧ V.cell? ⟨w.heap.size + 1 + 1, 0, none⟩ = some (.int .i64 u.1) ∧ V.cell? ⟨w.heap.size + 1 + 1, 1, none⟩ = some (.int .i64 u.2.1) ∧ V.cell? ⟨w.heap.size + 1 + 1, 2, none⟩ = some (.int .i64 u.2.2) ∧ V.cell? ⟨w.heap.size + 1 + 1 + 1, 0, none⟩ = some (.int .i64 0) ∧ V.cell? ⟨w.heap.size + 1 + 1 + 1, 1, none⟩ = some (.int .i64 0) from fun V h => by
      refine ⟨(h.cell (p := ⟨w.heap.size, 0, none⟩) (by simp; omega)).trans ?_, (h.cell (p := ⟨w.heap.size, 1, none⟩) (by simp; omega)).trans ?_, (h.cell (p := ⟨w.heap.size, 2, none⟩) (by simp; omega)).trans ?_, (h.cell (p := ⟨w.heap.size + 1, 0, none⟩) (by simp; omega)).trans ?_, (h.cell (p := ⟨w.heap.size + 1, 1, none⟩) (by simp; omega)).trans ?_, (h.cell (p := ⟨w.heap.size + 1, 2, none⟩) (by simp; omega)).trans ?_, (h.cell (p := ⟨w.heap.size + 1, 3, none⟩) (by simp; omega)).trans ?_, (h.cell (p := ⟨w.heap.size + 1 + 1, 0, none⟩) (by simp; omega)).trans ?_, (h.cell (p := ⟨w.heap.size + 1 + 1, 1, none⟩) (by simp; omega)).trans ?_, (h.cell (p := ⟨w.heap.size + 1 + 1, 2, none⟩) (by simp; omega)).trans ?_, (h.cell (p := ⟨w.heap.size + 1 + 1 + 1, 0, none⟩) (by simp; omega)).trans ?_, (h.cell (p := ⟨w.heap.size + 1 + 1 + 1, 1, none⟩) (by simp; omega)).trans ?_⟩ <;> (subst hW0; go_simp))
  have HW0 := Lib.hid hW0; have KW0 := Lib.hid kw0; clear hW0 kw0
  have FZ := Lib.hid (show ∀ V, Below W0.heap.size W0 V → ∀ b o, b < W0.heap.size → V.frozen? ⟨b, o, none⟩ = _ from fun V h b o hb => (bcellB h).2 b o hb)
  by_cases ha : askS r s u = 0
  rotate_left
  · have HV := Lib.hid (useV_err (show useErr r s u = askS r s u by unfold useErr; rw [if_neg ha]) ha)
    have hnz : (askS r s u != 0) = true := by simpa using ha
    clear ha
    rw [HV.out]
    clear HV
    generalize askS r s u = A at *
    go_enter Tryz.func20, Tryz.ntmps20
    go_wp2_with (go_at_call 12; rw [HW0.out]; refine (HDR.out _ (HR.out.below KW0.out) (HS.out.below KW0.out)).mono ?_; go_must (rintro e w1 ⟨rfl, hb1⟩; have K0 := hb1; have HB1 := Lib.hid hb1; clear hb1; obtain ⟨k0_0, k0_1, k0_2, k0_3, k0_4, k0_5, k0_6, k0_7, k0_8, k0_9, k0_10, k0_11⟩ := RD0.out _ K0; have hfz := FZ.out _ K0; rw [← HW0.out] at hfz))
    have KX := (KW0.out.trans (K0.mono (by omega)))
    refine bodyPost_ret (v := .tuple #[.agg #[.int .i64 0, .int .i64 0], .int .i64 A]) (by simp only [results, Tryz.results20]; first | (go_simp; done) | (go_simp; rfl)) rfl ⟨rfl, ?_⟩
    exact (by (repeat (first | (with_reducible refine Below.setCell ?_ (by first | (simp; done) | (simp; omega) | omega) _) | (with_reducible refine Below.drew ?_) | (with_reducible refine below_drewN ?_ _))); with_reducible exact KX)
  rw [ha] at HDR
  rcases lat5 ha with h5 | h5
  rotate_left
  · have HV := Lib.hid (useV_err (show useErr r s u = 5 by unfold useErr; rw [if_pos ha, h5]) (by omega))
    have HLV := Lib.hid (show latV r s = .tuple #[.int .i64 0, .int .i64 5] by unfold latV latI; rw [h5]; rfl)
    rw [HV.out]
    rw [HLV.out] at HLA
    clear ha h5 HLV HV
    go_enter Tryz.func20, Tryz.ntmps20
    go_wp2_with (first | (go_at_call 12; rw [HW0.out]; refine (HDR.out _ (HR.out.below KW0.out) (HS.out.below KW0.out)).mono ?_; go_must (rintro e w1 ⟨rfl, hb1⟩; have K0 := hb1; have HB1 := Lib.hid hb1; clear hb1; obtain ⟨k0_0, k0_1, k0_2, k0_3, k0_4, k0_5, k0_6, k0_7, k0_8, k0_9, k0_10, k0_11⟩ := RD0.out _ K0; skip)) | (go_at_call 26; refine (HLA.out _ (HR.out.below (KW0.out.trans (K0.mono (by omega)))) (HS.out.below (KW0.out.trans (K0.mono (by omega))))).mono ?_; go_must (rintro e w2 ⟨rfl, hb2⟩; have K' := (by first | exact below_at K0 (by have := K0.size; omega) hb2 | exact below_at K0 (by have := K0.size; omega) (by repeat (first | exact Below.refl _ _ | assumption | (refine Below.drew ?_) | (refine below_drewN ?_ _) | (refine Below.alloc ?_ (by first | (simp; done) | (simp; omega) | omega) _) | (refine Below.setCell ?_ (by first | (simp; done) | (simp; omega) | omega) _) | (refine Below.trans ?_ (Below.mono (by assumption) (by first | (simp; done) | (simp; omega) | omega))))) : Below W0.heap.size W0 w2); have HB2 := Lib.hid hb2; clear K0 hb2; (try clear k0_0); (try clear k0_1); (try clear k0_2); (try clear k0_3); (try clear k0_4); (try clear k0_5); (try clear k0_6); (try clear k0_7); (try clear k0_8); (try clear k0_9); (try clear k0_10); (try clear k0_11); have K0 := K'; clear K'; obtain ⟨k0_0, k0_1, k0_2, k0_3, k0_4, k0_5, k0_6, k0_7, k0_8, k0_9, k0_10, k0_11⟩ := RD0.out _ K0; have hfz := FZ.out _ K0; rw [← HW0.out] at hfz)))
    have KX := (KW0.out.trans (K0.mono (by omega)))
    refine bodyPost_ret (v := .tuple #[.agg #[.int .i64 0, .int .i64 0], .int .i64 5]) (by simp only [results, Tryz.results20]; first | (go_simp; done) | (go_simp; rfl)) rfl ⟨rfl, ?_⟩
    exact (by (repeat (first | (with_reducible refine Below.setCell ?_ (by first | (simp; done) | (simp; omega) | omega) _) | (with_reducible refine Below.drew ?_) | (with_reducible refine below_drewN ?_ _))); with_reducible exact KX)
  obtain ⟨la, hla, hl1, hl2⟩ := latI_bd h5
  have hao := askS_ok ha
  have hvo := validR_out hao.1
  have hdo := validD_out hvo.1
  have hn1 : 0 < (ptsL r.n r.l).length := lat_ne h5
  have hc1 := cellsL_pos (u := u) hn1
  have hc2 := cellsL_len r u
  have hnp : (ptsL r.n r.l).length ≤ 1000 := hvo.2.1
  have HV := Lib.hid (useV_ok (show useErr r s u = 0 by unfold useErr; rw [if_pos ha, h5]))
  have HLV := Lib.hid (show latV r s = .tuple #[.int .i64 (la : Int), .int .i64 0] by unfold latV; rw [hla, h5])
  have HAE := Lib.hid (show askE r u = 0 by unfold askE; rw [if_pos hao.1, if_pos hao.2.2.1])
  have HAL := Lib.hid (fun (W : World) (hw : SlOf W W.heap.size 4 encI r.lv r.l) => rAll_l r.n r.l hdo.1 hdo.2.2 W r.lv hw)
  have HCE := Lib.hid (fun (W : World) (h : RecRd W r) => rcells_l r u HAE.out W h)
  have HCX := Lib.hid (fun (e : Ending) (w' : World) (h : CellsR r u e w') => show ∃ v, e = .returned v ∧ SlOf w' w'.heap.size 2 encC v (cellsL r u) from h)
  have hmb : (cellsL r u).length * la ≤ 1000 * 2081 := Nat.mul_le_mul (by omega) hl2
  have hmp : 0 < (cellsL r u).length * la := Nat.mul_pos hc1 hl1
  have HLW := Lib.hid (fun (W : World) => lowest_l (ptsL r.n r.l).length ((cellsL r u).length * la) hn1 hmp (by omega) (by omega) W)
  have HVR := Lib.hid (show ratV (useN r) (useD r s u) = ratV (ptsL r.n r.l).length ((cellsL r u).length * la) by unfold useD useN; rw [hla]; rfl)
  have hwm : IntKind.i64.wrap (((cellsL r u).length : Int) * (la : Int)) = (((cellsL r u).length * la : Nat) : Int) := by
    rw [show (((cellsL r u).length : Int) * (la : Int)) = (((cellsL r u).length * la : Nat) : Int) from by push_cast; rfl, IntKind.wrap_i64]; omega
  have HWM := Lib.hid hwm; clear hwm
  rw [HV.out, HVR.out]
  rw [HLV.out] at HLA
  clear ha h5 hvo hla HLV hao hdo hmb hmp hn1 hc1 hc2 hnp hl1 hl2 HAE HV HVR
  generalize cellsL r u = CL at *
  generalize ptsL r.n r.l = L at *
  have HRV := Lib.hid (show ratV L.length (CL.length * la) = .agg #[.int .i64 ((L.length / Nat.gcd L.length (CL.length * la) : Nat) : Int), .int .i64 ((CL.length * la / Nat.gcd L.length (CL.length * la) : Nat) : Int)] from rfl)
  rw [HRV.out] at HLW ⊢
  clear HRV
  generalize L.length / Nat.gcd L.length (CL.length * la) = q1 at *
  generalize CL.length * la / Nat.gcd L.length (CL.length * la) = q2 at *
  have hsW : w.heap.size ≤ W0.heap.size := by omega
  go_enter Tryz.func20, Tryz.ntmps20
  go_upto_region 7 with (first | (go_at_call 12; rw [HW0.out]; refine (HDR.out _ (HR.out.below KW0.out) (HS.out.below KW0.out)).mono ?_; go_must (rintro e w1 ⟨rfl, hb1⟩; have K0 := hb1; have HB1 := Lib.hid hb1; clear hb1; obtain ⟨k0_0, k0_1, k0_2, k0_3, k0_4, k0_5, k0_6, k0_7, k0_8, k0_9, k0_10, k0_11⟩ := RD0.out _ K0; skip)) | (go_at_call 26; refine (HLA.out _ (HR.out.below (KW0.out.trans (K0.mono (by omega)))) (HS.out.below (KW0.out.trans (K0.mono (by omega))))).mono ?_; go_must (rintro e w2 ⟨rfl, hb2⟩; have K' := (by first | exact below_at K0 (by have := K0.size; omega) hb2 | exact below_at K0 (by have := K0.size; omega) (by repeat (first | exact Below.refl _ _ | assumption | (refine Below.drew ?_) | (refine below_drewN ?_ _) | (refine Below.alloc ?_ (by first | (simp; done) | (simp; omega) | omega) _) | (refine Below.setCell ?_ (by first | (simp; done) | (simp; omega) | omega) _) | (refine Below.trans ?_ (Below.mono (by assumption) (by first | (simp; done) | (simp; omega) | omega))))) : Below W0.heap.size W0 w2); have HB2 := Lib.hid hb2; clear K0 hb2; (try clear k0_0); (try clear k0_1); (try clear k0_2); (try clear k0_3); (try clear k0_4); (try clear k0_5); (try clear k0_6); (try clear k0_7); (try clear k0_8); (try clear k0_9); (try clear k0_10); (try clear k0_11); have K0 := K'; clear K'; obtain ⟨k0_0, k0_1, k0_2, k0_3, k0_4, k0_5, k0_6, k0_7, k0_8, k0_9, k0_10, k0_11⟩ := RD0.out _ K0; skip)))
  have KK0 := Lib.hid K0
  have hs2 := K0.size
  have hfz := FZ.out _ K0
  rw [← HW0.out] at hfz
  have hwm := HWM.out
  have S1 := Lib.hid (show ∀ V, KeepS (fun b => b = w.heap.size + 1 + 1 + 1) W0.heap.size w2 V → KeepS (fun b => b = w.heap.size + 1 + 1 + 1) W0.heap.size w2 V ∧ V.cell? ⟨w.heap.size, 0, none⟩ = some (.int .i64 r.n) ∧ V.cell? ⟨w.heap.size, 1, none⟩ = some r.lv ∧ V.cell? ⟨w.heap.size, 2, none⟩ = some r.vv ∧ V.cell? ⟨w.heap.size + 1 + 1, 0, none⟩ = some (.int .i64 u.1) ∧ V.cell? ⟨w.heap.size + 1 + 1, 1, none⟩ = some (.int .i64 u.2.1) ∧ V.cell? ⟨w.heap.size + 1 + 1, 2, none⟩ = some (.int .i64 u.2.2) from fun V h =>
    ⟨h, (h.cell (p := ⟨w.heap.size, 0, none⟩) (by simp; omega) (by simp; omega)).trans k0_0, (h.cell (p := ⟨w.heap.size, 1, none⟩) (by simp; omega) (by simp; omega)).trans k0_1, (h.cell (p := ⟨w.heap.size, 2, none⟩) (by simp; omega) (by simp; omega)).trans k0_2, (h.cell (p := ⟨w.heap.size + 1 + 1, 0, none⟩) (by simp; omega) (by simp)).trans k0_7, (h.cell (p := ⟨w.heap.size + 1 + 1, 1, none⟩) (by simp; omega) (by simp)).trans k0_8, (h.cell (p := ⟨w.heap.size + 1 + 1, 2, none⟩) (by simp; omega) (by simp)).trans k0_9⟩)
  (try clear k0_0); (try clear k0_1); (try clear k0_2); (try clear k0_3); (try clear k0_4); (try clear k0_5); (try clear k0_6); (try clear k0_7); (try clear k0_8); (try clear k0_9); (try clear k0_10); (try clear k0_11)
  clear K0
  go_region_held3 (fun w' => KeepS (fun b => b = w.heap.size + 1 + 1 + 1) W0.heap.size w2 w' ∧ w'.cell? ⟨w.heap.size, 0, none⟩ = some (.int .i64 r.n) ∧ w'.cell? ⟨w.heap.size, 1, none⟩ = some r.lv ∧ w'.cell? ⟨w.heap.size, 2, none⟩ = some r.vv ∧ w'.cell? ⟨w.heap.size + 1 + 1, 0, none⟩ = some (.int .i64 u.1) ∧ w'.cell? ⟨w.heap.size + 1 + 1, 1, none⟩ = some (.int .i64 u.2.1) ∧ w'.cell? ⟨w.heap.size + 1 + 1, 2, none⟩ = some (.int .i64 u.2.2)) ((refine S1.out _ ?_; (repeat (with_reducible refine KeepS.setS ?_ (by rfl) _)); exact KeepS.of_below ((show Below w2.heap.size w2 _ from (by repeat (first | (with_reducible exact Below.refl _ _) | (with_reducible assumption) | (with_reducible refine Below.drew ?_) | (with_reducible refine Below.setCell ?_ (by first | (simp; done) | (simp; omega) | omega) _) | (with_reducible refine Below.alloc ?_ (by first | (simp; done) | (simp; omega) | omega) _) | (with_reducible refine below_drewN ?_ _) | (refine Below.trans ?_ (Below.mono (by with_reducible assumption) (by first | (simp; done) | (simp; omega) | omega)))))).mono hs2))) (first | (go_at_call 24; refine (HAL.out _ (HR.out.l.below (KW0.out.trans ((KK0.out.trans ((show Below w2.heap.size w2 _ from (by repeat (first | (with_reducible exact Below.refl _ _) | (with_reducible assumption) | (with_reducible refine Below.drew ?_) | (with_reducible refine Below.setCell ?_ (by first | (simp; done) | (simp; omega) | omega) _) | (with_reducible refine Below.alloc ?_ (by first | (simp; done) | (simp; omega) | omega) _) | (with_reducible refine below_drewN ?_ _) | (refine Below.trans ?_ (Below.mono (by with_reducible assumption) (by first | (simp; done) | (simp; omega) | omega)))))).mono hs2)).mono hsW)))).mono ?_; go_must (rintro e w5 ⟨⟨v5, rfl, hsl5⟩, hb5⟩; have hs5 := hb5.size; (try simp at hs5); obtain ⟨pa, pc, hpe, -⟩ := hsl5.shape; subst hpe; clear hsl5)) | (go_at_call 55; refine (HCE.out _ (HR.out.below (KW0.out.trans ((KK0.out.trans ((show Below w2.heap.size w2 _ from (by repeat (first | (with_reducible exact Below.refl _ _) | (with_reducible assumption) | (with_reducible refine Below.drew ?_) | (with_reducible refine Below.setCell ?_ (by first | (simp; done) | (simp; omega) | omega) _) | (with_reducible refine Below.alloc ?_ (by first | (simp; done) | (simp; omega) | omega) _) | (with_reducible refine below_drewN ?_ _) | (refine Below.trans ?_ (Below.mono (by with_reducible assumption) (by first | (simp; done) | (simp; omega) | omega)))))).mono hs2)).mono hsW)))).mono ?_; go_must (rintro e w6 ⟨hce, hb6⟩; have hs6 := hb6.size; (try simp at hs6); obtain ⟨cv, rfl, hcs⟩ := HCX.out _ _ hce; obtain ⟨ca, cc, hcv, -⟩ := hcs.shape; subst hcv; clear hcs hce)) | (go_at_call 54; refine (HLW.out _).mono ?_; go_must (rintro e w7 ⟨rfl, hb7⟩; have hs7 := hb7.size; (try simp at hs7); have K0 := KK0.out.trans ((show Below w2.heap.size w2 w7 from (by repeat (first | (with_reducible exact Below.refl _ _) | (with_reducible assumption) | (with_reducible refine Below.drew ?_) | (with_reducible refine Below.setCell ?_ (by first | (simp; done) | (simp; omega) | omega) _) | (with_reducible refine Below.alloc ?_ (by first | (simp; done) | (simp; omega) | omega) _) | (with_reducible refine below_drewN ?_ _) | (refine Below.trans ?_ (Below.mono (by with_reducible assumption) (by first | (simp; done) | (simp; omega) | omega)))))).mono hs2); obtain ⟨k0_0, k0_1, k0_2, k0_3, k0_4, k0_5, k0_6, k0_7, k0_8, k0_9, k0_10, k0_11⟩ := RD0.out _ K0; have hfz := FZ.out _ K0; rw [← HW0.out] at hfz; clear K0)))
  all_goals
    have KX := KW0.out.trans ((KK0.out.trans ((show Below w2.heap.size w2 w7 from (by repeat (first | (with_reducible exact Below.refl _ _) | (with_reducible assumption) | (with_reducible refine Below.drew ?_) | (with_reducible refine Below.setCell ?_ (by first | (simp; done) | (simp; omega) | omega) _) | (with_reducible refine Below.alloc ?_ (by first | (simp; done) | (simp; omega) | omega) _) | (with_reducible refine below_drewN ?_ _) | (refine Below.trans ?_ (Below.mono (by with_reducible assumption) (by first | (simp; done) | (simp; omega) | omega)))))).mono hs2)).mono hsW)
    go_wp2
    refine bodyPost_ret (v := .tuple #[.agg #[.int .i64 (q1 : Int), .int .i64 (q2 : Int)], .int .i64 0]) (by simp only [results, Tryz.results20]; first | (go_simp; done) | (go_simp; rfl)) rfl ⟨rfl, ?_⟩
    exact (by (repeat (first | (with_reducible refine Below.setCell ?_ (by first | (simp; done) | (simp; omega) | omega) _) | (with_reducible refine Below.drew ?_) | (with_reducible refine below_drewN ?_ _))); with_reducible exact KX)
end Go.Proofs.YtndfdgdahinkpaaGreat
