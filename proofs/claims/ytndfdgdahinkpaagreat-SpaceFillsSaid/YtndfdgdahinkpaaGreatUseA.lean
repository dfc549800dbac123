/- How full a fold is: the share of its cells and times; the program's Used and the reference's lowest and Used: their walks. -/
import Derived.Test.YtndfdgdahinkpaaGreatLatB
import Derived.Test.YtndfdgdahinkpaaGreatSafeR
import Derived.Test.YtndfdgdahinkpaaGreatCelI
namespace Go.Proofs.YtndfdgdahinkpaaGreat
open Go.RowKit Go.WideMaps
set_option linter.unusedVariables false
theorem cellsL_len (r : RecD) (u : P3) : (cellsL r u).length ≤ (ptsL r.n r.l).length := by
  have := sortC_len ((ptsL r.n r.l).map (cellC r.n u))
  unfold cellsL; simpa using this
theorem cellsL_pos {r : RecD} {u : P3} (h : 0 < (ptsL r.n r.l).length) : 0 < (cellsL r u).length := sortC_pos (by simpa using h)
/-- The error of a use. -/
def useErr (r : RecD) (s : SchedD) (u : P3) : Int := if askS r s u = 0 then latErr r s else askS r s u
def useN (r : RecD) : Nat := (ptsL r.n r.l).length
def useD (r : RecD) (s : SchedD) (u : P3) : Nat := (cellsL r u).length * (latI r s).toNat
def ratV (a b : Nat) : Value := .agg #[.int .i64 ((a / Nat.gcd a b : Nat) : Int), .int .i64 ((b / Nat.gcd a b : Nat) : Int)]
def useV (r : RecD) (s : SchedD) (u : P3) : Value :=
  if useErr r s u = 0 then .tuple #[ratV (useN r) (useD r s u), .int .i64 0]
  else .tuple #[.agg #[.int .i64 0, .int .i64 0], .int .i64 (useErr r s u)]
theorem useV_err {r : RecD} {s : SchedD} {u : P3} {k : Int} (h : useErr r s u = k) (hk : k ≠ 0) : useV r s u = .tuple #[.agg #[.int .i64 0, .int .i64 0], .int .i64 k] := by
  unfold useV; rw [h, if_neg hk]
theorem useV_ok {r : RecD} {s : SchedD} {u : P3} (h : useErr r s u = 0) : useV r s u = .tuple #[ratV (useN r) (useD r s u), .int .i64 0] := by
  unfold useV; rw [if_pos h]
theorem lat_ne {r : RecD} {s : SchedD} (h : latErr r s = 0) : 0 < (ptsL r.n r.l).length := by
  unfold latErr at h
  split at h
  · split at h
    · omega
    · omega
  · omega
theorem latI_bd {r : RecD} {s : SchedD} (h : latErr r s = 0) : ∃ a : Nat, latI r s = (a : Int) ∧ 1 ≤ a ∧ a ≤ 2081 := by
  have := lat_bd h
  refine ⟨(latI r s).toNat, ?_, ?_⟩ <;> (unfold latI; rw [if_pos h]; omega)
theorem lat5 {r : RecD} {s : SchedD} {u : P3} (ha : askS r s u = 0) : latErr r s = 0 ∨ latErr r s = 5 := by
  unfold latErr; rw [if_pos (askD_ok (askS_ok ha).2.1)]; split <;> simp
theorem tmod_nat (a b : Nat) : Int.tmod (a : Int) (b : Int) = ((a % b : Nat) : Int) := (Int.ofNat_tmod a b).symm
theorem tdiv_nat (a b : Nat) : Int.tdiv (a : Int) (b : Int) = ((a / b : Nat) : Int) := (Int.ofNat_tdiv a b).symm
theorem w64_div (a b : Nat) (h : a ≤ 3000000) : wrap64 ((a : Int) / (b : Int)) = ((a / b : Nat) : Int) := by
  have e : ((a : Int) / (b : Int)) = ((a / b : Nat) : Int) := rfl
  have : a / b ≤ a := Nat.div_le_self _ _
  rw [e]; generalize a / b = k at *; unfold wrap64; omega
theorem div_laws (a b : Nat) (h : a ≤ 3000000) : Int.tdiv (a : Int) (b : Int) = ((a / b : Nat) : Int) ∧ ((a : Int) / (b : Int)) = ((a / b : Nat) : Int) ∧ IntKind.i64.wrap ((a / b : Nat) : Int) = ((a / b : Nat) : Int) ∧ wrap64 ((a / b : Nat) : Int) = ((a / b : Nat) : Int) :=
  ⟨tdiv_nat a b, rfl, by have : a / b ≤ a := Nat.div_le_self _ _; generalize a / b = k at *; rw [IntKind.wrap_i64]; omega, w64_div a b h⟩
set_option maxHeartbeats 4000000 in
set_option maxRecDepth 100000 in
theorem Used_l (r : RecD) (s : SchedD) (u : P3) (w : World) (hr : RecRd w r) (hs : SchedRd w s) :
    Calls Tryz.prog 19 #[.agg #[.int .i64 r.n, r.lv, r.vv], .agg #[.int .i64 s.f.1, .int .i64 s.f.2.1, .int .i64 s.f.2.2, s.ov], .agg #[.int .i64 u.1, .int .i64 u.2.1, .int .i64 u.2.2]] w fun x w' => x = .returned (useV r s u) ∧ Below w.heap.size w w' := by
  have HR := Lib.hid hr
  have HS := Lib.hid hs
  clear hr hs
  have HDR := Lib.hid (fun (W : World) (h : RecRd W r) (h2 : SchedRd W s) => draw_l r s u W h h2)
  have HLA := Lib.hid (fun (W : World) (h : RecRd W r) (h2 : SchedRd W s) => Latency_l r s W h h2)
  obtain ⟨W0, hW0⟩ : ∃ W : World, (((w.alloc (Obj.cells #[.int .i64 r.n, r.lv, r.vv] 27)).alloc (Obj.cells #[.int .i64 s.f.1, .int .i64 s.f.2.1, .int .i64 s.f.2.2, s.ov] 32)).alloc (Obj.cells #[.int .i64 u.1, .int .i64 u.2.1, .int .i64 u.2.2] 29)).alloc (Obj.cells #[.int .i64 0, .int .i64 0] 68) = W := ⟨_, rfl⟩
  have kw0 : Below w.heap.size w W0 := by rw [← hW0]; exact (by repeat (first | exact Below.refl _ _ | assumption | (refine Below.drew ?_) | (refine below_drewN ?_ _) | (refine Below.alloc ?_ (by first | (simp; done) | (simp; omega) | omega) _) | (refine Below.setCell ?_ (by first | (simp; done) | (simp; omega) | omega) _) | (refine Below.trans ?_ (Below.mono (by assumption) (by first | (simp; done) | (simp; omega) | omega)))))
  have ks0 : W0.heap.size = w.heap.size + 4 := by rw [← hW0]; simp
  have RD0 := Lib.hid (show ∀ V, Below W0.heap.size W0 V → V.cell? ⟨w.heap.size, 0, none⟩ = some (.int .i64 r.n) ∧ V.cell? ⟨w.heap.size, 1, none⟩ = some (r.lv) ∧ V.cell? ⟨w.heap.size, 2, none⟩ = some (r.vv) ∧ V.cell? ⟨w.heap.size + 1, 0, none⟩ = some (.int .i64 s.f.1) ∧ V.cell? ⟨w.heap.size + 1, 1, none⟩ = some (.int .i64 s.f.2.1) ∧ V.cell? ⟨w.heap.size + 1, 2, none⟩ = some (.int .i64 s.f.2.2) ∧ V.cell? ⟨w.heap.size + 1, 3, none⟩ = some (s.ov) ∧ V.cell? ⟨w.heap.size + 1 + 1, 0, none⟩ = some (.int .i64 u.1) ∧ V.cell? ⟨w.heap.size + 1 + 1, 1, none⟩ = some (.int .i64 u.2.1) ∧ V.cell? ⟨w.heap.size + 1 + 1, 2, none⟩ = some (.int .i64 u.2.2) ∧ V.cell? ⟨w.heap.size + 1 + 1 + 1, 0, none⟩ = some (.int .i64 0) ∧ V.cell? ⟨w.heap.size + 1 + 1 + 1, 1, none⟩ = some (.int .i64 0) from fun V h => by
      refine ⟨(h.cell (p := ⟨w.heap.size, 0, none⟩) (by simp; omega)).trans ?_, (h.cell (p := ⟨w.heap.size, 1, none⟩) (by simp; omega)).trans ?_, (h.cell (p := ⟨w.heap.size, 2, none⟩) (by simp; omega)).trans ?_, (h.cell (p := ⟨w.heap.size + 1, 0, none⟩) (by simp; omega)).trans ?_, (h.cell (p := ⟨w.heap.size + 1, 1, none⟩) (by simp; omega)).trans ?_, (h.cell (p := ⟨w.heap.size + 1, 2, none⟩) (by simp; omega)).trans ?_, (h.cell (p := ⟨w.heap.size + 1, 3, none⟩) (by simp; omega)).trans ?_, (h.cell (p := ⟨w.heap.size + 1 + 1, 0, none⟩) (by simp; omega)).trans ?_, (h.cell (p := ⟨w.heap.size + 1 + 1, 1, none⟩) (by simp; omega)).trans ?_, (h.cell (p := ⟨w.heap.size + 1 + 1, 2, none⟩) (by simp; omega)).trans ?_, (h.cell (p := ⟨w.heap.size + 1 + 1 + 1, 0, none⟩) (by simp; omega)).trans ?_, (h.cell (p := ⟨w.heap.size + 1 + 1 + 1, 1, none⟩) (by simp; omega)).trans ?_⟩ <;> (subst hW0; go_simp))
  have HW0 := Lib.hid hW0; have KW0 := Lib.hid kw0; clear hW0 kw0
  have FZ := Lib.hid (show ∀ V, Below W0.heap.size W0 V → ∀ b o, b < W0.heap.size → V.frozen? ⟨b, o, none⟩ = _ from fun V h b o hb => (bcellB h).2 b o hb)
  by_cases ha : askS r s u = 0
  rotate_left
  · have HA := Lib.hid ha
    have HV := Lib.hid (useV_err (show useErr r s u = askS r s u by unfold useErr; rw [if_neg ha]) ha)
    have hnz : (askS r s u != 0) = true := by simpa using ha
    clear ha
    rw [HV.out]
    clear HV
    generalize hA : askS r s u = A at *
    go_enter Tryz.func19, Tryz.ntmps19
    go_wp2_with (go_at_call 30; rw [HW0.out]; refine (HDR.out _ (HR.out.below KW0.out) (HS.out.below KW0.out)).mono ?_; go_must (rintro e w1 ⟨hd, hb1⟩; have K0 := hb1; have HB1 := Lib.hid hb1; clear hb1; obtain ⟨k0_0, k0_1, k0_2, k0_3, k0_4, k0_5, k0_6, k0_7, k0_8, k0_9, k0_10, k0_11⟩ := RD0.out _ K0; unfold DrawR at hd; rw [hA, if_neg HA.out] at hd; obtain ⟨p, rfl⟩ := hd; have hfz := FZ.out _ K0; rw [← HW0.out] at hfz))
    have KX := (KW0.out.trans (K0.mono (by omega)))
    refine bodyPost_ret (v := .tuple #[.agg #[.int .i64 0, .int .i64 0], .int .i64 A]) (by simp only [results, Tryz.results19]; first | (go_simp; done) | (go_simp; rfl)) rfl ⟨rfl, ?_⟩
    exact (by (repeat (first | (with_reducible refine Below.setCell ?_ (by first | (simp; done) | (simp; omega) | omega) _) | (with_reducible refine Below.drew ?_) | (with_reducible refine below_drewN ?_ _))); with_reducible exact KX)
  have HA := Lib.hid ha
  rcases lat5 ha with h5 | h5
  rotate_left
  · have HV := Lib.hid (useV_err (show useErr r s u = 5 by unfold useErr; rw [if_pos ha, h5]) (by omega))
    have HLV := Lib.hid (show latV r s = .tuple #[.int .i64 0, .int .i64 5] by unfold latV latI; rw [h5]; rfl)
    rw [HV.out]
    rw [HLV.out] at HLA
    clear ha h5 HLV HV
    go_enter Tryz.func19, Tryz.ntmps19
    go_wp2_with (first | (go_at_call 30; rw [HW0.out]; refine (HDR.out _ (HR.out.below KW0.out) (HS.out.below KW0.out)).mono ?_; go_must (rintro e w1 ⟨hd, hb1⟩; have K0 := hb1; have HB1 := Lib.hid hb1; clear hb1; obtain ⟨k0_0, k0_1, k0_2, k0_3, k0_4, k0_5, k0_6, k0_7, k0_8, k0_9, k0_10, k0_11⟩ := RD0.out _ K0; unfold DrawR at hd; rw [if_pos HA.out] at hd; obtain ⟨bp, bv, pv, rfl, hpl⟩ := hd; clear hpl)) | (go_at_call 52; refine (HLA.out _ (HR.out.below (KW0.out.trans (K0.mono (by omega)))) (HS.out.below (KW0.out.trans (K0.mono (by omega))))).mono ?_; go_must (rintro e w2 ⟨rfl, hb2⟩; have K' := (by first | exact below_at K0 (by have := K0.size; omega) hb2 | exact below_at K0 (by have := K0.size; omega) (by repeat (first | exact Below.refl _ _ | assumption | (refine Below.drew ?_) | (refine below_drewN ?_ _) | (refine Below.alloc ?_ (by first | (simp; done) | (simp; omega) | omega) _) | (refine Below.setCell ?_ (by first | (simp; done) | (simp; omega) | omega) _) | (refine Below.trans ?_ (Below.mono (by assumption) (by first | (simp; done) | (simp; omega) | omega))))) : Below W0.heap.size W0 w2); have HB2 := Lib.hid hb2; clear K0 hb2; (try clear k0_0); (try clear k0_1); (try clear k0_2); (try clear k0_3); (try clear k0_4); (try clear k0_5); (try clear k0_6); (try clear k0_7); (try clear k0_8); (try clear k0_9); (try clear k0_10); (try clear k0_11); have K0 := K'; clear K'; obtain ⟨k0_0, k0_1, k0_2, k0_3, k0_4, k0_5, k0_6, k0_7, k0_8, k0_9, k0_10, k0_11⟩ := RD0.out _ K0; have hfz := FZ.out _ K0; rw [← HW0.out] at hfz)))
    have KX := (KW0.out.trans (K0.mono (by omega)))
    refine bodyPost_ret (v := .tuple #[.agg #[.int .i64 0, .int .i64 0], .int .i64 5]) (by simp only [results, Tryz.results19]; first | (go_simp; done) | (go_simp; rfl)) rfl ⟨rfl, ?_⟩
    exact (by (repeat (first | (with_reducible refine Below.setCell ?_ (by first | (simp; done) | (simp; omega) | omega) _) | (with_reducible refine Below.drew ?_) | (with_reducible refine below_drewN ?_ _))); with_reducible exact KX)
  obtain ⟨la, hla, hl1, hl2⟩ := latI_bd h5
  have hvo := validR_out (askS_ok ha).1
  have hn1 : 0 < (ptsL r.n r.l).length := lat_ne h5
  have hc1 := cellsL_pos (u := u) hn1
  have hc2 := cellsL_len r u
  have hnp : (ptsL r.n r.l).length ≤ 1000 := hvo.2.1
  have HV := Lib.hid (useV_ok (show useErr r s u = 0 by unfold useErr; rw [if_pos ha, h5]))
  have HD := Lib.hid (show useD r s u = (cellsL r u).length * la by unfold useD; rw [hla]; rfl)
  have HNN := Lib.hid (show useN r = (ptsL r.n r.l).length from rfl)
  have HLV := Lib.hid (show latV r s = .tuple #[.int .i64 (la : Int), .int .i64 0] by unfold latV; rw [hla, h5])
  have HCE := Lib.hid (fun (b : Nat) (pv : Value) (W : World) (h : ViewAt W b r u pv) => cells_l r u (askS_ok ha).2.2.1 hnp b pv W h)
  have HCX := Lib.hid (fun (e : Ending) (w' : World) (h : CellsR r u e w') => show ∃ v, e = .returned v ∧ SlOf w' w'.heap.size 2 encC v (cellsL r u) from h)
  have hmb : (cellsL r u).length * la ≤ 1000 * 2081 := Nat.mul_le_mul (by omega) hl2
  have hmp : 0 < (cellsL r u).length * la := Nat.mul_pos hc1 hl1
  rw [HV.out]
  rw [HLV.out] at HLA
  clear ha h5 hvo hla HLV
  generalize useD r s u = dd at *
  generalize useN r = nn at *
  generalize cellsL r u = CL at *
  have hwm : IntKind.i64.wrap ((CL.length : Int) * (la : Int)) = ((CL.length * la : Nat) : Int) := by
    rw [show ((CL.length : Int) * (la : Int)) = ((CL.length * la : Nat) : Int) from by push_cast; rfl, IntKind.wrap_i64]; omega
  have HWM := Lib.hid hwm; clear hwm
  go_enter Tryz.func19, Tryz.ntmps19
  go_upto_region 7 with (first | (go_at_call 30; rw [HW0.out]; refine (HDR.out _ (HR.out.below KW0.out) (HS.out.below KW0.out)).mono ?_; go_must (rintro e w1 ⟨hd, hb1⟩; have K0 := hb1; have HB1 := Lib.hid hb1; clear hb1; obtain ⟨k0_0, k0_1, k0_2, k0_3, k0_4, k0_5, k0_6, k0_7, k0_8, k0_9, k0_10, k0_11⟩ := RD0.out _ K0; unfold DrawR at hd; rw [if_pos HA.out] at hd; obtain ⟨bp, bv, pv, rfl, hpl⟩ := hd; have HPL := Lib.hid hpl; clear hpl)) | (go_at_call 52; refine (HLA.out _ (HR.out.below (KW0.out.trans (K0.mono (by omega)))) (HS.out.below (KW0.out.trans (K0.mono (by omega))))).mono ?_; go_must (rintro e w2 ⟨rfl, hb2⟩; have K' := (by first | exact below_at K0 (by have := K0.size; omega) hb2 | exact below_at K0 (by have := K0.size; omega) (by repeat (first | exact Below.refl _ _ | assumption | (refine Below.drew ?_) | (refine below_drewN ?_ _) | (refine Below.alloc ?_ (by first | (simp; done) | (simp; omega) | omega) _) | (refine Below.setCell ?_ (by first | (simp; done) | (simp; omega) | omega) _) | (refine Below.trans ?_ (Below.mono (by assumption) (by first | (simp; done) | (simp; omega) | omega))))) : Below W0.heap.size W0 w2); have HB2 := Lib.hid hb2; clear K0 hb2; (try clear k0_0); (try clear k0_1); (try clear k0_2); (try clear k0_3); (try clear k0_4); (try clear k0_5); (try clear k0_6); (try clear k0_7); (try clear k0_8); (try clear k0_9); (try clear k0_10); (try clear k0_11); have K0 := K'; clear K'; obtain ⟨k0_0, k0_1, k0_2, k0_3, k0_4, k0_5, k0_6, k0_7, k0_8, k0_9, k0_10, k0_11⟩ := RD0.out _ K0; have HPL2 := Lib.hid (HPL.out.below HB2.out))))
  obtain ⟨pa, pc, hpe, -⟩ := HPL2.out.view.pts.shape
  subst hpe
  have c0 := HPL2.out.c0
  have c8 := HPL2.out.view.c8
  have hbp := HPL2.out.lt
  have hbv := HPL2.out.view.lt
  have VD := Lib.hid (show ∀ V, Below w2.heap.size w2 V → V.cell? ⟨bp, 0, none⟩ = some (.pointer (some ⟨bv, 0, none⟩)) ∧ V.cell? ⟨bv, 8, none⟩ = some (.slice pa (ptsL r.n r.l).length pc) from fun V h => ⟨(h.cell (p := ⟨bp, 0, none⟩) hbp).trans (by assumption), (h.cell (p := ⟨bv, 8, none⟩) hbv).trans (by assumption)⟩)
  clear c0 c8
  have KK0 := Lib.hid K0
  have hs2 := K0.size
  clear K0; (try clear k0_0); (try clear k0_1); (try clear k0_2); (try clear k0_3); (try clear k0_4); (try clear k0_5); (try clear k0_6); (try clear k0_7); (try clear k0_8); (try clear k0_9); (try clear k0_10); (try clear k0_11)
  have hwm := HWM.out
  go_region_held3 (fun w' => Below w2.heap.size w2 w' ∧ (w'.cell? ⟨bp, 0, none⟩ = some (.pointer (some ⟨bv, 0, none⟩)) ∧ w'.cell? ⟨bv, 8, none⟩ = some (.slice pa (ptsL r.n r.l).length pc))) (((refine (fun kb => (⟨kb, VD.out _ kb⟩)) (?_ : Below w2.heap.size w2 _); exact (by repeat (first | (with_reducible exact Below.refl _ _) | (with_reducible assumption) | (with_reducible refine Below.drew ?_) | (with_reducible refine Below.setCell ?_ (by first | (simp; done) | (simp; omega) | omega) _) | (with_reducible refine Below.alloc ?_ (by first | (simp; done) | (simp; omega) | omega) _) | (with_reducible refine below_drewN ?_ _) | (refine Below.trans ?_ (Below.mono (by with_reducible assumption) (by first | (simp; done) | (simp; omega) | omega)))))))) (first | (go_at_call 53; refine (HCE.out _ _ _ (HPL2.out.view.below (show Below w2.heap.size w2 _ from (by repeat (first | (with_reducible exact Below.refl _ _) | (with_reducible assumption) | (with_reducible refine Below.drew ?_) | (with_reducible refine Below.setCell ?_ (by first | (simp; done) | (simp; omega) | omega) _) | (with_reducible refine Below.alloc ?_ (by first | (simp; done) | (simp; omega) | omega) _) | (with_reducible refine below_drewN ?_ _) | (refine Below.trans ?_ (Below.mono (by with_reducible assumption) (by first | (simp; done) | (simp; omega) | omega)))))))).mono ?_; go_must (rintro e w5 ⟨hce, hb5⟩; have hs5 := hb5.size; (try simp at hs5); obtain ⟨cv, rfl, hcs⟩ := HCX.out _ _ hce; obtain ⟨ca, cc, hcv, -⟩ := hcs.shape; subst hcv; clear hcs hce)))
  all_goals
    go_wp2
    refine forgetW (fun V => Below w2.heap.size w2 V) (by first | exact (by repeat (first | (with_reducible exact Below.refl _ _) | (with_reducible assumption) | (with_reducible refine Below.drew ?_) | (with_reducible refine Below.setCell ?_ (by first | (simp; done) | (simp; omega) | omega) _) | (with_reducible refine Below.alloc ?_ (by first | (simp; done) | (simp; omega) | omega) _) | (with_reducible refine below_drewN ?_ _) | (refine Below.trans ?_ (Below.mono (by with_reducible assumption) (by first | (simp; done) | (simp; omega) | omega)))))) ?_
    intro w3 hb3
    have hs3 := hb3.size
    have HB3 := Lib.hid hb3
    clear hb3 hwm
    have HSS := Lib.hid (Int.natCast_mul CL.length la)
    rw [← HSS.out]
    generalize CL.length * la = m at *
    generalize (ptsL r.n r.l).length = n at *
    have HGG := Lib.hid (show Nat.gcd n m = Nat.gcd nn dd by rw [HD.out, HNN.out])
    clear HSS
    go_loopw [13, 14] (fun t13 t14 wr => ∃ a b : Nat, t13 = .int .i64 (a : Int) ∧ t14 = .int .i64 (b : Int) ∧ a ≤ 3000000 ∧ b ≤ 3000000 ∧ Hid (Nat.gcd a b = Nat.gcd nn dd) ∧ Below w3.heap.size w3 wr) (fun _ t14 _ => (intOf t14).toNat)
    case atStart => exact ⟨n, m, rfl, rfl, by omega, by omega, HGG, Below.refl _ _⟩
    case round =>
      obtain ⟨a, b, rfl, rfl, ha, hb, HG, hbr⟩ := hrel
      have hsr := hbr.size
      by_cases hbz : b = 0
      · subst hbz
        have HGA := Lib.hid (show a = Nat.gcd nn dd by have := HG.out; rwa [Nat.gcd_zero_right] at this)
        have haz : a ≠ 0 := by intro e; have := Nat.eq_zero_of_gcd_eq_zero_right (HGA.out.symm.trans e); have hm1 := HD.out; omega
        have haz2 : ((a : Int) == 0) = false := by rw [beq_eq_false_iff_ne]; omega
        have haz3 : ¬ ((a : Int) = 0) := by omega
        have HQ := Lib.hid (show ratV nn dd = .agg #[.int .i64 ((n / a : Nat) : Int), .int .i64 ((m / a : Nat) : Int)] by rw [HGA.out, HNN.out, HD.out]; rfl)
        obtain ⟨d1, e1, x1, y1⟩ := div_laws n a (by omega)
        obtain ⟨d2, e2, x2, y2⟩ := div_laws m a (by omega)
        have K0 := below_at KK0.out hs2 (below_at HB3.out hs3 hbr)
        obtain ⟨k0_0, k0_1, k0_2, k0_3, k0_4, k0_5, k0_6, k0_7, k0_8, k0_9, k0_10, k0_11⟩ := RD0.out _ K0
        have hfz := FZ.out _ K0
        rw [← HW0.out] at hfz
        have KX := (KW0.out.trans (K0.mono (by omega)))
        go_wp2
        generalize n / a = q1 at *
        generalize m / a = q2 at *
        clear ha HGA HG hmb hmp hn1 hc1 hc2 hnp hl1 hl2
        (refine stilld 7 (by kernel_rfl) (by kernel_rfl) ?_; simp only [List.take_succ_cons, List.take_zero, List.drop_succ_cons, List.drop_zero]; repeat (first | still_step | (refine wpStill_step (fun K hK => ?_); go_simp; refine ⟨_, fail, hK _ ?_⟩; clear hK K)); (try refine wpStill_nil ?_))
        go_wp2
        refine bodyPost_ret (v := .tuple #[.agg #[.int .i64 (q1 : Int), .int .i64 (q2 : Int)], .int .i64 0]) (by simp only [results, Tryz.results19]; first | (go_simp; done) | (go_simp; rfl)) rfl ⟨by rw [HQ.out], ?_⟩
        exact (by (repeat (first | (with_reducible refine Below.setCell ?_ (by first | (simp; done) | (simp; omega) | omega) _) | (with_reducible refine Below.drew ?_) | (with_reducible refine below_drewN ?_ _))); with_reducible exact KX)
      · have HM := Lib.hid (tmod_nat a b)
        have hmlt : a % b < b := Nat.mod_lt _ (by omega)
        have hbz2 : ((b : Int) == 0) = false := by rw [beq_eq_false_iff_ne]; omega
        have hbz3 : ¬ ((b : Int) = 0) := by omega
        have HG2 := Lib.hid (show Nat.gcd b (a % b) = Nat.gcd nn dd by rw [← HG.out, Nat.gcd_comm b, ← Nat.gcd_rec, Nat.gcd_comm])
        go_wp2
        go_quiet (fail)
        go_wp2
        go_roundw
        case rel => exact ⟨b, a % b, rfl, by first | rfl | rw [← HM.out], by omega, by omega, HG2, below_drewN hbr _⟩
        case measure => simp only [intOf]; have : ((a : Int) % (b : Int)) = ((a % b : Nat) : Int) := rfl; omega
set_option maxHeartbeats 4000000 in
set_option maxRecDepth 100000 in
theorem lowest_l (n m : Nat) (hn : 0 < n) (hm : 0 < m) (hn2 : n ≤ 3000000) (hm2 : m ≤ 3000000) (w : World) :
    Calls Tryz.prog 54 #[.int .i64 (n : Int), .int .i64 (m : Int)] w fun x w' => x = .returned (ratV n m) ∧ Below w.heap.size w w' := by
  obtain ⟨W0, hW0⟩ : ∃ W : World, w.alloc (Obj.cells #[.int .i64 0, .int .i64 0] 68) = W := ⟨_, rfl⟩
  have kw0 : Below w.heap.size w W0 := by rw [← hW0]; exact (by repeat (first | exact Below.refl _ _ | assumption | (refine Below.drew ?_) | (refine below_drewN ?_ _) | (refine Below.alloc ?_ (by first | (simp; done) | (simp; omega) | omega) _) | (refine Below.setCell ?_ (by first | (simp; done) | (simp; omega) | omega) _) | (refine Below.trans ?_ (Below.mono (by assumption) (by first | (simp; done) | (simp; omega) | omega)))))
  have ks0 : W0.heap.size = w.heap.size + 1 := by rw [← hW0]; simp
  have RD0 := Lib.hid (show ∀ V, Below W0.heap.size W0 V → V.cell? ⟨w.heap.size, 0, none⟩ = some (.int .i64 0) ∧ V.cell? ⟨w.heap.size, 1, none⟩ = some (.int .i64 0) from fun V h => by
      refine ⟨(h.cell (p := ⟨w.heap.size, 0, none⟩) (by simp; omega)).trans ?_, (h.cell (p := ⟨w.heap.size, 1, none⟩) (by simp; omega)).trans ?_⟩ <;> (subst hW0; go_simp))
  have HW0 := Lib.hid hW0; have KW0 := Lib.hid kw0; clear hW0 kw0
  have FZ := Lib.hid (show ∀ V, Below W0.heap.size W0 V → ∀ b o, b < W0.heap.size → V.frozen? ⟨b, o, none⟩ = _ from fun V h b o hb => (bcellB h).2 b o hb)
  have hsW : w.heap.size ≤ W0.heap.size := by omega
  go_enter Tryz.func54, Tryz.ntmps54
  go_wp2
  rw [HW0.out]
  go_loopw [5, 6] (fun t5 t6 wr => ∃ a b : Nat, t5 = .int .i64 (a : Int) ∧ t6 = .int .i64 (b : Int) ∧ a ≤ 3000000 ∧ b ≤ 3000000 ∧ Hid (Nat.gcd a b = Nat.gcd n m) ∧ Below W0.heap.size W0 wr) (fun _ t6 _ => (intOf t6).toNat)
  case atStart => exact ⟨n, m, rfl, rfl, by omega, by omega, Lib.hid rfl, Below.refl _ _⟩
  case round =>
    obtain ⟨a, b, rfl, rfl, ha, hb, HG, hbr⟩ := hrel
    have hsr := hbr.size
    by_cases hbz : b = 0
    · subst hbz
      have HGA := Lib.hid (show a = Nat.gcd n m by have := HG.out; rwa [Nat.gcd_zero_right] at this)
      have haz : a ≠ 0 := by intro e; have := Nat.eq_zero_of_gcd_eq_zero_right (HGA.out.symm.trans e); omega
      have haz2 : ((a : Int) == 0) = false := by rw [beq_eq_false_iff_ne]; omega
      have haz3 : ¬ ((a : Int) = 0) := by omega
      have K0 := hbr
      obtain ⟨k0_0, k0_1⟩ := RD0.out _ K0
      have hfz := FZ.out _ K0
      rw [← HW0.out] at hfz
      have KX := (KW0.out.trans (K0.mono (by omega)))
      go_wp2
      have HQ := Lib.hid (show ratV n m = .agg #[.int .i64 ((n / a : Nat) : Int), .int .i64 ((m / a : Nat) : Int)] by rw [HGA.out]; rfl)
      obtain ⟨d1, e1, x1, y1⟩ := div_laws n a hn2
      obtain ⟨d2, e2, x2, y2⟩ := div_laws m a hm2
      generalize n / a = q1 at *
      generalize m / a = q2 at *
      clear hn hm hn2 hm2 ha hb HGA HG
      (refine stilld 7 (by kernel_rfl) (by kernel_rfl) ?_; simp only [List.take_succ_cons, List.take_zero, List.drop_succ_cons, List.drop_zero]; repeat (first | still_step | (refine wpStill_step (fun K hK => ?_); go_simp; refine ⟨_, fail, hK _ ?_⟩; clear hK K)); (try refine wpStill_nil ?_))
      go_wp2
      refine bodyPost_ret (v := .agg #[.int .i64 (q1 : Int), .int .i64 (q2 : Int)]) (by simp only [results, Tryz.results54]; first | (go_simp; done) | (go_simp; rfl)) rfl ⟨by rw [HQ.out], ?_⟩
      exact (by (repeat (first | (with_reducible refine Below.setCell ?_ (by first | (simp; done) | (simp; omega) | omega) _) | (with_reducible refine Below.drew ?_) | (with_reducible refine below_drewN ?_ _))); with_reducible exact KX)
    · have hmlt : a % b < b := Nat.mod_lt _ (by omega)
      have hbz2 : ((b : Int) == 0) = false := by rw [beq_eq_false_iff_ne]; omega
      have hbz3 : ¬ ((b : Int) = 0) := by omega
      have HG2 := Lib.hid (show Nat.gcd b (a % b) = Nat.gcd n m by rw [← HG.out, Nat.gcd_comm b, ← Nat.gcd_rec, Nat.gcd_comm])
      go_wp2
      go_quiet (fail)
      go_wp2
      go_roundw
      case rel => exact ⟨b, a % b, rfl, by rfl, by omega, by omega, HG2, below_drewN hbr _⟩
      case measure => simp only [intOf]; have : ((a : Int) % (b : Int)) = ((a % b : Nat) : Int) := rfl; omega
end Go.Proofs.YtndfdgdahinkpaaGreat
