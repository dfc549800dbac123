/- The greatest number of points of a cell: the program's Busy and the reference's: their walks. -/
import Derived.Test.YtndfdgdahinkpaaCelI
namespace Go.Proofs.Ytndfdgdahinkpaa
open Go.RowKit Go.Lib Go.WideMaps
set_option linter.unusedVariables false
def BusyV (r : RecD) (u : P3) : Value := .tuple #[.int .i64 (if askE r u = 0 then (busyL r u : Int) else 0), .int .i64 (askE r u)]
theorem busyV_err {r : RecD} {u : P3} {k : Int} (h : askE r u = k) (hk : k ≠ 0) : BusyV r u = .tuple #[.int .i64 0, .int .i64 k] := by
  unfold BusyV; rw [h, if_neg hk]
theorem busyV_ok {r : RecD} {u : P3} (h : askE r u = 0) : BusyV r u = .tuple #[.int .i64 (busyL r u : Int), .int .i64 0] := by
  unfold BusyV; rw [h, if_pos rfl]
theorem busyTo_succ (K : List (Int × Int)) (i : Nat) (h : i < K.length) : busyTo K (i + 1) = max (busyTo K i) ((idxs (K.take i) K[i]).length + 1) := by
  show max _ _ = _
  congr 1
  rw [List.take_succ_eq_append_getElem h, show K.getD i (0, 0) = K[i] by simp [List.getD, h], idxs_snoc, if_pos rfl, List.length_append, List.length_singleton]
set_option maxHeartbeats 4000000 in
set_option maxRecDepth 100000 in
theorem rBusy_l (r : RecD) (u : P3) (w : World) (hr : RecRd w r) :
    Calls Try.prog 32 #[.agg #[.int .i64 r.n, r.lv, r.vv], .agg #[.int .i64 u.1, .int .i64 u.2.1, .int .i64 u.2.2]] w fun e w' => e = .returned (BusyV r u) ∧ Below w.heap.size w w' := by
  have HR := Lib.hid hr
  clear hr
  have HAS := Lib.hid (fun (W : World) (h : RecRd W r) => Asked_l r u W h)
  obtain ⟨W0, hW0⟩ : ∃ W : World, (w.alloc (Obj.cells #[.int .i64 r.n, r.lv, r.vv] 27)).alloc (Obj.cells #[.int .i64 u.1, .int .i64 u.2.1, .int .i64 u.2.2] 29) = W := ⟨_, rfl⟩
  have kw0 : Below w.heap.size w W0 := by rw [← hW0]; exact (by repeat (first | exact Below.refl _ _ | assumption | (refine Below.drew ?_) | (refine below_drewN ?_ _) | (refine Below.alloc ?_ (by first | (simp; done) | (simp; omega) | omega) _) | (refine Below.setCell ?_ (by first | (simp; done) | (simp; omega) | omega) _) | (refine Below.trans ?_ (Below.mono (by assumption) (by first | (simp; done) | (simp; omega) | omega)))))
  have ks0 : W0.heap.size = w.heap.size + 2 := by rw [← hW0]; simp
  have RD0 := Lib.hid (show ∀ V, Below W0.heap.size W0 V → V.cell? ⟨w.heap.size, 0, none⟩ = some (.int .i64 r.n) ∧ V.cell? ⟨w.heap.size, 1, none⟩ = some (r.lv) ∧ V.cell? ⟨w.heap.size, 2, none⟩ = some (r.vv) ∧ V.cell? ⟨w.heap.size + 1, 0, none⟩ = some (.int .i64 u.1) ∧ V.cell? ⟨w.heap.size + 1, 1, none⟩ = some (.int .i64 u.2.1) ∧ V.cell? ⟨w.heap.size + 1, 2, none⟩ = some (.int .i64 u.2.2) from fun V h => by
      refine ⟨(h.cell (p := ⟨w.heap.size, 0, none⟩) (by simp; omega)).trans ?_, (h.cell (p := ⟨w.heap.size, 1, none⟩) (by simp; omega)).trans ?_, (h.cell (p := ⟨w.heap.size, 2, none⟩) (by simp; omega)).trans ?_, (h.cell (p := ⟨w.heap.size + 1, 0, none⟩) (by simp; omega)).trans ?_, (h.cell (p := ⟨w.heap.size + 1, 1, none⟩) (by simp; omega)).trans ?_, (h.cell (p := ⟨w.heap.size + 1, 2, none⟩) (by simp; omega)).trans ?_⟩ <;> (subst hW0; go_simp))
  have HW0 := Lib.hid hW0; have KW0 := Lib.hid kw0; clear hW0 kw0
  by_cases ha : askE r u = 0
  rotate_left
  · have HE := Lib.hid (busyV_err (rfl : askE r u = askE r u) ha)
    have hnz : (askE r u != 0) = true := by simpa using ha
    clear ha
    generalize hA : askE r u = A at *
    have HA := Lib.hid hA; clear hA
    go_enter Try.func32, Try.ntmps32
    go_wp2_with (go_at_call 25; rw [HW0.out]; refine (HAS.out _ (HR.out.below KW0.out)).mono ?_; go_must (rintro e w1 ⟨rfl, hb1⟩; have K0 := hb1; have HB1 := Lib.hid hb1; clear hb1; obtain ⟨k0_0, k0_1, k0_2, k0_3, k0_4, k0_5⟩ := RD0.out _ K0; skip))
    go_ret2
    exact ⟨by rw [HE.out]; rfl, below_at KW0.out (by omega) K0⟩
  have HA := Lib.hid ha
  have HAO := Lib.hid (askE_ok ha)
  have HY := Lib.hid (busyV_ok ha)
  have hvo := validR_out HAO.out.1
  have hdo := validD_out hvo.1
  have HAL := Lib.hid (fun (W : World) (hw : SlOf W W.heap.size 4 encI r.lv r.l) => rAll_l r.n r.l hdo.1 hdo.2.2 W r.lv hw)
  have HMM := Lib.hid (fun p (hp : p ∈ ptsL r.n r.l) => ((mem_ptsL hdo.1 p).1 hp).1)
  have hL1 : (ptsL r.n r.l).length ≤ 1000 := hvo.2.1
  have HCL := Lib.hid (fun (p : P3) (h : p ∈ ptsL r.n r.l) (W : World) => rFold_l r.n u p HAO.out.2 20 (HMM.out p h) W)
  have HWF := Lib.hid (fun (p : P3) => (cell_wf r.n u p : wf2 (cellC r.n u p)))
  have HBL := Lib.hid (show busyL r u = busyTo ((ptsL r.n r.l).map (cellC r.n u)) (ptsL r.n r.l).length from rfl)
  clear hvo hdo ha
  generalize cellC r.n u = F at *
  have hmm := @run_makeMap Try.prog
  go_enter Try.func32, Try.ntmps32
  go_wp2_with (first | (go_at_call 25; rw [HW0.out]; refine (HAS.out _ (HR.out.below KW0.out)).mono ?_; go_must (rintro e w1 ⟨rfl, hb1⟩; have K0 := hb1; have HB1 := Lib.hid hb1; clear hb1; obtain ⟨k0_0, k0_1, k0_2, k0_3, k0_4, k0_5⟩ := RD0.out _ K0; rw [HA.out]; have zz := z2 (show w.heap.size + 1 + 1 ≤ w1.heap.size by have := K0.size; omega))) | (go_at_call 37; refine (HAL.out _ (HR.out.l.below ((KW0.out.trans (K0.mono (by omega))).alloc (by have := K0.size; omega) _))).mono ?_; go_must (rintro e w2 ⟨⟨v', rfl, hsl⟩, hb2⟩; have hs2 := hb2.size; simp at hs2; obtain ⟨pa, pc, hpv, -⟩ := hsl.shape; subst hpv)))
  obtain ⟨qa, qc, g, off, hqe, hlc, hcm, hx⟩ := SlOf.at (enc := encP) (fun _ => rfl) un_pts sz_pts hsl
  have hqa : qa = pa := by cases hqe; rfl
  have hqc : qc = pc := by cases hqe; rfl
  subst hqa hqc
  clear hqe hsl
  unfold maxLen at hcm
  have HX := Lib.hid hx; clear hx hmm
  have hs1 := HB1.out.size
  have hw1s : w.heap.size + 2 ≤ w1.heap.size := by omega
  have K00 := Lib.hid (show Below W0.heap.size W0 w2 from below_at K0 hs1 (((Below.refl _ _).alloc (Nat.le_refl _) _).trans (hb2.mono (by simp))))
  have HSM := Lib.hid (show CntCM w2 w1.heap.size 0 [] from MapV.kept (CntCM.made w1) hb2)
  clear hb2 K0 HB1
  (try clear k0_0); (try clear k0_1); (try clear k0_2); (try clear k0_3); (try clear k0_4); (try clear k0_5)
  have hbm : w1.heap.size + 1 ≤ w2.heap.size := hs2
  have hbW : W0.heap.size ≤ w1.heap.size := hs1
  have hwW : w.heap.size ≤ W0.heap.size := by omega
  clear zz ks0 hs1 hs2
  generalize ptsL r.n r.l = L at *
  go_loopw [8, 10] (fun t8 t10 wr => ∃ k : Nat, k ≤ L.length ∧ t10 = .int .i64 (k : Nat) ∧ t8 = .int .i64 (busyTo (L.map F) k : Nat) ∧ Hid (CntCM wr w1.heap.size k ((L.take k).map F)) ∧ Below w1.heap.size w2 wr ∧ Hid (KeepS (fun b => b = w1.heap.size) w2.heap.size w2 wr)) (fun _ t10 _ => L.length - (intOf t10).toNat)
  case atStart => exact ⟨0, Nat.zero_le _, rfl, rfl, HSM, Below.refl _ _, Lib.hid (KeepS.refl _ _ _)⟩
  case round =>
    obtain ⟨k, hk, rfl, rfl, HM, hb, HKS⟩ := hrel
    have hs := hb.size
    have K0 := K00.out.trans (hb.mono hbW)
    by_cases hlt : k < L.length
    rotate_left
    · have hke : k = L.length := by omega
      subst hke
      have HBE := Lib.hid (show BusyV r u = .tuple #[.int .i64 (busyTo (L.map F) L.length : Nat), .int .i64 0] by rw [HY.out, HBL.out])
      generalize busyTo (L.map F) L.length = N at *
      go_wp2
      go_ret2
      exact ⟨by rw [HBE.out]; rfl, KW0.out.trans (K0.mono hwW)⟩
    obtain ⟨-, hi, hg, hc⟩ := HX.out k hlt
    have hc0 := hc 0 (by omega)
    have hgb : g ≠ w1.heap.size := by
      intro e
      obtain ⟨o, h1, h2, -⟩ := MapV.isWalk HSM.out
      obtain ⟨o', h3, h4⟩ := cells_of_cell (hc0.trans (by rfl : (encP L[k])[0]? = some (.int .i64 L[k].1)))
      simp only [e] at h3
      rw [h1] at h3
      cases h3
      rw [h2] at h4; cases h4
    have hge := HKS.out.2 g hg hgb
    have rd := fun j hj => (World.cell?_of_block (a := ⟨g, off + 3 * k + j, none⟩) hge).trans (hc j hj)
    clear hc hc0 hge
    have hmem : L[k] ∈ L := List.getElem_mem hlt
    have HSK := Lib.hid (HCL.out L[k] hmem)
    have HWK := Lib.hid (HWF.out L[k])
    have HT := Lib.hid (show (L.take (k + 1)).map F = (L.take k).map F ++ [F L[k]] by rw [List.take_succ_eq_append_getElem hlt, List.map_append]; rfl)
    have HTL := Lib.hid (show ((L.take k).map F).length = k by rw [List.length_map, List.length_take]; omega)
    have HBS := Lib.hid (show busyTo (L.map F) (k + 1) = max (busyTo (L.map F) k) ((idxs ((L.take k).map F) (F L[k])).length + 1) by
      rw [busyTo_succ (L.map F) k (by simpa using hlt), ← List.map_take, List.getElem_map])
    have hBL : busyTo (L.map F) k ≤ 1000 := Nat.le_trans (busyTo_le _ _) (by simpa using hL1)
    have hIL : (idxs ((L.take k).map F) (F L[k])).length ≤ 1000 := Nat.le_trans (idxs_len _ _) (by rw [HTL.out]; omega)
    have HLT := Lib.hid hlt
    clear hmem HSM
    generalize busyTo (L.map F) k = N at *
    generalize (L.take k).map F = D at *
    generalize L[k] = p at *
    generalize F p = a at *
    obtain ⟨p0, p1, p2⟩ := p
    obtain ⟨a0, a1⟩ := a
    simp only at HSK
    have r0 : wr.cell? ⟨g, off + 3 * k, none⟩ = some (.int .i64 p0) := rd 0 (by omega)
    have r1 : wr.cell? ⟨g, off + 3 * k + 1, none⟩ = some (.int .i64 p1) := rd 1 (by omega)
    have r2 : wr.cell? ⟨g, off + 3 * k + 2, none⟩ = some (.int .i64 p2) := rd 2 (by omega)
    clear rd
    have hgr : g < wr.heap.size := by omega
    have PT := Lib.hid (show ∀ V, Below wr.heap.size wr V → V.cell? ⟨g, off + 3 * k, none⟩ = some (.int .i64 p0) ∧ V.cell? ⟨g, off + 3 * k + 1, none⟩ = some (.int .i64 p1) ∧ V.cell? ⟨g, off + 3 * k + 2, none⟩ = some (.int .i64 p2) from fun V h => ⟨(h.cell (p := ⟨g, off + 3 * k, none⟩) hgr).trans (by assumption), (h.cell (p := ⟨g, off + 3 * k + 1, none⟩) hgr).trans (by assumption), (h.cell (p := ⟨g, off + 3 * k + 2, none⟩) hgr).trans (by assumption)⟩)
    have KR0 := Lib.hid K0
    have hsW : W0.heap.size ≤ wr.heap.size := by omega
    clear K0
    go_wp2_with fail
    go_cut [8, 10, 11] from 22 to 47 (fun t8 t10 t11 wx => ∃ g8, t11 = .pointer (some ⟨g8, 0, none⟩) ∧ t10 = .int .i64 (k : Nat) ∧ t8 = .int .i64 (N : Nat) ∧ wr.heap.size ≤ g8 ∧ g8 < wx.heap.size ∧ wx.cell? ⟨g8, 0, none⟩ = some (.int .i64 a0) ∧ wx.cell? ⟨g8, 1, none⟩ = some (.int .i64 a1) ∧ Below wr.heap.size wr wx)
    case first =>
      clear r0 r1 r2
      go_region_held3 (fun w' => Below wr.heap.size wr w' ∧ (w'.cell? ⟨w.heap.size, 0, none⟩ = some (.int .i64 r.n) ∧ w'.cell? ⟨w.heap.size, 1, none⟩ = some (r.lv) ∧ w'.cell? ⟨w.heap.size, 2, none⟩ = some (r.vv) ∧ w'.cell? ⟨w.heap.size + 1, 0, none⟩ = some (.int .i64 u.1) ∧ w'.cell? ⟨w.heap.size + 1, 1, none⟩ = some (.int .i64 u.2.1) ∧ w'.cell? ⟨w.heap.size + 1, 2, none⟩ = some (.int .i64 u.2.2)) ∧ (w'.cell? ⟨g, off + 3 * k, none⟩ = some (.int .i64 p0) ∧ w'.cell? ⟨g, off + 3 * k + 1, none⟩ = some (.int .i64 p1) ∧ w'.cell? ⟨g, off + 3 * k + 2, none⟩ = some (.int .i64 p2))) (((refine (fun kb => (⟨kb, RD0.out _ (below_at KR0.out hsW kb), PT.out _ kb⟩)) (?_ : Below wr.heap.size wr _); exact (by repeat (first | exact Below.refl _ _ | assumption | (refine Below.drew ?_) | (refine below_drewN ?_ _) | (refine Below.alloc ?_ (by first | (simp; done) | (simp; omega) | omega) _) | (refine Below.setCell ?_ (by first | (simp; done) | (simp; omega) | omega) _) | (refine Below.trans ?_ (Below.mono (by assumption) (by first | (simp; done) | (simp; omega) | omega)))))))) (first | (go_at_call 60; refine (HSK.out _).mono ?_; go_must (rintro e w5 ⟨rfl, hb5⟩; have hs5 := hb5.size; (try simp at hs5); obtain ⟨hc5, hf5⟩ := bcell hb5; (first | have z := z10 hs5 | have z := z9 hs5 | have z := z8 hs5 | have z := z7 hs5 | have z := z6 hs5 | have z := z5 hs5 | have z := z4 hs5 | have z := z3 hs5 | have z := z2 hs5 | have z := z1 hs5 | skip))))
      all_goals (try go_wp2_with fail)
      all_goals go_meet
      all_goals (refine ⟨_, rfl, rfl, rfl, by omega, by first | (simp; done) | (simp; omega), by go_simp, by go_simp, by repeat (first | exact Below.refl _ _ | assumption | (refine Below.drew ?_) | (refine below_drewN ?_ _) | (refine Below.alloc ?_ (by first | (simp; done) | (simp; omega) | omega) _) | (refine Below.setCell ?_ (by first | (simp; done) | (simp; omega) | omega) _) | (refine Below.trans ?_ (Below.mono (by assumption) (by first | (simp; done) | (simp; omega) | omega))))⟩)
    case rest =>
      obtain ⟨g8, rfl, rfl, rfl, hg8, hg8', y0, y1, hbx⟩ := hcut
      have hsx := hbx.size
      have hlt1 := HM.out.lt
      have hbd : Below wr.heap.size wr wc.drew := hbx.drew
      obtain ⟨st, w7, hr, hg2, hl2, hst⟩ := CntCM.step (MapV.kept HM.out hbd) (by omega) (a0, a1) HWK.out
      obtain ⟨w3, hr3, hm3, hg3⟩ := hst w7 rfl
      have hlk := CntCM.look (MapV.kept HM.out hbd) (a0, a1) HWK.out wc.drew (Below.refl _ _)
      simp only [ceV] at hr hlk hl2
      simp only [goInt] at hr3
      have hs2 := hg2.size
      have hs3 := hg3.size
      have hsd : wc.drew.heap.size = wc.heap.size := by simp
      have hg8e : w3.heap[g8]? = wc.heap[g8]? := (hg3.block g8 (by omega) (by intro e; simp only [Option.some.injEq] at e; omega)).trans (hg2.block g8 (by omega) (by intro e; simp only [Option.some.injEq] at e; omega))
      have z0 := (World.cell?_of_block (a := ⟨g8, 0, none⟩) hg8e).trans y0
      have z1 := (World.cell?_of_block (a := ⟨g8, 1, none⟩) hg8e).trans y1
      have hB3 : Below w1.heap.size w2 w3 := ((hb.trans (hbd.mono (by omega))).grown hg2 (by omega) (fun r e => by cases e; omega)).grown hg3 (by omega) (fun r e => by cases e; omega)
      have HK3 := Lib.hid (((HKS.out.trans (KeepS.of_below (hbd.mono hs))).trans (KeepS.grown hg2 (by omega) (fun r e => by cases e; exact .inl rfl))).trans (KeepS.grown hg3 (by omega) (fun r e => by cases e; exact .inl rfl)))
      have hl3 := CntCM.look hm3 (a0, a1) HWK.out w3 (Below.refl _ _)
      rw [idxs_snoc, if_pos rfl, List.length_append, List.length_singleton] at hl3
      simp only [ceV] at hl3
      generalize (idxs D (a0, a1)).length = n at *
      clear r0 r1 r2 hst hg8e
      go_wp2_with fail
      go_region
      all_goals
        clear hr hr3 hlk hl2
        go_wp2
        go_roundw
        case rel => exact ⟨k + 1, HLT.out, by simp, by rw [HBS.out]; congr 1; omega, Lib.hid (by rw [HT.out]; exact hm3), hB3, HK3⟩
        case measure => simp only [intOf]; have := HLT.out; omega
set_option maxHeartbeats 4000000 in
set_option maxRecDepth 100000 in
theorem Busy_l (r : RecD) (u : P3) (w : World) (hr : RecRd w r) :
    Calls Try.prog 31 #[.agg #[.int .i64 r.n, r.lv, r.vv], .agg #[.int .i64 u.1, .int .i64 u.2.1, .int .i64 u.2.2]] w fun e w' => e = .returned (BusyV r u) ∧ Below w.heap.size w w' := by
  have HR := Lib.hid hr
  clear hr
  have HLK := Lib.hid (fun (W : World) (h : RecRd W r) => look_l r u W h)
  obtain ⟨W0, hW0⟩ : ∃ W : World, (w.alloc (Obj.cells #[.int .i64 r.n, r.lv, r.vv] 27)).alloc (Obj.cells #[.int .i64 u.1, .int .i64 u.2.1, .int .i64 u.2.2] 29) = W := ⟨_, rfl⟩
  have kw0 : Below w.heap.size w W0 := by rw [← hW0]; exact (by repeat (first | exact Below.refl _ _ | assumption | (refine Below.drew ?_) | (refine below_drewN ?_ _) | (refine Below.alloc ?_ (by first | (simp; done) | (simp; omega) | omega) _) | (refine Below.setCell ?_ (by first | (simp; done) | (simp; omega) | omega) _) | (refine Below.trans ?_ (Below.mono (by assumption) (by first | (simp; done) | (simp; omega) | omega)))))
  have ks0 : W0.heap.size = w.heap.size + 2 := by rw [← hW0]; simp
  have RD0 := Lib.hid (show ∀ V, Below W0.heap.size W0 V → V.cell? ⟨w.heap.size, 0, none⟩ = some (.int .i64 r.n) ∧ V.cell? ⟨w.heap.size, 1, none⟩ = some (r.lv) ∧ V.cell? ⟨w.heap.size, 2, none⟩ = some (r.vv) ∧ V.cell? ⟨w.heap.size + 1, 0, none⟩ = some (.int .i64 u.1) ∧ V.cell? ⟨w.heap.size + 1, 1, none⟩ = some (.int .i64 u.2.1) ∧ V.cell? ⟨w.heap.size + 1, 2, none⟩ = some (.int .i64 u.2.2) from fun V h => by
      refine ⟨(h.cell (p := ⟨w.heap.size, 0, none⟩) (by simp; omega)).trans ?_, (h.cell (p := ⟨w.heap.size, 1, none⟩) (by simp; omega)).trans ?_, (h.cell (p := ⟨w.heap.size, 2, none⟩) (by simp; omega)).trans ?_, (h.cell (p := ⟨w.heap.size + 1, 0, none⟩) (by simp; omega)).trans ?_, (h.cell (p := ⟨w.heap.size + 1, 1, none⟩) (by simp; omega)).trans ?_, (h.cell (p := ⟨w.heap.size + 1, 2, none⟩) (by simp; omega)).trans ?_⟩ <;> (subst hW0; go_simp))
  have HW0 := Lib.hid hW0; have KW0 := Lib.hid kw0; clear hW0 kw0
  by_cases ha : askE r u = 0
  rotate_left
  · have HE := Lib.hid (busyV_err (rfl : askE r u = askE r u) ha)
    have hnz : (askE r u != 0) = true := by simpa using ha
    have HA := Lib.hid ha
    clear ha
    generalize hA : askE r u = A at *
    go_enter Try.func31, Try.ntmps31
    go_wp2_with (go_at_call 38; rw [HW0.out]; refine (HLK.out _ (HR.out.below KW0.out)).mono ?_; go_must (rintro e w1 ⟨hl, hb1⟩; unfold LookR at hl; rw [hA, if_neg HA.out] at hl; subst hl))
    go_ret2
    exact ⟨by rw [HE.out]; rfl, below_at KW0.out (by omega) hb1⟩
  have HA := Lib.hid ha
  have HAO := Lib.hid (askE_ok ha)
  have HY := Lib.hid (busyV_ok ha)
  have hL1 : (ptsL r.n r.l).length ≤ 1000 := (validR_out HAO.out.1).2.1
  have HCL := Lib.hid (fun (p : P3) (W : World) => cell_l r.n u p HAO.out.2 W)
  have HWF := Lib.hid (fun (p : P3) => (cell_wf r.n u p : wf2 (cellC r.n u p)))
  have HBL := Lib.hid (show busyL r u = busyTo ((ptsL r.n r.l).map (cellC r.n u)) (ptsL r.n r.l).length from rfl)
  clear ha
  generalize cellC r.n u = F at *
  have hmm := @run_makeMap Try.prog
  go_enter Try.func31, Try.ntmps31
  go_wp2_with (go_at_call 38; rw [HW0.out]; refine (HLK.out _ (HR.out.below KW0.out)).mono ?_; go_must (rintro e w1 ⟨hl, hb1⟩; unfold LookR at hl; rw [HA.out, if_pos rfl] at hl; obtain ⟨b, pv, rfl, hv⟩ := hl; have hs1 := hb1.size; have v8 := hv.c8; have hvl := hv.lt; obtain ⟨pa, pc, hpv, -⟩ := hv.pts.shape; subst hpv; have zz := z1 (show b + 1 ≤ w1.heap.size by omega)))
  obtain ⟨qa, qc, g, off, hqe, hlc, hcm, hx⟩ := SlOf.at (enc := encP) (fun _ => rfl) un_pts sz_pts hv.pts
  have hqa : qa = pa := by cases hqe; rfl
  have hqc : qc = pc := by cases hqe; rfl
  subst hqa hqc
  clear hqe hmm zz
  unfold maxLen at hcm
  have HX := Lib.hid hx; clear hx
  have f0 := hv.c0
  have f1 := hv.c1
  have f2 := hv.c2
  have f3 := hv.c3
  have f4 := hv.c4
  clear hv v8
  generalize axK r.n u = kk at *
  have VD := Lib.hid (show ∀ V, Below w1.heap.size w1 V → V.cell? ⟨b, 0, none⟩ = some (.int .i64 r.n) ∧ V.cell? ⟨b, 1, none⟩ = some (.int .i64 kk) ∧ V.cell? ⟨b, 2, none⟩ = some (.int .i64 u.1) ∧ V.cell? ⟨b, 3, none⟩ = some (.int .i64 u.2.1) ∧ V.cell? ⟨b, 4, none⟩ = some (.int .i64 u.2.2) from
    fun V h => ⟨(h.cell (p := ⟨b, 0, none⟩) hvl).trans f0, (h.cell (p := ⟨b, 1, none⟩) hvl).trans f1, (h.cell (p := ⟨b, 2, none⟩) hvl).trans f2, (h.cell (p := ⟨b, 3, none⟩) hvl).trans f3, (h.cell (p := ⟨b, 4, none⟩) hvl).trans f4⟩)
  clear f0 f1 f2 f3 f4
  have HB1 := Lib.hid hb1; clear hb1
  generalize ptsL r.n r.l = L at *
  go_loopw [9, 28] (fun t9 t28 wr => ∃ k : Nat, k ≤ L.length ∧ t28 = .int .i64 (k : Nat) ∧ t9 = .int .i64 (busyTo (L.map F) k : Nat) ∧ Hid (CntCM wr w1.heap.size k ((L.take k).map F)) ∧ Below w1.heap.size w1 wr) (fun _ t28 _ => L.length - (intOf t28).toNat)
  case atStart => exact ⟨0, Nat.zero_le _, rfl, rfl, Lib.hid (by simpa using CntCM.made w1), (Below.refl _ _).alloc (Nat.le_refl _) _⟩
  case round =>
    obtain ⟨k, hk, rfl, rfl, HM, hb⟩ := hrel
    have hs := hb.size
    by_cases hlt : k < L.length
    rotate_left
    · have hke : k = L.length := by omega
      subst hke
      have HBE := Lib.hid (show BusyV r u = .tuple #[.int .i64 (busyTo (L.map F) L.length : Nat), .int .i64 0] by rw [HY.out, HBL.out])
      generalize busyTo (L.map F) L.length = N at *
      go_wp2
      go_ret2
      exact ⟨by rw [HBE.out]; rfl, below_at KW0.out (by omega) (below_at HB1.out (by omega) hb)⟩
    obtain ⟨-, hi, hg, hc⟩ := HX.out k hlt
    have rd := fun j hj => (hb.cell (p := ⟨g, off + 3 * k + j, none⟩) hg).trans (hc j hj)
    clear hc
    have HSK := Lib.hid (HCL.out L[k])
    have HWK := Lib.hid (HWF.out L[k])
    have HT := Lib.hid (show (L.take (k + 1)).map F = (L.take k).map F ++ [F L[k]] by rw [List.take_succ_eq_append_getElem hlt, List.map_append]; rfl)
    have HTL := Lib.hid (show ((L.take k).map F).length = k by rw [List.length_map, List.length_take]; omega)
    have HBS := Lib.hid (show busyTo (L.map F) (k + 1) = max (busyTo (L.map F) k) ((idxs ((L.take k).map F) (F L[k])).length + 1) by
      rw [busyTo_succ (L.map F) k (by simpa using hlt), ← List.map_take, List.getElem_map])
    have hBL : busyTo (L.map F) k ≤ 1000 := Nat.le_trans (busyTo_le _ _) (by simpa using hL1)
    have hIL : (idxs ((L.take k).map F) (F L[k])).length ≤ 1000 := Nat.le_trans (idxs_len _ _) (by rw [HTL.out]; omega)
    have HLT := Lib.hid hlt
    generalize busyTo (L.map F) k = N at *
    generalize (L.take k).map F = D at *
    generalize L[k] = p at *
    generalize F p = a at *
    obtain ⟨p0, p1, p2⟩ := p
    obtain ⟨a0, a1⟩ := a
    simp only at HSK
    have r0 : wr.cell? ⟨g, off + 3 * k, none⟩ = some (.int .i64 p0) := rd 0 (by omega)
    have r1 : wr.cell? ⟨g, off + 3 * k + 1, none⟩ = some (.int .i64 p1) := rd 1 (by omega)
    have r2 : wr.cell? ⟨g, off + 3 * k + 2, none⟩ = some (.int .i64 p2) := rd 2 (by omega)
    clear rd
    obtain ⟨W, hW⟩ : ∃ W : World, wr.alloc (Obj.cells #[.int .i64 p0, .int .i64 p1, .int .i64 p2] 29) = W := ⟨_, rfl⟩
    have KR := Lib.hid (show Below wr.heap.size wr W by rw [← hW]; exact (by repeat (first | exact Below.refl _ _ | assumption | (refine Below.drew ?_) | (refine below_drewN ?_ _) | (refine Below.alloc ?_ (by first | (simp; done) | (simp; omega) | omega) _) | (refine Below.setCell ?_ (by first | (simp; done) | (simp; omega) | omega) _) | (refine Below.trans ?_ (Below.mono (by assumption) (by first | (simp; done) | (simp; omega) | omega))))))
    have kz : W.heap.size = wr.heap.size + 1 := by rw [← hW]; simp
    have x0 : W.cell? ⟨wr.heap.size, 0, none⟩ = some (.int .i64 p0) := by subst hW; go_simp
    have x1 : W.cell? ⟨wr.heap.size, 1, none⟩ = some (.int .i64 p1) := by subst hW; go_simp
    have x2 : W.cell? ⟨wr.heap.size, 2, none⟩ = some (.int .i64 p2) := by subst hW; go_simp
    have KB := Lib.hid (below_at hb hs KR.out)
    obtain ⟨v0, v1, v2, v3, v4⟩ := VD.out W KB.out
    have g1 : wr.heap.size < W.heap.size := by omega
    have g2 : b < W.heap.size := by omega
    have HWW := Lib.hid hW; clear hW
    go_wp2_with fail
    rw [HWW.out]
    clear r0 r1 r2 hi
    go_cut [9, 12, 28] from 28 to 49 (fun t9 t12 t28 wx => ∃ g8, t12 = .pointer (some ⟨g8, 0, none⟩) ∧ t28 = .int .i64 (k : Nat) ∧ t9 = .int .i64 (N : Nat) ∧ wr.heap.size ≤ g8 ∧ g8 < wx.heap.size ∧ wx.cell? ⟨g8, 0, none⟩ = some (.int .i64 a0) ∧ wx.cell? ⟨g8, 1, none⟩ = some (.int .i64 a1) ∧ Below wr.heap.size wr wx)
    case first =>
      go_region_held3 (fun w' => Below W.heap.size W w' ∧ w'.cell? ⟨wr.heap.size, 0, none⟩ = some (.int .i64 p0) ∧ w'.cell? ⟨wr.heap.size, 1, none⟩ = some (.int .i64 p1) ∧ w'.cell? ⟨wr.heap.size, 2, none⟩ = some (.int .i64 p2) ∧ w'.cell? ⟨b, 0, none⟩ = some (.int .i64 r.n) ∧ w'.cell? ⟨b, 1, none⟩ = some (.int .i64 kk) ∧ w'.cell? ⟨b, 2, none⟩ = some (.int .i64 u.1) ∧ w'.cell? ⟨b, 3, none⟩ = some (.int .i64 u.2.1) ∧ w'.cell? ⟨b, 4, none⟩ = some (.int .i64 u.2.2)) (((refine (fun kb => (⟨kb, (kb.cell (p := ⟨wr.heap.size, 0, none⟩) g1).trans x0, (kb.cell (p := ⟨wr.heap.size, 1, none⟩) g1).trans x1, (kb.cell (p := ⟨wr.heap.size, 2, none⟩) g1).trans x2, (kb.cell (p := ⟨b, 0, none⟩) g2).trans v0, (kb.cell (p := ⟨b, 1, none⟩) g2).trans v1, (kb.cell (p := ⟨b, 2, none⟩) g2).trans v2, (kb.cell (p := ⟨b, 3, none⟩) g2).trans v3, (kb.cell (p := ⟨b, 4, none⟩) g2).trans v4⟩)) (?_ : Below W.heap.size W _); exact (by repeat (first | exact Below.refl _ _ | assumption | (refine Below.drew ?_) | (refine below_drewN ?_ _) | (refine Below.alloc ?_ (by first | (simp; done) | (simp; omega) | omega) _) | (refine Below.setCell ?_ (by first | (simp; done) | (simp; omega) | omega) _) | (refine Below.trans ?_ (Below.mono (by assumption) (by first | (simp; done) | (simp; omega) | omega)))))))) (first | (go_at_call 39; refine (HSK.out _).mono ?_; go_must (rintro e w5 ⟨rfl, hb5⟩; have hs5 := hb5.size; (try simp at hs5); obtain ⟨hc5, hf5⟩ := bcell hb5; (first | have z := z10 hs5 | have z := z9 hs5 | have z := z8 hs5 | have z := z7 hs5 | have z := z6 hs5 | have z := z5 hs5 | have z := z4 hs5 | have z := z3 hs5 | have z := z2 hs5 | have z := z1 hs5 | skip))))
      all_goals (try go_wp2_with fail)
      all_goals go_meet
      all_goals (refine ⟨_, rfl, rfl, rfl, by omega, by first | (simp; done) | (simp; omega), by go_simp, by go_simp, below_at KR.out (by omega) (by repeat (first | exact Below.refl _ _ | assumption | (refine Below.drew ?_) | (refine below_drewN ?_ _) | (refine Below.alloc ?_ (by first | (simp; done) | (simp; omega) | omega) _) | (refine Below.setCell ?_ (by first | (simp; done) | (simp; omega) | omega) _) | (refine Below.trans ?_ (Below.mono (by assumption) (by first | (simp; done) | (simp; omega) | omega)))))⟩)
    case rest =>
      obtain ⟨g8, rfl, rfl, rfl, hg8, hg8', y0, y1, hbx⟩ := hcut
      have hsx := hbx.size
      have hlt1 := HM.out.lt
      have hbd : Below wr.heap.size wr wc.drew := hbx.drew
      obtain ⟨st, w7, hr, hg2, hl2, hst⟩ := CntCM.step (MapV.kept HM.out hbd) (by omega) (a0, a1) HWK.out
      obtain ⟨w3, hr3, hm3, hg3⟩ := hst w7 rfl
      have hlk := CntCM.look (MapV.kept HM.out hbd) (a0, a1) HWK.out wc.drew (Below.refl _ _)
      simp only [ceV] at hr hlk hl2
      simp only [goInt] at hr3
      have hs2 := hg2.size
      have hs3 := hg3.size
      have hsd : wc.drew.heap.size = wc.heap.size := by simp
      have hg8e : w3.heap[g8]? = wc.heap[g8]? := (hg3.block g8 (by omega) (by intro e; simp only [Option.some.injEq] at e; omega)).trans (hg2.block g8 (by omega) (by intro e; simp only [Option.some.injEq] at e; omega))
      have z0 := (World.cell?_of_block (a := ⟨g8, 0, none⟩) hg8e).trans y0
      have z1 := (World.cell?_of_block (a := ⟨g8, 1, none⟩) hg8e).trans y1
      have hB3 : Below w1.heap.size w1 w3 := ((hb.trans (hbd.mono (by omega))).grown hg2 (by omega) (fun r e => by cases e; omega)).grown hg3 (by omega) (fun r e => by cases e; omega)
      have hl3 := CntCM.look hm3 (a0, a1) HWK.out w3 (Below.refl _ _)
      rw [idxs_snoc, if_pos rfl, List.length_append, List.length_singleton] at hl3
      simp only [ceV] at hl3
      generalize (idxs D (a0, a1)).length = n at *
      clear hst hg8e
      go_wp2_with fail
      go_region
      all_goals
        clear hr hr3 hlk hl2
        go_wp2
        go_roundw
        case rel => exact ⟨k + 1, HLT.out, by simp, by rw [HBS.out]; congr 1; omega, Lib.hid (by rw [HT.out]; exact hm3), hB3⟩
        case measure => simp only [intOf]; have := HLT.out; omega
end Go.Proofs.Ytndfdgdahinkpaa
