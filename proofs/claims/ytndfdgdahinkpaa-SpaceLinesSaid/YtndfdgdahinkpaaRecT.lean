/- The reference's line and Line, and whether two lists of points are the same: their walks. -/
import Derived.Test.YtndfdgdahinkpaaRecS
namespace Go.Proofs.Ytndfdgdahinkpaa
open Go.RowKit
set_option maxHeartbeats 4000000 in
set_option maxRecDepth 100000 in
theorem rline_l (r : RecD) (u : P3) (c : Int × Int) (ha : askE r u = 0) (w : World) (hr : RecRd w r) :
    Calls Try.prog 40 #[.agg #[.int .i64 r.n, r.lv, r.vv], .agg #[.int .i64 u.1, .int .i64 u.2.1, .int .i64 u.2.2], .agg #[.int .i64 c.1, .int .i64 c.2]] w fun e w' => (∃ v', e = .returned v' ∧ SlOf w' w'.heap.size 3 encP v' (lineL r u c)) ∧ Below w.heap.size w w' := by
  have HAO := Lib.hid (askE_ok ha)
  have hvo := validR_out HAO.out.1
  have hdo := validD_out hvo.1
  have HAL := Lib.hid (fun (W : World) (hw : SlOf W W.heap.size 4 encI r.lv r.l) => rAll_l r.n r.l hdo.1 hdo.2.2 W r.lv hw)
  have HMM := Lib.hid (fun p (hp : p ∈ ptsL r.n r.l) => ((mem_ptsL hdo.1 p).1 hp).1)
  clear hvo hdo ha
  have HR := Lib.hid hr
  clear hr
  obtain ⟨W0, hW0⟩ : ∃ W : World, ((w.alloc (Obj.cells #[.int .i64 r.n, r.lv, r.vv] 27)).alloc (Obj.cells #[.int .i64 u.1, .int .i64 u.2.1, .int .i64 u.2.2] 29)).alloc (Obj.cells #[.int .i64 c.1, .int .i64 c.2] 31) = W := ⟨_, rfl⟩
  have kw : Below w.heap.size w W0 := by rw [← hW0]; exact (by repeat (first | exact Below.refl _ _ | assumption | (refine Below.drew ?_) | (refine below_drewN ?_ _) | (refine Below.alloc ?_ (by first | (simp; done) | (simp; omega) | omega) _) | (refine Below.setCell ?_ (by first | (simp; done) | (simp; omega) | omega) _) | (refine Below.trans ?_ (Below.mono (by assumption) (by first | (simp; done) | (simp; omega) | omega)))))
  have ks : W0.heap.size = w.heap.size + 3 := by rw [← hW0]; simp
  have RD := Lib.hid (show ∀ V, Below W0.heap.size W0 V → V.cell? ⟨w.heap.size, 0, none⟩ = some (.int .i64 r.n) ∧ V.cell? ⟨w.heap.size + 1, 0, none⟩ = some (.int .i64 u.1) ∧ V.cell? ⟨w.heap.size + 1, 1, none⟩ = some (.int .i64 u.2.1) ∧ V.cell? ⟨w.heap.size + 1, 2, none⟩ = some (.int .i64 u.2.2) ∧ V.cell? ⟨w.heap.size + 1 + 1, 0, none⟩ = some (.int .i64 c.1) ∧ V.cell? ⟨w.heap.size + 1 + 1, 1, none⟩ = some (.int .i64 c.2) from
    fun V h => by
      refine ⟨(h.cell (p := ⟨w.heap.size, 0, none⟩) (by simp; omega)).trans ?_, (h.cell (p := ⟨w.heap.size + 1, 0, none⟩) (by simp; omega)).trans ?_, (h.cell (p := ⟨w.heap.size + 1, 1, none⟩) (by simp; omega)).trans ?_, (h.cell (p := ⟨w.heap.size + 1, 2, none⟩) (by simp; omega)).trans ?_, (h.cell (p := ⟨w.heap.size + 1 + 1, 0, none⟩) (by simp; omega)).trans ?_, (h.cell (p := ⟨w.heap.size + 1 + 1, 1, none⟩) (by simp; omega)).trans ?_⟩ <;> (subst hW0; go_simp))
  have HW := Lib.hid hW0; have KW := Lib.hid kw; clear hW0 kw
  have HLL := Lib.hid (show lineL r u c = (ptsL r.n r.l).filter (inCell r.n u c) from rfl)
  have HCL := Lib.hid (fun (p : P3) (h : p ∈ ptsL r.n r.l) (W : World) => rFold_l r.n u p HAO.out.2 20 (HMM.out p h) W)
  have HPL := Lib.hid (ptsL_len r.n r.l)
  have HIC := Lib.hid (fun p => show inCell r.n u c p = (decide ((cellC r.n u p).1 = c.1) && decide ((cellC r.n u p).2 = c.2)) from rfl)
  generalize inCell r.n u c = F at *
  go_enter Try.func40, Try.ntmps40
  go_wp2_with (go_at_call 37; rw [HW.out]; refine (HAL.out _ (HR.out.l.below KW.out)).mono ?_; go_must (rintro e w1 ⟨⟨v', rfl, hsl⟩, hb1⟩; have hs1 := hb1.size; obtain ⟨pa, pc, hpv, -⟩ := hsl.shape; subst hpv))
  obtain ⟨qa, qc, g, off, hqe, hlc, hcm, hx⟩ := SlOf.at (enc := encP) (fun _ => rfl) un_pts sz_pts hsl
  have hqa : qa = pa := by cases hqe; rfl
  have hqc : qc = pc := by cases hqe; rfl
  subst hqa hqc
  clear hqe hsl
  unfold maxLen at hcm
  have HX := Lib.hid hx; clear hx
  have HB1 := Lib.hid hb1; clear hb1
  generalize ptsL r.n r.l = L at *
  go_loopw [7, 9] (fun t7 t9 wr => ∃ (k : Nat) (vo : Value), k ≤ L.length ∧ t9 = .int .i64 (k : Nat) ∧ vo = t7 ∧ Hid (OwnP wr w1.heap.size vo ((L.take k).filter F)) ∧ Below w1.heap.size w1 wr) (fun _ t9 _ => L.length - (intOf t9).toNat)
  case atStart => exact ⟨0, _, Nat.zero_le _, rfl, rfl, Lib.hid (OwnOf.nil _ _ _ _ _), Below.refl _ _⟩
  case round =>
    obtain ⟨k, vo, hk, rfl, rfl, HO, hb⟩ := hrel
    have hs := hb.size
    by_cases hlt : k < L.length
    rotate_left
    · have HK := Lib.hid (show k = L.length by omega)
      go_wp2
      refine bodyPost_ret (v := vo) (by simp only [results, Try.results40]; first | (go_simp; done) | (go_simp; rfl)) rfl ?_
      have := HO.out
      rw [HK.out, List.take_length] at this
      exact ⟨⟨_, rfl, by rw [HLL.out]; exact this.sl⟩, below_at KW.out (by omega) (below_at HB1.out hs1 hb)⟩
    obtain ⟨-, hi, hg, hc⟩ := HX.out k hlt
    have rd := fun j hj => (hb.cell (p := ⟨g, off + 3 * k + j, none⟩) hg).trans (hc j hj)
    clear hc
    have HFT := Lib.hid (filter_take F L k hlt)
    have HLN := Lib.hid (show ((L.take k).filter F).length ≤ 68921 from Nat.le_trans (List.length_filter_le _ _) (by rw [List.length_take]; have := HPL.out; omega))
    have HLT := Lib.hid hlt
    have HCP := Lib.hid (HCL.out L[k] (List.getElem_mem hlt))
    generalize (L.take k).filter F = D at *
    generalize L[k] = p at *
    have HFP := Lib.hid (HIC.out p)
    generalize cellC r.n u p = cc at *
    obtain ⟨p0, p1, p2⟩ := p
    obtain ⟨ca, cb⟩ := cc
    obtain ⟨c0, c1⟩ := c
    simp only at HCP HFP
    have r0 : wr.cell? ⟨g, off + 3 * k, none⟩ = some (.int .i64 p0) := rd 0 (by omega)
    have r1 : wr.cell? ⟨g, off + 3 * k + 1, none⟩ = some (.int .i64 p1) := rd 1 (by omega)
    have r2 : wr.cell? ⟨g, off + 3 * k + 2, none⟩ = some (.int .i64 p2) := rd 2 (by omega)
    clear rd
    have heq := fun W => eq_cell ca cb c0 c1 W
    rw [← HFP.out] at heq
    obtain ⟨v0, v1, v2, v3, y0, y1⟩ := RD.out wr (below_at HB1.out hs1 hb)
    have g1 : g < wr.heap.size := by omega
    have g2 : w.heap.size < wr.heap.size := by omega
    have g3 : w.heap.size + 1 + 1 < wr.heap.size := by omega
    have g4 : w.heap.size + 1 < wr.heap.size := by omega
    have hk0 : (0 : Int) ≤ (k : Int) := by omega
    have hk1 : (k : Int) < (L.length : Int) := by omega
    cases hfp : F (p0, p1, p2)
    all_goals
      have HFF := Lib.hid hfp
      rw [hfp] at heq HFT
      clear hfp
      go_wp2
      go_region_held3 (fun w' => Below wr.heap.size wr w' ∧ w'.cell? ⟨g, off + 3 * k, none⟩ = some (.int .i64 p0) ∧ w'.cell? ⟨g, off + 3 * k + 1, none⟩ = some (.int .i64 p1) ∧ w'.cell? ⟨g, off + 3 * k + 2, none⟩ = some (.int .i64 p2) ∧ w'.cell? ⟨w.heap.size, 0, none⟩ = some (.int .i64 r.n) ∧ w'.cell? ⟨w.heap.size + 1, 0, none⟩ = some (.int .i64 u.1) ∧ w'.cell? ⟨w.heap.size + 1, 1, none⟩ = some (.int .i64 u.2.1) ∧ w'.cell? ⟨w.heap.size + 1, 2, none⟩ = some (.int .i64 u.2.2) ∧ w'.cell? ⟨w.heap.size + 1 + 1, 0, none⟩ = some (.int .i64 c0) ∧ w'.cell? ⟨w.heap.size + 1 + 1, 1, none⟩ = some (.int .i64 c1)) (((refine (fun kb => ⟨kb, (kb.cell (p := ⟨g, off + 3 * k, none⟩) g1).trans r0, (kb.cell (p := ⟨g, off + 3 * k + 1, none⟩) g1).trans r1, (kb.cell (p := ⟨g, off + 3 * k + 2, none⟩) g1).trans r2, (kb.cell (p := ⟨w.heap.size, 0, none⟩) g2).trans v0, (kb.cell (p := ⟨w.heap.size + 1, 0, none⟩) g4).trans v1, (kb.cell (p := ⟨w.heap.size + 1, 1, none⟩) g4).trans v2, (kb.cell (p := ⟨w.heap.size + 1, 2, none⟩) g4).trans v3, (kb.cell (p := ⟨w.heap.size + 1 + 1, 0, none⟩) g3).trans y0, (kb.cell (p := ⟨w.heap.size + 1 + 1, 1, none⟩) g3).trans y1⟩) (?_ : Below wr.heap.size wr _)); exact (by repeat (first | exact Below.refl _ _ | assumption | (refine Below.drew ?_) | (refine below_drewN ?_ _) | (refine Below.alloc ?_ (by first | (simp; done) | (simp; omega) | omega) _) | (refine Below.setCell ?_ (by first | (simp; done) | (simp; omega) | omega) _) | (refine Below.trans ?_ (Below.mono (by assumption) (by first | (simp; done) | (simp; omega) | omega))))))) (first | (go_at_call 60; refine (HCP.out _).mono ?_; go_must (rintro e w5 ⟨rfl, hb5⟩)))
    · have hbE : Below wr.heap.size wr w5 := (by repeat (first | exact Below.refl _ _ | assumption | (refine Below.drew ?_) | (refine below_drewN ?_ _) | (refine Below.alloc ?_ (by first | (simp; done) | (simp; omega) | omega) _) | (refine Below.setCell ?_ (by first | (simp; done) | (simp; omega) | omega) _) | (refine Below.trans ?_ (Below.mono (by assumption) (by first | (simp; done) | (simp; omega) | omega)))))
      go_wp2
      go_roundw
      case rel => exact ⟨k + 1, vo, HLT.out, by simp, rfl, Lib.hid (by rw [HFT.out]; simpa using HO.out.kept hbE), below_at hb hs hbE⟩
      case measure => simp only [intOf]; have := HLT.out; omega
    · have hbE : Below wr.heap.size wr w5 := (by repeat (first | exact Below.refl _ _ | assumption | (refine Below.drew ?_) | (refine below_drewN ?_ _) | (refine Below.alloc ?_ (by first | (simp; done) | (simp; omega) | omega) _) | (refine Below.setCell ?_ (by first | (simp; done) | (simp; omega) | omega) _) | (refine Below.trans ?_ (Below.mono (by assumption) (by first | (simp; done) | (simp; omega) | omega)))))
      have e0 := (hbE.cell (p := ⟨g, off + 3 * k, none⟩) g1).trans r0
      have e1 := (hbE.cell (p := ⟨g, off + 3 * k + 1, none⟩) g1).trans r1
      have e2 := (hbE.cell (p := ⟨g, off + 3 * k + 2, none⟩) g1).trans r2
      have HO5 := Lib.hid (HO.out.kept hbE)
      have hs5 := hbE.size
      have HO6 := Lib.hid (HO5.out.kept ((Below.refl w5.heap.size w5).alloc (Nat.le_refl _) (.cells #[.int .i64 p0, .int .i64 p1, .int .i64 p2] 29)))
      go_wp2_with (at_builtin; refine wpList_push rfl _ _ _ rfl slPt HO5.out rfl rfl (by first | rfl | simp) rfl rfl (by have := HLN.out; omega) (by omega) (by omega) ?_; intro g5 c5 w6 hown6 hg6 hat6)
      go_roundw
      case rel =>
        refine ⟨k + 1, _, HLT.out, by simp, rfl, Lib.hid ?_, OwnOf.push (below_at hb hs hbE) HO5.out (Nat.le_refl _) (by omega) hg6⟩
        rw [HFT.out]
        have := OwnOf.snoc (l := D) (x := (p0, p1, p2)) (enc := encP) (by simpa [encP] using hown6) rfl
        simpa using this
      case measure => simp only [intOf]; have := HLT.out; omega
end Go.Proofs.Ytndfdgdahinkpaa
