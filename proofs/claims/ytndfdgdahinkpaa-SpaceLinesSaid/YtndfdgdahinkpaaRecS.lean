/- The points of a cell: the program's Line and the reference's. -/
import Derived.Test.YtndfdgdahinkpaaRecR
namespace Go.Proofs.Ytndfdgdahinkpaa
open Go.RowKit
def inCell (n : Int) (u : P3) (c : Int × Int) (p : P3) : Bool := decide ((cellC n u p).1 = c.1) && decide ((cellC n u p).2 = c.2)
/-- The points of a cell. -/
def lineL (r : RecD) (u : P3) (c : Int × Int) : List P3 := (ptsL r.n r.l).filter (inCell r.n u c)
theorem filter_take {α : Type} (f : α → Bool) (l : List α) (k : Nat) (h : k < l.length) : (l.take (k + 1)).filter f = (l.take k).filter f ++ (if f l[k] = true then [l[k]] else []) := by
  rw [List.take_succ_eq_append_getElem h, List.filter_append]
  simp [List.filter_cons]
def LineR (r : RecD) (u : P3) (c : Int × Int) (e : Ending) (w' : World) : Prop := ∃ v', e = .returned (.tuple #[v', .int .i64 (askE r u)]) ∧ SlOf w' w'.heap.size 3 encP v' (if askE r u = 0 then lineL r u c else [])
theorem sz_pts (W : World) : (sizeOf (Try.prog.elem 34)).run Try.prog W = .ok 3 W := by kernel_rfl
theorem un_pts : Try.prog.underlying 34 = some (.slice (Try.prog.elem 34)) := by kernel_rfl
theorem lineR_err {r : RecD} {u : P3} {c : Int × Int} {k : Int} (h : askE r u = k) (hk : k ≠ 0) (w' : World) : LineR r u c (.returned (.tuple #[.slice none 0 0, .int .i64 k])) w' := by
  unfold LineR
  rw [h, if_neg hk]
  exact ⟨_, rfl, Sl.nil _ _ _⟩
theorem lineR_ok {r : RecD} {u : P3} {c : Int × Int} (h : askE r u = 0) {w' : World} {v' : Value} (hs : SlOf w' w'.heap.size 3 encP v' (lineL r u c)) : LineR r u c (.returned (.tuple #[v', .int .i64 0])) w' := by
  unfold LineR
  rw [h, if_pos rfl]
  exact ⟨_, rfl, hs⟩
theorem askE_cases (r : RecD) (u : P3) : askE r u = 0 ∨ askE r u = 40 ∨ askE r u = 20 := by
  unfold askE
  split
  · split <;> simp
  · simp
theorem askE_ok {r : RecD} {u : P3} (h : askE r u = 0) : validR r.n r.l r.vars = true ∧ dirB r.n u = true := by
  unfold askE at h
  split at h
  · split at h
    · exact ⟨by assumption, by assumption⟩
    · omega
  · omega
set_option maxHeartbeats 4000000 in
set_option maxRecDepth 100000 in
theorem Line_l (r : RecD) (u : P3) (c : Int × Int) (w : World) (hr : RecRd w r) :
    Calls Try.prog 11 #[.agg #[.int .i64 r.n, r.lv, r.vv], .agg #[.int .i64 u.1, .int .i64 u.2.1, .int .i64 u.2.2], .agg #[.int .i64 c.1, .int .i64 c.2]] w fun e w' => LineR r u c e w' ∧ Below w.heap.size w w' := by
  have HR := Lib.hid hr
  clear hr
  have HLK := Lib.hid (fun (W : World) (h : RecRd W r) => look_l r u W h)
  obtain ⟨W0, hW0⟩ : ∃ W : World, ((w.alloc (Obj.cells #[.int .i64 r.n, r.lv, r.vv] 27)).alloc (Obj.cells #[.int .i64 u.1, .int .i64 u.2.1, .int .i64 u.2.2] 29)).alloc (Obj.cells #[.int .i64 c.1, .int .i64 c.2] 31) = W := ⟨_, rfl⟩
  have kw : Below w.heap.size w W0 := by rw [← hW0]; exact (by repeat (first | exact Below.refl _ _ | assumption | (refine Below.drew ?_) | (refine below_drewN ?_ _) | (refine Below.alloc ?_ (by first | (simp; done) | (simp; omega) | omega) _) | (refine Below.setCell ?_ (by first | (simp; done) | (simp; omega) | omega) _) | (refine Below.trans ?_ (Below.mono (by assumption) (by first | (simp; done) | (simp; omega) | omega)))))
  have ks : W0.heap.size = w.heap.size + 3 := by rw [← hW0]; simp
  have RD := Lib.hid (show ∀ V, Below W0.heap.size W0 V → V.cell? ⟨w.heap.size + 1 + 1, 0, none⟩ = some (.int .i64 c.1) ∧ V.cell? ⟨w.heap.size + 1 + 1, 1, none⟩ = some (.int .i64 c.2) from
    fun V h => by
      refine ⟨(h.cell (p := ⟨w.heap.size + 1 + 1, 0, none⟩) (by simp; omega)).trans ?_, (h.cell (p := ⟨w.heap.size + 1 + 1, 1, none⟩) (by simp; omega)).trans ?_⟩ <;> (subst hW0; go_simp))
  have HW := Lib.hid hW0; have KW := Lib.hid kw; clear hW0 kw
  by_cases ha : askE r u = 0
  rotate_left
  · have HE := Lib.hid (fun w' => lineR_err (c := c) (rfl : askE r u = askE r u) ha w')
    have hnz : (askE r u != 0) = true := by simpa using ha
    have HA := Lib.hid ha
    clear ha
    generalize hA : askE r u = A at *
    go_enter Try.func11, Try.ntmps11
    go_wp2_with (go_at_call 38; rw [HW.out]; refine (HLK.out _ (HR.out.below KW.out)).mono ?_; go_must (rintro e w1 ⟨hl, hb1⟩; unfold LookR at hl; rw [hA, if_neg HA.out] at hl; subst hl))
    go_ret2
    exact ⟨HE.out _, below_at KW.out (by omega) hb1⟩
  have HA := Lib.hid ha
  have HAO := Lib.hid (askE_ok ha)
  have HY := Lib.hid (fun (w' : World) (v' : Value) (h : SlOf w' w'.heap.size 3 encP v' (lineL r u c)) => lineR_ok ha h)
  have HLL := Lib.hid (show lineL r u c = (ptsL r.n r.l).filter (inCell r.n u c) from rfl)
  have HCL := Lib.hid (fun (p : P3) (W : World) => cell_l r.n u p HAO.out.2 W)
  have HPL := Lib.hid (ptsL_len r.n r.l)
  have HIC := Lib.hid (fun p => show inCell r.n u c p = (decide ((cellC r.n u p).1 = c.1) && decide ((cellC r.n u p).2 = c.2)) from rfl)
  clear ha
  generalize inCell r.n u c = F at *
  generalize hKK : axK r.n u = kk at *
  have HKK := Lib.hid hKK; clear hKK
  go_enter Try.func11, Try.ntmps11
  go_wp2_with (go_at_call 38; rw [HW.out]; refine (HLK.out _ (HR.out.below KW.out)).mono ?_; go_must (rintro e w1 ⟨hl, hb1⟩; unfold LookR at hl; rw [HA.out, if_pos rfl] at hl; obtain ⟨b, pv, rfl, hv⟩ := hl; have hs1 := hb1.size; have v8 := hv.c8; obtain ⟨pa, pc, hpv, -⟩ := hv.pts.shape; subst hpv))
  obtain ⟨qa, qc, g, off, hqe, hlc, hcm, hx⟩ := SlOf.at (enc := encP) (fun _ => rfl) un_pts sz_pts hv.pts
  have hqa : qa = pa := by cases hqe; rfl
  have hqc : qc = pc := by cases hqe; rfl
  subst hqa hqc
  clear hqe
  unfold maxLen at hcm
  have HX := Lib.hid hx; clear hx
  have f0 := hv.c0
  have f1 := hv.c1
  have f2 := hv.c2
  have f3 := hv.c3
  have f4 := hv.c4
  rw [HKK.out] at f1
  have hblt := hv.lt
  clear hv v8
  have VD := Lib.hid (show ∀ V, Below w1.heap.size w1 V → V.cell? ⟨b, 0, none⟩ = some (.int .i64 r.n) ∧ V.cell? ⟨b, 1, none⟩ = some (.int .i64 kk) ∧ V.cell? ⟨b, 2, none⟩ = some (.int .i64 u.1) ∧ V.cell? ⟨b, 3, none⟩ = some (.int .i64 u.2.1) ∧ V.cell? ⟨b, 4, none⟩ = some (.int .i64 u.2.2) from
    fun V h => ⟨(h.cell (p := ⟨b, 0, none⟩) hblt).trans f0, (h.cell (p := ⟨b, 1, none⟩) hblt).trans f1, (h.cell (p := ⟨b, 2, none⟩) hblt).trans f2, (h.cell (p := ⟨b, 3, none⟩) hblt).trans f3, (h.cell (p := ⟨b, 4, none⟩) hblt).trans f4⟩)
  clear f0 f1 f2 f3 f4
  have HB1 := Lib.hid hb1; clear hb1
  generalize ptsL r.n r.l = L at *
  go_loopw [10, 27] (fun t10 t27 wr => ∃ (k : Nat) (vo : Value), k ≤ L.length ∧ t27 = .int .i64 (k : Nat) ∧ vo = t10 ∧ Hid (OwnP wr w1.heap.size vo ((L.take k).filter F)) ∧ Below w1.heap.size w1 wr) (fun _ t27 _ => L.length - (intOf t27).toNat)
  case atStart => exact ⟨0, _, Nat.zero_le _, rfl, rfl, Lib.hid (OwnOf.nil _ _ _ _ _), Below.refl _ _⟩
  case round =>
    obtain ⟨k, vo, hk, rfl, rfl, HO, hb⟩ := hrel
    have hs := hb.size
    by_cases hlt : k < L.length
    rotate_left
    · have HK := Lib.hid (show k = L.length by omega)
      go_wp2
      go_ret2
      have := HO.out
      rw [HK.out, List.take_length] at this
      exact ⟨HY.out _ _ (by rw [HLL.out]; exact this.sl), below_at KW.out (by omega) (below_at HB1.out hs1 hb)⟩
    obtain ⟨-, hi, hg, hc⟩ := HX.out k hlt
    have rd := fun j hj => (hb.cell (p := ⟨g, off + 3 * k + j, none⟩) hg).trans (hc j hj)
    clear hc
    have HFT := Lib.hid (filter_take F L k hlt)
    have HLN := Lib.hid (show ((L.take k).filter F).length ≤ 68921 from Nat.le_trans (List.length_filter_le _ _) (by rw [List.length_take]; have := HPL.out; omega))
    have HLT := Lib.hid hlt
    generalize (L.take k).filter F = D at *
    generalize L[k] = p at *
    have HCP := Lib.hid (HCL.out p)
    have HFP := Lib.hid (HIC.out p)
    generalize cellC r.n u p = cc at *
    obtain ⟨p0, p1, p2⟩ := p
    obtain ⟨ca, cb⟩ := cc
    obtain ⟨c0, c1⟩ := c
    simp only at HCP HFP
    have r0 : wr.cell? ⟨g, off + 3 * k, none⟩ = some (.int .i64 p0) := rd 0 (by omega)
    have r1 : wr.cell? ⟨g, off + 3 * k + 1, none⟩ = some (.int .i64 p1) := rd 1 (by omega)
    have r2 : wr.cell? ⟨g, off + 3 * k + 2, none⟩ = some (.int .i64 p2) := rd 2 (by omega)
    clear rd
    have heq := fun W => eq_cell ca cb c0 c1 W
    rw [← HFP.out] at heq
    obtain ⟨W, hW⟩ : ∃ W : World, wr.alloc (Obj.cells #[.int .i64 p0, .int .i64 p1, .int .i64 p2] 29) = W := ⟨_, rfl⟩
    have KR := Lib.hid (show Below wr.heap.size wr W by rw [← hW]; exact (by repeat (first | exact Below.refl _ _ | assumption | (refine Below.drew ?_) | (refine below_drewN ?_ _) | (refine Below.alloc ?_ (by first | (simp; done) | (simp; omega) | omega) _) | (refine Below.setCell ?_ (by first | (simp; done) | (simp; omega) | omega) _) | (refine Below.trans ?_ (Below.mono (by assumption) (by first | (simp; done) | (simp; omega) | omega))))))
    have kz : W.heap.size = wr.heap.size + 1 := by rw [← hW]; simp
    have x0 : W.cell? ⟨wr.heap.size, 0, none⟩ = some (.int .i64 p0) := by subst hW; go_simp
    have x1 : W.cell? ⟨wr.heap.size, 1, none⟩ = some (.int .i64 p1) := by subst hW; go_simp
    have x2 : W.cell? ⟨wr.heap.size, 2, none⟩ = some (.int .i64 p2) := by subst hW; go_simp
    have KB := Lib.hid (below_at hb hs KR.out)
    obtain ⟨v0, v1, v2, v3, v4⟩ := VD.out W KB.out
    obtain ⟨y0, y1⟩ := RD.out W (below_at HB1.out hs1 KB.out)
    have g1 : wr.heap.size < W.heap.size := by omega
    have g2 : b < W.heap.size := by omega
    have g3 : w.heap.size + 1 + 1 < W.heap.size := by omega
    have HWW := Lib.hid hW; clear hW
    cases hfp : F (p0, p1, p2)
    all_goals
      have HFF := Lib.hid hfp
      rw [hfp] at heq HFT
      clear hfp
      go_wp2
      rw [HWW.out]
      clear r0 r1 r2 hi
      go_region_held3 (fun w' => Below W.heap.size W w' ∧ w'.cell? ⟨wr.heap.size, 0, none⟩ = some (.int .i64 p0) ∧ w'.cell? ⟨wr.heap.size, 1, none⟩ = some (.int .i64 p1) ∧ w'.cell? ⟨wr.heap.size, 2, none⟩ = some (.int .i64 p2) ∧ w'.cell? ⟨b, 0, none⟩ = some (.int .i64 r.n) ∧ w'.cell? ⟨b, 1, none⟩ = some (.int .i64 kk) ∧ w'.cell? ⟨b, 2, none⟩ = some (.int .i64 u.1) ∧ w'.cell? ⟨b, 3, none⟩ = some (.int .i64 u.2.1) ∧ w'.cell? ⟨b, 4, none⟩ = some (.int .i64 u.2.2) ∧ w'.cell? ⟨w.heap.size + 1 + 1, 0, none⟩ = some (.int .i64 c0) ∧ w'.cell? ⟨w.heap.size + 1 + 1, 1, none⟩ = some (.int .i64 c1)) (((refine (fun kb => ⟨kb, (kb.cell (p := ⟨wr.heap.size, 0, none⟩) g1).trans x0, (kb.cell (p := ⟨wr.heap.size, 1, none⟩) g1).trans x1, (kb.cell (p := ⟨wr.heap.size, 2, none⟩) g1).trans x2, (kb.cell (p := ⟨b, 0, none⟩) g2).trans v0, (kb.cell (p := ⟨b, 1, none⟩) g2).trans v1, (kb.cell (p := ⟨b, 2, none⟩) g2).trans v2, (kb.cell (p := ⟨b, 3, none⟩) g2).trans v3, (kb.cell (p := ⟨b, 4, none⟩) g2).trans v4, (kb.cell (p := ⟨w.heap.size + 1 + 1, 0, none⟩) g3).trans y0, (kb.cell (p := ⟨w.heap.size + 1 + 1, 1, none⟩) g3).trans y1⟩) (?_ : Below W.heap.size W _)); exact (by repeat (first | exact Below.refl _ _ | assumption | (refine Below.drew ?_) | (refine below_drewN ?_ _) | (refine Below.alloc ?_ (by first | (simp; done) | (simp; omega) | omega) _) | (refine Below.setCell ?_ (by first | (simp; done) | (simp; omega) | omega) _) | (refine Below.trans ?_ (Below.mono (by assumption) (by first | (simp; done) | (simp; omega) | omega))))))) (first | (go_at_call 39; refine (HCP.out _).mono ?_; go_must (rintro e w5 ⟨rfl, hb5⟩)))
    · have hbE : Below wr.heap.size wr w5 := below_at KR.out (by omega) (show Below W.heap.size W w5 from (by repeat (first | exact Below.refl _ _ | assumption | (refine Below.drew ?_) | (refine below_drewN ?_ _) | (refine Below.alloc ?_ (by first | (simp; done) | (simp; omega) | omega) _) | (refine Below.setCell ?_ (by first | (simp; done) | (simp; omega) | omega) _) | (refine Below.trans ?_ (Below.mono (by assumption) (by first | (simp; done) | (simp; omega) | omega))))))
      go_wp2
      go_roundw
      case rel => exact ⟨k + 1, vo, HLT.out, by simp, rfl, Lib.hid (by rw [HFT.out]; simpa using HO.out.kept hbE), below_at hb hs hbE⟩
      case measure => simp only [intOf]; have := HLT.out; omega
    · have hw5 : Below W.heap.size W w5 := (by repeat (first | exact Below.refl _ _ | assumption | (refine Below.drew ?_) | (refine below_drewN ?_ _) | (refine Below.alloc ?_ (by first | (simp; done) | (simp; omega) | omega) _) | (refine Below.setCell ?_ (by first | (simp; done) | (simp; omega) | omega) _) | (refine Below.trans ?_ (Below.mono (by assumption) (by first | (simp; done) | (simp; omega) | omega)))))
      have hbE : Below wr.heap.size wr w5 := below_at KR.out (by omega) hw5
      have e0 := (hw5.cell (p := ⟨wr.heap.size, 0, none⟩) g1).trans x0
      have e1 := (hw5.cell (p := ⟨wr.heap.size, 1, none⟩) g1).trans x1
      have e2 := (hw5.cell (p := ⟨wr.heap.size, 2, none⟩) g1).trans x2
      have HO5 := Lib.hid (HO.out.kept hbE)
      have hs5 := hbE.size
      go_wp2_with (at_builtin; refine wpList_push rfl _ _ _ rfl slPt HO5.out rfl rfl (by first | rfl | simp) rfl rfl (by have := HLN.out; omega) (by omega) (by omega) ?_; intro g5 c5 w6 hown6 hg6 hat6)
      go_roundw
      case rel =>
        refine ⟨k + 1, _, HLT.out, by simp, rfl, Lib.hid ?_, OwnOf.push (below_at hb hs hbE) HO5.out (Nat.le_refl _) (by omega) hg6⟩
        rw [HFT.out]
        have := OwnOf.snoc (l := D) (x := (p0, p1, p2)) (enc := encP) (by simpa [encP] using hown6) rfl
        simpa using this
      case measure => simp only [intOf]; have := HLT.out; omega
end Go.Proofs.Ytndfdgdahinkpaa
