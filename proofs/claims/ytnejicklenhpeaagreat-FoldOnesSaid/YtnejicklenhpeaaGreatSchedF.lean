/- Schedules as data; package sched: Valid: its walk. Package sched: fits and Valid; the reference's isForm: their walks. Conditions: none. -/
import Derived.Test.YtnejicklenhpeaaGreatRecAA
namespace Go.Proofs.YtnejicklenhpeaaGreat
open Go.RowKit Go.ChangeShapes Go.WideShapes Go.ChangeAt
set_option linter.unusedVariables false
/-- A schedule; ov: the slice of its offsets. -/
structure SchedD where
  f : P3
  ov : Value
  off : List Int
def schedV (s : SchedD) : Value := .agg #[.int .i64 s.f.1, .int .i64 s.f.2.1, .int .i64 s.f.2.2, s.ov]
def SchedRd (w : World) (s : SchedD) : Prop := SlOf w w.heap.size 1 encInt s.ov s.off
theorem SchedRd.below {w w' : World} {s : SchedD} (h : SchedRd w s) (hb : Below w.heap.size w w') : SchedRd w' s := SlOf.below h hb
theorem ce_ints : Tryz.prog.cellsOf 39 = 1 := by kernel_rfl
theorem ce_sched : Tryz.prog.cellsOf 47 = 4 := by kernel_rfl
set_option maxRecDepth 100000 in
theorem trod_sched {w : World} {base : Nat} {H : Type} {enc : TypeId × Value → H} {spare : Nat → Bool} {held : Bool} {fuel : Nat} {cs : List Value} {x : DataW H × List MemPlace} (h : DataW.trod enc Tryz.prog w base spare held fuel 47 cs = some x) : ∃ q : SchedD, cs = [.int .i64 q.f.1, .int .i64 q.f.2.1, .int .i64 q.f.2.2, q.ov] ∧ SchedRd w q := by
  obtain ⟨xs, m, _, _, hcl, hxn, hx⟩ := DataW.trod_struct Tryz.underlying47 h
  rw [ce_sched] at hcl
  obtain ⟨c0, c1, c2, c3, rfl⟩ := list4 hcl
  have hxl : xs.length = 2 := hxn
  have g0 := hx 0 _ rfl
  have g1 := hx 1 _ rfl
  rw [List.getElem?_eq_getElem (by omega)] at g0 g1
  simp only [List.getElem_toArray, List.getElem_cons_zero, List.getElem_cons_succ, ce_ints, ce_pt] at g0 g1
  obtain ⟨p, h0⟩ := trod_arr3 g0
  simp [encP] at h0
  obtain ⟨rfl, rfl, rfl⟩ := h0
  obtain ⟨l, hl, -⟩ := open_slOf (enc := encInt) (Good := fun _ => True) Tryz.underlying39 ce_int (by omega) (fun _ => rfl) (fun m cs y hy => by obtain ⟨z, hz⟩ := trod_int1 hy; exact ⟨z, hz, trivial⟩) (v := c3) (by simpa using g1)
  exact ⟨⟨p, c3, l⟩, rfl, hl⟩
set_option maxRecDepth 100000 in
theorem open_sched {w : World} {r : Reach} {b0 base : Nat} {H : Type} {enc : TypeId × Value → H} {spare : Nat → Bool} {held : Bool} {v : Value} {d : DataW H} {ps : List MemPlace}
    (hval : Value.okWide Tryz.prog w r b0 47 v) (hd : DataW.Trod enc Tryz.prog w base spare held 47 v d ps) : ∃ q : SchedD, v = schedV q ∧ SchedRd w q := by
  obtain ⟨cs, rfl, hs⟩ := okWide_struct Tryz.underlying47 hval
  obtain ⟨fuel, hf⟩ := hd
  obtain ⟨q, hq, hr⟩ := trod_sched hf
  obtain ⟨l⟩ := cs
  simp [Value.cells] at hq
  subst hq
  exact ⟨q, rfl, hr⟩
theorem sbetween_l (lo n hi : Int) (w : World) :
    Calls Tryz.prog 221 #[.int .i64 (lo), .int .i64 (n), .int .i64 (hi)] w fun e w' => e = .returned (.bool (btw lo n hi)) ∧ w' = w := by
  by_cases h1 : lo ≤ n <;> by_cases h2 : n ≤ hi
  all_goals
    go_enter Tryz.func221, Tryz.ntmps221
    go_wp2
    go_ret
    exact ⟨ret_bool (by simp only [btw]; rw [Bool.eq_iff_iff]; simp; try omega), rfl⟩
theorem sf1_l (x : Int) (w : World) : Calls Tryz.prog 220 #[.int .i64 x] w fun e w' => e = .returned (.bool (!btw 0 x 1000)) ∧ Below w.heap.size w w' := by
  generalize hb : btw 0 x 1000 = b
  have HB := Lib.hid hb; clear hb
  go_enter Tryz.func220, Tryz.ntmps220
  go_wp2_with (go_at_call 221; refine (sbetween_l _ _ _ _).mono ?_; go_must (rintro e w1 ⟨rfl, rfl⟩; rw [HB.out]))
  go_ret
  exact ⟨rfl, by repeat (first | exact Below.refl _ _ | assumption | (refine Below.drew ?_) | (refine below_drewN ?_ _) | (refine Below.alloc ?_ (by first | (simp; done) | (simp; omega) | omega) _) | (refine Below.setCell ?_ (by first | (simp; done) | (simp; omega) | omega) _) | (refine Below.trans ?_ (Below.mono (by assumption) (by first | (simp; done) | (simp; omega) | omega))))⟩
theorem sz_sf1 (W : World) : (sizeOf (Tryz.prog.elem 39)).run Tryz.prog W = .ok 1 W := by kernel_rfl
theorem un_sf1 : Tryz.prog.underlying 39 = some (.slice (Tryz.prog.elem 39)) := by kernel_rfl
set_option maxHeartbeats 4000000 in
set_option maxRecDepth 100000 in
theorem idx_sf1  (l : List Int) (p : Int → Bool) (w : World) (v : Value) (hv : SlOf w w.heap.size 1 encInt v l)
    (hf : ∀ q ∈ l, ∀ W, Below w.heap.size w W → Calls Tryz.prog 220 #[.int .i64 q] W fun e W' => e = .returned (.bool (p q)) ∧ Below W.heap.size W W') :
    Calls Tryz.prog 212 #[v, .func (.func 220) #[] #[]] w fun e w' => (∃ z : Int, e = .returned (.int .i64 z) ∧ decide (0 ≤ z) = l.any p) ∧ Below w.heap.size w w' := by
  obtain ⟨a, cap, g, off, rfl, hlc, hcm, hx⟩ := SlOf.at (enc := encInt) (fun _ => rfl) un_sf1 sz_sf1 hv
  have HX := Lib.hid hx; clear hx hv
  have HF := Lib.hid hf; clear hf
  unfold maxLen at hcm
  go_enter Tryz.func212, Tryz.ntmps212
  go_wp2
  go_loopw [8] (fun i wr => ∃ k : Nat, k ≤ l.length ∧ i = .int .i64 (k : Nat) ∧ (∀ j (h : j < l.length), j < k → p l[j] = false) ∧ Below w.heap.size w wr) (fun i _ => l.length - (intOf i).toNat)
  case atStart => exact ⟨0, Nat.zero_le _, rfl, fun j _ h => absurd h (by omega), Below.refl _ _⟩
  case round =>
    obtain ⟨k, hk, rfl, hno, hb⟩ := hrel
    have HNO := Lib.hid hno; clear hno
    by_cases hlt : k < l.length
    rotate_left
    · go_wp2
      go_ret
      refine ⟨⟨-1, rfl, ?_⟩, hb⟩
      have : l.any p = false := List.any_eq_false.2 (fun c hc => by
        obtain ⟨j, hj, rfl⟩ := List.getElem_of_mem hc
        rw [HNO.out j hj (by omega)]
        simp)
      rw [this]; rfl
    obtain ⟨-, hi, hg, hc⟩ := HX.out k hlt
    have rd := fun j hj => (hb.cell (p := ⟨g, off + 1 * k + j, none⟩) hg).trans (hc j hj)
    clear hc
    have HFK := Lib.hid (HF.out l[k] (List.getElem_mem hlt) wr hb)
    cases hbd : p l[k]
    · have HBD := Lib.hid hbd; clear hbd
      have HFK2 := Lib.hid (HBD.out ▸ HFK.out); clear HFK
      generalize l[k] = q at HFK2 rd
      skip
      have r0 : wr.cell? ⟨g, off + k, none⟩ = some (.int .i64 q) := by have := rd 0 (by omega); simpa [encInt] using this
      simp only [Nat.one_mul] at hi
      clear rd
      go_wp2_with (go_at_call 220; refine HFK2.out.mono ?_; go_must (rintro e w1 ⟨rfl, hb1⟩))
      go_roundw
      case rel =>
        refine ⟨k + 1, hlt, by simp, fun j h hj => ?_, hb.trans (hb1.mono hb.size)⟩
        by_cases he : j = k
        · subst he; exact HBD.out
        · exact HNO.out j h (by omega)
      case measure => simp only [intOf]; omega
    · have HBD := Lib.hid hbd; clear hbd
      have HFK2 := Lib.hid (HBD.out ▸ HFK.out); clear HFK
      generalize l[k] = q at HFK2 rd
      skip
      have r0 : wr.cell? ⟨g, off + k, none⟩ = some (.int .i64 q) := by have := rd 0 (by omega); simpa [encInt] using this
      simp only [Nat.one_mul] at hi
      clear rd
      go_wp2_with (go_at_call 220; refine HFK2.out.mono ?_; go_must (rintro e w1 ⟨rfl, hb1⟩))
      go_ret
      refine ⟨⟨(k : Int), rfl, ?_⟩, hb.trans (hb1.mono hb.size)⟩
      have : l.any p = true := List.any_eq_true.2 ⟨_, List.getElem_mem hlt, HBD.out⟩
      rw [this]; simp
set_option maxHeartbeats 4000000 in
theorem con_sf1  (l : List Int) (p : Int → Bool) (w : World) (v : Value) (hv : SlOf w w.heap.size 1 encInt v l)
    (hf : ∀ q ∈ l, ∀ W, Below w.heap.size w W → Calls Tryz.prog 220 #[.int .i64 q] W fun e W' => e = .returned (.bool (p q)) ∧ Below W.heap.size W W') :
    Calls Tryz.prog 171 #[v, .func (.func 220) #[] #[]] w fun e w' => e = .returned (.bool (l.any p)) ∧ Below w.heap.size w w' := by
  have H := Lib.hid ((idx_sf1 (l := l) (p := p) (w := w) (v := v) (hv := hv) (hf := hf)))
  clear hv hf
  go_enter Tryz.func171, Tryz.ntmps171
  go_wp2_with (go_at_call 212; refine H.out.mono ?_; clear H; go_must (rintro e w1 ⟨⟨z, rfl, hz⟩, hb1⟩; have HZ := Lib.hid hz; clear hz))
  go_ret
  exact ⟨ret_bool HZ.out, hb1⟩
set_option maxHeartbeats 4000000 in
set_option maxRecDepth 100000 in
theorem sform_l (n x0 x1 x2 : Int) (hn : 1 ≤ n) (w : World) :
    Calls Tryz.prog 219 #[.agg #[.int .i64 x0, .int .i64 x1, .int .i64 x2], .int .i64 n] w fun e w' => e = .returned (.bool (flatB n x0 x1 x2 9)) ∧ Below w.heap.size w w' := by
  have i0 := ix3_0
  have i1 := ix3_1
  have i2 := ix3_2
  generalize h0 : btw (-9) x0 9 = b0
  have H0 := Lib.hid h0; clear h0
  generalize h1 : btw (-9) x1 9 = b1
  have H1 := Lib.hid h1; clear h1
  generalize h2 : btw (-9) x2 9 = b2
  have H2 := Lib.hid h2; clear h2
  go_enter Tryz.func219, Tryz.ntmps219
  go_wp2
  refine wp_loop_rounds 4 ?_
  iterate 4 (all_goals (try (rw [rounds_succ]; go_wp2_with (go_at_call 221; refine (sbetween_l _ _ _ _).mono ?_; go_must (rintro e w1 ⟨rfl, rfl⟩; first | rw [H0.out] | rw [H1.out] | rw [H2.out])))))
  all_goals
    go_ret
    refine ⟨ret_bool ?_, by repeat (first | exact Below.refl _ _ | assumption | (refine Below.drew ?_) | (refine below_drewN ?_ _) | (refine Below.alloc ?_ (by first | (simp; done) | (simp; omega) | omega) _) | (refine Below.setCell ?_ (by first | (simp; done) | (simp; omega) | omega) _) | (refine Below.trans ?_ (Below.mono (by assumption) (by first | (simp; done) | (simp; omega) | omega))))⟩
    have e0 := H0.out; have e1 := H1.out; have e2 := H2.out
    clear H0 H1 H2 i0 i1 i2
    simp_all [flatB] <;> omega
/-- The schedule is one for n dimensions and nv variables. -/
def fitsB (n : Int) (nv : Nat) (s : SchedD) : Bool := flatB n s.f.1 s.f.2.1 s.f.2.2 9 && (decide (s.off.length = nv) && s.off.all (fun x => btw 0 x 1000))
end Go.Proofs.YtnejicklenhpeaaGreat
namespace Go.Proofs.YtnejicklenhpeaaGreat
open Go.RowKit
set_option maxHeartbeats 4000000 in
set_option maxRecDepth 100000 in
theorem fits_l (n : Int) (lv vv : Value) (nv : Nat) (s : SchedD) (hn : 1 ≤ n) (hvv : ∃ a c, vv = .slice a nv c) (hnv : nv ≤ 1000000) (w : World) (hs : SchedRd w s) :
    Calls Tryz.prog 159 #[.agg #[.int .i64 n, lv, vv], .agg #[.int .i64 s.f.1, .int .i64 s.f.2.1, .int .i64 s.f.2.2, s.ov]] w fun e w' => e = .returned (.bool (fitsB n nv s)) ∧ Below w.heap.size w w' := by
  obtain ⟨va, vc, rfl⟩ := hvv
  have HS := Lib.hid hs
  obtain ⟨oa, oc, ho, hol⟩ := hs.shape
  clear hs
  obtain ⟨⟨f0, f1, f2⟩, ov, off⟩ := s
  simp only at ho hol HS ⊢
  subst ho
  have EV := Lib.hid (show fitsB n nv ⟨(f0, f1, f2), .slice oa off.length oc, off⟩ = (flatB n f0 f1 f2 9 && (decide (off.length = nv) && off.all (fun x => btw 0 x 1000))) from rfl)
  generalize fitsB n nv ⟨(f0, f1, f2), .slice oa off.length oc, off⟩ = R at *
  obtain ⟨W0, hW0⟩ : ∃ W : World, (w.alloc (Obj.cells #[.int .i64 n, lv, .slice va nv vc] 27)).alloc (Obj.cells #[.int .i64 f0, .int .i64 f1, .int .i64 f2, .slice oa off.length oc] 47) = W := ⟨_, rfl⟩
  have kw : Below w.heap.size w W0 := by rw [← hW0]; exact (by repeat (first | exact Below.refl _ _ | assumption | (refine Below.drew ?_) | (refine below_drewN ?_ _) | (refine Below.alloc ?_ (by first | (simp; done) | (simp; omega) | omega) _) | (refine Below.setCell ?_ (by first | (simp; done) | (simp; omega) | omega) _) | (refine Below.trans ?_ (Below.mono (by assumption) (by first | (simp; done) | (simp; omega) | omega)))))
  have ks : W0.heap.size = w.heap.size + 2 := by rw [← hW0]; simp
  have RD := Lib.hid (show ∀ V, Below W0.heap.size W0 V → V.cell? ⟨w.heap.size, 2, none⟩ = some (.slice va nv vc) ∧ V.cell? ⟨w.heap.size + 1, 3, none⟩ = some (.slice oa off.length oc) from
    fun V h => by
      refine ⟨(h.cell (p := ⟨w.heap.size, 2, none⟩) (by simp; omega)).trans ?_, (h.cell (p := ⟨w.heap.size + 1, 3, none⟩) (by simp; omega)).trans ?_⟩ <;> (subst hW0; go_simp))
  have HW := Lib.hid hW0; have KW := Lib.hid kw; clear hW0 kw
  have HC := Lib.hid (fun (W : World) (h : SlOf W W.heap.size 1 encInt (.slice oa off.length oc) off) => con_sf1 off (fun x => !btw 0 x 1000) W _ h (fun q _ V _ => sf1_l q V))
  have HR := Lib.hid (show (!(off.any fun x => !btw 0 x 1000)) = off.all (fun x => btw 0 x 1000) from not_any_not _ _)
  cases hf : flatB n f0 f1 f2 9
  · have HF := Lib.hid hf
    have HRR := Lib.hid (show R = false by rw [EV.out, hf]; rfl)
    clear hf EV
    go_enter Tryz.func159, Tryz.ntmps159
    go_wp2_with (go_at_call 219; rw [HW.out]; refine (sform_l _ _ _ _ hn _).mono ?_; go_must (rintro e w1 ⟨rfl, hb1⟩; rw [HF.out]))
    go_ret
    exact ⟨ret_bool HRR.out.symm, below_at KW.out (by omega) hb1⟩
  have HF := Lib.hid hf
  have EV2 := Lib.hid (EV.out.trans (by rw [hf, Bool.true_and]))
  clear hf EV
  by_cases hl : off.length = nv
  rotate_left
  · have HRR := Lib.hid (show R = false by rw [EV2.out]; simp [hl])
    have hl2 : ¬ ((off.length : Int) = (nv : Int)) := by omega
    clear EV2
    go_enter Tryz.func159, Tryz.ntmps159
    go_wp2_with (go_at_call 219; rw [HW.out]; refine (sform_l _ _ _ _ hn _).mono ?_; go_must (rintro e w1 ⟨rfl, hb1⟩; rw [HF.out]; obtain ⟨k0, k1⟩ := RD.out _ hb1))
    go_ret
    exact ⟨ret_bool HRR.out.symm, below_at KW.out (by omega) hb1⟩
  subst hl
  generalize hA : (off.any fun x => !btw 0 x 1000) = A at *
  clear hA
  go_enter Tryz.func159, Tryz.ntmps159
  go_wp2_with (first | (go_at_call 219; rw [HW.out]; refine (sform_l _ _ _ _ hn _).mono ?_; go_must (rintro e w1 ⟨rfl, hb1⟩; rw [HF.out]; obtain ⟨k0, k1⟩ := RD.out _ hb1; have KA := Lib.hid (below_at KW.out (by omega) hb1))) | (go_at_call 171; refine (HC.out _ (SlOf.below HS.out KA.out)).mono ?_; go_must (rintro e w2 ⟨rfl, hb2⟩)))
  go_ret
  exact ⟨ret_bool (by rw [EV2.out, ← HR.out]; simp), below_at KA.out (by have := hb1.size; omega) hb2⟩
/-- The recurrence is valid and the schedule is one for it. -/
def schedB (r : RecD) (s : SchedD) : Bool := validR r.n r.l r.vars && fitsB r.n r.vars.length s
theorem validR_lo {n : Int} {l : List IneqD} {vs : List VarD} (h : validR n l vs = true) : (1 ≤ n ∧ n ≤ 3) ∧ (1 ≤ vs.length ∧ vs.length ≤ 4) := by
  simp only [validR, Bool.and_eq_true, decide_eq_true_eq] at h
  exact ⟨(validD_out h.1).1, h.2.2.1⟩
set_option maxHeartbeats 4000000 in
set_option maxRecDepth 100000 in
theorem sValid_l (r : RecD) (s : SchedD) (w : World) (hr : RecRd w r) (hs : SchedRd w s) :
    Calls Tryz.prog 113 #[.agg #[.int .i64 r.n, r.lv, r.vv], .agg #[.int .i64 s.f.1, .int .i64 s.f.2.1, .int .i64 s.f.2.2, s.ov]] w fun e w' => e = .returned (.bool (schedB r s)) ∧ Below w.heap.size w w' := by
  have HR := Lib.hid hr
  have HS := Lib.hid hs
  have HVS := Lib.hid hr.vars.shape
  clear hr hs
  have HV := Lib.hid (fun (W : World) (h : RecRd W r) => rValid_l r W h)
  obtain ⟨W0, hW0⟩ : ∃ W : World, (w.alloc (Obj.cells #[.int .i64 r.n, r.lv, r.vv] 27)).alloc (Obj.cells #[.int .i64 s.f.1, .int .i64 s.f.2.1, .int .i64 s.f.2.2, s.ov] 47) = W := ⟨_, rfl⟩
  have kw : Below w.heap.size w W0 := by rw [← hW0]; exact (by repeat (first | exact Below.refl _ _ | assumption | (refine Below.drew ?_) | (refine below_drewN ?_ _) | (refine Below.alloc ?_ (by first | (simp; done) | (simp; omega) | omega) _) | (refine Below.setCell ?_ (by first | (simp; done) | (simp; omega) | omega) _) | (refine Below.trans ?_ (Below.mono (by assumption) (by first | (simp; done) | (simp; omega) | omega)))))
  have ks : W0.heap.size = w.heap.size + 2 := by rw [← hW0]; simp
  have RD := Lib.hid (show ∀ V, Below W0.heap.size W0 V → V.cell? ⟨w.heap.size, 0, none⟩ = some (.int .i64 r.n) ∧ V.cell? ⟨w.heap.size, 1, none⟩ = some r.lv ∧ V.cell? ⟨w.heap.size, 2, none⟩ = some r.vv ∧ V.cell? ⟨w.heap.size + 1, 0, none⟩ = some (.int .i64 s.f.1) ∧ V.cell? ⟨w.heap.size + 1, 1, none⟩ = some (.int .i64 s.f.2.1) ∧ V.cell? ⟨w.heap.size + 1, 2, none⟩ = some (.int .i64 s.f.2.2) ∧ V.cell? ⟨w.heap.size + 1, 3, none⟩ = some s.ov from
    fun V h => by
      refine ⟨(h.cell (p := ⟨w.heap.size, 0, none⟩) (by simp; omega)).trans ?_, (h.cell (p := ⟨w.heap.size, 1, none⟩) (by simp; omega)).trans ?_, (h.cell (p := ⟨w.heap.size, 2, none⟩) (by simp; omega)).trans ?_, (h.cell (p := ⟨w.heap.size + 1, 0, none⟩) (by simp; omega)).trans ?_, (h.cell (p := ⟨w.heap.size + 1, 1, none⟩) (by simp; omega)).trans ?_, (h.cell (p := ⟨w.heap.size + 1, 2, none⟩) (by simp; omega)).trans ?_, (h.cell (p := ⟨w.heap.size + 1, 3, none⟩) (by simp; omega)).trans ?_⟩ <;> (subst hW0; go_simp))
  have HW := Lib.hid hW0; have KW := Lib.hid kw; clear hW0 kw
  have EV := Lib.hid (show schedB r s = (validR r.n r.l r.vars && fitsB r.n r.vars.length s) from rfl)
  generalize schedB r s = R at *
  cases hv : validR r.n r.l r.vars
  · have HVV := Lib.hid hv
    have HRR := Lib.hid (show R = false by rw [EV.out, hv]; rfl)
    clear hv EV
    go_enter Tryz.func113, Tryz.ntmps113
    go_wp2_with (go_at_call 112; rw [HW.out]; refine (HV.out _ (HR.out.below KW.out)).mono ?_; go_must (rintro e w1 ⟨rfl, hb1⟩; rw [HVV.out]))
    go_ret
    exact ⟨ret_bool HRR.out.symm, below_at KW.out (by omega) hb1⟩
  have HVV := Lib.hid hv
  have HLO := Lib.hid (validR_lo hv)
  have EV2 := Lib.hid (EV.out.trans (by rw [hv, Bool.true_and]))
  clear hv EV
  have HF := Lib.hid (fun (W : World) (h : SchedRd W s) => fits_l r.n r.lv r.vv r.vars.length s HLO.out.1.1 (by obtain ⟨a, c, h, _⟩ := HVS.out; exact ⟨a, c, h⟩) (by have := HLO.out.2; omega) W h)
  go_enter Tryz.func113, Tryz.ntmps113
  go_wp2_with (first | (go_at_call 112; rw [HW.out]; refine (HV.out _ (HR.out.below KW.out)).mono ?_; go_must (rintro e w1 ⟨rfl, hb1⟩; rw [HVV.out]; obtain ⟨k0, k1, k2, k3, k4, k5, k6⟩ := RD.out _ hb1; have KA := Lib.hid (below_at KW.out (by omega) hb1))) | (go_at_call 159; refine (HF.out _ (SlOf.below HS.out KA.out)).mono ?_; go_must (rintro e w2 ⟨rfl, hb2⟩)))
  go_ret
  exact ⟨ret_bool (by rw [EV2.out]), below_at KA.out (by have := hb1.size; omega) hb2⟩
end Go.Proofs.YtnejicklenhpeaaGreat
