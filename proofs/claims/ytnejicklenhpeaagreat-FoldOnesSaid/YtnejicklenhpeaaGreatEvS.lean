/- Plans, elements and events as arguments: how they are opened. Conditions: none. -/
import Derived.Test.YtnejicklenhpeaaGreatEvN
namespace Go.Proofs.YtnejicklenhpeaaGreat
open Go.RowKit Go.ChangeShapes Go.WideShapes Go.ChangeAt
set_option linter.unusedVariables false
section
variable {w : World} {base : Nat} {H : Type} {enc : TypeId × Value → H} {spare : Nat → Bool} {held : Bool} {fuel : Nat} {cs : List Value} {x : DataW H × List MemPlace}
set_option maxRecDepth 100000 in
theorem trod_rec (h : DataW.trod enc Tryz.prog w base spare held fuel 27 cs = some x) : ∃ q : RecD, cs = [.int .i64 q.n, q.lv, q.vv] ∧ RecRd w q := by
  obtain ⟨xs, m, _, _, hcl, hxn, hx⟩ := DataW.trod_struct Tryz.underlying27 h
  rw [show Tryz.prog.cellsOf 27 = 3 by kernel_rfl] at hcl
  obtain ⟨c0, c1, c2, rfl⟩ := list3 hcl
  have hxl : xs.length = 2 := hxn
  have g0 := hx 0 _ rfl
  have g1 := hx 1 _ rfl
  rw [List.getElem?_eq_getElem (by omega)] at g0 g1
  simp only [List.getElem_toArray, List.getElem_cons_zero, List.getElem_cons_succ, show Tryz.prog.cellsOf 24 = 2 by kernel_rfl, show Tryz.prog.cellsOf 25 = 1 by kernel_rfl] at g0 g1
  obtain ⟨ys, m2, _, _, _, hyn, hy⟩ := DataW.trod_struct Tryz.underlying24 g0
  have hyl : ys.length = 2 := hyn
  have e0 := hy 0 _ rfl
  have e1 := hy 1 _ rfl
  rw [List.getElem?_eq_getElem (by omega)] at e0 e1
  simp only [List.getElem_toArray, List.getElem_cons_zero, List.getElem_cons_succ, ce_int, show Tryz.prog.cellsOf 22 = 1 by kernel_rfl] at e0 e1
  obtain ⟨z, h0⟩ := trod_int1 e0
  simp at h0
  subst h0
  obtain ⟨li, hl, -⟩ := open_slOf (enc := encI) (Good := fun _ => True) Tryz.underlying22 ce_ineq (by omega) (fun _ => rfl) (fun m cs y hy => by obtain ⟨q, hq⟩ := trod_ineq hy; exact ⟨q, hq, trivial⟩) (v := c1) (by simpa using e1)
  obtain ⟨lv, hv, hg⟩ := open_slOf (enc := encV) (Good := VarRd w) Tryz.underlying25 ce_var (by omega) (fun _ => rfl) (fun m cs y hy => trod_var hy) (v := c2) (by simpa using g1)
  exact ⟨⟨z, c1, li, c2, lv⟩, rfl, hl, hv, hg⟩
theorem trod_pw (h : DataW.trod enc Tryz.prog w base spare held fuel 29 cs = some x) : ∃ p : P3, cs = encP p ∧ wf3 p := by
  obtain ⟨p, rfl⟩ := trod_arr3 h
  have ha := arr_elems Tryz.underlying29 Tryz.underlying3 ce_int h
  obtain ⟨z0, e0, w0⟩ := ha 0 (by omega) (by simp [encP])
  obtain ⟨z1, e1, w1⟩ := ha 1 (by omega) (by simp [encP])
  obtain ⟨z2, e2, w2⟩ := ha 2 (by omega) (by simp [encP])
  simp [encP] at e0 e1 e2
  refine ⟨p, rfl, ?_, ?_, ?_⟩
  · rw [e0]; exact w0
  · rw [e1]; exact w1
  · rw [e2]; exact w2
theorem ce_el : Tryz.prog.cellsOf 51 = 4 := by kernel_rfl
theorem ce_cell : Tryz.prog.cellsOf 31 = 2 := by kernel_rfl
set_option maxRecDepth 100000 in
theorem trod_el (h : DataW.trod enc Tryz.prog w base spare held fuel 51 cs = some x) : ∃ e : ElD, cs = encEl e ∧ wf3 e.2 := by
  obtain ⟨xs, m, _, _, hcl, hxn, hx⟩ := DataW.trod_struct Tryz.underlying51 h
  rw [ce_el] at hcl
  obtain ⟨c0, c1, c2, c3, rfl⟩ := list4 hcl
  have hxl : xs.length = 2 := hxn
  have g0 := hx 0 _ rfl
  have g1 := hx 1 _ rfl
  rw [List.getElem?_eq_getElem (by omega)] at g0 g1
  simp only [List.getElem_toArray, List.getElem_cons_zero, List.getElem_cons_succ, ce_int, ce_pt] at g0 g1
  obtain ⟨z, h0⟩ := trod_int1 g0
  obtain ⟨p, h1, hw⟩ := trod_pw g1
  simp [encP] at h0 h1
  obtain ⟨rfl, rfl, rfl⟩ := h1
  subst h0
  exact ⟨(z, p), rfl, hw⟩
end
set_option maxRecDepth 100000 in
theorem open_el {w : World} {r : Reach} {b0 base : Nat} {H : Type} {enc : TypeId × Value → H} {spare : Nat → Bool} {held : Bool} {v : Value} {d : DataW H} {ps : List MemPlace}
    (hval : Value.okWide Tryz.prog w r b0 51 v) (hd : DataW.Trod enc Tryz.prog w base spare held 51 v d ps) : ∃ e : ElD, v = elD e ∧ wf3 e.2 := by
  obtain ⟨cs, rfl, hs⟩ := okWide_struct Tryz.underlying51 hval
  obtain ⟨fuel, hf⟩ := hd
  obtain ⟨q, hq, hr⟩ := trod_el hf
  obtain ⟨l⟩ := cs
  simp [Value.cells] at hq
  subst hq
  exact ⟨q, rfl, hr⟩
set_option maxRecDepth 100000 in
theorem open_ev {w : World} {r : Reach} {b0 base : Nat} {H : Type} {enc : TypeId × Value → H} {spare : Nat → Bool} {held : Bool} {v : Value} {d : DataW H} {ps : List MemPlace}
    (hval : Value.okWide Tryz.prog w r b0 54 v) (hd : DataW.Trod enc Tryz.prog w base spare held 54 v d ps) : ∃ x : EvD, v = evD x := by
  obtain ⟨cs, rfl, hs⟩ := okWide_struct Tryz.underlying54 hval
  obtain ⟨fuel, hf⟩ := hd
  obtain ⟨xs, m, _, _, hcl, hxn, hx⟩ := DataW.trod_struct Tryz.underlying54 hf
  rw [show Tryz.prog.cellsOf 54 = 7 by kernel_rfl] at hs hcl
  obtain ⟨l⟩ := cs
  obtain ⟨c0, c1, c2, c3, c4, c5, c6, rfl⟩ := list7 (l := l) hs
  have hxl : xs.length = 3 := hxn
  have g0 := hx 0 _ rfl
  have g1 := hx 1 _ rfl
  have g2 := hx 2 _ rfl
  rw [List.getElem?_eq_getElem (by omega)] at g0 g1 g2
  simp only [List.getElem_toArray, List.getElem_cons_zero, List.getElem_cons_succ, ce_int, ce_cell, ce_el, Value.cells] at g0 g1 g2
  obtain ⟨z, h0⟩ := trod_int1 g0
  have ha := arr_elems Tryz.underlying31 Tryz.underlying3 ce_int g1
  obtain ⟨y0, e0, -⟩ := ha 0 (by omega) (by simp)
  obtain ⟨y1, e1, -⟩ := ha 1 (by omega) (by simp)
  obtain ⟨e, h2, -⟩ := trod_el g2
  simp [encEl] at h0 h2 e0 e1
  obtain ⟨rfl, rfl, rfl, rfl⟩ := h2
  subst h0 e0 e1
  exact ⟨⟨z, (y0, y1), e⟩, rfl⟩
set_option maxRecDepth 100000 in
theorem open_plan {w : World} {r : Reach} {b0 base : Nat} {H : Type} {enc : TypeId × Value → H} {spare : Nat → Bool} {held : Bool} {v : Value} {d : DataW H} {ps : List MemPlace}
    (hval : Value.okWide Tryz.prog w r b0 49 v) (hd : DataW.Trod enc Tryz.prog w base spare held 49 v d ps) :
    ∃ (q : RecD) (s : SchedD) (u : P3), v = .agg #[.int .i64 q.n, q.lv, q.vv, .int .i64 s.f.1, .int .i64 s.f.2.1, .int .i64 s.f.2.2, s.ov, .int .i64 u.1, .int .i64 u.2.1, .int .i64 u.2.2] ∧ RecRd w q ∧ SchedRd w s := by
  obtain ⟨cs, rfl, hs⟩ := okWide_struct Tryz.underlying49 hval
  obtain ⟨fuel, hf⟩ := hd
  obtain ⟨xs, m, _, _, hcl, hxn, hx⟩ := DataW.trod_struct Tryz.underlying49 hf
  rw [show Tryz.prog.cellsOf 49 = 10 by kernel_rfl] at hs hcl
  obtain ⟨l⟩ := cs
  obtain ⟨c0, c1, c2, l2, rfl⟩ : ∃ a b c r, l = a :: b :: c :: r := by
    match l, hs with
    | a :: b :: c :: r, _ => exact ⟨a, b, c, r, rfl⟩
  obtain ⟨c3, c4, c5, c6, c7, c8, c9, rfl⟩ := list7 (l := l2) (by simpa using hs)
  have hxl : xs.length = 3 := hxn
  have g0 := hx 0 _ rfl
  have g1 := hx 1 _ rfl
  have g2 := hx 2 _ rfl
  rw [List.getElem?_eq_getElem (by omega)] at g0 g1 g2
  simp only [List.getElem_toArray, List.getElem_cons_zero, List.getElem_cons_succ, show Tryz.prog.cellsOf 27 = 3 by kernel_rfl, ce_sched, ce_pt, Value.cells] at g0 g1 g2
  obtain ⟨q, h0, hq⟩ := trod_rec g0
  obtain ⟨s, h1, hsr⟩ := trod_sched g1
  obtain ⟨u, h2⟩ := trod_arr3 g2
  simp [encP] at h0 h1 h2
  obtain ⟨rfl, rfl, rfl⟩ := h0
  obtain ⟨rfl, rfl, rfl, rfl⟩ := h1
  obtain ⟨rfl, rfl, rfl⟩ := h2
  exact ⟨q, s, u, rfl, hq, hsr⟩
end Go.Proofs.YtnejicklenhpeaaGreat
