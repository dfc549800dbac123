/- The elements at a time and a cell: the program's At. -/
import Derived.Test.YtndfdgdahinkpaaEvO
namespace Go.Proofs.Ytndfdgdahinkpaa
open Go.RowKit Go.Shelf
attribute [local go_sem] Oper.semAt_some
set_option linter.unusedVariables false
set_option maxHeartbeats 4000000 in
set_option maxRecDepth 100000 in
theorem At_in (r : RecD) (s : SchedD) (u : P3) (ha : askS r s u = 0) (t : Int) (c : Int × Int) (w : World) (hr : RecRd w r) (hs : SchedRd w s) :
    CallsIn Fence.wide 5 Try.prog 21 #[.agg #[.int .i64 r.n, r.lv, r.vv], .agg #[.int .i64 s.f.1, .int .i64 s.f.2.1, .int .i64 s.f.2.2, s.ov], .agg #[.int .i64 u.1, .int .i64 u.2.1, .int .i64 u.2.2], .int .i64 t, .agg #[.int .i64 c.1, .int .i64 c.2]] w fun e w' => AtR r s u t c e w' ∧ Below w.heap.size w w' := by
  have HR := Lib.hid hr
  have HS := Lib.hid hs
  have HVV := Lib.hid (show ∃ a c, r.vv = .slice a r.vars.length c by obtain ⟨a, c, h, -⟩ := hr.vars.shape; exact ⟨a, c, h⟩)
  clear hr hs
  have HDR := Lib.hid (fun (W : World) (h : RecRd W r) (h2 : SchedRd W s) => draw_l r s u W h h2)
  have HA := Lib.hid ha
  have hlb : (evsL r s u).length ≤ 4000 := by
    rw [evsL_len]
    have hvo := validR_out (askS_ok ha).1
    exact Nat.mul_le_mul hvo.2.2.1.2 hvo.2.1
  have HLB := Lib.hid hlb; clear hlb
  have HY := Lib.hid (fun (w' : World) (v' : Value) (h : SlOf w' w'.heap.size 4 encEl v' (atL r s u t c)) => atR_ok ha h)
  have f1 : Fence.wide.fn 41 := trivial
  obtain ⟨W0, hW0⟩ : ∃ W : World, ((((w.alloc (Obj.cells #[.int .i64 r.n, r.lv, r.vv] 27)).alloc (Obj.cells #[.int .i64 s.f.1, .int .i64 s.f.2.1, .int .i64 s.f.2.2, s.ov] 42)).alloc (Obj.cells #[.int .i64 u.1, .int .i64 u.2.1, .int .i64 u.2.2] 29)).alloc (Obj.cells #[.int .i64 t] 3)).alloc (Obj.cells #[.int .i64 c.1, .int .i64 c.2] 31) = W := ⟨_, rfl⟩
  have kw0 : Below w.heap.size w W0 := by rw [← hW0]; exact (by repeat (first | exact Below.refl _ _ | assumption | (refine Below.drew ?_) | (refine below_drewN ?_ _) | (refine Below.alloc ?_ (by first | (simp; done) | (simp; omega) | omega) _) | (refine Below.setCell ?_ (by first | (simp; done) | (simp; omega) | omega) _) | (refine Below.trans ?_ (Below.mono (by assumption) (by first | (simp; done) | (simp; omega) | omega)))))
  have ks0 : W0.heap.size = w.heap.size + 5 := by rw [← hW0]; simp
  have RD0 := Lib.hid (show ∀ V, Below W0.heap.size W0 V → V.cell? ⟨w.heap.size, 0, none⟩ = some (.int .i64 r.n) ∧ V.cell? ⟨w.heap.size, 1, none⟩ = some (r.lv) ∧ V.cell? ⟨w.heap.size, 2, none⟩ = some (r.vv) ∧ V.cell? ⟨w.heap.size + 1, 0, none⟩ = some (.int .i64 s.f.1) ∧ V.cell? ⟨w.heap.size + 1, 1, none⟩ = some (.int .i64 s.f.2.1) ∧ V.cell? ⟨w.heap.size + 1, 2, none⟩ = some (.int .i64 s.f.2.2) ∧ V.cell? ⟨w.heap.size + 1, 3, none⟩ = some (s.ov) ∧ V.cell? ⟨w.heap.size + 1 + 1, 0, none⟩ = some (.int .i64 u.1) ∧ V.cell? ⟨w.heap.size + 1 + 1, 1, none⟩ = some (.int .i64 u.2.1) ∧ V.cell? ⟨w.heap.size + 1 + 1, 2, none⟩ = some (.int .i64 u.2.2) ∧ V.cell? ⟨w.heap.size + 1 + 1 + 1, 0, none⟩ = some (.int .i64 t) ∧ V.cell? ⟨w.heap.size + 1 + 1 + 1 + 1, 0, none⟩ = some (.int .i64 c.1) ∧ V.cell? ⟨w.heap.size + 1 + 1 + 1 + 1, 1, none⟩ = some (.int .i64 c.2) from fun V h => by
      refine ⟨(h.cell (p := ⟨w.heap.size, 0, none⟩) (by simp; omega)).trans ?_, (h.cell (p := ⟨w.heap.size, 1, none⟩) (by simp; omega)).trans ?_, (h.cell (p := ⟨w.heap.size, 2, none⟩) (by simp; omega)).trans ?_, (h.cell (p := ⟨w.heap.size + 1, 0, none⟩) (by simp; omega)).trans ?_, (h.cell (p := ⟨w.heap.size + 1, 1, none⟩) (by simp; omega)).trans ?_, (h.cell (p := ⟨w.heap.size + 1, 2, none⟩) (by simp; omega)).trans ?_, (h.cell (p := ⟨w.heap.size + 1, 3, none⟩) (by simp; omega)).trans ?_, (h.cell (p := ⟨w.heap.size + 1 + 1, 0, none⟩) (by simp; omega)).trans ?_, (h.cell (p := ⟨w.heap.size + 1 + 1, 1, none⟩) (by simp; omega)).trans ?_, (h.cell (p := ⟨w.heap.size + 1 + 1, 2, none⟩) (by simp; omega)).trans ?_, (h.cell (p := ⟨w.heap.size + 1 + 1 + 1, 0, none⟩) (by simp; omega)).trans ?_, (h.cell (p := ⟨w.heap.size + 1 + 1 + 1 + 1, 0, none⟩) (by simp; omega)).trans ?_, (h.cell (p := ⟨w.heap.size + 1 + 1 + 1 + 1, 1, none⟩) (by simp; omega)).trans ?_⟩ <;> (subst hW0; go_simp))
  have HW0 := Lib.hid hW0; have KW0 := Lib.hid kw0; clear hW0 kw0
  refine callsIn_of_wp_marks Try.func21 rfl trivial ?_ rfl
  simp only [Try.ntmps21, List.size_toArray, List.length_cons, List.length_nil, Nat.reduceAdd, Nat.reduceSub, Array.replicate_succ, Array.replicate_zero, List.push_toArray, List.append_toArray, List.nil_append, List.cons_append]
  gi_wp2_with (gi_at_call 41; rw [HW0.out]; refine (callsIn_wide.2 (HDR.out _ (HR.out.below KW0.out) (HS.out.below KW0.out))).mono ?_; go_must (rintro e w1 ⟨hd, hb1⟩; unfold DrawR at hd; rw [if_pos HA.out] at hd; obtain ⟨bp, bv, pv, rfl, hpl⟩ := hd; have HPL := Lib.hid hpl; clear hpl; have hs1 := hb1.size; have HB1 := Lib.hid hb1; clear hb1))
  obtain ⟨w2, hw2⟩ : ∃ V : World, w1.alloc (.cells #[.slice none 0 0] 57) = V := ⟨_, rfl⟩
  have hz2e : w2.heap.size = w1.heap.size + 1 := by rw [← hw2]; simp
  have hz2 : w2.heap.size ≤ w1.heap.size + 1 := by omega
  have hz2b : w1.heap.size + 1 ≤ w2.heap.size := by omega
  clear hz2e
  have hb12 : Below w1.heap.size w1 w2 := by rw [← hw2]; exact (by repeat (first | (with_reducible exact Below.refl _ _) | (with_reducible assumption) | (with_reducible refine Below.drew ?_) | (with_reducible refine Below.setCell ?_ (by first | (simp; done) | (simp; omega) | omega) _) | (with_reducible refine Below.alloc ?_ (by first | (simp; done) | (simp; omega) | omega) _) | (with_reducible refine below_drewN ?_ _) | (refine Below.trans ?_ (Below.mono (by with_reducible assumption) (by first | (simp; done) | (simp; omega) | omega)))))
  have X0 : Boxed w2 w1.heap.size 57 (.slice none 0 0) := by rw [← hw2]; exact Boxed.new w1 57 (.slice none 0 0)
  rw [hw2]
  have HS1 := Lib.hid (show SchedRd w1 s from HS.out.below (KW0.out.trans (HB1.out.mono (by omega))))
  have hS : ∀ b, b = w1.heap.size → b < w2.heap.size := fun b e => by omega
  clear hw2
  refine wpIn_range_mineF rfl (by omega) (gf := 50) (fa := #[.pointer (some ⟨bp, 0, none⟩)]) (lb := #[]) rfl trivial (enters_of Try.func50 (by kernel_rfl) rfl)
    (all_stops (5 - 1) (by omega) r s u HA.out (fun b => b = w1.heap.size) w2.heap.size bp bv pv w1 w2 (Nat.le_refl _) (by omega) (fun b e => by omega) HPL.out HS1.out HVV.out hb12)
    (fun W l o o' _ _ _ _ b hm => by unfold MineFrom at hm ⊢; simpa using hm)
    (fun W hW b hm => by rcases hm with rfl | hm; have := hW.size; omega; exact hm.2) (Below.refl _ _) (fun _ => rfl)
    (fun pre W => (∃ vo : Value, Boxed W w1.heap.size 57 vo ∧ OwnL W w2.heap.size vo ((pre.filter (isAt t c)).map EvD.e)) ∧ Below w1.heap.size w1 W ∧ w2.heap.size ≤ W.heap.size)
    (fun _ _ _ => False) ?hI (fun _ _ _ _ _ h _ _ => h) ?hIq (fun _ _ _ _ h _ => h) ⟨⟨_, X0, OwnOf.nil _ _ _ _ _⟩, hb12, Nat.le_refl _⟩
    (fun x a' W => ∃ Bx, w2.heap.size ≤ Bx ∧ W.cell? ⟨Bx, 0, none⟩ = some (.int .i64 x.t) ∧ W.cell? ⟨Bx, 1, none⟩ = some (.int .i64 x.c.1) ∧ W.cell? ⟨Bx, 2, none⟩ = some (.int .i64 x.c.2) ∧ W.cell? ⟨Bx, 3, none⟩ = some (.int .i64 x.e.1) ∧ W.cell? ⟨Bx, 4, none⟩ = some (.int .i64 x.e.2.1) ∧ W.cell? ⟨Bx, 5, none⟩ = some (.int .i64 x.e.2.2.1) ∧ W.cell? ⟨Bx, 6, none⟩ = some (.int .i64 x.e.2.2.2) ∧ a' = { tmps := #[.agg #[.int .i64 r.n, r.lv, r.vv], .agg #[.int .i64 s.f.1, .int .i64 s.f.2.1, .int .i64 s.f.2.2, s.ov], .agg #[.int .i64 u.1, .int .i64 u.2.1, .int .i64 u.2.2], .int .i64 t, .agg #[.int .i64 c.1, .int .i64 c.2], .pointer (some ⟨w.heap.size, 0, none⟩), .pointer (some ⟨w.heap.size + 1, 0, none⟩), .pointer (some ⟨w.heap.size + 1 + 1, 0, none⟩), .pointer (some ⟨w.heap.size + 1 + 1 + 1, 0, none⟩), .pointer (some ⟨w.heap.size + 1 + 1 + 1 + 1, 0, none⟩), .slice none 0 0, .int .i64 0, .pointer (some ⟨bp, 0, none⟩), .int .i64 0, .pointer (some ⟨w1.heap.size, 0, none⟩), .pointer (some ⟨Bx, 0, none⟩), .tuple #[.pointer (some ⟨bp, 0, none⟩), .int .i64 0], .agg #[.int .i64 r.n, r.lv, r.vv], .agg #[.int .i64 s.f.1, .int .i64 s.f.2.1, .int .i64 s.f.2.2, s.ov], .agg #[.int .i64 u.1, .int .i64 u.2.1, .int .i64 u.2.2], .tuple #[.pointer (some ⟨bp, 0, none⟩), .int .i64 0], .pointer (some ⟨bp, 0, none⟩), .int .i64 0, .int .i64 0, .bool false, undef, .pointer (some ⟨bp, 0, none⟩), .func (.func 50) #[.pointer (some ⟨bp, 0, none⟩)] #[], .agg #[.int .i64 x.t, .int .i64 x.c.1, .int .i64 x.c.2, .int .i64 x.e.1, .int .i64 x.e.2.1, .int .i64 x.e.2.2.1, .int .i64 x.e.2.2.2], undef, undef, undef, undef, undef, undef, undef, undef, undef, undef, undef, undef, undef, undef, undef, undef], defers := [] })
    ?hAx ?assign ?body ?done (fun _ _ _ _ _ _ h _ => h.elim)
  case hI => exact OwnFrom.and (ownFrom_ex fun vo => OwnFrom.and ((boxed_own _ _ _).from _) (OwnOf.from _ _ _)) (OwnFrom.and (ownFrom_below (by omega) (by omega)) (fun _ _ _ _ hs hg _ => Nat.le_trans hs hg.size))
  case hIq =>
    rintro s A A' ⟨⟨vo, hx, ho⟩, hB, hs⟩ hq
    have hb := hq.all (Nat.le_refl _)
    exact ⟨⟨vo, (hb.block _ hx.lt).trans hx, ho.kept hb⟩, below_at hB (by omega) hb, Nat.le_trans hs hb.size⟩
  case hAx =>
    rintro x a' _ A A' row ⟨Bx, hB, c0, c1, c2, c3, c4, c5, c6, rfl⟩ hg hr
    exact ⟨Bx, hB, cell_kept c0 hg (fun r e => (hr r e).2), cell_kept c1 hg (fun r e => (hr r e).2), cell_kept c2 hg (fun r e => (hr r e).2), cell_kept c3 hg (fun r e => (hr r e).2), cell_kept c4 hg (fun r e => (hr r e).2), cell_kept c5 hg (fun r e => (hr r e).2), cell_kept c6 hg (fun r e => (hr r e).2), rfl⟩
  case assign =>
    rintro l pre x W K hi hK
    obtain ⟨⟨vo, hx, ho⟩, hB, hs⟩ := hi
    have HI := Lib.hid (And.intro hx (And.intro ho hB)); clear hx ho hB
    simp only [encEv, evD]
    gi_wp2
    have hn := World.alloc_heap_new W (.cells #[.int .i64 x.t, .int .i64 x.c.1, .int .i64 x.c.2, .int .i64 x.e.1, .int .i64 x.e.2.1, .int .i64 x.e.2.2.1, .int .i64 x.e.2.2.2] 54)
    have hb := (Below.refl W.heap.size W).alloc (Nat.le_refl _) (.cells #[.int .i64 x.t, .int .i64 x.c.1, .int .i64 x.c.2, .int .i64 x.e.1, .int .i64 x.e.2.1, .int .i64 x.e.2.2.1, .int .i64 x.e.2.2.2] 54)
    obtain ⟨hx, ho, hB⟩ := HI.out
    exact hK _ _ ((KeepsOthers.alloc _ _).from _) (kpM_from hS hs (KeepS.of_below (hb.mono hs))) ⟨⟨vo, hx.alloc _, ho.kept hb⟩, below_at hB (by omega) hb, Nat.le_trans hs hb.size⟩
      ⟨W.heap.size, hs, by simp only [World.cell?, hn]; rfl, by simp only [World.cell?, hn]; rfl, by simp only [World.cell?, hn]; rfl, by simp only [World.cell?, hn]; rfl, by simp only [World.cell?, hn]; rfl, by simp only [World.cell?, hn]; rfl, by simp only [World.cell?, hn]; rfl, by simp⟩
  case body =>
    rintro l pre x a' W hl ⟨⟨vo, hx, ho⟩, hB, hs⟩ ⟨Bx, hBx, c0, c1, c2, c3, c4, c5, c6, rfl⟩ hpre
    have hln : ((pre.filter (isAt t c)).map EvD.e).length ≤ 4000 := by
      rw [List.length_map]
      have h1 := List.length_filter_le (isAt t c) pre
      have h2 := hpre.length_le
      simp at h2
      have := HLB.out
      omega
    have HFT := Lib.hid (show ((pre ++ [x]).filter (isAt t c)).map EvD.e = (pre.filter (isAt t c)).map EvD.e ++ (if isAt t c x = true then [x.e] else []) by rw [List.filter_append, List.map_append]; simp [List.filter_cons]; split <;> simp)
    obtain ⟨a, cap, rfl⟩ := ho.shape
    have k0 := hx.cell
    have k1 := hx.frozen
    have KR := RD0.out W (below_at HB1.out hs1 hB)
    obtain ⟨_, _, _, _, _, _, _, _, _, _, m0, m1, m2⟩ := KR
    generalize (pre.filter (isAt t c)).map EvD.e = D at *
    have HIA := Lib.hid (show isAt t c x = (decide (x.t = t) && (decide (x.c.1 = c.1) && decide (x.c.2 = c.2))) from rfl)
    generalize isAt t c x = I at *
    have hzz := z1 (show w1.heap.size + 1 ≤ Bx by omega)
    have hz5 := z5 (show w.heap.size + 1 + 1 + 1 + 1 + 1 ≤ w1.heap.size by omega)
    have HX := Lib.hid hx; have HO := Lib.hid ho; have HBW := Lib.hid hB
    clear hx ho hB hpre
    obtain ⟨xt, ⟨x0, x1⟩, ⟨xv, q0, q1, q2⟩⟩ := x
    simp only at c0 c1 c2 c3 c4 c5 c6 HIA HFT
    have heq := fun W => eq_cell x0 x1 c.1 c.2 W
    by_cases ht : xt = t
    rotate_left
    · have HI := Lib.hid (show I = false by rw [HIA.out]; simp [ht])
      rw [HI.out] at HFT
      gi_wp2
      refine ⟨KeepsFrom.refl _ _, kpM_from hS hs (KeepS.refl _ _ _), ⟨_, HX.out, by rw [HFT.out]; simpa using HO.out⟩, HBW.out, hs⟩
    subst ht
    cases hcc : (decide (x0 = c.1) && decide (x1 = c.2))
    · have HI := Lib.hid (show I = false by rw [HIA.out, hcc]; simp)
      rw [HI.out] at HFT
      rw [hcc] at heq
      gi_wp2
      refine ⟨KeepsFrom.refl _ _, kpM_from hS hs (KeepS.refl _ _ _), ⟨_, HX.out, by rw [HFT.out]; simpa using HO.out⟩, HBW.out, hs⟩
    · have HI := Lib.hid (show I = true by rw [HIA.out, hcc]; simp)
      rw [HI.out] at HFT
      rw [hcc] at heq
      have hbE : Below W.heap.size W (W.alloc (.cells #[.int .i64 xv, .int .i64 q0, .int .i64 q1, .int .i64 q2] 47)) := (Below.refl W.heap.size W).alloc (Nat.le_refl _) _
      have hne : some w1.heap.size ≠ (Value.slice a D.length cap).ownBlock := fun e => by have := HO.out.lt w1.heap.size e.symm; omega
      have HOE := Lib.hid (HO.out.kept hbE)
      have HNE := Lib.hid hne; clear hne
      have HBE := Lib.hid hbE; clear hbE
      gi_wp2_with (gi_at_builtin; refine pushIn rfl _ _ _ rfl slEl HO.out rfl rfl (by first | rfl | simp) rfl rfl (by omega) (by omega) hs ?_; intro g5 c5' w5 hown5 hg5 hat5; have y0 := (HX.out.alloc (.cells #[.int .i64 xv, .int .i64 q0, .int .i64 q1, .int .i64 q2] 47)).kept hg5 HNE.out; have y1 := y0.cell; have y2 := y0.frozen)
      have hgs := hg5.size
      simp at hgs
      have hr0 : ∀ r, (Value.slice a D.length cap).ownBlock = some r → w2.heap.size ≤ r := fun r e => (HO.out.lt r e).1
      have B5 : Below w2.heap.size W w5 := (HBE.out.mono hs).grown hg5 (by simp; omega) (fun k e => hr0 k e)
      refine ⟨(((KeepsOthers.alloc _ _).trans (KeepsOthers.of_grownBy hg5 (fun j o e ho => ?_))).trans (KeepsOthers.setCell _ _ _)).from _, kpM_from hS hs ((KeepS.of_below B5).trans (KeepS.grown (grownBy_setCell' _ _ _) (by omega) (fun r e => by cases e; exact .inl rfl))), ⟨_, y0.set _, ?_⟩, (HBW.out.trans (B5.mono (by omega))).setCell (p := ⟨w1.heap.size, 0, none⟩) (by simp) _, by simp; omega⟩
      · rcases HOE.out.2 with ⟨h, _⟩ | ⟨g', cp, cur, h, _, hb, _⟩
        · rw [h] at e; simp [Value.ownBlock] at e
        · rw [h] at e; simp [Value.ownBlock] at e; subst e; rw [hb] at ho; cases ho; rfl
      · have := OwnOf.snoc (l := D) (x := (xv, q0, q1, q2)) (enc := encEl) (by simpa [encEl] using hown5) rfl
        have h6 := OwnOf.grown this (grownBy_setCell' w5 w1.heap.size (.slice (some ⟨g5, 0, none⟩) (D.length + 1) c5')) (.inl (fun e => by have := this.lt w1.heap.size (by rw [e]); omega))
        rw [HFT.out]
        simpa using h6
  case done =>
    rintro D W hD ⟨⟨vo, hx, ho⟩, hB, hs⟩ hK
    have HAL := Lib.hid (show ((evsL r s u).filter (isAt t c)).map EvD.e = atL r s u t c from rfl)
    rw [HAL.out] at ho
    obtain ⟨a, cap, rfl⟩ := ho.shape
    have k0 := hx.cell
    have k1 := hx.frozen
    have HO := Lib.hid ho; have HBW := Lib.hid (show Below w.heap.size w W from (KW0.out.trans (HB1.out.mono (by omega))).trans (hB.mono (by omega)))
    clear hx ho hB
    gi_wp2
    refine ⟨by simp, .inl ⟨_, _, rfl, run_takeDeferred hK, ?_⟩⟩
    refine ⟨.tuple #[(.slice a (atL r s u t c).length cap), .int .i64 0], ?_, ?_, HBW.out.trans (belowK_b (w := w) (Nat.le_refl _) W D _ _ (by omega) hK rfl rfl)⟩
    · simp [results, Try.results21, go_sem]
    · exact HY.out _ _ (HO.out.grown (grownBy_putObj' W D (.deferred none)) (.inl (fun e => by
        rcases HO.out.2 with ⟨h, _⟩ | ⟨g', cp, cur, h, _, hb, _⟩
        · rw [h] at e; simp [Value.ownBlock] at e
        · rw [h] at e; simp [Value.ownBlock] at e; subst e; rw [hb] at hK; cases hK))).sl
set_option maxHeartbeats 4000000 in
set_option maxRecDepth 100000 in
theorem At_l (r : RecD) (s : SchedD) (u : P3) (t : Int) (c : Int × Int) (w : World) (hr : RecRd w r) (hs : SchedRd w s) :
    Calls Try.prog 21 #[.agg #[.int .i64 r.n, r.lv, r.vv], .agg #[.int .i64 s.f.1, .int .i64 s.f.2.1, .int .i64 s.f.2.2, s.ov], .agg #[.int .i64 u.1, .int .i64 u.2.1, .int .i64 u.2.2], .int .i64 t, .agg #[.int .i64 c.1, .int .i64 c.2]] w fun e w' => AtR r s u t c e w' ∧ Below w.heap.size w w' := by
  by_cases ha : askS r s u = 0
  · exact callsIn_wide.1 (At_in r s u ha t c w hr hs)
  have HR := Lib.hid hr
  have HS := Lib.hid hs
  clear hr hs
  have HDR := Lib.hid (fun (W : World) (h : RecRd W r) (h2 : SchedRd W s) => draw_l r s u W h h2)
  have HA := Lib.hid ha
  have HE := Lib.hid (fun w' => atR_err (t := t) (c := c) (rfl : askS r s u = askS r s u) ha w')
  have hnz : (askS r s u != 0) = true := by simpa using ha
  clear ha
  obtain ⟨W0, hW0⟩ : ∃ W : World, ((((w.alloc (Obj.cells #[.int .i64 r.n, r.lv, r.vv] 27)).alloc (Obj.cells #[.int .i64 s.f.1, .int .i64 s.f.2.1, .int .i64 s.f.2.2, s.ov] 42)).alloc (Obj.cells #[.int .i64 u.1, .int .i64 u.2.1, .int .i64 u.2.2] 29)).alloc (Obj.cells #[.int .i64 t] 3)).alloc (Obj.cells #[.int .i64 c.1, .int .i64 c.2] 31) = W := ⟨_, rfl⟩
  have kw0 : Below w.heap.size w W0 := by rw [← hW0]; exact (by repeat (first | exact Below.refl _ _ | assumption | (refine Below.drew ?_) | (refine below_drewN ?_ _) | (refine Below.alloc ?_ (by first | (simp; done) | (simp; omega) | omega) _) | (refine Below.setCell ?_ (by first | (simp; done) | (simp; omega) | omega) _) | (refine Below.trans ?_ (Below.mono (by assumption) (by first | (simp; done) | (simp; omega) | omega)))))
  have ks0 : W0.heap.size = w.heap.size + 5 := by rw [← hW0]; simp
  have RD0 := Lib.hid (show ∀ V, Below W0.heap.size W0 V → V.cell? ⟨w.heap.size, 0, none⟩ = some (.int .i64 r.n) ∧ V.cell? ⟨w.heap.size, 1, none⟩ = some (r.lv) ∧ V.cell? ⟨w.heap.size, 2, none⟩ = some (r.vv) ∧ V.cell? ⟨w.heap.size + 1, 0, none⟩ = some (.int .i64 s.f.1) ∧ V.cell? ⟨w.heap.size + 1, 1, none⟩ = some (.int .i64 s.f.2.1) ∧ V.cell? ⟨w.heap.size + 1, 2, none⟩ = some (.int .i64 s.f.2.2) ∧ V.cell? ⟨w.heap.size + 1, 3, none⟩ = some (s.ov) ∧ V.cell? ⟨w.heap.size + 1 + 1, 0, none⟩ = some (.int .i64 u.1) ∧ V.cell? ⟨w.heap.size + 1 + 1, 1, none⟩ = some (.int .i64 u.2.1) ∧ V.cell? ⟨w.heap.size + 1 + 1, 2, none⟩ = some (.int .i64 u.2.2) ∧ V.cell? ⟨w.heap.size + 1 + 1 + 1, 0, none⟩ = some (.int .i64 t) ∧ V.cell? ⟨w.heap.size + 1 + 1 + 1 + 1, 0, none⟩ = some (.int .i64 c.1) ∧ V.cell? ⟨w.heap.size + 1 + 1 + 1 + 1, 1, none⟩ = some (.int .i64 c.2) from fun V h => by
      refine ⟨(h.cell (p := ⟨w.heap.size, 0, none⟩) (by simp; omega)).trans ?_, (h.cell (p := ⟨w.heap.size, 1, none⟩) (by simp; omega)).trans ?_, (h.cell (p := ⟨w.heap.size, 2, none⟩) (by simp; omega)).trans ?_, (h.cell (p := ⟨w.heap.size + 1, 0, none⟩) (by simp; omega)).trans ?_, (h.cell (p := ⟨w.heap.size + 1, 1, none⟩) (by simp; omega)).trans ?_, (h.cell (p := ⟨w.heap.size + 1, 2, none⟩) (by simp; omega)).trans ?_, (h.cell (p := ⟨w.heap.size + 1, 3, none⟩) (by simp; omega)).trans ?_, (h.cell (p := ⟨w.heap.size + 1 + 1, 0, none⟩) (by simp; omega)).trans ?_, (h.cell (p := ⟨w.heap.size + 1 + 1, 1, none⟩) (by simp; omega)).trans ?_, (h.cell (p := ⟨w.heap.size + 1 + 1, 2, none⟩) (by simp; omega)).trans ?_, (h.cell (p := ⟨w.heap.size + 1 + 1 + 1, 0, none⟩) (by simp; omega)).trans ?_, (h.cell (p := ⟨w.heap.size + 1 + 1 + 1 + 1, 0, none⟩) (by simp; omega)).trans ?_, (h.cell (p := ⟨w.heap.size + 1 + 1 + 1 + 1, 1, none⟩) (by simp; omega)).trans ?_⟩ <;> (subst hW0; go_simp))
  have HW0 := Lib.hid hW0; have KW0 := Lib.hid kw0; clear hW0 kw0
  generalize hA : askS r s u = A at *
  go_enter Try.func21, Try.ntmps21
  go_wp2_with (go_at_call 41; rw [HW0.out]; refine (HDR.out _ (HR.out.below KW0.out) (HS.out.below KW0.out)).mono ?_; go_must (rintro e w1 ⟨hd, hb1⟩; have K0 := hb1; have HB1 := Lib.hid hb1; clear hb1; obtain ⟨k0_0, k0_1, k0_2, k0_3, k0_4, k0_5, k0_6, k0_7, k0_8, k0_9, k0_10, k0_11, k0_12⟩ := RD0.out _ K0; unfold DrawR at hd; rw [hA, if_neg HA.out] at hd; obtain ⟨p, rfl⟩ := hd))
  refine bodyPost_ret (v := .tuple #[.slice none 0 0, .int .i64 A]) (by simp only [results, Try.results21]; first | (go_simp; done) | (go_simp; rfl)) rfl ⟨HE.out _, (KW0.out.trans (K0.mono (by omega)))⟩
end Go.Proofs.Ytndfdgdahinkpaa
