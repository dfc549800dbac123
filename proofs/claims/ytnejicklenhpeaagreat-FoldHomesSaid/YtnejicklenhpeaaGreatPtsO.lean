/- poly.Points once more: its points lie in memory of their own. Conditions: none. -/
import Derived.Test.YtnejicklenhpeaaGreatRecY
namespace Go.Proofs.YtnejicklenhpeaaGreat
open Go.RowKit Go.Shelf
attribute [local go_sem] Oper.semAt_some
set_option linter.unusedVariables false
/-- What Points returns for a valid domain. -/
def PtsO (w : World) (L : List P3) (e : Ending) (w' : World) : Prop := if L.length ≤ 1000 then ∃ v', e = .returned (.tuple #[v', .int .i64 0]) ∧ OwnOf w' w.heap.size 29 3 encP v' L else e = .returned (.tuple #[.slice none 0 0, .int .i64 4])
set_option maxHeartbeats 4000000 in
set_option maxRecDepth 100000 in
theorem PointsO_in (n : Int) (l : List IneqD) (w : World) (v : Value) (hv : SlOf w w.heap.size 4 encI v l) (hd : validD n l = true) :
    CallsIn Fence.wide 5 Tryz.prog 49 #[.agg #[.int .i64 n, v]] w fun e w' => PtsO w (ptsL n l) e w' ∧ Below w.heap.size w w' := by
  have hdo := validD_out hd
  obtain ⟨hn, -, hq⟩ := hdo
  have HV := Lib.hid hv; clear hv
  have HD := Lib.hid hd; clear hd
  have HQ := Lib.hid hq; clear hq
  have HLN := Lib.hid (ptsL_len n l)
  have f1 : Fence.wide.fn 104 := trivial
  have f2 : Fence.wide.fn 105 := trivial
  obtain ⟨W0, hW0⟩ : ∃ W0 : World, ((w.alloc (.cells #[.int .i64 n, v] 24)).alloc (.cells #[.slice none 0 0] 75)).alloc (.cells #[.int .i64 0] 35) = W0 := ⟨_, rfl⟩
  have HK0 := Lib.hid (show Below w.heap.size w W0 from by rw [← hW0]; exact (by repeat (first | exact Below.refl _ _ | assumption | (refine Below.drew ?_) | (refine below_drewN ?_ _) | (refine Below.alloc ?_ (by first | (simp; done) | (simp; omega) | omega) _) | (refine Below.setCell ?_ (by first | (simp; done) | (simp; omega) | omega) _) | (refine Below.trans ?_ (Below.mono (by assumption) (by first | (simp; done) | (simp; omega) | omega))))))
  have hs0 : W0.heap.size = w.heap.size + 3 := by rw [← hW0]; simp
  have y0 : W0.cell? ⟨w.heap.size, 0, none⟩ = some (.int .i64 n) := by subst hW0; go_simp
  have y1 : W0.cell? ⟨w.heap.size, 1, none⟩ = some v := by subst hW0; go_simp
  have Y2 := Lib.hid (show Boxed W0 (w.heap.size + 1) 75 (.slice none 0 0) by
    rw [← hW0]; exact ((Below.refl _ _).alloc (Nat.le_refl _) _).block _ (by simp) |>.trans (by have := Boxed.new (w.alloc (.cells #[.int .i64 n, v] 24)) 75 (.slice none 0 0); simpa [Boxed] using this))
  have Y3 := Lib.hid (show Boxed W0 (w.heap.size + 1 + 1) 35 (.int .i64 0) by
    rw [← hW0]; have := Boxed.new ((w.alloc (.cells #[.int .i64 n, v] 24)).alloc (.cells #[.slice none 0 0] 75)) 35 (.int .i64 0); simpa [Boxed] using this)
  have HW0 := Lib.hid hW0; clear hW0
  refine callsIn_of_wp_marks Tryz.func49 rfl trivial ?_ rfl
  simp only [Tryz.ntmps49, List.size_toArray, List.length_cons, List.length_nil, Nat.reduceAdd, Nat.reduceSub, Array.replicate_succ, Array.replicate_zero, List.push_toArray, List.append_toArray, List.nil_append, List.cons_append]
  gi_wp2_with (first | (gi_at_call 104; rw [HW0.out]; refine (callsIn_wide.2 (pValid_l n l W0 v (HV.out.below HK0.out))).mono ?_; go_must (rintro e w1 ⟨rfl, hb1⟩; rw [HD.out]; have hs1 := hb1.size; have hz1 := z3 (show w.heap.size + 1 + 1 + 1 ≤ w1.heap.size by omega); have e0 := (hb1.cell (p := ⟨w.heap.size, 0, none⟩) (by simp; omega)).trans y0; have e1 := (hb1.cell (p := ⟨w.heap.size, 1, none⟩) (by simp; omega)).trans y1; clear y0 y1)) | (gi_at_call 105; refine (callsIn_wide.2 (ppoints_l n hn v _)).mono ?_; go_must (rintro e w2 ⟨rfl, hb2, hs2, p0, p1, p2, q0, q1⟩)))
  have hz2 : w2.heap.size ≤ w1.heap.size + 3 ∧ w1.heap.size + 3 ≤ w2.heap.size := by simp at hs2; omega
  obtain ⟨hz2, hz2b⟩ := hz2
  have hb1w := below_at HK0.out (by omega) hb1
  have X0 : Boxed w2 w1.heap.size 75 (.slice none 0 0) := (hb2.block w1.heap.size (by simp)).trans (Boxed.new w1 75 (.slice none 0 0))
  have hb12 : Below w1.heap.size w1 w2 := ((Below.refl w1.heap.size w1).alloc (Nat.le_refl _) (.cells #[.slice none 0 0] 75)).trans (hb2.mono (by simp))
  have X2 : Boxed w2 (w.heap.size + 1) 75 (.slice none 0 0) := (hb12.block _ (by omega)).trans ((hb1.block _ (by omega)).trans Y2.out)
  have X3 : Boxed w2 (w.heap.size + 1 + 1) 35 (.int .i64 0) := (hb12.block _ (by omega)).trans ((hb1.block _ (by omega)).trans Y3.out)
  have HB2 := Lib.hid (show Below w.heap.size w w2 from below_at hb1w (by omega) hb12)
  have HS := Lib.hid (show SlOf w2 w.heap.size 4 encI v l from HV.out.kept HB2.out)
  have hS : ∀ b, b = w1.heap.size → b < w2.heap.size := fun b e => by omega
  simp only [World.size_alloc] at p0 p1 p2 q0 q1
  clear hb1 hb2 hs2 e0 e1 hb12 hb1w Y2 Y3
  refine wpIn_range_mine rfl (by omega) (gf := 152) (lb := #[.pointer (some ⟨w1.heap.size + 1 + 1, 0, none⟩), .pointer (some ⟨w1.heap.size + 1, 0, none⟩)]) rfl trivial (enters_of Tryz.func152 (by kernel_rfl) rfl)
    (points_stops (5 - 1) (by omega) n l hn HQ.out (fun b => b = w1.heap.size) w2.heap.size w.heap.size (w1.heap.size + 1 + 1) (w1.heap.size + 1) v w2 (Nat.le_refl _) (by omega) (by omega) (by omega) (by omega) (by omega) (fun b e => by omega) p0 p1 p2 q1 HS.out)
    (fun W l o o' _ _ _ _ b hm => by unfold MineFrom at hm ⊢; simpa using hm)
    (fun W hW b hm => by rcases hm with rfl | hm; have := hW.size; omega; exact hm.2) (Below.refl _ _) (fun _ => rfl)
    (fun pre W => (∃ vo : Value, Boxed W w1.heap.size 75 vo ∧ OwnP W w2.heap.size vo pre) ∧ Boxed W (w.heap.size + 1) 75 (.slice none 0 0) ∧ Boxed W (w.heap.size + 1 + 1) 35 (.int .i64 0) ∧ pre.length ≤ 1000 ∧ Below w.heap.size w W ∧ w2.heap.size ≤ W.heap.size)
    (fun c pre W => Boxed W (w.heap.size + 1) 75 (.slice none 0 0) ∧ Boxed W (w.heap.size + 1 + 1) 35 (.int .i64 4) ∧ (c = .ret ∧ 1000 < pre.length) ∧ Below w.heap.size w W ∧ w2.heap.size ≤ W.heap.size) ?hI ?hIx ?hIq ?hIxq ⟨⟨_, X0, OwnOf.nil _ _ _ _ _⟩, X2, X3, by simp, HB2.out, Nat.le_refl _⟩
    (fun x a' W => ∃ Bx, w2.heap.size ≤ Bx ∧ W.cell? ⟨Bx, 0, none⟩ = some (.int .i64 x.1) ∧ W.cell? ⟨Bx, 1, none⟩ = some (.int .i64 x.2.1) ∧ W.cell? ⟨Bx, 2, none⟩ = some (.int .i64 x.2.2) ∧ a' = { tmps := #[Value.agg #[Value.int IntKind.i64 n, v], Value.pointer (some { block := w.heap.size, off := 0 }), Value.pointer (some { block := w.heap.size + 1, off := 0 }), Value.pointer (some { block := w.heap.size + 1 + 1, off := 0 }), Value.pointer (some { block := w1.heap.size, off := 0 }), Value.pointer (some { block := Bx, off := 0 }), Value.agg #[Value.int IntKind.i64 n, v], Value.bool true, Value.bool false, Value.agg #[Value.int IntKind.i64 n, v], Value.func (Fn.func 152) #[] #[Value.pointer (some { block := w1.heap.size + 1 + 1, off := 0 }), Value.pointer (some { block := w1.heap.size + 1, off := 0 })], .agg #[.int .i64 x.1, .int .i64 x.2.1, .int .i64 x.2.2], undef, undef, undef, undef, undef, undef, undef, undef], defers := [] })
    ?hAx ?assign ?body ?done ?stop
  case hI => exact OwnFrom.and (ownFrom_ex fun vo => OwnFrom.and ((boxed_own _ _ _).from _) (OwnOf.from _ _ _)) (OwnFrom.and ((boxed_own _ _ _).from _) (OwnFrom.and ((boxed_own _ _ _).from _) (OwnFrom.and (ownFrom_pure _ _) (OwnFrom.and (ownFrom_below (Nat.le_refl _) (by omega)) (fun _ _ _ _ hs hg _ => Nat.le_trans hs hg.size)))))
  case hIx => exact fun c => OwnFrom.and ((boxed_own _ _ _).from _) (OwnFrom.and ((boxed_own _ _ _).from _) (OwnFrom.and (ownFrom_pure _ _) (OwnFrom.and (ownFrom_below (Nat.le_refl _) (by omega)) (fun _ _ _ _ hs hg _ => Nat.le_trans hs hg.size))))
  case hIq =>
    rintro s A A' ⟨⟨vo, hx, ho⟩, h2, h3, hl, hB, hs⟩ hq
    have hb := hq.all (Nat.le_refl _)
    exact ⟨⟨vo, (hb.block _ hx.lt).trans hx, ho.kept hb⟩, (hb.block _ h2.lt).trans h2, (hb.block _ h3.lt).trans h3, hl, below_at hB (by omega) hb, Nat.le_trans hs hb.size⟩
  case hIxq =>
    rintro c s A A' ⟨h2, h3, hl, hB, hs⟩ hq
    have hb := hq.all (Nat.le_refl _)
    exact ⟨(hb.block _ h2.lt).trans h2, (hb.block _ h3.lt).trans h3, hl, below_at hB (by omega) hb, Nat.le_trans hs hb.size⟩
  case hAx =>
    rintro x a' _ A A' row ⟨Bx, hB, c0, c1, c2, rfl⟩ hg hr
    exact ⟨Bx, hB, cell_kept c0 hg (fun r e => (hr r e).2), cell_kept c1 hg (fun r e => (hr r e).2), cell_kept c2 hg (fun r e => (hr r e).2), rfl⟩
  case assign =>
    rintro l pre ⟨x0, x1, x2⟩ W K hi hK
    obtain ⟨⟨vo, hx, ho⟩, h2, h3, hl, hB, hs⟩ := hi
    have HI := Lib.hid (And.intro hx (And.intro ho (And.intro h2 (And.intro h3 hB)))); clear hx ho h2 h3 hB
    simp only [encPt, ptV]
    gi_wp2
    have hn := World.alloc_heap_new W (.cells #[.int .i64 x0, .int .i64 x1, .int .i64 x2] 29)
    have hb := (Below.refl W.heap.size W).alloc (Nat.le_refl _) (.cells #[.int .i64 x0, .int .i64 x1, .int .i64 x2] 29)
    obtain ⟨hx, ho, h2, h3, hB⟩ := HI.out
    exact hK _ _ ((KeepsOthers.alloc _ _).from _) (kpM_from hS hs (KeepS.of_below (hb.mono hs))) ⟨⟨vo, hx.alloc _, ho.kept hb⟩, h2.alloc _, h3.alloc _, hl, below_at hB (by omega) hb, Nat.le_trans hs hb.size⟩
      ⟨W.heap.size, hs, by simp only [World.cell?, hn]; rfl, by simp only [World.cell?, hn]; rfl, by simp only [World.cell?, hn]; rfl, by simp⟩
  case body =>
    rintro l pre ⟨x0, x1, x2⟩ a' W hl ⟨⟨vo, hx, ho⟩, h2, h3, hpl, hB, hs⟩ ⟨Bx, hBx, c0, c1, c2, rfl⟩ hpre
    simp only at c0 c1 c2
    obtain ⟨a, cap, rfl⟩ := ho.shape
    have k0 := hx.cell
    have k1 := hx.frozen
    have k2 := h2.cell
    have k3 := h2.frozen
    have k4 := h3.cell
    have k5 := h3.frozen
    have hzz := z3 (show w1.heap.size + 1 + 1 + 1 ≤ Bx by omega)
    have HX := Lib.hid hx; have H2 := Lib.hid h2; have H3 := Lib.hid h3; have HO := Lib.hid ho; have HBW := Lib.hid hB; have HPR := Lib.hid hpre
    clear hx h2 h3 ho hB hpre
    by_cases hk : pre.length = 1000
    · have he : (pre.length : Int) = 1000 := by omega
      rw [hk] at HO
      gi_wp2
      refine ⟨((KeepsOthers.setCell _ _ _).trans (KeepsOthers.setCell _ _ _)).from _, ?_, ?_, ⟨rfl, by simp; omega⟩, ?_, by simpa using hs⟩
      · exact (H2.out.set (.slice none 0 0)).other (by omega) _
      · exact (H3.out.other (by omega) _).set _
      · exact (HBW.out.setCell (p := ⟨w.heap.size + 1, 0, none⟩) (by simp) _).setCell (p := ⟨w.heap.size + 1 + 1, 0, none⟩) (by simp; omega) _
    · have hbE : Below W.heap.size W (W.alloc (.cells #[.int .i64 x0, .int .i64 x1, .int .i64 x2] 29)) := (Below.refl W.heap.size W).alloc (Nat.le_refl _) _
      have hne : some w1.heap.size ≠ (Value.slice a pre.length cap).ownBlock := fun e => by have := HO.out.lt w1.heap.size e.symm; omega
      have HOE := Lib.hid (HO.out.kept hbE)
      have HNE := Lib.hid hne; clear hne
      have HBE := Lib.hid hbE; clear hbE
      gi_wp2_with (gi_at_builtin; refine pushIn rfl _ _ _ rfl slPt HO.out rfl rfl (by first | rfl | simp) rfl rfl (by omega) (by omega) hs ?_; intro g5 c5 w5 hown5 hg5 hat5; have q0 := (HX.out.alloc (.cells #[.int .i64 x0, .int .i64 x1, .int .i64 x2] 29)).kept hg5 HNE.out; have q1 := q0.cell; have q2 := q0.frozen)
      have hgs := hg5.size
      simp at hgs
      have hr0 : ∀ r, (Value.slice a pre.length cap).ownBlock = some r → w2.heap.size ≤ r := fun r e => (HO.out.lt r e).1
      have B5 : Below w2.heap.size W w5 := (HBE.out.mono hs).grown hg5 (by simp; omega) (fun k e => hr0 k e)
      refine ⟨(((KeepsOthers.alloc _ _).trans (KeepsOthers.of_grownBy hg5 (fun j o e ho => ?_))).trans (KeepsOthers.setCell _ _ _)).from _, kpM_from hS hs ((KeepS.of_below B5).trans (KeepS.grown (grownBy_setCell' _ _ _) (by omega) (fun r e => by cases e; exact .inl rfl))), ⟨_, q0.set _, ?_⟩, ?_, ?_, ?_, ?_, by simp; omega⟩
      · rcases HOE.out.2 with ⟨h, _⟩ | ⟨g', cp, cur, h, _, hb, _⟩
        · rw [h] at e; simp [Value.ownBlock] at e
        · rw [h] at e; simp [Value.ownBlock] at e; subst e; rw [hb] at ho; cases ho; rfl
      · have := OwnOf.snoc (l := pre) (x := (x0, x1, x2)) (enc := encP) (by simpa [encP] using hown5) rfl
        have h6 := OwnOf.grown this (grownBy_setCell' w5 w1.heap.size (.slice (some ⟨g5, 0, none⟩) (pre.length + 1) c5)) (.inl (fun e => by have := this.lt w1.heap.size (by rw [e]); omega))
        simpa using h6
      · exact (show Boxed w5 _ _ _ from (B5.block _ (by omega)).trans H2.out).other (by omega) _
      · exact (show Boxed w5 _ _ _ from (B5.block _ (by omega)).trans H3.out).other (by omega) _
      · simp; omega
      · exact (HBW.out.trans (B5.mono (by omega))).setCell (p := ⟨w1.heap.size, 0, none⟩) (by simp; omega) _
  case done =>
    rintro D W hD ⟨⟨vo, hx, ho⟩, h2, h3, hpl, hB, hs⟩ hK
    obtain ⟨a, cap, rfl⟩ := ho.shape
    have k0 := hx.cell
    have k1 := hx.frozen
    have k2 := h2.cell
    have k3 := h2.frozen
    have k4 := h3.cell
    have k5 := h3.frozen
    have HX := Lib.hid hx; have H2 := Lib.hid h2; have H3 := Lib.hid h3; have HO := Lib.hid ho; have HBW := Lib.hid hB
    have HL := Lib.hid hpl
    clear hx h2 h3 ho hB
    gi_wp2
    obtain ⟨W2, hW2⟩ : ∃ X : World, (W.setCell ⟨w.heap.size + 1, 0, none⟩ (.slice a (ptsL n l).length cap)).setCell ⟨w.heap.size + 1 + 1, 0, none⟩ (.int .i64 0) = X := ⟨_, rfl⟩
    have m2 : Boxed W2 (w.heap.size + 1) 75 (.slice a (ptsL n l).length cap) := by rw [← hW2]; exact (H2.out.set (.slice a (ptsL n l).length cap)).other (by omega) _
    have m3 : Boxed W2 (w.heap.size + 1 + 1) 35 (.int .i64 0) := by rw [← hW2]; exact (H3.out.other (by omega) _).set _
    have mo : OwnP W2 w2.heap.size (.slice a (ptsL n l).length cap) (ptsL n l) := by
      rw [← hW2]
      have h1 := OwnOf.grown HO.out (grownBy_setCell' W (w.heap.size + 1) (.slice a (ptsL n l).length cap)) (.inl (fun e => by have := HO.out.lt _ e; omega))
      exact OwnOf.grown h1 (grownBy_setCell' _ (w.heap.size + 1 + 1) (.int .i64 0)) (.inl (fun e => by have := h1.lt _ e; omega))
    have mb : Below w.heap.size w W2 := by rw [← hW2]; exact (HBW.out.setCell (p := ⟨w.heap.size + 1, 0, none⟩) (by simp) _).setCell (p := ⟨w.heap.size + 1 + 1, 0, none⟩) (by simp; omega) _
    have mk : W2.heap[D]? = some (.deferred (some [])) := by rw [← hW2]; exact ((KeepsOthers.setCell W ⟨w.heap.size + 1, 0, none⟩ (.slice a (ptsL n l).length cap)).trans (KeepsOthers.setCell _ ⟨w.heap.size + 1 + 1, 0, none⟩ (.int .i64 0))).same D _ hK rfl
    rw [hW2]
    clear hW2
    have e2 := cell_kept m2.cell (grownBy_putObj' W2 D (.deferred none)) (fun r e => by cases e; exact ⟨_, mk, rfl⟩)
    have e3 := cell_kept m3.cell (grownBy_putObj' W2 D (.deferred none)) (fun r e => by cases e; exact ⟨_, mk, rfl⟩)
    refine ⟨by simp, .inl ⟨_, _, rfl, run_takeDeferred mk, ?_⟩⟩
    refine ⟨.tuple #[(.slice a (ptsL n l).length cap), .int .i64 0], ?_, ?_, mb.trans (belowK_b (w := w) (Nat.le_refl _) W2 D _ _ (by omega) mk rfl rfl)⟩
    · simp [results, Tryz.results49, go_sem, e2, e3]
    · unfold PtsO
      rw [if_pos HL.out]
      exact ⟨(.slice a (ptsL n l).length cap), rfl, OwnOf.mono (mo.grown (grownBy_putObj' W2 D (.deferred none)) (.inl (fun e => by
        rcases mo.2 with ⟨h, _⟩ | ⟨g', cp, cur, h, _, hb, _⟩
        · rw [h] at e; simp [Value.ownBlock] at e
        · rw [h] at e; simp [Value.ownBlock] at e; subst e; rw [hb] at mk; cases mk))) HB2.out.size⟩
  case stop =>
    rintro D c pre W hD hpre ⟨h2, h3, ⟨rfl, hpl⟩, hB, hs⟩ hK
    have HL := Lib.hid (show ¬ (ptsL n l).length ≤ 1000 from by have := hpre.length_le; omega)
    have e2 := cell_kept h2.cell (grownBy_putObj' W D (.deferred none)) (fun r e => by cases e; exact ⟨_, hK, rfl⟩)
    have e3 := cell_kept h3.cell (grownBy_putObj' W D (.deferred none)) (fun r e => by cases e; exact ⟨_, hK, rfl⟩)
    have HB := Lib.hid hB
    clear h2 h3 hB hpre
    gi_wp2
    refine ⟨by simp, .inl ⟨_, _, rfl, run_takeDeferred hK, ?_⟩⟩
    refine ⟨.tuple #[.slice none 0 0, .int .i64 4], ?_, ?_, HB.out.trans (belowK_b (w := w) (Nat.le_refl _) W D _ _ (by omega) hK rfl rfl)⟩
    · simp [results, Tryz.results49, go_sem, e2, e3]
    · unfold PtsO
      rw [if_neg HL.out]
theorem PointsO_l (n : Int) (l : List IneqD) (w : World) (v : Value) (hv : SlOf w w.heap.size 4 encI v l) (hd : validD n l = true) (hl : (ptsL n l).length ≤ 1000) :
    Calls Tryz.prog 49 #[.agg #[.int .i64 n, v]] w fun e w' => (∃ v', e = .returned (.tuple #[v', .int .i64 0]) ∧ OwnOf w' w.heap.size 29 3 encP v' (ptsL n l)) ∧ Below w.heap.size w w' :=
  (callsIn_wide.1 (PointsO_in n l w v hv hd)).mono fun e w' ⟨h, hb⟩ => ⟨by unfold PtsO at h; rwa [if_pos hl] at h, hb⟩
end Go.Proofs.YtnejicklenhpeaaGreat
