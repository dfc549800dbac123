/- slices.AppendSeq and slices.Collect over the plan's events: their walks. Tables: the program's Table, the reference's, SameEvents: their walks; the walk of the law SpaceTables. Conditions: none. -/
import Derived.Test.YtnejicklenhpeaaGreatEvO
import Derived.Test.YtnejicklenhpeaaGreatTabC
import Derived.Test.YtnejicklenhpeaaGreatSchedJ
import Derived.Test.YtnejicklenhpeaaGreatSafeR
import Derived.Test.YtnejicklenhpeaaGreatEvN
namespace Go.Proofs.YtnejicklenhpeaaGreat
open Go.RowKit Go.Shelf
attribute [local go_sem] Oper.semAt_some
set_option linter.unusedVariables false
set_option maxHeartbeats 4000000 in
set_option maxRecDepth 100000 in
theorem AppendSeq_in (r : RecD) (s : SchedD) (u : P3) (ha : askS r s u = 0) (bp bv : Nat) (pv : Value) (w : World) (hpl : PlanAt w bp bv r s u pv) (hs : SchedRd w s) (hvv : ∃ a c, r.vv = .slice a r.vars.length c) :
    CallsIn Fence.wide 5 Tryz.prog 126 #[.slice none 0 0, .func (.func 72) #[.pointer (some ⟨bp, 0, none⟩)] #[]] w fun e w' => (∃ v, e = .returned v ∧ OwnE w' w.heap.size v (evsL r s u)) ∧ Below w.heap.size w w' := by
  have HS := Lib.hid hs
  have HVV := Lib.hid hvv
  have HPL := Lib.hid hpl
  have HA := Lib.hid ha
  have hlb : (evsL r s u).length ≤ 4000 := by
    rw [evsL_len]
    have hvo := validR_out (askS_ok ha).1
    exact Nat.mul_le_mul hvo.2.2.1.2 hvo.2.1
  have HLB := Lib.hid hlb; clear hlb
  clear ha hs hvv hpl
  refine callsIn_of_wp_marks Tryz.func126 rfl trivial ?_ rfl
  simp only [Tryz.ntmps126, List.size_toArray, List.length_cons, List.length_nil, Nat.reduceAdd, Nat.reduceSub, Array.replicate_succ, Array.replicate_zero, List.push_toArray, List.append_toArray, List.nil_append, List.cons_append]
  gi_wp2
  obtain ⟨w2, hw2⟩ : ∃ V : World, w.alloc (.cells #[.slice none 0 0] 59) = V := ⟨_, rfl⟩
  have hz2e : w2.heap.size = w.heap.size + 1 := by rw [← hw2]; simp
  have hz2 : w2.heap.size ≤ w.heap.size + 1 := by omega
  have hz2b : w.heap.size + 1 ≤ w2.heap.size := by omega
  clear hz2e
  have hb12 : Below w.heap.size w w2 := by rw [← hw2]; exact (by repeat (first | (with_reducible exact Below.refl _ _) | (with_reducible assumption) | (with_reducible refine Below.drew ?_) | (with_reducible refine Below.setCell ?_ (by first | (simp; done) | (simp; omega) | omega) _) | (with_reducible refine Below.alloc ?_ (by first | (simp; done) | (simp; omega) | omega) _) | (with_reducible refine below_drewN ?_ _) | (refine Below.trans ?_ (Below.mono (by with_reducible assumption) (by first | (simp; done) | (simp; omega) | omega)))))
  have X0 : Boxed w2 w.heap.size 59 (.slice none 0 0) := by rw [← hw2]; exact Boxed.new w 59 (.slice none 0 0)
  rw [hw2]
  have hS : ∀ b, b = w.heap.size → b < w2.heap.size := fun b e => by omega
  clear hw2
  refine wpIn_range_mineF rfl (by omega) (gf := 72) (fa := #[.pointer (some ⟨bp, 0, none⟩)]) (lb := #[]) rfl trivial (enters_of Tryz.func72 (by kernel_rfl) rfl)
    (all_stops (5 - 1) (by omega) r s u HA.out (fun b => b = w.heap.size) w2.heap.size bp bv pv w w2 (Nat.le_refl _) (by omega) (fun b e => by omega) HPL.out HS.out HVV.out hb12)
    (fun W l o o' _ _ _ _ b hm => by unfold MineFrom at hm ⊢; simpa using hm)
    (fun W hW b hm => by rcases hm with rfl | hm; have := hW.size; omega; exact hm.2) (Below.refl _ _) (fun _ => rfl)
    (fun pre W => (∃ vo : Value, Boxed W w.heap.size 59 vo ∧ OwnE W w2.heap.size vo pre) ∧ Below w.heap.size w W ∧ w2.heap.size ≤ W.heap.size)
    (fun _ _ _ => False) ?hI (fun _ _ _ _ _ h _ _ => h) ?hIq (fun _ _ _ _ h _ => h) ⟨⟨_, X0, OwnOf.nil _ _ _ _ _⟩, hb12, Nat.le_refl _⟩
    (fun x a' W => ∃ Bx, w2.heap.size ≤ Bx ∧ W.cell? ⟨Bx, 0, none⟩ = some (.int .i64 x.t) ∧ W.cell? ⟨Bx, 1, none⟩ = some (.int .i64 x.c.1) ∧ W.cell? ⟨Bx, 2, none⟩ = some (.int .i64 x.c.2) ∧ W.cell? ⟨Bx, 3, none⟩ = some (.int .i64 x.e.1) ∧ W.cell? ⟨Bx, 4, none⟩ = some (.int .i64 x.e.2.1) ∧ W.cell? ⟨Bx, 5, none⟩ = some (.int .i64 x.e.2.2.1) ∧ W.cell? ⟨Bx, 6, none⟩ = some (.int .i64 x.e.2.2.2) ∧ a' = { tmps := #[.slice none 0 0, .func (.func 72) #[.pointer (some ⟨bp, 0, none⟩)] #[], .pointer (some ⟨w.heap.size, 0, none⟩), undef, .slice none 0 0, .pointer (some ⟨Bx, 0, none⟩), .func (.func 72) #[.pointer (some ⟨bp, 0, none⟩)] #[], .agg #[.int .i64 x.t, .int .i64 x.c.1, .int .i64 x.c.2, .int .i64 x.e.1, .int .i64 x.e.2.1, .int .i64 x.e.2.2.1, .int .i64 x.e.2.2.2], undef, undef, undef, undef, undef], defers := [] })
    ?hAx ?assign ?body ?done (fun _ _ _ _ _ _ h _ => h.elim)
  case hI => exact OwnFrom.and (ownFrom_ex fun vo => OwnFrom.and ((boxed_own _ _ _).from _) (OwnOf.from _ _ _)) (OwnFrom.and (ownFrom_below (by omega) (by omega)) (fun _ _ _ _ hs hg _ => Nat.le_trans hs hg.size))
  case hIq =>
    rintro s A A' ⟨⟨vo, hx, ho⟩, hB, hs⟩ hq
    have hb := hq.all (Nat.le_refl _)
    exact ⟨⟨vo, (hb.block _ hx.lt).trans hx, ho.kept hb⟩, below_at hB (by omega) hb, Nat.le_trans hs hb.size⟩
  case hAx =>
    rintro x a' _ A A' row ⟨Bx, hB, c0, c1, c2, c3, c4, c5, c6, rfl⟩ hg hr
    exact ⟨Bx, hB, cell_kept c0 hg (fun r e => (hr r e).2), cell_kept c1 hg (fun r e => (hr r e).2), cell_kept c2 hg (fun r e => (hr r e).2), cell_kept c3 hg (fun r e => (hr r e).2), cell_kept c4 hg (fun r e => (hr r e).2), cell_kept c5 hg (fun r e => (hr r e).2), cell_kept c6 hg (fun r e => (hr r e).2), rfl⟩
  case assign =>
    rintro l pre x W K hi hK
    obtain ⟨⟨vo, hx, ho⟩, hB, hs⟩ := hi
    have HI := Lib.hid (And.intro hx (And.intro ho hB)); clear hx ho hB
    simp only [encEv, evD]
    gi_wp2
    have hn := World.alloc_heap_new W (.cells #[.int .i64 x.t, .int .i64 x.c.1, .int .i64 x.c.2, .int .i64 x.e.1, .int .i64 x.e.2.1, .int .i64 x.e.2.2.1, .int .i64 x.e.2.2.2] 54)
    have hb := (Below.refl W.heap.size W).alloc (Nat.le_refl _) (.cells #[.int .i64 x.t, .int .i64 x.c.1, .int .i64 x.c.2, .int .i64 x.e.1, .int .i64 x.e.2.1, .int .i64 x.e.2.2.1, .int .i64 x.e.2.2.2] 54)
    obtain ⟨hx, ho, hB⟩ := HI.out
    exact hK _ _ ((KeepsOthers.alloc _ _).from _) (kpM_from hS hs (KeepS.of_below (hb.mono hs))) ⟨⟨vo, hx.alloc _, ho.kept hb⟩, below_at hB (by omega) hb, Nat.le_trans hs hb.size⟩
      ⟨W.heap.size, hs, by simp only [World.cell?, hn]; rfl, by simp only [World.cell?, hn]; rfl, by simp only [World.cell?, hn]; rfl, by simp only [World.cell?, hn]; rfl, by simp only [World.cell?, hn]; rfl, by simp only [World.cell?, hn]; rfl, by simp only [World.cell?, hn]; rfl, by simp⟩
  case body =>
    rintro l pre x a' W hl ⟨⟨vo, hx, ho⟩, hB, hs⟩ ⟨Bx, hBx, c0, c1, c2, c3, c4, c5, c6, rfl⟩ hpre
    have hln : pre.length ≤ 4000 := by
      have h2 := hpre.length_le
      simp at h2
      have := HLB.out
      omega
    obtain ⟨a, cap, rfl⟩ := ho.shape
    have k0 := hx.cell
    have k1 := hx.frozen
    have hzz := z1 (show w.heap.size + 1 ≤ Bx by omega)
    have HX := Lib.hid hx; have HO := Lib.hid ho; have HBW := Lib.hid hB
    clear hx ho hB hpre
    obtain ⟨xt, ⟨x0, x1⟩, ⟨xv, q0, q1, q2⟩⟩ := x
    simp only at c0 c1 c2 c3 c4 c5 c6
    have hbE : Below W.heap.size W (W.alloc (.cells #[.int .i64 xt, .int .i64 x0, .int .i64 x1, .int .i64 xv, .int .i64 q0, .int .i64 q1, .int .i64 q2] 54)) := (Below.refl W.heap.size W).alloc (Nat.le_refl _) _
    have hne : some w.heap.size ≠ (Value.slice a pre.length cap).ownBlock := fun e => by have := HO.out.lt w.heap.size e.symm; omega
    have HOE := Lib.hid (HO.out.kept hbE)
    have HNE := Lib.hid hne; clear hne
    have HBE := Lib.hid hbE; clear hbE
    gi_wp2_with (gi_at_builtin; refine pushIn rfl _ _ _ rfl slEv HO.out rfl rfl (by first | rfl | simp) rfl rfl (by omega) (by omega) hs ?_; intro g5 c5' w5 hown5 hg5 hat5; have y0 := (HX.out.alloc (.cells #[.int .i64 xt, .int .i64 x0, .int .i64 x1, .int .i64 xv, .int .i64 q0, .int .i64 q1, .int .i64 q2] 54)).kept hg5 HNE.out; have y1 := y0.cell; have y2 := y0.frozen)
    have hgs := hg5.size
    simp at hgs
    have hr0 : ∀ r, (Value.slice a pre.length cap).ownBlock = some r → w2.heap.size ≤ r := fun r e => (HO.out.lt r e).1
    have B5 : Below w2.heap.size W w5 := (HBE.out.mono hs).grown hg5 (by simp; omega) (fun k e => hr0 k e)
    refine ⟨(((KeepsOthers.alloc _ _).trans (KeepsOthers.of_grownBy hg5 (fun j o e ho => ?_))).trans (KeepsOthers.setCell _ _ _)).from _, kpM_from hS hs ((KeepS.of_below B5).trans (KeepS.grown (grownBy_setCell' _ _ _) (by omega) (fun r e => by cases e; exact .inl rfl))), ⟨_, y0.set _, ?_⟩, (HBW.out.trans (B5.mono (by omega))).setCell (p := ⟨w.heap.size, 0, none⟩) (by simp) _, by simp; omega⟩
    · rcases HOE.out.2 with ⟨h, _⟩ | ⟨g', cp, cur, h, _, hb, _⟩
      · rw [h] at e; simp [Value.ownBlock] at e
      · rw [h] at e; simp [Value.ownBlock] at e; subst e; rw [hb] at ho; cases ho; rfl
    · have := OwnOf.snoc (l := pre) (x := (⟨xt, (x0, x1), (xv, q0, q1, q2)⟩ : EvD)) (enc := encE) (by simpa [encE] using hown5) rfl
      have h6 := OwnOf.grown this (grownBy_setCell' w5 w.heap.size (.slice (some ⟨g5, 0, none⟩) (pre.length + 1) c5')) (.inl (fun e => by have := this.lt w.heap.size (by rw [e]); omega))
      simpa using h6
  case done =>
    rintro D W hD ⟨⟨vo, hx, ho⟩, hB, hs⟩ hK
    obtain ⟨a, cap, rfl⟩ := ho.shape
    have k0 := hx.cell
    have k1 := hx.frozen
    have HO := Lib.hid ho; have HBW := Lib.hid hB
    clear hx ho hB
    gi_wp2
    refine ⟨by simp, .inl ⟨_, _, rfl, run_takeDeferred hK, ?_⟩⟩
    refine ⟨(.slice a (evsL r s u).length cap), ?_, ⟨_, rfl, ?_⟩, HBW.out.trans (belowK_b (w := w) (Nat.le_refl _) W D _ _ (by omega) hK rfl rfl)⟩
    · simp [results, Tryz.results126, go_sem]
    · exact OwnOf.mono (HO.out.grown (grownBy_putObj' W D (.deferred none)) (.inl (fun e => by
        rcases HO.out.2 with ⟨h, _⟩ | ⟨g', cp, cur, h, _, hb, _⟩
        · rw [h] at e; simp [Value.ownBlock] at e
        · rw [h] at e; simp [Value.ownBlock] at e; subst e; rw [hb] at hK; cases hK))) (by omega)
set_option maxHeartbeats 4000000 in
set_option maxRecDepth 100000 in
theorem Collect_l (r : RecD) (s : SchedD) (u : P3) (ha : askS r s u = 0) (bp bv : Nat) (pv : Value) (w : World) (hpl : PlanAt w bp bv r s u pv) (hs : SchedRd w s) (hvv : ∃ a c, r.vv = .slice a r.vars.length c) :
    Calls Tryz.prog 71 #[.func (.func 72) #[.pointer (some ⟨bp, 0, none⟩)] #[]] w fun e w' => (∃ v, e = .returned v ∧ OwnE w' w.heap.size v (evsL r s u)) ∧ Below w.heap.size w w' := by
  have H := Lib.hid (callsIn_wide.1 (AppendSeq_in r s u ha bp bv pv w hpl hs hvv))
  clear ha hpl hs hvv
  go_enter Tryz.func71, Tryz.ntmps71
  go_wp2_with (go_at_call 126; refine H.out.mono ?_; clear H; go_must (rintro e w1 ⟨⟨v, rfl, hown⟩, hb1⟩))
  go_ret
  exact ⟨⟨v, rfl, hown⟩, hb1⟩
end Go.Proofs.YtnejicklenhpeaaGreat
namespace Go.Proofs.YtnejicklenhpeaaGreat
open Go.RowKit Go.Lib
set_option linter.unusedVariables false
/-- The error of a table. -/
def tabErr (r : RecD) (s : SchedD) (u : P3) : Int := if askS r s u = 0 then (if legalB r s = true then (if (clashL r s u).isNone = true then 0 else 41) else 31) else askS r s u
/-- What Table returns: the events in order, or none and the error. -/
def TabR (r : RecD) (s : SchedD) (u : P3) (e : Ending) (w' : World) : Prop := ∃ v l, e = .returned (.tuple #[v, .int .i64 (tabErr r s u)]) ∧ SlOf w' w'.heap.size 7 encE v l ∧ (if tabErr r s u = 0 then l.Perm (evsL r s u) ∧ SortedE l else l = [])
theorem tabR_err {r : RecD} {s : SchedD} {u : P3} {k : Int} (h : tabErr r s u = k) (hk : k ≠ 0) (w' : World) : TabR r s u (.returned (.tuple #[.slice none 0 0, .int .i64 k])) w' := by
  unfold TabR
  rw [h]
  exact ⟨_, [], rfl, Sl.nil _ _ _, by rw [if_neg hk]⟩
theorem tabR_ok {r : RecD} {s : SchedD} {u : P3} (h : tabErr r s u = 0) {w' : World} {v : Value} {l : List EvD} (hs : SlOf w' w'.heap.size 7 encE v l) (hp : l.Perm (evsL r s u)) (ho : SortedE l) : TabR r s u (.returned (.tuple #[v, .int .i64 0])) w' := by
  unfold TabR
  rw [h]
  exact ⟨_, l, rfl, hs, by rw [if_pos rfl]; exact ⟨hp, ho⟩⟩
theorem askS_askD {r : RecD} {s : SchedD} {u : P3} (h : askS r s u = 0) : askD r s = 0 := askD_ok (askS_ok h).2.1
set_option maxHeartbeats 4000000 in
set_option maxRecDepth 100000 in
theorem Table_l (r : RecD) (s : SchedD) (u : P3) (w : World) (hr : RecRd w r) (hs : SchedRd w s) :
    Calls Tryz.prog 28 #[.agg #[.int .i64 r.n, r.lv, r.vv], .agg #[.int .i64 s.f.1, .int .i64 s.f.2.1, .int .i64 s.f.2.2, s.ov], .agg #[.int .i64 u.1, .int .i64 u.2.1, .int .i64 u.2.2]] w fun e w' => TabR r s u e w' ∧ Below w.heap.size w w' := by
  have HR := Lib.hid hr
  have HS := Lib.hid hs
  have HVV := Lib.hid (show ∃ a c, r.vv = .slice a r.vars.length c by obtain ⟨a, c, h, -⟩ := hr.vars.shape; exact ⟨a, c, h⟩)
  clear hr hs
  have HDR := Lib.hid (fun (W : World) (h : RecRd W r) (h2 : SchedRd W s) => draw_l r s u W h h2)
  have HLG := Lib.hid (fun (W : World) (h : RecRd W r) (h2 : SchedRd W s) => Legal_l r s W h h2)
  have HCL := Lib.hid (fun ha (bp bv : Nat) (pv : Value) (W : World) (hp : PlanAt W bp bv r s u pv) => clash_l r s u ha bp bv pv W hp)
  obtain ⟨W0, hW0⟩ : ∃ W : World, ((w.alloc (Obj.cells #[.int .i64 r.n, r.lv, r.vv] 27)).alloc (Obj.cells #[.int .i64 s.f.1, .int .i64 s.f.2.1, .int .i64 s.f.2.2, s.ov] 47)).alloc (Obj.cells #[.int .i64 u.1, .int .i64 u.2.1, .int .i64 u.2.2] 29) = W := ⟨_, rfl⟩
  have kw0 : Below w.heap.size w W0 := by rw [← hW0]; exact (by repeat (first | exact Below.refl _ _ | assumption | (refine Below.drew ?_) | (refine below_drewN ?_ _) | (refine Below.alloc ?_ (by first | (simp; done) | (simp; omega) | omega) _) | (refine Below.setCell ?_ (by first | (simp; done) | (simp; omega) | omega) _) | (refine Below.trans ?_ (Below.mono (by assumption) (by first | (simp; done) | (simp; omega) | omega)))))
  have ks0 : W0.heap.size = w.heap.size + 3 := by rw [← hW0]; simp
  have RD0 := Lib.hid (show ∀ V, Below W0.heap.size W0 V → V.cell? ⟨w.heap.size, 0, none⟩ = some (.int .i64 r.n) ∧ V.cell? ⟨w.heap.size, 1, none⟩ = some (r.lv) ∧ V.cell? ⟨w.heap.size, 2, none⟩ = some (r.vv) ∧ V.cell? ⟨w.heap.size + 1, 0, none⟩ = some (.int .i64 s.f.1) ∧ V.cell? ⟨w.heap.size + 1, 1, none⟩ = some (.int .i64 s.f.2.1) ∧ V.cell? ⟨w.heap.size + 1, 2, none⟩ = some (.int .i64 s.f.2.2) ∧ V.cell? ⟨w.heap.size + 1, 3, none⟩ = some (s.ov) ∧ V.cell? ⟨w.heap.size + 1 + 1, 0, none⟩ = some (.int .i64 u.1) ∧ V.cell? ⟨w.heap.size + 1 + 1, 1, none⟩ = some (.int .i64 u.2.1) ∧ V.cell? ⟨w.heap.size + 1 + 1, 2, none⟩ = some (.int .i64 u.2.2) from fun V h => by
      refine ⟨(h.cell (p := ⟨w.heap.size, 0, none⟩) (by simp; omega)).trans ?_, (h.cell (p := ⟨w.heap.size, 1, none⟩) (by simp; omega)).trans ?_, (h.cell (p := ⟨w.heap.size, 2, none⟩) (by simp; omega)).trans ?_, (h.cell (p := ⟨w.heap.size + 1, 0, none⟩) (by simp; omega)).trans ?_, (h.cell (p := ⟨w.heap.size + 1, 1, none⟩) (by simp; omega)).trans ?_, (h.cell (p := ⟨w.heap.size + 1, 2, none⟩) (by simp; omega)).trans ?_, (h.cell (p := ⟨w.heap.size + 1, 3, none⟩) (by simp; omega)).trans ?_, (h.cell (p := ⟨w.heap.size + 1 + 1, 0, none⟩) (by simp; omega)).trans ?_, (h.cell (p := ⟨w.heap.size + 1 + 1, 1, none⟩) (by simp; omega)).trans ?_, (h.cell (p := ⟨w.heap.size + 1 + 1, 2, none⟩) (by simp; omega)).trans ?_⟩ <;> (subst hW0; go_simp))
  have HW0 := Lib.hid hW0; have KW0 := Lib.hid kw0; clear hW0 kw0
  by_cases ha : askS r s u = 0
  rotate_left
  · have HA := Lib.hid ha
    have HE := Lib.hid (fun w' => tabR_err (show tabErr r s u = askS r s u by unfold tabErr; rw [if_neg ha]) ha w')
    have hnz : (askS r s u != 0) = true := by simpa using ha
    clear ha
    generalize hA : askS r s u = A at *
    go_enter Tryz.func28, Tryz.ntmps28
    go_wp2_with (go_at_call 68; rw [HW0.out]; refine (HDR.out _ (HR.out.below KW0.out) (HS.out.below KW0.out)).mono ?_; go_must (rintro e w1 ⟨hd, hb1⟩; have K0 := hb1; have HB1 := Lib.hid hb1; clear hb1; obtain ⟨k0_0, k0_1, k0_2, k0_3, k0_4, k0_5, k0_6, k0_7, k0_8, k0_9⟩ := RD0.out _ K0; unfold DrawR at hd; rw [hA, if_neg HA.out] at hd; obtain ⟨p, rfl⟩ := hd))
    go_ret2
    exact ⟨HE.out _, (KW0.out.trans (K0.mono (by omega)))⟩
  have HA := Lib.hid ha
  rw [askS_askD ha, decide_eq_true rfl, Bool.true_and] at HLG
  cases hlg : legalB r s
  · have HE := Lib.hid (fun w' => tabR_err (show tabErr r s u = 31 by unfold tabErr; rw [if_pos ha, hlg]; rfl) (by omega) w')
    rw [hlg] at HLG
    clear ha hlg
    go_enter Tryz.func28, Tryz.ntmps28
    go_wp2_with (first | (go_at_call 68; rw [HW0.out]; refine (HDR.out _ (HR.out.below KW0.out) (HS.out.below KW0.out)).mono ?_; go_must (rintro e w1 ⟨hd, hb1⟩; have K0 := hb1; have HB1 := Lib.hid hb1; clear hb1; obtain ⟨k0_0, k0_1, k0_2, k0_3, k0_4, k0_5, k0_6, k0_7, k0_8, k0_9⟩ := RD0.out _ K0; unfold DrawR at hd; rw [if_pos HA.out] at hd; obtain ⟨b, bv, pv, rfl, hpl⟩ := hd; have HPL := Lib.hid hpl; clear hpl)) | (go_at_call 69; refine (HLG.out _ (HR.out.below (KW0.out.trans (K0.mono (by omega)))) (HS.out.below (KW0.out.trans (K0.mono (by omega))))).mono ?_; go_must (rintro e w2 ⟨rfl, hb2⟩; have K' := (by first | exact below_at K0 (by have := K0.size; omega) hb2 | exact below_at K0 (by have := K0.size; omega) (by repeat (first | exact Below.refl _ _ | assumption | (refine Below.drew ?_) | (refine below_drewN ?_ _) | (refine Below.alloc ?_ (by first | (simp; done) | (simp; omega) | omega) _) | (refine Below.setCell ?_ (by first | (simp; done) | (simp; omega) | omega) _) | (refine Below.trans ?_ (Below.mono (by assumption) (by first | (simp; done) | (simp; omega) | omega))))) : Below W0.heap.size W0 w2); have HB2 := Lib.hid hb2; clear K0 hb2; (try clear k0_0); (try clear k0_1); (try clear k0_2); (try clear k0_3); (try clear k0_4); (try clear k0_5); (try clear k0_6); (try clear k0_7); (try clear k0_8); (try clear k0_9); have K0 := K'; clear K'; obtain ⟨k0_0, k0_1, k0_2, k0_3, k0_4, k0_5, k0_6, k0_7, k0_8, k0_9⟩ := RD0.out _ K0; skip)))
    go_ret2
    exact ⟨HE.out _, (KW0.out.trans (K0.mono (by omega)))⟩
  rw [hlg] at HLG
  cases hc : clashL r s u with
  | some q =>
    have HE := Lib.hid (fun w' => tabR_err (show tabErr r s u = 41 by unfold tabErr; rw [if_pos ha, hlg, hc]; rfl) (by omega) w')
    have HC := Lib.hid hc
    clear ha hlg hc
    obtain ⟨i, k⟩ := q
    go_enter Tryz.func28, Tryz.ntmps28
    go_wp2_with (first | (go_at_call 68; rw [HW0.out]; refine (HDR.out _ (HR.out.below KW0.out) (HS.out.below KW0.out)).mono ?_; go_must (rintro e w1 ⟨hd, hb1⟩; have K0 := hb1; have HB1 := Lib.hid hb1; clear hb1; obtain ⟨k0_0, k0_1, k0_2, k0_3, k0_4, k0_5, k0_6, k0_7, k0_8, k0_9⟩ := RD0.out _ K0; unfold DrawR at hd; rw [if_pos HA.out] at hd; obtain ⟨b, bv, pv, rfl, hpl⟩ := hd; have HPL := Lib.hid hpl; clear hpl)) | (go_at_call 69; refine (HLG.out _ (HR.out.below (KW0.out.trans (K0.mono (by omega)))) (HS.out.below (KW0.out.trans (K0.mono (by omega))))).mono ?_; go_must (rintro e w2 ⟨rfl, hb2⟩; have K' := (by first | exact below_at K0 (by have := K0.size; omega) hb2 | exact below_at K0 (by have := K0.size; omega) (by repeat (first | exact Below.refl _ _ | assumption | (refine Below.drew ?_) | (refine below_drewN ?_ _) | (refine Below.alloc ?_ (by first | (simp; done) | (simp; omega) | omega) _) | (refine Below.setCell ?_ (by first | (simp; done) | (simp; omega) | omega) _) | (refine Below.trans ?_ (Below.mono (by assumption) (by first | (simp; done) | (simp; omega) | omega))))) : Below W0.heap.size W0 w2); have HB2 := Lib.hid hb2; clear K0 hb2; (try clear k0_0); (try clear k0_1); (try clear k0_2); (try clear k0_3); (try clear k0_4); (try clear k0_5); (try clear k0_6); (try clear k0_7); (try clear k0_8); (try clear k0_9); have K0 := K'; clear K'; obtain ⟨k0_0, k0_1, k0_2, k0_3, k0_4, k0_5, k0_6, k0_7, k0_8, k0_9⟩ := RD0.out _ K0; have HPL2 := Lib.hid (HPL.out.below HB2.out))) | (go_at_call 70; refine (HCL.out HA.out _ _ _ _ HPL2.out).mono ?_; go_must (rintro e w3 ⟨he, hb3⟩; have K' := (by first | exact below_at K0 (by have := K0.size; omega) hb3 | exact below_at K0 (by have := K0.size; omega) (by repeat (first | exact Below.refl _ _ | assumption | (refine Below.drew ?_) | (refine below_drewN ?_ _) | (refine Below.alloc ?_ (by first | (simp; done) | (simp; omega) | omega) _) | (refine Below.setCell ?_ (by first | (simp; done) | (simp; omega) | omega) _) | (refine Below.trans ?_ (Below.mono (by assumption) (by first | (simp; done) | (simp; omega) | omega))))) : Below W0.heap.size W0 w3); have HB3 := Lib.hid hb3; clear K0 hb3; (try clear k0_0); (try clear k0_1); (try clear k0_2); (try clear k0_3); (try clear k0_4); (try clear k0_5); (try clear k0_6); (try clear k0_7); (try clear k0_8); (try clear k0_9); have K0 := K'; clear K'; obtain ⟨k0_0, k0_1, k0_2, k0_3, k0_4, k0_5, k0_6, k0_7, k0_8, k0_9⟩ := RD0.out _ K0; rw [HC.out] at he; simp only [clashV] at he; subst he)))
    go_ret2
    exact ⟨HE.out _, (KW0.out.trans (K0.mono (by omega)))⟩
  | none =>
    have HY := Lib.hid (fun (w' : World) (v : Value) (l : List EvD) (h1 : SlOf w' w'.heap.size 7 encE v l) (h2 : l.Perm (evsL r s u)) (h3 : SortedE l) => tabR_ok (show tabErr r s u = 0 by unfold tabErr; rw [if_pos ha, hlg, hc]; rfl) h1 h2 h3)
    have HC := Lib.hid hc
    have hlb : (evsL r s u).length ≤ 4000 := by
      rw [evsL_len]
      have hvo := validR_out (askS_ok ha).1
      exact Nat.mul_le_mul hvo.2.2.1.2 hvo.2.1
    have HCO := Lib.hid (fun (bp bv : Nat) (pv : Value) (W : World) (hp : PlanAt W bp bv r s u pv) (h2 : SchedRd W s) => Collect_l r s u ha bp bv pv W hp h2 HVV.out)
    clear ha hlg hc
    go_enter Tryz.func28, Tryz.ntmps28
    go_wp2_with (first | (go_at_call 68; rw [HW0.out]; refine (HDR.out _ (HR.out.below KW0.out) (HS.out.below KW0.out)).mono ?_; go_must (rintro e w1 ⟨hd, hb1⟩; have K0 := hb1; have HB1 := Lib.hid hb1; clear hb1; obtain ⟨k0_0, k0_1, k0_2, k0_3, k0_4, k0_5, k0_6, k0_7, k0_8, k0_9⟩ := RD0.out _ K0; unfold DrawR at hd; rw [if_pos HA.out] at hd; obtain ⟨b, bv, pv, rfl, hpl⟩ := hd; have HPL := Lib.hid hpl; clear hpl)) | (go_at_call 69; refine (HLG.out _ (HR.out.below (KW0.out.trans (K0.mono (by omega)))) (HS.out.below (KW0.out.trans (K0.mono (by omega))))).mono ?_; go_must (rintro e w2 ⟨rfl, hb2⟩; have K' := (by first | exact below_at K0 (by have := K0.size; omega) hb2 | exact below_at K0 (by have := K0.size; omega) (by repeat (first | exact Below.refl _ _ | assumption | (refine Below.drew ?_) | (refine below_drewN ?_ _) | (refine Below.alloc ?_ (by first | (simp; done) | (simp; omega) | omega) _) | (refine Below.setCell ?_ (by first | (simp; done) | (simp; omega) | omega) _) | (refine Below.trans ?_ (Below.mono (by assumption) (by first | (simp; done) | (simp; omega) | omega))))) : Below W0.heap.size W0 w2); have HB2 := Lib.hid hb2; clear K0 hb2; (try clear k0_0); (try clear k0_1); (try clear k0_2); (try clear k0_3); (try clear k0_4); (try clear k0_5); (try clear k0_6); (try clear k0_7); (try clear k0_8); (try clear k0_9); have K0 := K'; clear K'; obtain ⟨k0_0, k0_1, k0_2, k0_3, k0_4, k0_5, k0_6, k0_7, k0_8, k0_9⟩ := RD0.out _ K0; have HPL2 := Lib.hid (HPL.out.below HB2.out))) | (go_at_call 70; refine (HCL.out HA.out _ _ _ _ HPL2.out).mono ?_; go_must (rintro e w3 ⟨he, hb3⟩; have K' := (by first | exact below_at K0 (by have := K0.size; omega) hb3 | exact below_at K0 (by have := K0.size; omega) (by repeat (first | exact Below.refl _ _ | assumption | (refine Below.drew ?_) | (refine below_drewN ?_ _) | (refine Below.alloc ?_ (by first | (simp; done) | (simp; omega) | omega) _) | (refine Below.setCell ?_ (by first | (simp; done) | (simp; omega) | omega) _) | (refine Below.trans ?_ (Below.mono (by assumption) (by first | (simp; done) | (simp; omega) | omega))))) : Below W0.heap.size W0 w3); have HB3 := Lib.hid hb3; clear K0 hb3; (try clear k0_0); (try clear k0_1); (try clear k0_2); (try clear k0_3); (try clear k0_4); (try clear k0_5); (try clear k0_6); (try clear k0_7); (try clear k0_8); (try clear k0_9); have K0 := K'; clear K'; obtain ⟨k0_0, k0_1, k0_2, k0_3, k0_4, k0_5, k0_6, k0_7, k0_8, k0_9⟩ := RD0.out _ K0; rw [HC.out] at he; simp only [clashV] at he; subst he; have HPL3 := Lib.hid (HPL2.out.below HB3.out))) | (go_at_call 71; refine (HCO.out _ _ _ _ HPL3.out (HS.out.below (KW0.out.trans (K0.mono (by omega))))).mono ?_; go_must (rintro e w4 ⟨⟨v, rfl, hown⟩, hb4⟩; have K' := (by first | exact below_at K0 (by have := K0.size; omega) hb4 | exact below_at K0 (by have := K0.size; omega) (by repeat (first | exact Below.refl _ _ | assumption | (refine Below.drew ?_) | (refine below_drewN ?_ _) | (refine Below.alloc ?_ (by first | (simp; done) | (simp; omega) | omega) _) | (refine Below.setCell ?_ (by first | (simp; done) | (simp; omega) | omega) _) | (refine Below.trans ?_ (Below.mono (by assumption) (by first | (simp; done) | (simp; omega) | omega))))) : Below W0.heap.size W0 w4); have HB4 := Lib.hid hb4; clear K0 hb4; (try clear k0_0); (try clear k0_1); (try clear k0_2); (try clear k0_3); (try clear k0_4); (try clear k0_5); (try clear k0_6); (try clear k0_7); (try clear k0_8); (try clear k0_9); have K0 := K'; clear K'; obtain ⟨k0_0, k0_1, k0_2, k0_3, k0_4, k0_5, k0_6, k0_7, k0_8, k0_9⟩ := RD0.out _ K0; have HOW := Lib.hid hown; clear hown; have HSO := Lib.hid (sorts_okE w4 w3.heap.size v _ HOW.out HB4.out.size (by omega)); have KC := Lib.hid ((KW0.out.trans (K0.mono (by omega)))); have hsz4 := HB4.out.size; have hsw4 := KC.out.size)) | (go_at_call 73; refine HSO.out.mono ?_; clear HSO; go_must (rintro e w5 ⟨rfl, l', hp', hpw', hown', hgr'⟩; have HP := Lib.hid hp'; have HPW := Lib.hid hpw'; have HO5 := Lib.hid hown'; have HG5 := Lib.hid hgr'; clear hp' hpw' hown' hgr')))
    have hb45 : Below w3.heap.size w4 w5 := (Below.refl _ _).grown HG5.out hsz4 (fun r e => (HOW.out.lt r e).1)
    have hw3 : w.heap.size ≤ w3.heap.size := by have := ks0; have := HB1.out.size; have := HB2.out.size; have := HB3.out.size; omega
    obtain ⟨va, vc, hve⟩ := HO5.out.shape
    subst hve
    have HF := Lib.hid (HY.out w5 _ l' HO5.out.sl HP.out (tab_sorted HC.out HP.out HPW.out))
    generalize l'.length = n at *
    go_ret2
    exact ⟨HF.out, KC.out.trans (hb45.mono hw3)⟩
set_option maxHeartbeats 4000000 in
set_option maxRecDepth 100000 in
theorem AskedTable_l (r : RecD) (s : SchedD) (u : P3) (ha : askS r s u = 0) (w : World) (hr : RecRd w r) (hs : SchedRd w s) :
    Calls Tryz.prog 67 #[.agg #[.int .i64 r.n, r.lv, r.vv], .agg #[.int .i64 s.f.1, .int .i64 s.f.2.1, .int .i64 s.f.2.2, s.ov], .agg #[.int .i64 u.1, .int .i64 u.2.1, .int .i64 u.2.2]] w fun e w' => e = .returned (.int .i64 (tabErr r s u)) ∧ Below w.heap.size w w' := by
  have HR := Lib.hid hr
  have HS := Lib.hid hs
  clear hr hs
  have hao := askS_ok ha
  have HLG := Lib.hid (fun (W : World) (h : RecRd W r) (h2 : SchedRd W s) => IsLegal_l r s hao.1 hao.2.1 W h h2)
  have HCL := Lib.hid (fun (W : World) (h : RecRd W r) (h2 : SchedRd W s) => rclash_l r s u ha W h)
  have HE := Lib.hid (show tabErr r s u = if legalB r s = true then (if (clashL r s u).isNone = true then 0 else 41) else 31 by unfold tabErr; rw [if_pos ha])
  clear ha hao
  generalize tabErr r s u = A at *
  generalize ptsL r.n r.l = L at *
  obtain ⟨W0, hW0⟩ : ∃ W : World, ((w.alloc (Obj.cells #[.int .i64 r.n, r.lv, r.vv] 27)).alloc (Obj.cells #[.int .i64 s.f.1, .int .i64 s.f.2.1, .int .i64 s.f.2.2, s.ov] 47)).alloc (Obj.cells #[.int .i64 u.1, .int .i64 u.2.1, .int .i64 u.2.2] 29) = W := ⟨_, rfl⟩
  have kw0 : Below w.heap.size w W0 := by rw [← hW0]; exact (by repeat (first | exact Below.refl _ _ | assumption | (refine Below.drew ?_) | (refine below_drewN ?_ _) | (refine Below.alloc ?_ (by first | (simp; done) | (simp; omega) | omega) _) | (refine Below.setCell ?_ (by first | (simp; done) | (simp; omega) | omega) _) | (refine Below.trans ?_ (Below.mono (by assumption) (by first | (simp; done) | (simp; omega) | omega)))))
  have ks0 : W0.heap.size = w.heap.size + 3 := by rw [← hW0]; simp
  have RD0 := Lib.hid (show ∀ V, Below W0.heap.size W0 V → V.cell? ⟨w.heap.size, 0, none⟩ = some (.int .i64 r.n) ∧ V.cell? ⟨w.heap.size, 1, none⟩ = some (r.lv) ∧ V.cell? ⟨w.heap.size, 2, none⟩ = some (r.vv) ∧ V.cell? ⟨w.heap.size + 1, 0, none⟩ = some (.int .i64 s.f.1) ∧ V.cell? ⟨w.heap.size + 1, 1, none⟩ = some (.int .i64 s.f.2.1) ∧ V.cell? ⟨w.heap.size + 1, 2, none⟩ = some (.int .i64 s.f.2.2) ∧ V.cell? ⟨w.heap.size + 1, 3, none⟩ = some (s.ov) ∧ V.cell? ⟨w.heap.size + 1 + 1, 0, none⟩ = some (.int .i64 u.1) ∧ V.cell? ⟨w.heap.size + 1 + 1, 1, none⟩ = some (.int .i64 u.2.1) ∧ V.cell? ⟨w.heap.size + 1 + 1, 2, none⟩ = some (.int .i64 u.2.2) from fun V h => by
      refine ⟨(h.cell (p := ⟨w.heap.size, 0, none⟩) (by simp; omega)).trans ?_, (h.cell (p := ⟨w.heap.size, 1, none⟩) (by simp; omega)).trans ?_, (h.cell (p := ⟨w.heap.size, 2, none⟩) (by simp; omega)).trans ?_, (h.cell (p := ⟨w.heap.size + 1, 0, none⟩) (by simp; omega)).trans ?_, (h.cell (p := ⟨w.heap.size + 1, 1, none⟩) (by simp; omega)).trans ?_, (h.cell (p := ⟨w.heap.size + 1, 2, none⟩) (by simp; omega)).trans ?_, (h.cell (p := ⟨w.heap.size + 1, 3, none⟩) (by simp; omega)).trans ?_, (h.cell (p := ⟨w.heap.size + 1 + 1, 0, none⟩) (by simp; omega)).trans ?_, (h.cell (p := ⟨w.heap.size + 1 + 1, 1, none⟩) (by simp; omega)).trans ?_, (h.cell (p := ⟨w.heap.size + 1 + 1, 2, none⟩) (by simp; omega)).trans ?_⟩ <;> (subst hW0; go_simp))
  have HW0 := Lib.hid hW0; have KW0 := Lib.hid kw0; clear hW0 kw0
  cases hlg : legalB r s
  · have HA := Lib.hid (show A = 31 by rw [HE.out, hlg]; rfl)
    rw [hlg] at HLG
    clear hlg
    go_enter Tryz.func67, Tryz.ntmps67
    go_wp2_with (go_at_call 120; rw [HW0.out]; refine (HLG.out _ (HR.out.below KW0.out) (HS.out.below KW0.out)).mono ?_; go_must (rintro e w1 ⟨rfl, hb1⟩; have K0 := hb1; have HB1 := Lib.hid hb1; clear hb1; obtain ⟨k0_0, k0_1, k0_2, k0_3, k0_4, k0_5, k0_6, k0_7, k0_8, k0_9⟩ := RD0.out _ K0; skip))
    go_ret
    exact ⟨ret_int HA.out.symm, (KW0.out.trans (K0.mono (by omega)))⟩
  rw [hlg] at HLG
  cases hc : clashL r s u with
  | none =>
    have HA := Lib.hid (show A = 0 by rw [HE.out, hlg, hc]; rfl)
    rw [hc] at HCL
    have HV := Lib.hid (show rclashV L none = .tuple #[.agg #[.int .i64 0, .int .i64 0, .int .i64 0, .int .i64 0], .agg #[.int .i64 0, .int .i64 0, .int .i64 0, .int .i64 0], .bool false] from rfl)
    clear hlg hc
    go_enter Tryz.func67, Tryz.ntmps67
    go_wp2_with (first | (go_at_call 120; rw [HW0.out]; refine (HLG.out _ (HR.out.below KW0.out) (HS.out.below KW0.out)).mono ?_; go_must (rintro e w1 ⟨rfl, hb1⟩; have K0 := hb1; have HB1 := Lib.hid hb1; clear hb1; obtain ⟨k0_0, k0_1, k0_2, k0_3, k0_4, k0_5, k0_6, k0_7, k0_8, k0_9⟩ := RD0.out _ K0; skip)) | (go_at_call 121; refine (HCL.out _ (HR.out.below (KW0.out.trans (K0.mono (by omega)))) (HS.out.below (KW0.out.trans (K0.mono (by omega))))).mono ?_; go_must (rintro e w2 ⟨he, hb2⟩; have K' := (by first | exact below_at K0 (by have := K0.size; omega) hb2 | exact below_at K0 (by have := K0.size; omega) (by repeat (first | exact Below.refl _ _ | assumption | (refine Below.drew ?_) | (refine below_drewN ?_ _) | (refine Below.alloc ?_ (by first | (simp; done) | (simp; omega) | omega) _) | (refine Below.setCell ?_ (by first | (simp; done) | (simp; omega) | omega) _) | (refine Below.trans ?_ (Below.mono (by assumption) (by first | (simp; done) | (simp; omega) | omega))))) : Below W0.heap.size W0 w2); have HB2 := Lib.hid hb2; clear K0 hb2; (try clear k0_0); (try clear k0_1); (try clear k0_2); (try clear k0_3); (try clear k0_4); (try clear k0_5); (try clear k0_6); (try clear k0_7); (try clear k0_8); (try clear k0_9); have K0 := K'; clear K'; obtain ⟨k0_0, k0_1, k0_2, k0_3, k0_4, k0_5, k0_6, k0_7, k0_8, k0_9⟩ := RD0.out _ K0; rw [HV.out] at he; subst he)))
    go_ret
    exact ⟨ret_int HA.out.symm, by have := (KW0.out.trans (K0.mono (by omega))); have hz := this.size; exact (this.alloc hz _).alloc (by simp; omega) _⟩
  | some q =>
    obtain ⟨i, k⟩ := q
    have HA := Lib.hid (show A = 41 by rw [HE.out, hlg, hc]; rfl)
    rw [hc] at HCL
    obtain ⟨p, hp⟩ : ∃ p, L.getD i (0, 0, 0) = p := ⟨_, rfl⟩
    obtain ⟨q, hq⟩ : ∃ q, L.getD k (0, 0, 0) = q := ⟨_, rfl⟩
    have HV := Lib.hid (show rclashV L (some (i, k)) = .tuple #[.agg #[.int .i64 0, .int .i64 p.1, .int .i64 p.2.1, .int .i64 p.2.2], .agg #[.int .i64 0, .int .i64 q.1, .int .i64 q.2.1, .int .i64 q.2.2], .bool true] by simp only [rclashV, clashPts, elV, hp, hq])
    clear hlg hc hp hq
    go_enter Tryz.func67, Tryz.ntmps67
    go_wp2_with (first | (go_at_call 120; rw [HW0.out]; refine (HLG.out _ (HR.out.below KW0.out) (HS.out.below KW0.out)).mono ?_; go_must (rintro e w1 ⟨rfl, hb1⟩; have K0 := hb1; have HB1 := Lib.hid hb1; clear hb1; obtain ⟨k0_0, k0_1, k0_2, k0_3, k0_4, k0_5, k0_6, k0_7, k0_8, k0_9⟩ := RD0.out _ K0; skip)) | (go_at_call 121; refine (HCL.out _ (HR.out.below (KW0.out.trans (K0.mono (by omega)))) (HS.out.below (KW0.out.trans (K0.mono (by omega))))).mono ?_; go_must (rintro e w2 ⟨he, hb2⟩; have K' := (by first | exact below_at K0 (by have := K0.size; omega) hb2 | exact below_at K0 (by have := K0.size; omega) (by repeat (first | exact Below.refl _ _ | assumption | (refine Below.drew ?_) | (refine below_drewN ?_ _) | (refine Below.alloc ?_ (by first | (simp; done) | (simp; omega) | omega) _) | (refine Below.setCell ?_ (by first | (simp; done) | (simp; omega) | omega) _) | (refine Below.trans ?_ (Below.mono (by assumption) (by first | (simp; done) | (simp; omega) | omega))))) : Below W0.heap.size W0 w2); have HB2 := Lib.hid hb2; clear K0 hb2; (try clear k0_0); (try clear k0_1); (try clear k0_2); (try clear k0_3); (try clear k0_4); (try clear k0_5); (try clear k0_6); (try clear k0_7); (try clear k0_8); (try clear k0_9); have K0 := K'; clear K'; obtain ⟨k0_0, k0_1, k0_2, k0_3, k0_4, k0_5, k0_6, k0_7, k0_8, k0_9⟩ := RD0.out _ K0; rw [HV.out] at he; subst he)))
    go_ret
    exact ⟨ret_int HA.out.symm, by have := (KW0.out.trans (K0.mono (by omega))); have hz := this.size; exact (this.alloc hz _).alloc (by simp; omega) _⟩
end Go.Proofs.YtnejicklenhpeaaGreat
