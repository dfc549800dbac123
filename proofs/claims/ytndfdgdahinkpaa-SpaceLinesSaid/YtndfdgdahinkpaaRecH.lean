/- poly.points, Count and Points: their walks. -/
import Derived.Test.YtndfdgdahinkpaaRecG
namespace Go.Proofs.Ytndfdgdahinkpaa
open Go.RowKit Go.Shelf
attribute [local go_sem] Oper.semAt_some
set_option maxHeartbeats 4000000 in
set_option maxRecDepth 100000 in
theorem ppoints_l (n : Int) (hn : 1 ≤ n ∧ n ≤ 3) (v : Value) (w : World) :
    Calls Try.prog 57 #[.agg #[.int .i64 n, v]] w fun e w' => e = .returned (.func (.func 87) #[] #[.pointer (some ⟨w.heap.size + 1, 0, none⟩), .pointer (some ⟨w.heap.size, 0, none⟩)]) ∧ Below w.heap.size w w' ∧ w'.heap.size = w.heap.size + 2 ∧
      w'.cell? ⟨w.heap.size + 1, 0, none⟩ = some (.int .i64 (farI n 0)) ∧ w'.cell? ⟨w.heap.size + 1, 1, none⟩ = some (.int .i64 (farI n 1)) ∧ w'.cell? ⟨w.heap.size + 1, 2, none⟩ = some (.int .i64 (farI n 2)) ∧ w'.cell? ⟨w.heap.size, 0, none⟩ = some (.int .i64 n) ∧ w'.cell? ⟨w.heap.size, 1, none⟩ = some v := by
  obtain rfl | rfl | rfl : n = 1 ∨ n = 2 ∨ n = 3 := by omega
  · go_enter Try.func57, Try.ntmps57
    go_wp2
    refine wp_loop_rounds 2 ?_
    iterate 2 (rw [rounds_succ]; go_wp2)
    go_ret
    refine ⟨rfl, by repeat (first | exact Below.refl _ _ | assumption | (refine Below.drew ?_) | (refine below_drewN ?_ _) | (refine Below.alloc ?_ (by first | (simp; done) | (simp; omega) | omega) _) | (refine Below.setCell ?_ (by first | (simp; done) | (simp; omega) | omega) _) | (refine Below.trans ?_ (Below.mono (by assumption) (by first | (simp; done) | (simp; omega) | omega)))), by simp, ?_⟩
    go_simp
    simp [farI]
  · go_enter Try.func57, Try.ntmps57
    go_wp2
    refine wp_loop_rounds 3 ?_
    iterate 3 (rw [rounds_succ]; go_wp2)
    go_ret
    refine ⟨rfl, by repeat (first | exact Below.refl _ _ | assumption | (refine Below.drew ?_) | (refine below_drewN ?_ _) | (refine Below.alloc ?_ (by first | (simp; done) | (simp; omega) | omega) _) | (refine Below.setCell ?_ (by first | (simp; done) | (simp; omega) | omega) _) | (refine Below.trans ?_ (Below.mono (by assumption) (by first | (simp; done) | (simp; omega) | omega)))), by simp, ?_⟩
    go_simp
    simp [farI]
  · go_enter Try.func57, Try.ntmps57
    go_wp2
    refine wp_loop_rounds 4 ?_
    iterate 4 (rw [rounds_succ]; go_wp2)
    go_ret
    refine ⟨rfl, by repeat (first | exact Below.refl _ _ | assumption | (refine Below.drew ?_) | (refine below_drewN ?_ _) | (refine Below.alloc ?_ (by first | (simp; done) | (simp; omega) | omega) _) | (refine Below.setCell ?_ (by first | (simp; done) | (simp; omega) | omega) _) | (refine Below.trans ?_ (Below.mono (by assumption) (by first | (simp; done) | (simp; omega) | omega)))), by simp, ?_⟩
    go_simp
    simp [farI]
set_option maxHeartbeats 4000000 in
set_option maxRecDepth 100000 in
theorem Count_in (n : Int) (l : List IneqD) (w : World) (v : Value) (hv : SlOf w w.heap.size 4 encI v l) (hd : validD n l = true) :
    CallsIn Fence.wide 5 Try.prog 27 #[.agg #[.int .i64 n, v]] w fun e w' => e = .returned (.tuple #[.int .i64 (ptsL n l).length, .int .i64 0]) ∧ Below w.heap.size w w' := by
  have hdo := validD_out hd
  obtain ⟨hn, -, hq⟩ := hdo
  have HV := Lib.hid hv; clear hv
  have HD := Lib.hid hd; clear hd
  have HQ := Lib.hid hq; clear hq
  have HLN := Lib.hid (ptsL_len n l)
  have f1 : Fence.wide.fn 56 := trivial
  have f2 : Fence.wide.fn 57 := trivial
  obtain ⟨W0, hW0⟩ : ∃ W0 : World, w.alloc (.cells #[.int .i64 n, v] 24) = W0 := ⟨_, rfl⟩
  have HK0 := Lib.hid (show Below w.heap.size w W0 from by rw [← hW0]; exact (by repeat (first | exact Below.refl _ _ | assumption | (refine Below.drew ?_) | (refine below_drewN ?_ _) | (refine Below.alloc ?_ (by first | (simp; done) | (simp; omega) | omega) _) | (refine Below.setCell ?_ (by first | (simp; done) | (simp; omega) | omega) _) | (refine Below.trans ?_ (Below.mono (by assumption) (by first | (simp; done) | (simp; omega) | omega))))))
  have hs0 : W0.heap.size = w.heap.size + 1 := by rw [← hW0]; simp
  have y0 : W0.cell? ⟨w.heap.size, 0, none⟩ = some (.int .i64 n) := by subst hW0; go_simp
  have y1 : W0.cell? ⟨w.heap.size, 1, none⟩ = some v := by subst hW0; go_simp
  have HW0 := Lib.hid hW0; clear hW0
  refine callsIn_of_wp_marks Try.func27 rfl trivial ?_ rfl
  simp only [Try.ntmps27, List.size_toArray, List.length_cons, List.length_nil, Nat.reduceAdd, Nat.reduceSub, Array.replicate_succ, Array.replicate_zero, List.push_toArray, List.append_toArray, List.nil_append, List.cons_append]
  gi_wp2_with (first | (gi_at_call 56; rw [HW0.out]; refine (callsIn_wide.2 (pValid_l n l W0 v (HV.out.below HK0.out))).mono ?_; go_must (rintro e w1 ⟨rfl, hb1⟩; rw [HD.out]; have hs1 := hb1.size; have hz1 := z1 (show w.heap.size + 1 ≤ w1.heap.size by omega); have e0 := (hb1.cell (p := ⟨w.heap.size, 0, none⟩) (by simp; omega)).trans y0; have e1 := (hb1.cell (p := ⟨w.heap.size, 1, none⟩) (by simp; omega)).trans y1; clear y0 y1)) | (gi_at_call 57; refine (callsIn_wide.2 (ppoints_l n hn v _)).mono ?_; go_must (rintro e w2 ⟨rfl, hb2, hs2, p0, p1, p2, q0, q1⟩)))
  have hz2 : w2.heap.size = w1.heap.size + 3 := by simp at hs2; omega
  have X0 : Boxed w2 w1.heap.size 3 (.int .i64 ((([] : List P3).length : Nat) : Int)) := (hb2.block w1.heap.size (by simp)).trans (Boxed.new w1 3 (.int .i64 0))
  have HB2 := Lib.hid (show Below w.heap.size w w2 from below_at HK0.out (by omega) (below_at hb1 (by omega) (((Below.refl w1.heap.size w1).alloc (Nat.le_refl _) (.cells #[.int .i64 0] 3)).trans (hb2.mono (by simp)))))
  have HS := Lib.hid (show SlOf w2 w.heap.size 4 encI v l from HV.out.kept HB2.out)
  have hS : ∀ b, b = w1.heap.size → b < w2.heap.size := fun b e => by omega
  simp only [World.size_alloc] at p0 p1 p2 q0 q1
  clear hb1 hb2 hs2 e0 e1
  refine wpIn_range_mine rfl (by omega) (gf := 87) (lb := #[.pointer (some ⟨w1.heap.size + 1 + 1, 0, none⟩), .pointer (some ⟨w1.heap.size + 1, 0, none⟩)]) rfl trivial (enters_of Try.func87 (by kernel_rfl) rfl)
    (points_stops (5 - 1) (by omega) n l hn HQ.out (fun b => b = w1.heap.size) w2.heap.size w.heap.size (w1.heap.size + 1 + 1) (w1.heap.size + 1) v w2 (Nat.le_refl _) (by omega) (by omega) (by omega) (by omega) (by omega) (fun b e => by omega) p0 p1 p2 q1 HS.out)
    (fun W l o o' _ _ _ _ b hm => by unfold MineFrom at hm ⊢; simpa using hm)
    (fun W hW b hm => by rcases hm with rfl | hm; have := hW.size; omega; exact hm.2) (Below.refl _ _) (fun _ => rfl)
    (fun pre W => Boxed W w1.heap.size 3 (.int .i64 ((pre.length : Nat) : Int)) ∧ Below w.heap.size w W ∧ w2.heap.size ≤ W.heap.size)
    (fun _ _ _ => False) ?hI (fun _ _ _ _ _ h _ _ => h) ?hIq (fun _ _ _ _ h _ => h) ⟨X0, HB2.out, Nat.le_refl _⟩
    (fun x a' _ => a' = { tmps := #[Value.agg #[Value.int IntKind.i64 n, v], Value.pointer (some { block := w.heap.size, off := 0 }), Value.int IntKind.i64 0, Value.int IntKind.i64 0, Value.pointer (some { block := w1.heap.size, off := 0 }), Value.agg #[Value.int IntKind.i64 n, v], Value.bool true, Value.bool false, Value.agg #[Value.int IntKind.i64 n, v], Value.func (Fn.func 87) #[] #[Value.pointer (some { block := w1.heap.size + 1 + 1, off := 0 }), Value.pointer (some { block := w1.heap.size + 1, off := 0 })], ptV x, undef, undef, undef], defers := [] })
    (fun _ _ => ownFrom_pure _ _) ?assign ?body ?done (fun _ _ _ _ _ _ h _ => h.elim)
  case hI => exact OwnFrom.and ((boxed_own _ _ _).from _) (OwnFrom.and (ownFrom_below (Nat.le_refl _) (by omega)) (fun _ _ _ _ hs hg _ => Nat.le_trans hs hg.size))
  case hIq =>
    rintro s A A' ⟨hx, hB, hs⟩ hq
    have hb := hq.all (Nat.le_refl _)
    exact ⟨(hb.block _ hx.lt).trans hx, below_at hB (by omega) hb, Nat.le_trans hs hb.size⟩
  case assign =>
    rintro l pre x W K hi hK
    simp only [encPt]
    gi_wp2
    exact hK _ _ (KeepsFrom.refl _ _) (kpM_from hS hi.2.2 (KeepS.refl _ _ _)) hi (by simp)
  case body =>
    rintro l pre x a' W hl ⟨hx, hB, hs⟩ rfl hpre
    have hln : pre.length ≤ 68921 := by have := hpre.length_le; simp at this; have := HLN.out; omega
    have c0 := hx.cell
    have g0 := hx.frozen
    have HX := Lib.hid hx; have HBW := Lib.hid hB; clear hpre hx hB
    gi_wp2
    refine ⟨(KeepsOthers.setCell _ _ _).from _, kpM_from hS hs (KeepS.grown (grownBy_setCell' _ _ _) hs (fun r e => by cases e; exact .inl rfl)), ?_, HBW.out.setCell (p := ⟨w1.heap.size, 0, none⟩) (by simp; omega) _, by simpa using hs⟩
    have := HX.out.set (.int .i64 ((pre.length : Int) + 1))
    simpa using this
  case done =>
    rintro D W hD ⟨hx, hB, hs⟩ hK
    have c0 := hx.cell
    have g0 := hx.frozen
    have HX := Lib.hid hx; have HBW := Lib.hid hB; clear hx hB
    gi_wp2
    refine ⟨by simp, .inl ⟨_, _, rfl, run_takeDeferred hK, ?_⟩⟩
    refine ⟨.tuple #[.int .i64 ((ptsL n l).length : Nat), .int .i64 0], ?_, rfl, HBW.out.trans (belowK_b (w := w) (Nat.le_refl _) W D _ _ (by omega) hK rfl rfl)⟩
    simp [results, Try.results27, go_sem]
set_option maxHeartbeats 4000000 in
set_option maxRecDepth 100000 in
theorem Count_l (n : Int) (l : List IneqD) (w : World) (v : Value) (hv : SlOf w w.heap.size 4 encI v l) :
    Calls Try.prog 27 #[.agg #[.int .i64 n, v]] w fun e w' => e = .returned (if validD n l = true then .tuple #[.int .i64 (ptsL n l).length, .int .i64 0] else .tuple #[.int .i64 0, .int .i64 10]) ∧ Below w.heap.size w w' := by
  cases hd : validD n l
  · have HD := Lib.hid hd; clear hd
    have HV := Lib.hid hv; clear hv
    obtain ⟨W0, hW0⟩ : ∃ W0 : World, w.alloc (.cells #[.int .i64 n, v] 24) = W0 := ⟨_, rfl⟩
    have HK0 := Lib.hid (show Below w.heap.size w W0 from by rw [← hW0]; exact (by repeat (first | exact Below.refl _ _ | assumption | (refine Below.drew ?_) | (refine below_drewN ?_ _) | (refine Below.alloc ?_ (by first | (simp; done) | (simp; omega) | omega) _) | (refine Below.setCell ?_ (by first | (simp; done) | (simp; omega) | omega) _) | (refine Below.trans ?_ (Below.mono (by assumption) (by first | (simp; done) | (simp; omega) | omega))))))
    have hs0 : W0.heap.size = w.heap.size + 1 := by rw [← hW0]; simp
    have HW0 := Lib.hid hW0; clear hW0
    go_enter Try.func27, Try.ntmps27
    go_wp2_with (first | (go_at_call 56; rw [HW0.out]; refine (pValid_l n l W0 v (HV.out.below HK0.out)).mono ?_; go_must (rintro e w1 ⟨rfl, hb1⟩; rw [HD.out])))
    go_ret2
    exact ⟨rfl, below_at HK0.out (by omega) hb1⟩
  · exact callsIn_wide.1 (Count_in n l w v hv hd)
end Go.Proofs.Ytndfdgdahinkpaa
