/- The law SpaceOrder: its walk. -/
import Derived.Test.YtndfdgdahinkpaaGreatOrdD
import Derived.Test.YtndfdgdahinkpaaGreatSchedJ
namespace Go.Proofs.YtndfdgdahinkpaaGreat
open Go.RowKit Go.Lib Go.WideMaps
set_option linter.unusedVariables false
theorem un_dl9 : Tryz.prog.underlying 42 = some (.slice (Tryz.prog.elem 42)) := by kernel_rfl
theorem sz_dl9 (W : World) : (sizeOf (Tryz.prog.elem 42)).run Tryz.prog W = .ok 1 W := by kernel_rfl
theorem un_mv9 : Tryz.prog.underlying 45 = some (.slice (Tryz.prog.elem 45)) := by kernel_rfl
theorem sz_mv9 (W : World) : (sizeOf (Tryz.prog.elem 45)).run Tryz.prog W = .ok 1 W := by kernel_rfl
theorem un_in9 : Tryz.prog.underlying 30 = some (.slice (Tryz.prog.elem 30)) := by kernel_rfl
theorem un_ce9 : Tryz.prog.underlying 66 = some (.slice (Tryz.prog.elem 66)) := by kernel_rfl
theorem sz_ce9 (W : World) : (sizeOf (Tryz.prog.elem 66)).run Tryz.prog W = .ok 2 W := by kernel_rfl
theorem delaysL_len (r : RecD) (s : SchedD) : (delaysL r s).length = r.vars.length := by unfold delaysL; rw [List.length_mapIdx]
theorem movesL_len (r : RecD) (u : P3) : (movesL r u).length = r.vars.length := by unfold movesL; rw [List.length_map]
theorem var_at {r : RecD} {w : World} (hr : RecRd w r) {a : Option Addr} {c : Nat} (hvv : r.vv = .slice a r.vars.length c) :
    ∃ g off, ∀ v (hv : v < r.vars.length), (∀ W, (Instr.indexAt 25 (.slice a r.vars.length c) (.int .i64 (v : Int))).run Tryz.prog W = .ok (.pointer (some ⟨g, off + 7 * v, none⟩)) W) ∧ g < w.heap.size ∧ ∃ aa ac, w.cell? ⟨g, off + 7 * v + 2, none⟩ = some (.slice aa r.vars[v].args.length ac) := by
  obtain ⟨a', cap, g, off, he, -, -, hx⟩ := SlOf.at (enc := encV) (fun _ => rfl) un_var9 sz_var9 hr.vars
  have e : a' = a ∧ cap = c := by rw [hvv] at he; cases he; exact ⟨rfl, rfl⟩
  obtain ⟨rfl, rfl⟩ := e
  refine ⟨g, off, fun v hv => ?_⟩
  obtain ⟨-, h1, h2, h3⟩ := hx v hv
  obtain ⟨aa, ac, hae, -⟩ := (hr.each _ (List.getElem_mem hv)).1.shape
  refine ⟨h1, h2, aa, ac, ?_⟩
  have := h3 2 (by omega)
  rw [show (encV r.vars[v])[2]? = some r.vars[v].argsV from rfl, hae] at this
  exact this
theorem del_at {r : RecD} {s : SchedD} {w : World} {a : Option Addr} {c : Nat} (h : RowsSl w 1 encInt (.slice a r.vars.length c) (delaysL r s)) :
    ∃ g off, ∀ v (hv : v < r.vars.length), ∃ xa xc xg xo, (∀ W, (Instr.indexAt 42 (.slice a r.vars.length c) (.int .i64 (v : Int))).run Tryz.prog W = .ok (.pointer (some ⟨g, off + v, none⟩)) W) ∧ g < w.heap.size ∧ w.cell? ⟨g, off + v, none⟩ = some (.slice xa r.vars[v].args.length xc) ∧
      ∀ k (hk : k < r.vars[v].args.length), (∀ W, (Instr.indexAt 30 (.slice xa r.vars[v].args.length xc) (.int .i64 (k : Int))).run Tryz.prog W = .ok (.pointer (some ⟨xg, xo + k, none⟩)) W) ∧ xg < w.heap.size ∧ w.cell? ⟨xg, xo + k, none⟩ = some (.int .i64 (delayOf s v r.vars[v].args[k])) := by
  obtain ⟨a', cap, g, off, he, -, -, hx⟩ := RowsSl.at un_dl9 sz_dl9 h
  rw [delaysL_len] at he
  cases he
  refine ⟨g, off, fun v hv => ?_⟩
  obtain ⟨h1, h2, x, h3, h4⟩ := hx v (by rw [delaysL_len]; exact hv)
  rw [delaysL_len] at h1
  have hgv : (delaysL r s)[v]'(by rw [delaysL_len]; exact hv) = r.vars[v].args.map (delayOf s v) := by
    unfold delaysL; rw [List.getElem_mapIdx]
  rw [hgv] at h4
  obtain ⟨xa, xc, xg, xo, rfl, -, -, hy⟩ := SlOf.at (enc := encInt) (fun _ => rfl) un_in9 sz_ints h4
  rw [List.length_map] at h3
  refine ⟨xa, xc, xg, xo, h1, h2, h3, fun k hk => ?_⟩
  obtain ⟨-, i1, i2, i3⟩ := hy k (by rw [List.length_map]; exact hk)
  rw [List.length_map] at i1
  refine ⟨fun W => by simpa using i1 W, i2, ?_⟩
  have := i3 0 (Nat.lt_succ_self 0)
  simpa [encInt] using this
theorem mov_at {r : RecD} {u : P3} {w : World} {a : Option Addr} {c : Nat} (h : RowsSl w 2 encC (.slice a r.vars.length c) (movesL r u)) :
    ∃ g off, ∀ v (hv : v < r.vars.length), ∃ xa xc xg xo, (∀ W, (Instr.indexAt 45 (.slice a r.vars.length c) (.int .i64 (v : Int))).run Tryz.prog W = .ok (.pointer (some ⟨g, off + v, none⟩)) W) ∧ g < w.heap.size ∧ w.cell? ⟨g, off + v, none⟩ = some (.slice xa r.vars[v].args.length xc) ∧
      ∀ k (hk : k < r.vars[v].args.length), (∀ W, (Instr.indexAt 66 (.slice xa r.vars[v].args.length xc) (.int .i64 (k : Int))).run Tryz.prog W = .ok (.pointer (some ⟨xg, xo + 2 * k, none⟩)) W) ∧ xg < w.heap.size ∧ w.cell? ⟨xg, xo + 2 * k, none⟩ = some (.int .i64 (moveC r.n u r.vars[v].args[k]).1) ∧ w.cell? ⟨xg, xo + 2 * k + 1, none⟩ = some (.int .i64 (moveC r.n u r.vars[v].args[k]).2) := by
  obtain ⟨a', cap, g, off, he, -, -, hx⟩ := RowsSl.at un_mv9 sz_mv9 h
  rw [movesL_len] at he
  cases he
  refine ⟨g, off, fun v hv => ?_⟩
  obtain ⟨h1, h2, x, h3, h4⟩ := hx v (by rw [movesL_len]; exact hv)
  rw [movesL_len] at h1
  have hgv : (movesL r u)[v]'(by rw [movesL_len]; exact hv) = r.vars[v].args.map (moveC r.n u) := by
    unfold movesL; rw [List.getElem_map]
  rw [hgv] at h4
  obtain ⟨xa, xc, xg, xo, rfl, -, -, hy⟩ := SlOf.at (enc := encC) (fun _ => rfl) un_ce9 sz_ce9 h4
  rw [List.length_map] at h3
  refine ⟨xa, xc, xg, xo, h1, h2, h3, fun k hk => ?_⟩
  obtain ⟨-, i1, i2, i3⟩ := hy k (by rw [List.length_map]; exact hk)
  rw [List.length_map] at i1
  have j0 := i3 0 (by omega)
  have j1 := i3 1 (by omega)
  rw [List.getElem_map] at j0 j1
  exact ⟨i1, i2, j0, j1⟩
theorem ord_wf {x : P3} {n : Int} {a : ArgD} (h1 : Sm 20 x) (h2 : flatB n a.at_.1 a.at_.2.1 a.at_.2.2 3 = true) (h3 : 0 ≤ a.var ∧ a.var < 10) : wfE (argE a x) ∧ ((-1000000 ≤ x.1 + a.at_.1 ∧ x.1 + a.at_.1 ≤ 1000000) ∧ (-1000000 ≤ x.2.1 + a.at_.2.1 ∧ x.2.1 + a.at_.2.1 ≤ 1000000) ∧ (-1000000 ≤ x.2.2 + a.at_.2.2 ∧ x.2.2 + a.at_.2.2 ≤ 1000000)) := by
  obtain ⟨p0, p1, p2⟩ := h1
  obtain ⟨q0, q1, q2⟩ := flat_sm h2
  simp only at q0 q1 q2
  refine ⟨⟨wf_sm (by simp only [argE]; omega), wf_sm (by simp only [argE]; omega), wf_sm (by simp only [argE]; omega), wf_sm (by simp only [argE]; omega)⟩, by omega, by omega, by omega⟩
set_option maxHeartbeats 40000000 in
set_option maxRecDepth 100000 in
theorem SpaceOrder_any (r : RecD) (s : SchedD) (u : P3) (w : World) (hr : RecRd w r) (hs : SchedRd w s) :
    Calls Tryz.prog 4 #[.agg #[.int .i64 r.n, r.lv, r.vv], .agg #[.int .i64 s.f.1, .int .i64 s.f.2.1, .int .i64 s.f.2.2, s.ov], .agg #[.int .i64 u.1, .int .i64 u.2.1, .int .i64 u.2.2]] w fun e w' => e = .returned (.bool true) ∧ Below w.heap.size w w' := by
  have HR := Lib.hid hr
  have HS := Lib.hid hs
  obtain ⟨vva, vvc, hvv, -⟩ := hr.vars.shape
  have HVX := Lib.hid (var_at hr hvv)
  clear hr hs
  have HWD := Lib.hid (fun (W : World) (h : RecRd W r) (h2 : SchedRd W s) => Wide4_l r s W h h2)
  have HAS := Lib.hid (fun (W : World) (h : RecRd W r) (h2 : SchedRd W s) => AskedSched_l r s u W h h2)
  have HT := Lib.hid (fun (W : World) (h : RecRd W r) (h2 : SchedRd W s) => Table_l r s u W h h2)
  rw [hvv] at HWD HAS HT
  rw [hvv]
  obtain ⟨W0, hW0⟩ : ∃ W : World, ((w.alloc (Obj.cells #[.int .i64 r.n, r.lv, .slice vva r.vars.length vvc] 27)).alloc (Obj.cells #[.int .i64 s.f.1, .int .i64 s.f.2.1, .int .i64 s.f.2.2, s.ov] 32)).alloc (Obj.cells #[.int .i64 u.1, .int .i64 u.2.1, .int .i64 u.2.2] 29) = W := ⟨_, rfl⟩
  have kw0 : Below w.heap.size w W0 := by rw [← hW0]; exact (by repeat (first | exact Below.refl _ _ | assumption | (refine Below.drew ?_) | (refine below_drewN ?_ _) | (refine Below.alloc ?_ (by first | (simp; done) | (simp; omega) | omega) _) | (refine Below.setCell ?_ (by first | (simp; done) | (simp; omega) | omega) _) | (refine Below.trans ?_ (Below.mono (by assumption) (by first | (simp; done) | (simp; omega) | omega)))))
  have ks0 : W0.heap.size = w.heap.size + 3 := by rw [← hW0]; simp
  have RD0 := Lib.hid (show ∀ V, Below W0.heap.size W0 V → V.cell? ⟨w.heap.size, 0, none⟩ = some (.int .i64 r.n) ∧ V.cell? ⟨w.heap.size, 1, none⟩ = some (r.lv) ∧ V.cell? ⟨w.heap.size, 2, none⟩ = some (.slice vva r.vars.length vvc) ∧ V.cell? ⟨w.heap.size + 1, 0, none⟩ = some (.int .i64 s.f.1) ∧ V.cell? ⟨w.heap.size + 1, 1, none⟩ = some (.int .i64 s.f.2.1) ∧ V.cell? ⟨w.heap.size + 1, 2, none⟩ = some (.int .i64 s.f.2.2) ∧ V.cell? ⟨w.heap.size + 1, 3, none⟩ = some (s.ov) ∧ V.cell? ⟨w.heap.size + 1 + 1, 0, none⟩ = some (.int .i64 u.1) ∧ V.cell? ⟨w.heap.size + 1 + 1, 1, none⟩ = some (.int .i64 u.2.1) ∧ V.cell? ⟨w.heap.size + 1 + 1, 2, none⟩ = some (.int .i64 u.2.2) from fun V h => by
      refine ⟨(h.cell (p := ⟨w.heap.size, 0, none⟩) (by simp; omega)).trans ?_, (h.cell (p := ⟨w.heap.size, 1, none⟩) (by simp; omega)).trans ?_, (h.cell (p := ⟨w.heap.size, 2, none⟩) (by simp; omega)).trans ?_, (h.cell (p := ⟨w.heap.size + 1, 0, none⟩) (by simp; omega)).trans ?_, (h.cell (p := ⟨w.heap.size + 1, 1, none⟩) (by simp; omega)).trans ?_, (h.cell (p := ⟨w.heap.size + 1, 2, none⟩) (by simp; omega)).trans ?_, (h.cell (p := ⟨w.heap.size + 1, 3, none⟩) (by simp; omega)).trans ?_, (h.cell (p := ⟨w.heap.size + 1 + 1, 0, none⟩) (by simp; omega)).trans ?_, (h.cell (p := ⟨w.heap.size + 1 + 1, 1, none⟩) (by simp; omega)).trans ?_, (h.cell (p := ⟨w.heap.size + 1 + 1, 2, none⟩) (by simp; omega)).trans ?_⟩ <;> (subst hW0; go_simp))
  have HW0 := Lib.hid hW0; have KW0 := Lib.hid kw0; clear hW0 kw0
  cases hwd : wide4B r s
  rotate_left
  · have HV := Lib.hid hwd; clear hwd hvv
    go_enter Tryz.func4, Tryz.ntmps4
    go_wp2_with (first | (go_at_call 7; rw [HW0.out]; refine (HWD.out _ (HR.out.below KW0.out) (HS.out.below KW0.out)).mono ?_; go_must (rintro e w1 ⟨rfl, hb1⟩; have K0 := hb1; have HB1 := Lib.hid hb1; clear hb1; obtain ⟨k0_0, k0_1, k0_2, k0_3, k0_4, k0_5, k0_6, k0_7, k0_8, k0_9⟩ := RD0.out _ K0; rw [HV.out])) | (go_at_call 8; refine (sane04 _).mono ?_; go_must (rintro e w2 ⟨rfl, hb2⟩; have K' := (by first | exact below_at K0 (by have := K0.size; omega) hb2 | exact below_at K0 (by have := K0.size; omega) (by repeat (first | exact Below.refl _ _ | assumption | (refine Below.drew ?_) | (refine below_drewN ?_ _) | (refine Below.alloc ?_ (by first | (simp; done) | (simp; omega) | omega) _) | (refine Below.setCell ?_ (by first | (simp; done) | (simp; omega) | omega) _) | (refine Below.trans ?_ (Below.mono (by assumption) (by first | (simp; done) | (simp; omega) | omega))))) : Below W0.heap.size W0 w2); have HB2 := Lib.hid hb2; clear K0 hb2; (try clear k0_0); (try clear k0_1); (try clear k0_2); (try clear k0_3); (try clear k0_4); (try clear k0_5); (try clear k0_6); (try clear k0_7); (try clear k0_8); (try clear k0_9); have K0 := K'; clear K'; obtain ⟨k0_0, k0_1, k0_2, k0_3, k0_4, k0_5, k0_6, k0_7, k0_8, k0_9⟩ := RD0.out _ K0)))
    go_ret
    exact ⟨rfl, (KW0.out.trans (K0.mono (by omega)))⟩
  have HV := Lib.hid hwd; clear hwd
  by_cases ha : askS r s u = 0
  rotate_left
  · have hnz : (askS r s u != 0) = true := by simpa using ha
    clear ha hvv
    generalize askS r s u = A at *
    go_enter Tryz.func4, Tryz.ntmps4
    go_wp2_with (first | (go_at_call 7; rw [HW0.out]; refine (HWD.out _ (HR.out.below KW0.out) (HS.out.below KW0.out)).mono ?_; go_must (rintro e w1 ⟨rfl, hb1⟩; have K0 := hb1; have HB1 := Lib.hid hb1; clear hb1; obtain ⟨k0_0, k0_1, k0_2, k0_3, k0_4, k0_5, k0_6, k0_7, k0_8, k0_9⟩ := RD0.out _ K0; rw [HV.out])) | (go_at_call 12; refine (HAS.out _ (HR.out.below (KW0.out.trans (K0.mono (by omega)))) (HS.out.below (KW0.out.trans (K0.mono (by omega))))).mono ?_; go_must (rintro e w2 ⟨rfl, hb2⟩; have K' := (by first | exact below_at K0 (by have := K0.size; omega) hb2 | exact below_at K0 (by have := K0.size; omega) (by repeat (first | exact Below.refl _ _ | assumption | (refine Below.drew ?_) | (refine below_drewN ?_ _) | (refine Below.alloc ?_ (by first | (simp; done) | (simp; omega) | omega) _) | (refine Below.setCell ?_ (by first | (simp; done) | (simp; omega) | omega) _) | (refine Below.trans ?_ (Below.mono (by assumption) (by first | (simp; done) | (simp; omega) | omega))))) : Below W0.heap.size W0 w2); have HB2 := Lib.hid hb2; clear K0 hb2; (try clear k0_0); (try clear k0_1); (try clear k0_2); (try clear k0_3); (try clear k0_4); (try clear k0_5); (try clear k0_6); (try clear k0_7); (try clear k0_8); (try clear k0_9); have K0 := K'; clear K'; obtain ⟨k0_0, k0_1, k0_2, k0_3, k0_4, k0_5, k0_6, k0_7, k0_8, k0_9⟩ := RD0.out _ K0; skip)) | (go_at_call 8; refine (sane04 _).mono ?_; go_must (rintro e w3 ⟨rfl, hb3⟩; have K' := (by first | exact below_at K0 (by have := K0.size; omega) hb3 | exact below_at K0 (by have := K0.size; omega) (by repeat (first | exact Below.refl _ _ | assumption | (refine Below.drew ?_) | (refine below_drewN ?_ _) | (refine Below.alloc ?_ (by first | (simp; done) | (simp; omega) | omega) _) | (refine Below.setCell ?_ (by first | (simp; done) | (simp; omega) | omega) _) | (refine Below.trans ?_ (Below.mono (by assumption) (by first | (simp; done) | (simp; omega) | omega))))) : Below W0.heap.size W0 w3); have HB3 := Lib.hid hb3; clear K0 hb3; (try clear k0_0); (try clear k0_1); (try clear k0_2); (try clear k0_3); (try clear k0_4); (try clear k0_5); (try clear k0_6); (try clear k0_7); (try clear k0_8); (try clear k0_9); have K0 := K'; clear K'; obtain ⟨k0_0, k0_1, k0_2, k0_3, k0_4, k0_5, k0_6, k0_7, k0_8, k0_9⟩ := RD0.out _ K0)))
    go_ret
    exact ⟨rfl, (KW0.out.trans (K0.mono (by omega)))⟩
  rw [ha] at HAS
  by_cases ht : tabErr r s u = 0
  rotate_left
  · have ht2 : tabErr r s u = 31 ∨ tabErr r s u = 41 := by
      unfold tabErr at ht ⊢
      rw [if_pos ha] at ht ⊢
      by_cases hl : legalB r s = true
      · rw [if_pos hl] at ht ⊢
        by_cases hc : (clashL r s u).isNone = true
        · rw [if_pos hc] at ht; exact absurd rfl ht
        · rw [if_neg hc]; exact .inr rfl
      · rw [if_neg hl]; exact .inl rfl
    have HT2 := Lib.hid (fun (W : World) (h : RecRd W r) (h2 : SchedRd W s) => (HT.out W h h2).mono (fun e w' q => (⟨by
      obtain ⟨⟨v, l, he, hsl, hif⟩, -⟩ := q
      rw [if_neg ht] at hif
      subst hif
      obtain ⟨a, c, rfl, -⟩ := hsl.shape
      exact ⟨a, c, he⟩, q.2⟩ : (∃ a c, e = .returned (.tuple #[.slice a 0 c, .int .i64 (tabErr r s u)])) ∧ Below W.heap.size W w')))
    clear HT ht hvv
    rcases ht2 with ht2 | ht2
    all_goals
      rw [ht2] at HT2
      clear ht2 ha
      go_enter Tryz.func4, Tryz.ntmps4
      go_wp2_with (first | (go_at_call 7; rw [HW0.out]; refine (HWD.out _ (HR.out.below KW0.out) (HS.out.below KW0.out)).mono ?_; go_must (rintro e w1 ⟨rfl, hb1⟩; have K0 := hb1; have HB1 := Lib.hid hb1; clear hb1; obtain ⟨k0_0, k0_1, k0_2, k0_3, k0_4, k0_5, k0_6, k0_7, k0_8, k0_9⟩ := RD0.out _ K0; rw [HV.out])) | (go_at_call 12; refine (HAS.out _ (HR.out.below (KW0.out.trans (K0.mono (by omega)))) (HS.out.below (KW0.out.trans (K0.mono (by omega))))).mono ?_; go_must (rintro e w2 ⟨rfl, hb2⟩; have K' := (by first | exact below_at K0 (by have := K0.size; omega) hb2 | exact below_at K0 (by have := K0.size; omega) (by repeat (first | exact Below.refl _ _ | assumption | (refine Below.drew ?_) | (refine below_drewN ?_ _) | (refine Below.alloc ?_ (by first | (simp; done) | (simp; omega) | omega) _) | (refine Below.setCell ?_ (by first | (simp; done) | (simp; omega) | omega) _) | (refine Below.trans ?_ (Below.mono (by assumption) (by first | (simp; done) | (simp; omega) | omega))))) : Below W0.heap.size W0 w2); have HB2 := Lib.hid hb2; clear K0 hb2; (try clear k0_0); (try clear k0_1); (try clear k0_2); (try clear k0_3); (try clear k0_4); (try clear k0_5); (try clear k0_6); (try clear k0_7); (try clear k0_8); (try clear k0_9); have K0 := K'; clear K'; obtain ⟨k0_0, k0_1, k0_2, k0_3, k0_4, k0_5, k0_6, k0_7, k0_8, k0_9⟩ := RD0.out _ K0; skip)) | (go_at_call 9; refine (HT2.out _ (HR.out.below (KW0.out.trans (K0.mono (by omega)))) (HS.out.below (KW0.out.trans (K0.mono (by omega))))).mono ?_; go_must (rintro e w3 ⟨⟨ta, tc, rfl⟩, hb3⟩; have K' := (by first | exact below_at K0 (by have := K0.size; omega) hb3 | exact below_at K0 (by have := K0.size; omega) (by repeat (first | exact Below.refl _ _ | assumption | (refine Below.drew ?_) | (refine below_drewN ?_ _) | (refine Below.alloc ?_ (by first | (simp; done) | (simp; omega) | omega) _) | (refine Below.setCell ?_ (by first | (simp; done) | (simp; omega) | omega) _) | (refine Below.trans ?_ (Below.mono (by assumption) (by first | (simp; done) | (simp; omega) | omega))))) : Below W0.heap.size W0 w3); have HB3 := Lib.hid hb3; clear K0 hb3; (try clear k0_0); (try clear k0_1); (try clear k0_2); (try clear k0_3); (try clear k0_4); (try clear k0_5); (try clear k0_6); (try clear k0_7); (try clear k0_8); (try clear k0_9); have K0 := K'; clear K'; obtain ⟨k0_0, k0_1, k0_2, k0_3, k0_4, k0_5, k0_6, k0_7, k0_8, k0_9⟩ := RD0.out _ K0; skip)) | (go_at_call 8; refine (sane04 _).mono ?_; go_must (rintro e w4 ⟨rfl, hb4⟩; have K' := (by first | exact below_at K0 (by have := K0.size; omega) hb4 | exact below_at K0 (by have := K0.size; omega) (by repeat (first | exact Below.refl _ _ | assumption | (refine Below.drew ?_) | (refine below_drewN ?_ _) | (refine Below.alloc ?_ (by first | (simp; done) | (simp; omega) | omega) _) | (refine Below.setCell ?_ (by first | (simp; done) | (simp; omega) | omega) _) | (refine Below.trans ?_ (Below.mono (by assumption) (by first | (simp; done) | (simp; omega) | omega))))) : Below W0.heap.size W0 w4); have HB4 := Lib.hid hb4; clear K0 hb4; (try clear k0_0); (try clear k0_1); (try clear k0_2); (try clear k0_3); (try clear k0_4); (try clear k0_5); (try clear k0_6); (try clear k0_7); (try clear k0_8); (try clear k0_9); have K0 := K'; clear K'; obtain ⟨k0_0, k0_1, k0_2, k0_3, k0_4, k0_5, k0_6, k0_7, k0_8, k0_9⟩ := RD0.out _ K0)))
      go_ret
      exact ⟨rfl, (KW0.out.trans (K0.mono (by omega)))⟩
  have hlg : legalB r s = true := by
    unfold tabErr at ht
    rw [if_pos ha] at ht
    by_cases hl : legalB r s = true
    · exact hl
    · rw [if_neg hl] at ht; omega
  have hao := askS_ok ha
  have hvo := validR_out hao.1
  have hda := askS_askD ha
  have HT2 := Lib.hid (fun (W : World) (h : RecRd W r) (h2 : SchedRd W s) => (HT.out W h h2).mono (fun e w' q => (⟨by
    obtain ⟨⟨v, l, he, hsl, hif⟩, -⟩ := q
    rw [if_pos ht] at hif
    exact ⟨v, l, by rw [he, ht], hsl, hif⟩, q.2⟩ : (∃ v l, e = .returned (.tuple #[v, .int .i64 0]) ∧ SlOf w' w'.heap.size 7 encE v l ∧ l.Perm (evsL r s u) ∧ SortedE l) ∧ Below W.heap.size W w')))
  have HDE := Lib.hid (fun (W : World) (h : RecRd W r) (h2 : SchedRd W s) => (Delays_l r s W h h2).mono (fun e w' q => (⟨by
    have h := q.1
    unfold DelX at h
    rw [if_pos hda, hda] at h
    obtain ⟨v, he, hrw⟩ := h
    exact ⟨v, he, hrw⟩, q.2⟩ : (∃ v, e = .returned (.tuple #[v, .int .i64 0]) ∧ RowsSl w' 1 encInt v (delaysL r s)) ∧ Below W.heap.size W w')))
  have HMV := Lib.hid (fun (W : World) (h : RecRd W r) => (Moves_l r u W h).mono (fun e w' q => (⟨by
    have h := q.1
    unfold MovesR at h
    rw [if_pos hao.2.2.2, hao.2.2.2] at h
    exact h, q.2⟩ : (∃ v, e = .returned (.tuple #[v, .int .i64 0]) ∧ RowsSl w' 2 encC v (movesL r u)) ∧ Below W.heap.size W w')))
  have HOF := Lib.hid (fun (W : World) (h : RecRd W r) => Of_l r hao.1 W h)
  have hszn : r.vars.length * (ptsL r.n r.l).length ≤ 1000000 := Nat.le_trans (Nat.mul_le_mul hvo.2.2.1.2 hvo.2.1) (by omega)
  have HSZ := Lib.hid (fun (b bm n : Nat) (pv : Value) (W : World) (h : WorldAt W b bm n r pv (ptsL r.n r.l)) => Size_l r hszn ⟨vva, vvc, hvv⟩ b bm n pv _ W h)
  have HEV := Lib.hid (fun (e : ElD) (W : World) (h : RecRd W r) (h2 : SchedRd W s) => Event_l r s u e W h h2)
  have HLN := Lib.hid (fun (l : List EvD) (h : l.Perm (evsL r s u)) => show r.vars.length * (ptsL r.n r.l).length = l.length from by rw [h.length_eq, evsL_len])
  have HXE := Lib.hid (fun (l : List EvD) (h : l.Perm (evsL r s u)) (x : EvD) (hx : x ∈ l) => ord_ev ha h hx)
  have HXA := Lib.hid (fun (l : List EvD) (h : l.Perm (evsL r s u)) (x : EvD) (hx : x ∈ l) => ord_arg ha hlg h hx)
  have HAR := Lib.hid (fun v hv j hj p hs b bm n pv K (W : World) h hr => Arg_l r v j hv hj p hs b bm n pv K W h hr)
  rw [hvv] at HDE HMV HOF HEV
  have hal := fun (v : Nat) (hv : v < r.vars.length) => arg_len hao.1 (List.getElem_mem hv)
  have HAL := Lib.hid hal
  have HAF := Lib.hid (fun (v : Nat) (hv : v < r.vars.length) (k : Nat) (hk : k < r.vars[v].args.length) => arg_flat hao.1 (List.getElem_mem hv) (List.getElem_mem hk))
  have HNV := Lib.hid hvo.2.2.1
  have hl4 : ∀ l : List EvD, l.Perm (evsL r s u) → l.length ≤ 4000 := fun l h => by
    rw [h.length_eq, evsL_len]
    exact Nat.le_trans (Nat.mul_le_mul hvo.2.2.1.2 hvo.2.1) (by omega)
  have HL4 := Lib.hid hl4
  have hmm := @run_makeMap Tryz.prog
  clear HT ht hlg hao hvo hda hszn hal hl4 ha
  have HVV := Lib.hid hvv; clear hvv
  go_enter Tryz.func4, Tryz.ntmps4
  go_upto_region 9 with (first | (go_at_call 7; rw [HW0.out]; refine (HWD.out _ (HR.out.below KW0.out) (HS.out.below KW0.out)).mono ?_; go_must (rintro e w1 ⟨rfl, hb1⟩; have K0 := hb1; have HB1 := Lib.hid hb1; clear hb1; obtain ⟨k0_0, k0_1, k0_2, k0_3, k0_4, k0_5, k0_6, k0_7, k0_8, k0_9⟩ := RD0.out _ K0; rw [HV.out]; clear HWD)) | (go_at_call 12; refine (HAS.out _ (HR.out.below (KW0.out.trans (K0.mono (by omega)))) (HS.out.below (KW0.out.trans (K0.mono (by omega))))).mono ?_; go_must (rintro e w2 ⟨rfl, hb2⟩; have K' := (by first | exact below_at K0 (by have := K0.size; omega) hb2 | exact below_at K0 (by have := K0.size; omega) (by repeat (first | exact Below.refl _ _ | assumption | (refine Below.drew ?_) | (refine below_drewN ?_ _) | (refine Below.alloc ?_ (by first | (simp; done) | (simp; omega) | omega) _) | (refine Below.setCell ?_ (by first | (simp; done) | (simp; omega) | omega) _) | (refine Below.trans ?_ (Below.mono (by assumption) (by first | (simp; done) | (simp; omega) | omega))))) : Below W0.heap.size W0 w2); have HB2 := Lib.hid hb2; clear K0 hb2; (try clear k0_0); (try clear k0_1); (try clear k0_2); (try clear k0_3); (try clear k0_4); (try clear k0_5); (try clear k0_6); (try clear k0_7); (try clear k0_8); (try clear k0_9); have K0 := K'; clear K'; obtain ⟨k0_0, k0_1, k0_2, k0_3, k0_4, k0_5, k0_6, k0_7, k0_8, k0_9⟩ := RD0.out _ K0; clear HAS)) | (go_at_call 9; refine (HT2.out _ (HR.out.below (KW0.out.trans (K0.mono (by omega)))) (HS.out.below (KW0.out.trans (K0.mono (by omega))))).mono ?_; go_must (rintro e w3 ⟨⟨v1, l, rfl, hs1, hp, ho⟩, hb3⟩; have K' := (by first | exact below_at K0 (by have := K0.size; omega) hb3 | exact below_at K0 (by have := K0.size; omega) (by repeat (first | exact Below.refl _ _ | assumption | (refine Below.drew ?_) | (refine below_drewN ?_ _) | (refine Below.alloc ?_ (by first | (simp; done) | (simp; omega) | omega) _) | (refine Below.setCell ?_ (by first | (simp; done) | (simp; omega) | omega) _) | (refine Below.trans ?_ (Below.mono (by assumption) (by first | (simp; done) | (simp; omega) | omega))))) : Below W0.heap.size W0 w3); have HB3 := Lib.hid hb3; clear K0 hb3; (try clear k0_0); (try clear k0_1); (try clear k0_2); (try clear k0_3); (try clear k0_4); (try clear k0_5); (try clear k0_6); (try clear k0_7); (try clear k0_8); (try clear k0_9); have K0 := K'; clear K'; obtain ⟨k0_0, k0_1, k0_2, k0_3, k0_4, k0_5, k0_6, k0_7, k0_8, k0_9⟩ := RD0.out _ K0; have HP := Lib.hid hp; have HO := Lib.hid ho; obtain ⟨ta, tc, tg, tq, rfl, htl, htm, htx⟩ := SlOf.at (enc := encE) (fun _ => rfl) un_evs sz_evs hs1; have HTX := Lib.hid htx; clear hs1 hp ho htx HT2)) | (go_at_call 13; refine (HDE.out _ (HR.out.below (KW0.out.trans (K0.mono (by omega)))) (HS.out.below (KW0.out.trans (K0.mono (by omega))))).mono ?_; go_must (rintro e w4 ⟨⟨v2, rfl, hrd⟩, hb4⟩; have K' := (by first | exact below_at K0 (by have := K0.size; omega) hb4 | exact below_at K0 (by have := K0.size; omega) (by repeat (first | exact Below.refl _ _ | assumption | (refine Below.drew ?_) | (refine below_drewN ?_ _) | (refine Below.alloc ?_ (by first | (simp; done) | (simp; omega) | omega) _) | (refine Below.setCell ?_ (by first | (simp; done) | (simp; omega) | omega) _) | (refine Below.trans ?_ (Below.mono (by assumption) (by first | (simp; done) | (simp; omega) | omega))))) : Below W0.heap.size W0 w4); have HB4 := Lib.hid hb4; clear K0 hb4; (try clear k0_0); (try clear k0_1); (try clear k0_2); (try clear k0_3); (try clear k0_4); (try clear k0_5); (try clear k0_6); (try clear k0_7); (try clear k0_8); (try clear k0_9); have K0 := K'; clear K'; obtain ⟨k0_0, k0_1, k0_2, k0_3, k0_4, k0_5, k0_6, k0_7, k0_8, k0_9⟩ := RD0.out _ K0; obtain ⟨da, dc, hde⟩ := RowsSl.shape hrd; rw [delaysL_len] at hde; subst hde; have HRD := Lib.hid hrd; clear hrd HDE)) | (go_at_call 14; refine (HMV.out _ (HR.out.below (KW0.out.trans (K0.mono (by omega))))).mono ?_; go_must (rintro e w5 ⟨⟨v3, rfl, hrm⟩, hb5⟩; have K' := (by first | exact below_at K0 (by have := K0.size; omega) hb5 | exact below_at K0 (by have := K0.size; omega) (by repeat (first | exact Below.refl _ _ | assumption | (refine Below.drew ?_) | (refine below_drewN ?_ _) | (refine Below.alloc ?_ (by first | (simp; done) | (simp; omega) | omega) _) | (refine Below.setCell ?_ (by first | (simp; done) | (simp; omega) | omega) _) | (refine Below.trans ?_ (Below.mono (by assumption) (by first | (simp; done) | (simp; omega) | omega))))) : Below W0.heap.size W0 w5); have HB5 := Lib.hid hb5; clear K0 hb5; (try clear k0_0); (try clear k0_1); (try clear k0_2); (try clear k0_3); (try clear k0_4); (try clear k0_5); (try clear k0_6); (try clear k0_7); (try clear k0_8); (try clear k0_9); have K0 := K'; clear K'; obtain ⟨k0_0, k0_1, k0_2, k0_3, k0_4, k0_5, k0_6, k0_7, k0_8, k0_9⟩ := RD0.out _ K0; obtain ⟨ma, mc, hme⟩ := RowsSl.shape hrm; rw [movesL_len] at hme; subst hme; have HRM := Lib.hid hrm; clear hrm HMV)) | (go_at_call 15; refine (HOF.out _ (HR.out.below (KW0.out.trans (K0.mono (by omega))))).mono ?_; go_must (rintro e w6 ⟨⟨b, bm, n, pv, rfl, hwa⟩, hb6⟩; have K' := (by first | exact below_at K0 (by have := K0.size; omega) hb6 | exact below_at K0 (by have := K0.size; omega) (by repeat (first | exact Below.refl _ _ | assumption | (refine Below.drew ?_) | (refine below_drewN ?_ _) | (refine Below.alloc ?_ (by first | (simp; done) | (simp; omega) | omega) _) | (refine Below.setCell ?_ (by first | (simp; done) | (simp; omega) | omega) _) | (refine Below.trans ?_ (Below.mono (by assumption) (by first | (simp; done) | (simp; omega) | omega))))) : Below W0.heap.size W0 w6); have HB6 := Lib.hid hb6; clear K0 hb6; (try clear k0_0); (try clear k0_1); (try clear k0_2); (try clear k0_3); (try clear k0_4); (try clear k0_5); (try clear k0_6); (try clear k0_7); (try clear k0_8); (try clear k0_9); have K0 := K'; clear K'; obtain ⟨k0_0, k0_1, k0_2, k0_3, k0_4, k0_5, k0_6, k0_7, k0_8, k0_9⟩ := RD0.out _ K0; have HWA := Lib.hid hwa; clear hwa HOF)))
  have HSZ2 := Lib.hid (by have := HSZ.out b bm n pv _ HWA.out; rwa [HLN.out l HP.out] at this : Calls Tryz.prog 16 #[.pointer (some ⟨b, 0, none⟩)] w6 fun x w' => x = .returned (.int .i64 (l.length : Int)) ∧ Below w6.heap.size w6 w')
  clear HSZ HLN
  unfold maxLen at htm
  go_upto_region 12 with (first | (go_at_call 16; refine (HSZ2.out).mono ?_; go_must (rintro e w7 ⟨rfl, hb7⟩; have K' := (by first | exact below_at K0 (by have := K0.size; omega) hb7 | exact below_at K0 (by have := K0.size; omega) (by repeat (first | exact Below.refl _ _ | assumption | (refine Below.drew ?_) | (refine below_drewN ?_ _) | (refine Below.alloc ?_ (by first | (simp; done) | (simp; omega) | omega) _) | (refine Below.setCell ?_ (by first | (simp; done) | (simp; omega) | omega) _) | (refine Below.trans ?_ (Below.mono (by assumption) (by first | (simp; done) | (simp; omega) | omega))))) : Below W0.heap.size W0 w7); have HB7 := Lib.hid hb7; clear K0 hb7; (try clear k0_0); (try clear k0_1); (try clear k0_2); (try clear k0_3); (try clear k0_4); (try clear k0_5); (try clear k0_6); (try clear k0_7); (try clear k0_8); (try clear k0_9); have K0 := K'; clear K'; obtain ⟨k0_0, k0_1, k0_2, k0_3, k0_4, k0_5, k0_6, k0_7, k0_8, k0_9⟩ := RD0.out _ K0; skip)))
  have hs7 := K0.size
  have KX7 := Lib.hid ((KW0.out.trans (K0.mono (by omega))))
  have KK0 := Lib.hid K0
  have q34 := HB4.out.size; have q45 := HB5.out.size; have q56 := HB6.out.size; have q67 := HB7.out.size
  have h67 := Lib.hid HB7.out
  have h57 := Lib.hid (below_at HB6.out q56 HB7.out)
  have h47 := Lib.hid (below_at HB5.out q45 h57.out)
  have h37 := Lib.hid (below_at HB4.out q34 h47.out)
  clear HB1 HB2 HB3 HB4 HB5 HB6 HB7 HSZ2 hmm K0; (try clear k0_0); (try clear k0_1); (try clear k0_2); (try clear k0_3); (try clear k0_4); (try clear k0_5); (try clear k0_6); (try clear k0_7); (try clear k0_8); (try clear k0_9)
  obtain ⟨W8, hW8⟩ : ∃ W : World, w7.alloc (.map #[] 0) = W := ⟨_, rfl⟩
  rw [hW8]
  have K78 := Lib.hid (show Below w7.heap.size w7 W8 by rw [← hW8]; exact (by repeat (first | exact Below.refl _ _ | assumption | (refine Below.drew ?_) | (refine below_drewN ?_ _) | (refine Below.alloc ?_ (by first | (simp; done) | (simp; omega) | omega) _) | (refine Below.setCell ?_ (by first | (simp; done) | (simp; omega) | omega) _) | (refine Below.trans ?_ (Below.mono (by assumption) (by first | (simp; done) | (simp; omega) | omega))))))
  have hs8 : W8.heap.size = w7.heap.size + 1 := by rw [← hW8]; simp
  have HM0 := Lib.hid (show EvMap W8 w7.heap.size 0 [] by rw [← hW8]; exact EvMap.made w7)
  clear hW8
  -- everything below block w7.heap.size in a later world
  have L7 := Lib.hid (show ∀ V, Below w7.heap.size W8 V → Below w7.heap.size w7 V from fun V h => K78.out.trans h)
  have LD := Lib.hid (show ∀ V, Below w7.heap.size W8 V → (V.cell? ⟨w.heap.size, 0, none⟩ = some (.int .i64 r.n) ∧ V.cell? ⟨w.heap.size, 1, none⟩ = some (r.lv) ∧ V.cell? ⟨w.heap.size, 2, none⟩ = some (.slice vva r.vars.length vvc) ∧ V.cell? ⟨w.heap.size + 1, 0, none⟩ = some (.int .i64 s.f.1) ∧ V.cell? ⟨w.heap.size + 1, 1, none⟩ = some (.int .i64 s.f.2.1) ∧ V.cell? ⟨w.heap.size + 1, 2, none⟩ = some (.int .i64 s.f.2.2) ∧ V.cell? ⟨w.heap.size + 1, 3, none⟩ = some (s.ov) ∧ V.cell? ⟨w.heap.size + 1 + 1, 0, none⟩ = some (.int .i64 u.1) ∧ V.cell? ⟨w.heap.size + 1 + 1, 1, none⟩ = some (.int .i64 u.2.1) ∧ V.cell? ⟨w.heap.size + 1 + 1, 2, none⟩ = some (.int .i64 u.2.2)) ∧ RecRd V r ∧ SchedRd V s from fun V h => by
    have h1 := L7.out V h
    have h2 := KX7.out.trans (h1.mono (by omega))
    exact ⟨RD0.out V (below_at KK0.out hs7 h1), HR.out.below h2, HS.out.below h2⟩)
  have TX := Lib.hid (show ∀ V, Below w7.heap.size W8 V → ∀ i (hi : i < l.length), V.cell? ⟨tg, tq + 7 * i, none⟩ = some (.int .i64 l[i].t) ∧ V.cell? ⟨tg, tq + 7 * i + 1, none⟩ = some (.int .i64 l[i].c.1) ∧ V.cell? ⟨tg, tq + 7 * i + 2, none⟩ = some (.int .i64 l[i].c.2) ∧ V.cell? ⟨tg, tq + 7 * i + 3, none⟩ = some (.int .i64 l[i].e.1) ∧ V.cell? ⟨tg, tq + 7 * i + 4, none⟩ = some (.int .i64 l[i].e.2.1) ∧ V.cell? ⟨tg, tq + 7 * i + 5, none⟩ = some (.int .i64 l[i].e.2.2.1) ∧ V.cell? ⟨tg, tq + 7 * i + 6, none⟩ = some (.int .i64 l[i].e.2.2.2) from fun V h i hi => by
    obtain ⟨-, -, hg, hc⟩ := HTX.out i hi
    have h1 : Below w3.heap.size w3 V := below_at h37.out (by omega) (L7.out V h)
    have rd := fun j hj => (h1.cell (p := ⟨tg, tq + 7 * i + j, none⟩) hg).trans (hc j hj)
    exact ⟨rd 0 (by omega), rd 1 (by omega), rd 2 (by omega), rd 3 (by omega), rd 4 (by omega), rd 5 (by omega), rd 6 (by omega)⟩)
  have TI := Lib.hid (show ∀ i (hi : i < l.length), ∀ W, (Instr.indexAt 35 (.slice ta l.length tc) (.int .i64 (i : Int))).run Tryz.prog W = .ok (.pointer (some ⟨tg, tq + 7 * i, none⟩)) W from fun i hi => (HTX.out i hi).2.1)
  have HEQ := Lib.hid (fun (i : Nat) (hi : i < l.length) (W : World) => show (Op.equalIn 10000 57 (evD l[i]) (evD l[i])).run Tryz.prog W = .ok true W from by have := eq_ev 9996 l[i] l[i] W; simpa using this)
  have HND := Lib.hid (evs_nodup HP.out)
  have hl4 := HL4.out l HP.out
  have hsB : w7.heap.size ≤ W8.heap.size := by omega
  clear HTX HL4
  have HXP := Lib.hid (HXE.out l HP.out); have HXQ := Lib.hid (HXA.out l HP.out)
  clear HXE HXA
  go_wp2_with fail
  go_loopw [15] (fun t15 wr => ∃ i : Nat, i ≤ l.length ∧ t15 = .int .i64 (i : Nat) ∧ Hid (EvMap wr w7.heap.size i (l.take i)) ∧ Below w7.heap.size W8 wr) (fun t15 _ => l.length - (intOf t15).toNat)
  case atStart => exact ⟨0, Nat.zero_le _, rfl, Lib.hid (by simpa using HM0.out), Below.refl _ _⟩
  case round =>
    obtain ⟨i, hi, rfl, HM, hb⟩ := hrel
    have hs := hb.size
    by_cases hlt : i < l.length
    rotate_left
    · have hie : i = l.length := by omega
      have HMZ := Lib.hid (show EvMap wr w7.heap.size l.length l by have := HM.out; rwa [hie, List.take_length] at this)
      have hlen := fun ty => MapN.len (t := 51) HMZ.out Tryz.underlying51 ty
      have hie2 : ¬ (i : Int) < (l.length : Int) := by omega
      clear hlt hie HM0
      go_upto_region 22 with fail
      clear hlen
      obtain ⟨vg, voff, VX⟩ := HVX.out
      obtain ⟨dg, doff, DX⟩ := del_at HRD.out
      obtain ⟨mg, moff, MX⟩ := mov_at HRM.out
      have HVXX := Lib.hid VX; have HDX := Lib.hid DX; have HMX := Lib.hid MX; clear VX DX MX
      obtain ⟨WL, hWL⟩ : ∃ x : World, x = wr := ⟨_, rfl⟩
      subst hWL
      have hsL := hb.size
      have LL := Lib.hid (show ∀ V, Below WL.heap.size WL V → Below w7.heap.size W8 V from fun V h => hb.trans (h.mono (by omega)))
      have LWR := Lib.hid (show ∀ V, Below WL.heap.size WL V → WorldAt V b bm n r pv (ptsL r.n r.l) ∧ RecRd V r from fun V h => ⟨HWA.out.below (below_at h67.out (by omega) (L7.out V (LL.out V h))), (LD.out V (LL.out V h)).2.1⟩)
      have hnv4 : r.vars.length ≤ 4 := HNV.out.2
      go_loopw [18] (fun t18 wr => ∃ i : Nat, i ≤ l.length ∧ t18 = .int .i64 (i : Nat) ∧ Below WL.heap.size WL wr) (fun t18 _ => l.length - (intOf t18).toNat)
      case atStart => exact ⟨0, Nat.zero_le _, rfl, Below.refl _ _⟩
      case round =>
        obtain ⟨i, hi, rfl, hbr⟩ := hrel
        have hsr := hbr.size
        by_cases hlt : i < l.length
        rotate_left
        · have hie2 : ¬ (i : Int) < (l.length : Int) := by omega
          have hb8 := LL.out _ hbr
          go_wp2_with (go_at_call 8; refine (sane04 _).mono ?_; go_must (rintro e w9 ⟨rfl, hb9⟩))
          go_ret
          exact ⟨rfl, below_at (KX7.out.trans ((L7.out _ hb8).mono (by omega))) (by omega) hb9⟩
        have hmem := List.getElem_mem hlt
        have HX := Lib.hid (HXP.out l[i] hmem)
        have HQ := Lib.hid (HXQ.out l[i] hmem)
        have T0 := Lib.hid (fun V h => TX.out V h i hlt)
        have hti := TI.out i hlt
        have HLT := Lib.hid hlt
        have hil : (i : Int) < (l.length : Int) := by omega
        have hi0 : (0 : Int) ≤ (i : Int) := by omega
        clear hmem
        generalize l[i] = x at *
        obtain ⟨x0, ⟨x1, x2⟩, ⟨x3, x4, x5, x6⟩⟩ := x
        simp only at T0 HX HQ
        obtain ⟨v, rfl⟩ : ∃ v : Nat, x3 = (v : Int) := ⟨x3.toNat, by have := HX.out.2.2.1; omega⟩
        have hv : v < r.vars.length := by have := HX.out.2.2.1; omega
        have HQ2 := Lib.hid (HQ.out v hv rfl)
        obtain ⟨hvi, hvg, aa, ac, hvc⟩ := HVXX.out v hv
        obtain ⟨xa, xc, xg, xo, hdi, hdg, hdc, hdk⟩ := HDX.out v hv
        obtain ⟨ya, yc, yg, yo, hmi, hmg, hmc, hmk⟩ := HMX.out v hv
        have HDK := Lib.hid hdk; have HMK := Lib.hid hmk; clear hdk hmk
        have hna := HAL.out v hv
        have HSM := Lib.hid (HX.out.2.2.2.1)
        have HBX := Lib.hid (HX.out.2.2.2.2)
        have HARv := Lib.hid (fun k (hk : k < r.vars[v].args.length) => HAR.out v hv k hk (x4, x5, x6) (ord_wf HSM.out (HAF.out v hv k hk).1 ⟨(HAF.out v hv k hk).2.1, by have := (HAF.out v hv k hk).2.2; omega⟩).2)
        have HWFv := Lib.hid (fun k (hk : k < r.vars[v].args.length) => (ord_wf HSM.out (HAF.out v hv k hk).1 ⟨(HAF.out v hv k hk).2.1, by have := (HAF.out v hv k hk).2.2; omega⟩).1)
        clear HX HQ
        have hv0 : (0 : Int) ≤ (v : Int) := by omega
        have hvl : (v : Int) < (r.vars.length : Int) := by omega
        have V0 := Lib.hid (show ∀ V, Below WL.heap.size WL V → (V.cell? ⟨vg, voff + 7 * v + 2, none⟩ = some (.slice aa r.vars[v].args.length ac)) ∧ (V.cell? ⟨dg, doff + v, none⟩ = some (.slice xa r.vars[v].args.length xc)) ∧ (V.cell? ⟨mg, moff + v, none⟩ = some (.slice ya r.vars[v].args.length yc)) ∧ (V.cell? ⟨w.heap.size, 2, none⟩ = some (.slice vva r.vars.length vvc)) from fun V h => by
          have h1 := LL.out V h
          have h2 := L7.out V h1
          obtain ⟨⟨-, -, k2, -⟩, -⟩ := LD.out V h1
          exact ⟨((KX7.out.trans (h2.mono (by omega))).cell (p := ⟨vg, voff + 7 * v + 2, none⟩) hvg).trans hvc, ((below_at h47.out (by omega) h2).cell (p := ⟨dg, doff + v, none⟩) hdg).trans hdc, ((below_at h57.out (by omega) h2).cell (p := ⟨mg, moff + v, none⟩) hmg).trans hmc, k2⟩)
        clear hvc hdc hmc
        generalize r.vars[v].args = args at *
        obtain ⟨t0, t1, t2, t3, t4, t5, t6⟩ := T0.out wr (LL.out wr hbr)
        obtain ⟨wo, rfl⟩ : ∃ x : World, x = wr := ⟨_, rfl⟩
        go_wp2_with fail
        go_loopw [20] (fun t20 wr => ∃ k : Nat, k ≤ args.length ∧ t20 = .int .i64 (k : Nat) ∧ Below WL.heap.size WL wr) (fun t20 _ => args.length - (intOf t20).toNat)
        case atStart => exact ⟨0, Nat.zero_le _, rfl, hbr⟩
        case round =>
          obtain ⟨k, hk, rfl, hbk⟩ := hrel
          have hsk := hbk.size
          obtain ⟨z0, z1, z2, z3⟩ := V0.out wr hbk
          by_cases hltk : k < args.length
          rotate_left
          · have hie2 : ¬ (k : Int) < (args.length : Int) := by omega
            go_wp2
            go_roundw
            case rel => exact ⟨i + 1, HLT.out, by simp, hbk⟩
            case measure => simp only [intOf]; have := HLT.out; omega
          have hQ := HQ2.out k hltk
          have hAR := HARv.out k hltk
          have hWF := HWFv.out k hltk
          obtain ⟨hdi2, hdg2, hdc2⟩ := HDK.out k hltk
          obtain ⟨hmi2, hmg2, hmc2, hmc3⟩ := HMK.out k hltk
          have HLTK := Lib.hid hltk
          have hkl : (k : Int) < (args.length : Int) := by omega
          have hk0 : (0 : Int) ≤ (k : Int) := by omega
          generalize delayOf s v args[k] = d at *
          generalize moveC r.n u args[k] = m at *
          generalize argE args[k] (x4, x5, x6) = q at *
          obtain ⟨m0, m1⟩ := m
          obtain ⟨q0, q1, q2, q3⟩ := q
          obtain ⟨B, y, hy, hB, hcase⟩ : ∃ (B : Bool) (y : EvD), (evF l (q0, q1, q2, q3)).getD (.agg #[.int .i64 0, .int .i64 0, .int .i64 0, .int .i64 0, .int .i64 0, .int .i64 0, .int .i64 0]) = evD y ∧ (evF l (q0, q1, q2, q3)).isSome = B ∧ (B = true → ((-540 ≤ y.t ∧ y.t ≤ 1540) ∧ (-80 ≤ y.c.1 ∧ y.c.1 ≤ 80) ∧ (-80 ≤ y.c.2 ∧ y.c.2 ≤ 80)) ∧ 1 ≤ d ∧ x0 = y.t + d ∧ x1 = y.c.1 + m0 ∧ x2 = y.c.2 + m1) := by
            rcases hQ with hn | ⟨y, hs, hb, h1, h2, h3, h4⟩
            · exact ⟨false, ⟨0, (0, 0), (0, 0, 0, 0)⟩, by rw [hn]; rfl, by rw [hn]; rfl, fun h => by cases h⟩
            · exact ⟨true, y, by rw [hs]; rfl, by rw [hs]; rfl, fun _ => ⟨hb, h1, h2, h3, h4⟩⟩
          obtain ⟨y0, ⟨y1, y2⟩, ⟨y3, y4, y5, y6⟩⟩ := y
          have HLK := Lib.hid (show ∀ V, Below WL.heap.size WL V → (Instr.lookup 51 (.map (some w7.heap.size)) (.agg #[.int .i64 q0, .int .i64 q1, .int .i64 q2, .int .i64 q3]) true).run Tryz.prog V = .ok (.tuple #[.agg #[.int .i64 y0, .int .i64 y1, .int .i64 y2, .int .i64 y3, .int .i64 y4, .int .i64 y5, .int .i64 y6], .bool B]) V from fun V hV => by
            have := EvMap.look HMZ.out (q0, q1, q2, q3) hWF V hV
            rw [hy, hB] at this
            exact this)
          have HCASE := Lib.hid hcase
          clear hQ hWF hy hB hcase
          simp only at HCASE
          have HAR2 := Lib.hid (show ∀ W, WorldAt W b bm n r pv (ptsL r.n r.l) → RecRd W r → Calls Tryz.prog 18 #[.pointer (some ⟨b, 0, none⟩), .agg #[.int .i64 (v : Int), .int .i64 x4, .int .i64 x5, .int .i64 x6], .int .i64 (k : Int)] W fun x w' => x = .returned (.agg #[.int .i64 q0, .int .i64 q1, .int .i64 q2, .int .i64 q3]) ∧ Below W.heap.size W w' from fun W h h2 => hAR b bm n pv _ W h h2)
          clear hAR
          obtain ⟨-, -, -, c3, c4, c5, c6⟩ := T0.out wr (LL.out wr hbk)
          cases B
          · go_wp2_with (go_at_call 18; refine (HAR2.out _ (LWR.out _ hbk).1 (LWR.out _ hbk).2).mono ?_; go_must (rintro e w5 ⟨rfl, hb5⟩; have hb5' := hbk.trans (hb5.mono hsk); have HB5 := Lib.hid hb5'; have hlk := HLK.out w5 hb5'; clear hb5' hb5))
            go_roundw
            case rel => exact ⟨k + 1, HLTK.out, by simp, (HB5.out.trans (show Below WL.heap.size w5 _ from (Below.refl _ _).alloc (by have := HB5.out.size; omega) _))⟩
            case measure => simp only [intOf]; have := HLTK.out; omega
          · go_upto_region 30 with (go_at_call 18; refine (HAR2.out _ (LWR.out _ hbk).1 (LWR.out _ hbk).2).mono ?_; go_must (rintro e w5 ⟨rfl, hb5⟩; have hb5' := hbk.trans (hb5.mono hsk); have HB5 := Lib.hid hb5'; have hlk := HLK.out w5 hb5'; clear hb5' hb5))
            have hs5 := HB5.out.size
            refine forgetW (fun V => Below WL.heap.size WL V ∧ w5.heap.size < V.heap.size ∧ V.cell? ⟨w5.heap.size, 0, none⟩ = some (.int .i64 y0) ∧ V.cell? ⟨w5.heap.size, 1, none⟩ = some (.int .i64 y1) ∧ V.cell? ⟨w5.heap.size, 2, none⟩ = some (.int .i64 y2)) ⟨HB5.out.alloc (by omega) _, by simp, by go_simp, by go_simp, by go_simp⟩ ?_
            rintro wc ⟨hbw, hg8', f0, f1, f2⟩
            clear hlk c3 c4 c5 c6 z0 z1 z2 z3
            have hsw := hbw.size
            obtain ⟨⟨hb0, hb1, hb2⟩, hd1, rfl, rfl, rfl⟩ := HCASE.out trivial
            obtain ⟨u0, u1, u2, -⟩ := V0.out wc hbw
            obtain ⟨c0, c1, c2, -⟩ := T0.out wc (LL.out wc hbw)
            have hbx0 := HBX.out
            have h7 := L7.out wc (LL.out wc hbw)
            have u3 := ((below_at h47.out (by omega) h7).cell (p := ⟨xg, xo + k, none⟩) hdg2).trans hdc2
            have u4 := ((below_at h57.out (by omega) h7).cell (p := ⟨yg, yo + 2 * k, none⟩) hmg2).trans hmc2
            have u5 := ((below_at h57.out (by omega) h7).cell (p := ⟨yg, yo + 2 * k + 1, none⟩) hmg2).trans hmc3
            have G := Lib.hid (show ∀ V, Below wc.heap.size wc V → Below wc.heap.size wc V ∧ (V.cell? ⟨dg, doff + v, none⟩ = some (.slice xa args.length xc) ∧ V.cell? ⟨mg, moff + v, none⟩ = some (.slice ya args.length yc) ∧ V.cell? ⟨xg, xo + k, none⟩ = some (.int .i64 d) ∧ V.cell? ⟨yg, yo + 2 * k, none⟩ = some (.int .i64 m0) ∧ V.cell? ⟨yg, yo + 2 * k + 1, none⟩ = some (.int .i64 m1)) ∧ (V.cell? ⟨w5.heap.size, 0, none⟩ = some (.int .i64 y0) ∧ V.cell? ⟨w5.heap.size, 1, none⟩ = some (.int .i64 y1) ∧ V.cell? ⟨w5.heap.size, 2, none⟩ = some (.int .i64 y2)) ∧ (V.cell? ⟨tg, tq + 7 * i, none⟩ = some (.int .i64 (y0 + d)) ∧ V.cell? ⟨tg, tq + 7 * i + 1, none⟩ = some (.int .i64 (y1 + m0)) ∧ V.cell? ⟨tg, tq + 7 * i + 2, none⟩ = some (.int .i64 (y2 + m1))) from fun V h => by
              have h1 := hbw.trans (h.mono hsw)
              have h2 := L7.out V (LL.out V h1)
              obtain ⟨-, d1, d2, -⟩ := V0.out V h1
              obtain ⟨e0, e1, e2, -⟩ := T0.out V (LL.out V h1)
              exact ⟨h, ⟨d1, d2, ((below_at h47.out (by omega) h2).cell (p := ⟨xg, xo + k, none⟩) hdg2).trans hdc2, ((below_at h57.out (by omega) h2).cell (p := ⟨yg, yo + 2 * k, none⟩) hmg2).trans hmc2, ((below_at h57.out (by omega) h2).cell (p := ⟨yg, yo + 2 * k + 1, none⟩) hmg2).trans hmc3⟩, ⟨(h.cell (p := ⟨w5.heap.size, 0, none⟩) hg8').trans f0, (h.cell (p := ⟨w5.heap.size, 1, none⟩) hg8').trans f1, (h.cell (p := ⟨w5.heap.size, 2, none⟩) hg8').trans f2⟩, e0, e1, e2⟩)
            have hle2 : decide ((args.length : Int) ≤ (k : Int)) = false := by rw [decide_eq_false_iff_not]; omega
            have hle3 : ¬ (args.length : Int) ≤ (k : Int) := by omega
            have hle4 : decide (args.length ≤ k) = false := by rw [decide_eq_false_iff_not]; omega
            have hdm : (-2080 ≤ y0 + d ∧ y0 + d ≤ 2080) ∧ (-80 ≤ y1 + m0 ∧ y1 + m0 ≤ 80) ∧ (-80 ≤ y2 + m1 ∧ y2 + m1 ≤ 80) := by have h1 := hbx0.1; have h2 := hbx0.2.1; have h3 := hbx0.2.2; (try simp only at h1 h2 h3); omega
            have hnl : decide (d < 1) = false := by rw [decide_eq_false_iff_not]; omega
            have HEC := Lib.hid (fun (W : World) => show (Op.equalIn 10000 53 (.agg #[.int .i64 (y1 + m0), .int .i64 (y2 + m1)]) (.agg #[.int .i64 (y1 + m0), .int .i64 (y2 + m1)])).run Tryz.prog W = .ok true W from by have := eq_cell (y1 + m0) (y2 + m1) (y1 + m0) (y2 + m1) W; simpa using this)
            have HBW := Lib.hid hbw
            clear HCASE HLK HAR2 hdc2 hmc2 hmc3 h7 hbx0
            go_upto_region 32 with fail
            clear hle2 hle3 hle4
            go_region_held3 (fun V => Below wc.heap.size wc V ∧ (V.cell? ⟨dg, doff + v, none⟩ = some (.slice xa args.length xc) ∧ V.cell? ⟨mg, moff + v, none⟩ = some (.slice ya args.length yc) ∧ V.cell? ⟨xg, xo + k, none⟩ = some (.int .i64 d) ∧ V.cell? ⟨yg, yo + 2 * k, none⟩ = some (.int .i64 m0) ∧ V.cell? ⟨yg, yo + 2 * k + 1, none⟩ = some (.int .i64 m1)) ∧ (V.cell? ⟨w5.heap.size, 0, none⟩ = some (.int .i64 y0) ∧ V.cell? ⟨w5.heap.size, 1, none⟩ = some (.int .i64 y1) ∧ V.cell? ⟨w5.heap.size, 2, none⟩ = some (.int .i64 y2)) ∧ (V.cell? ⟨tg, tq + 7 * i, none⟩ = some (.int .i64 (y0 + d)) ∧ V.cell? ⟨tg, tq + 7 * i + 1, none⟩ = some (.int .i64 (y1 + m0)) ∧ V.cell? ⟨tg, tq + 7 * i + 2, none⟩ = some (.int .i64 (y2 + m1)))) ((refine G.out _ ?_; exact (by repeat (first | (with_reducible exact Below.refl _ _) | (with_reducible assumption) | (with_reducible refine Below.drew ?_) | (with_reducible refine Below.setCell ?_ (by first | (simp; done) | (simp; omega) | omega) _) | (with_reducible refine Below.alloc ?_ (by first | (simp; done) | (simp; omega) | omega) _) | (with_reducible refine below_drewN ?_ _) | (refine Below.trans ?_ (Below.mono (by with_reducible assumption) (by first | (simp; done) | (simp; omega) | omega))))))) (fail)
            all_goals
              go_wp2_with fail
              refine forgetW (fun V => Below wc.heap.size wc V ∧ V.cell? ⟨wc.heap.size, 0, none⟩ = some (.int .i64 m0) ∧ V.cell? ⟨wc.heap.size, 1, none⟩ = some (.int .i64 m1)) ⟨by exact (by repeat (first | (with_reducible exact Below.refl _ _) | (with_reducible assumption) | (with_reducible refine Below.drew ?_) | (with_reducible refine Below.setCell ?_ (by first | (simp; done) | (simp; omega) | omega) _) | (with_reducible refine Below.alloc ?_ (by first | (simp; done) | (simp; omega) | omega) _) | (with_reducible refine below_drewN ?_ _) | (refine Below.trans ?_ (Below.mono (by with_reducible assumption) (by first | (simp; done) | (simp; omega) | omega))))), by go_simp, by go_simp⟩ ?_
              rintro V2 ⟨hV2, n0, n1⟩
              clear c0 c1 c2 f0 f1 f2 u0 u1 u2 u3 u4 u5
              obtain ⟨-, -, ⟨f0, f1, f2⟩, c0, c1, c2⟩ := G.out V2 hV2
              have heqc := HEC.out
              have hq1 : IntKind.i64.wrap (y0 + d) = y0 + d := IntWalk.i64_in _ (by omega)
              have hq2 : IntKind.i64.wrap (y1 + m0) = y1 + m0 := IntWalk.i64_in _ (by omega)
              have hq3 : IntKind.i64.wrap (y2 + m1) = y2 + m1 := IntWalk.i64_in _ (by omega)
              go_wp2_with fail
              go_quiet (fail)
              clear hq1 hq2 hq3
              go_wp2_with fail
              go_roundw
              case rel => exact ⟨k + 1, HLTK.out, by simp, by have := HBW.out.trans (hV2.mono hsw); exact (by repeat (first | (with_reducible exact Below.refl _ _) | (with_reducible assumption) | (with_reducible refine Below.drew ?_) | (with_reducible refine Below.setCell ?_ (by first | (simp; done) | (simp; omega) | omega) _) | (with_reducible refine Below.alloc ?_ (by first | (simp; done) | (simp; omega) | omega) _) | (with_reducible refine below_drewN ?_ _) | (refine Below.trans ?_ (Below.mono (by with_reducible assumption) (by first | (simp; done) | (simp; omega) | omega)))))⟩
              case measure => simp only [intOf]; have := HLTK.out; omega
    have HX := Lib.hid (HXP.out l[i] (List.getElem_mem hlt))
    have T0 := Lib.hid (fun V h => TX.out V h i hlt)
    have hti := TI.out i hlt
    have heq := HEQ.out i hlt
    have HNW := Lib.hid (ord_new HND.out i hlt)
    have HTK := Lib.hid (show l.take (i + 1) = l.take i ++ [l[i]] from List.take_succ_eq_append_getElem hlt)
    have HPT := Lib.hid (fun (k : Nat) (hk : k + 1 = i) => show ∃ hk2 : k < l.length, l[k].t ≤ l[i].t from ⟨by omega, by subst hk; exact ord_times HO.out k hlt⟩)
    have HLT := Lib.hid hlt
    have hil : (i : Int) < (l.length : Int) := by omega
    have hi0 : (0 : Int) ≤ (i : Int) := by omega
    generalize hx : l[i] = x at *
    have HEX := Lib.hid hx; clear hx
    obtain ⟨x0, ⟨x1, x2⟩, ⟨x3, x4, x5, x6⟩⟩ := x
    simp only at T0 HX HPT
    have HEV2 := Lib.hid (fun (W : World) (h : RecRd W r) (h2 : SchedRd W s) => (by have := HEV.out (x3, x4, x5, x6) W h h2; rwa [HX.out.1] at this : Calls Tryz.prog 17 #[.agg #[.int .i64 r.n, r.lv, .slice vva r.vars.length vvc], .agg #[.int .i64 s.f.1, .int .i64 s.f.2.1, .int .i64 s.f.2.2, s.ov], .agg #[.int .i64 u.1, .int .i64 u.2.1, .int .i64 u.2.2], .agg #[.int .i64 x3, .int .i64 x4, .int .i64 x5, .int .i64 x6]] W fun z w' => z = .returned (.tuple #[evD ⟨x0, (x1, x2), (x3, x4, x5, x6)⟩, .int .i64 0]) ∧ Below W.heap.size W w'))
    have HWF := Lib.hid HX.out.2.1
    clear HX
    simp only [evD] at heq HEV2
    have S15 := Lib.hid (show ∀ V, Below wr.heap.size wr V → Below wr.heap.size wr V ∧ (V.cell? ⟨w.heap.size, 0, none⟩ = some (.int .i64 r.n) ∧ V.cell? ⟨w.heap.size, 1, none⟩ = some (r.lv) ∧ V.cell? ⟨w.heap.size, 2, none⟩ = some (.slice vva r.vars.length vvc) ∧ V.cell? ⟨w.heap.size + 1, 0, none⟩ = some (.int .i64 s.f.1) ∧ V.cell? ⟨w.heap.size + 1, 1, none⟩ = some (.int .i64 s.f.2.1) ∧ V.cell? ⟨w.heap.size + 1, 2, none⟩ = some (.int .i64 s.f.2.2) ∧ V.cell? ⟨w.heap.size + 1, 3, none⟩ = some (s.ov) ∧ V.cell? ⟨w.heap.size + 1 + 1, 0, none⟩ = some (.int .i64 u.1) ∧ V.cell? ⟨w.heap.size + 1 + 1, 1, none⟩ = some (.int .i64 u.2.1) ∧ V.cell? ⟨w.heap.size + 1 + 1, 2, none⟩ = some (.int .i64 u.2.2)) ∧ (V.cell? ⟨tg, tq + 7 * i, none⟩ = some (.int .i64 x0) ∧ V.cell? ⟨tg, tq + 7 * i + 1, none⟩ = some (.int .i64 x1) ∧ V.cell? ⟨tg, tq + 7 * i + 2, none⟩ = some (.int .i64 x2) ∧ V.cell? ⟨tg, tq + 7 * i + 3, none⟩ = some (.int .i64 x3) ∧ V.cell? ⟨tg, tq + 7 * i + 4, none⟩ = some (.int .i64 x4) ∧ V.cell? ⟨tg, tq + 7 * i + 5, none⟩ = some (.int .i64 x5) ∧ V.cell? ⟨tg, tq + 7 * i + 6, none⟩ = some (.int .i64 x6)) from fun V h => by
      have h1 : Below w7.heap.size W8 V := hb.trans (h.mono (by omega))
      exact ⟨h, (LD.out V h1).1, T0.out V h1⟩)
    go_wp2_with fail
    go_cut [15, 16, 17] from 103 to 158 (fun t15 t16 t17 wx => ∃ g8, t16 = .pointer (some ⟨g8, 0, none⟩) ∧ t15 = .int .i64 (i : Nat) ∧ t17 = .int .i64 0 ∧ wr.heap.size ≤ g8 ∧ g8 < wx.heap.size ∧ wx.cell? ⟨g8, 0, none⟩ = some (.int .i64 x0) ∧ wx.cell? ⟨g8, 1, none⟩ = some (.int .i64 x1) ∧ wx.cell? ⟨g8, 2, none⟩ = some (.int .i64 x2) ∧ wx.cell? ⟨g8, 3, none⟩ = some (.int .i64 x3) ∧ wx.cell? ⟨g8, 4, none⟩ = some (.int .i64 x4) ∧ wx.cell? ⟨g8, 5, none⟩ = some (.int .i64 x5) ∧ wx.cell? ⟨g8, 6, none⟩ = some (.int .i64 x6) ∧ Below wr.heap.size wr wx)
    case first =>
      go_region_held3 (fun w' => Below wr.heap.size wr w' ∧ (w'.cell? ⟨w.heap.size, 0, none⟩ = some (.int .i64 r.n) ∧ w'.cell? ⟨w.heap.size, 1, none⟩ = some (r.lv) ∧ w'.cell? ⟨w.heap.size, 2, none⟩ = some (.slice vva r.vars.length vvc) ∧ w'.cell? ⟨w.heap.size + 1, 0, none⟩ = some (.int .i64 s.f.1) ∧ w'.cell? ⟨w.heap.size + 1, 1, none⟩ = some (.int .i64 s.f.2.1) ∧ w'.cell? ⟨w.heap.size + 1, 2, none⟩ = some (.int .i64 s.f.2.2) ∧ w'.cell? ⟨w.heap.size + 1, 3, none⟩ = some (s.ov) ∧ w'.cell? ⟨w.heap.size + 1 + 1, 0, none⟩ = some (.int .i64 u.1) ∧ w'.cell? ⟨w.heap.size + 1 + 1, 1, none⟩ = some (.int .i64 u.2.1) ∧ w'.cell? ⟨w.heap.size + 1 + 1, 2, none⟩ = some (.int .i64 u.2.2)) ∧ (w'.cell? ⟨tg, tq + 7 * i, none⟩ = some (.int .i64 x0) ∧ w'.cell? ⟨tg, tq + 7 * i + 1, none⟩ = some (.int .i64 x1) ∧ w'.cell? ⟨tg, tq + 7 * i + 2, none⟩ = some (.int .i64 x2) ∧ w'.cell? ⟨tg, tq + 7 * i + 3, none⟩ = some (.int .i64 x3) ∧ w'.cell? ⟨tg, tq + 7 * i + 4, none⟩ = some (.int .i64 x4) ∧ w'.cell? ⟨tg, tq + 7 * i + 5, none⟩ = some (.int .i64 x5) ∧ w'.cell? ⟨tg, tq + 7 * i + 6, none⟩ = some (.int .i64 x6))) ((refine S15.out _ ?_; exact (by repeat (first | (with_reducible exact Below.refl _ _) | (with_reducible assumption) | (with_reducible refine Below.drew ?_) | (with_reducible refine Below.setCell ?_ (by first | (simp; done) | (simp; omega) | omega) _) | (with_reducible refine Below.alloc ?_ (by first | (simp; done) | (simp; omega) | omega) _) | (with_reducible refine below_drewN ?_ _) | (refine Below.trans ?_ (Below.mono (by with_reducible assumption) (by first | (simp; done) | (simp; omega) | omega))))))) (first | (go_at_call 17; refine (HEV2.out _ (LD.out _ (hb.trans ((show Below wr.heap.size wr _ from (by repeat (first | (with_reducible exact Below.refl _ _) | (with_reducible assumption) | (with_reducible refine Below.drew ?_) | (with_reducible refine Below.setCell ?_ (by first | (simp; done) | (simp; omega) | omega) _) | (with_reducible refine Below.alloc ?_ (by first | (simp; done) | (simp; omega) | omega) _) | (with_reducible refine below_drewN ?_ _) | (refine Below.trans ?_ (Below.mono (by with_reducible assumption) (by first | (simp; done) | (simp; omega) | omega)))))).mono (by omega)))).2.1 (LD.out _ (hb.trans ((show Below wr.heap.size wr _ from (by repeat (first | (with_reducible exact Below.refl _ _) | (with_reducible assumption) | (with_reducible refine Below.drew ?_) | (with_reducible refine Below.setCell ?_ (by first | (simp; done) | (simp; omega) | omega) _) | (with_reducible refine Below.alloc ?_ (by first | (simp; done) | (simp; omega) | omega) _) | (with_reducible refine below_drewN ?_ _) | (refine Below.trans ?_ (Below.mono (by with_reducible assumption) (by first | (simp; done) | (simp; omega) | omega)))))).mono (by omega)))).2.2).mono ?_; go_must (rintro e w5 ⟨rfl, hb5⟩; have hs5 := hb5.size; (try simp at hs5); obtain ⟨hc5, hf5⟩ := bcell hb5; (first | have z := z10 hs5 | have z := z9 hs5 | have z := z8 hs5 | have z := z7 hs5 | have z := z6 hs5 | have z := z5 hs5 | have z := z4 hs5 | have z := z3 hs5 | have z := z2 hs5 | have z := z1 hs5 | skip))))
      all_goals (try go_wp2_with fail)
      all_goals go_meet
      all_goals (refine ⟨_, rfl, rfl, rfl, by omega, by first | (simp; done) | (simp; omega), by go_simp, by go_simp, by go_simp, by go_simp, by go_simp, by go_simp, by go_simp, by repeat (first | (with_reducible exact Below.refl _ _) | (with_reducible assumption) | (with_reducible refine Below.drew ?_) | (with_reducible refine Below.setCell ?_ (by first | (simp; done) | (simp; omega) | omega) _) | (with_reducible refine Below.alloc ?_ (by first | (simp; done) | (simp; omega) | omega) _) | (with_reducible refine below_drewN ?_ _) | (refine Below.trans ?_ (Below.mono (by with_reducible assumption) (by first | (simp; done) | (simp; omega) | omega))))⟩)
    case rest =>
      obtain ⟨g8, rfl, rfl, rfl, hg8, hg8', y0, y1, y2, y3, y4, y5, y6, hbx⟩ := hcut
      have hsx := hbx.size
      obtain ⟨-, -, e0, e1, e2, e3, e4, e5, e6⟩ := S15.out wc hbx
      by_cases hk0 : i = 0
      · have hd0 : decide ((0 : Int) < (i : Int)) = false := by rw [decide_eq_false_iff_not]; omega
        have hd1 : decide (0 < i) = false := by rw [decide_eq_false_iff_not]; omega
        clear hk0
        go_wp2_with fail
        go_quiet (fail)
        go_wp2_with fail
        refine forgetW (fun V2 => Below wc.heap.size wc V2) (by first | exact (by repeat (first | (with_reducible exact Below.refl _ _) | (with_reducible assumption) | (with_reducible refine Below.drew ?_) | (with_reducible refine Below.setCell ?_ (by first | (simp; done) | (simp; omega) | omega) _) | (with_reducible refine Below.alloc ?_ (by first | (simp; done) | (simp; omega) | omega) _) | (with_reducible refine below_drewN ?_ _) | (refine Below.trans ?_ (Below.mono (by with_reducible assumption) (by first | (simp; done) | (simp; omega) | omega)))))) ?_
        intro V2 hV2
        have hw2 : Below wr.heap.size wr V2 := hbx.trans (hV2.mono hsx)
        have hz2 := hw2.size
        clear e0 e1 e2 e3 e4 e5 e6
        obtain ⟨-, -, e0, e1, e2, e3, e4, e5, e6⟩ := S15.out V2 hw2
        obtain ⟨w3', hr3, hm3, hg3⟩ := EvMap.step (MapN.kept HM.out hw2.drew) (show i < 1000000 by omega) ⟨x0, (x1, x2), (x3, x4, x5, x6)⟩ HWF.out HNW.out
        simp only [evD, elD] at hr3
        have hb3 := Lib.hid ((hb.trans (hw2.drew.mono (by omega))).grown hg3 (by simp; omega) (fun r e => by cases e; omega))
        clear hw2 hV2 hbx
        go_wp2_with fail
        go_region
        all_goals
          go_wp2
          go_roundw
          case rel => exact ⟨i + 1, HLT.out, by simp, Lib.hid (by rw [HTK.out]; exact hm3), hb3.out⟩
          case measure => simp only [intOf]; have := HLT.out; omega
      · have hd0 : decide ((0 : Int) < (i : Int)) = true := by rw [decide_eq_true_iff]; omega
        have hd1 : decide (0 < i) = true := by rw [decide_eq_true_iff]; omega
        obtain ⟨kk, hkk1⟩ : ∃ kk, kk + 1 = i := ⟨i - 1, by omega⟩
        obtain ⟨hkk, hle⟩ := HPT.out kk hkk1
        have q0 := (TX.out wc (hb.trans (hbx.mono (by omega))) kk hkk).1
        have htk := TI.out kk hkk
        generalize l[kk].t = qt at *
        have hnl : decide (x0 < qt) = false := by rw [decide_eq_false_iff_not]; omega
        have hnl2 : ¬ x0 < qt := by omega
        have hw1 : IntKind.i64.wrap (kk : Int) = (kk : Int) := IntWalk.i64_in _ (by omega)
        have hw2 : (i : Int) - 1 = (kk : Int) := by omega
        have hw3 : IntKind.i64.wrap ((i : Int) - 1) = (kk : Int) := by rw [hw2]; exact hw1
        have hkkl : (kk : Int) < (l.length : Int) := by omega
        have hkk0 : (0 : Int) ≤ (kk : Int) := by omega
        clear hkk1 hle hk0
        go_wp2_with fail
        go_quiet (fail)
        clear hw1 hw2 hw3
        go_wp2_with fail
        refine forgetW (fun V2 => Below wc.heap.size wc V2) (by first | exact (by repeat (first | (with_reducible exact Below.refl _ _) | (with_reducible assumption) | (with_reducible refine Below.drew ?_) | (with_reducible refine Below.setCell ?_ (by first | (simp; done) | (simp; omega) | omega) _) | (with_reducible refine Below.alloc ?_ (by first | (simp; done) | (simp; omega) | omega) _) | (with_reducible refine below_drewN ?_ _) | (refine Below.trans ?_ (Below.mono (by with_reducible assumption) (by first | (simp; done) | (simp; omega) | omega)))))) ?_
        intro V2 hV2
        have hw2 : Below wr.heap.size wr V2 := hbx.trans (hV2.mono hsx)
        have hz2 := hw2.size
        clear e0 e1 e2 e3 e4 e5 e6
        obtain ⟨-, -, e0, e1, e2, e3, e4, e5, e6⟩ := S15.out V2 hw2
        obtain ⟨w3', hr3, hm3, hg3⟩ := EvMap.step (MapN.kept HM.out hw2.drew) (show i < 1000000 by omega) ⟨x0, (x1, x2), (x3, x4, x5, x6)⟩ HWF.out HNW.out
        simp only [evD, elD] at hr3
        have hb3 := Lib.hid ((hb.trans (hw2.drew.mono (by omega))).grown hg3 (by simp; omega) (fun r e => by cases e; omega))
        clear hw2 hV2 hbx
        go_wp2_with fail
        go_region
        all_goals
          go_wp2
          go_roundw
          case rel => exact ⟨i + 1, HLT.out, by simp, Lib.hid (by rw [HTK.out]; exact hm3), hb3.out⟩
          case measure => simp only [intOf]; have := HLT.out; omega
end Go.Proofs.YtndfdgdahinkpaaGreat
