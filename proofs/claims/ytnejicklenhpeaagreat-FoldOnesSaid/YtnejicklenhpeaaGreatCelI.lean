/- Maps whose keys are cells or points: how often each comes, and which have been seen. The cells of all points: the program's Cells, the reference's cells and Cells: their walks. The greatest number of points of a cell: the program's Busy and the reference's: their walks. Conditions: none. -/
import Derived.Test.YtnejicklenhpeaaGreatSafeQ
import Derived.Test.YtnejicklenhpeaaGreatCelG
import Derived.Test.YtnejicklenhpeaaGreatCelH
import Derived.Deep.CutRange
namespace Go.Proofs.YtnejicklenhpeaaGreat
open Go.RowKit Go.WideMaps
def ceV (c : Int × Int) : Value := .agg #[.int .i64 c.1, .int .i64 c.2]
theorem ceV_inj (x y : Int × Int) (h : ceV x = ceV y) : x = y := by
  obtain ⟨a, b⟩ := x; obtain ⟨d, e⟩ := y
  simp [ceV] at h
  simp [h]
def wf2 (c : Int × Int) : Prop := (Lit.int .i64 c.1).wf = true ∧ (Lit.int .i64 c.2).wf = true
theorem law_cel : KeyLaw Tryz.prog 31 := deep_law_laid (m := 8) (by kernel_rfl) (by decide) (of_decide_eq_true (by kernel_rfl)) (by kernel_rfl) (by kernel_rfl)
set_option maxRecDepth 100000 in
theorem key_cel (k : Int × Int) (h : wf2 k) : ∃ kl, keyOf Tryz.prog 31 (ceV k) = some kl := by
  obtain ⟨x, y⟩ := k
  obtain ⟨hx, hy⟩ := h
  simp only at hx hy
  have e1 : Tryz.prog.cellsOf 3 = 1 := by kernel_rfl
  have e2 : Tryz.prog.cellsOf 31 = 2 := by kernel_rfl
  have e3 : Tryz.prog.keyType 31 = true := by kernel_rfl
  obtain ⟨m, hm⟩ := types_some
  have h2 : Tryz.prog.keyLits (m + 3) 31 [.int .i64 x, .int .i64 y] = some [.int .i64 x, .int .i64 y] := by
    simp [Program.keyLits, Tryz.underlying31, Tryz.underlying3, e1, e2, List.range_succ, hx, hy]
  unfold keyOf
  rw [hm]
  simp [ceV, Tryz.underlying31, e2, e3, Value.formed, Value.cells, h2]
/-- How often each cell comes. -/
def cntC (K : List (Int × Int)) (a : Int × Int) : Option Value := if idxs K a = [] then none else some (.int .i64 ((idxs K a).length : Int))
theorem cntC_get (K : List (Int × Int)) (a : Int × Int) : (cntC K a).getD (.int .i64 0) = .int .i64 ((idxs K a).length : Int) := by
  unfold cntC
  by_cases h : idxs K a = []
  · simp [h]
  · simp [h]
theorem cntC_snoc (K : List (Int × Int)) (a : Int × Int) : cntC (K ++ [a]) = fun x => if x = a then some (.int .i64 (((idxs K a).length + 1 : Nat) : Int)) else cntC K x := by
  funext x
  unfold cntC
  rw [idxs_snoc]
  by_cases h : x = a
  · subst h; simp
  · have : ¬ (a = x) := fun e => h e.symm
    simp [h, this]
abbrev CntCM (w : World) (b n : Nat) (K : List (Int × Int)) : Prop := MapV Tryz.prog 31 ceV w b n (cntC K)
theorem CntCM.made (w : World) : CntCM (w.alloc (.map #[] 0)) w.heap.size 0 [] := by
  have := MapV.made Tryz.prog 31 ceV w
  simpa [CntCM, show cntC [] = fun _ => none from by funext a; simp [cntC, idxs_nil]] using this
set_option maxRecDepth 100000 in
theorem CntCM.look {w : World} {b n : Nat} {K : List (Int × Int)} (h : CntCM w b n K) (a : Int × Int) (ha : wf2 a) (V : World) (hV : Below w.heap.size w V) :
    (Instr.lookup 90 (.map (some b)) (ceV a) false).run Tryz.prog V = .ok (.int .i64 ((idxs K a).length : Int)) V := by
  obtain ⟨kl, hk⟩ := key_cel a ha
  have := MapV.look (h.kept hV) (Maps.Keyed.of_law law_cel) (t := 90) Tryz.underlying90 (zv_int V) hk
  rw [this, cntC_get]
set_option maxRecDepth 100000 in
theorem CntCM.step {w : World} {b n : Nat} {K : List (Int × Int)} (h : CntCM w b n K) (hn : n < 1000000) (a : Int × Int) (ha : wf2 a) :
    ∃ (st : Nat) (w1 : World), (Instr.mapEntry 90 (.map (some b)) (ceV a)).run Tryz.prog w = .ok (.tuple #[.int .i64 ((idxs K a).length : Int), goInt st]) w1 ∧ w.grownBy w1 (some b) ∧
      (Instr.lookup 90 (.map (some b)) (ceV a) false).run Tryz.prog w1 = .ok (.int .i64 ((idxs K a).length : Int)) w1 ∧
      ∀ w2, w2.heap[b]? = w1.heap[b]? → ∃ w3, (Instr.entryStore 90 (.map (some b)) (goInt st) (.int .i64 (((idxs K a).length : Int) + 1))).run Tryz.prog w2 = .ok () w3 ∧ CntCM w3 b (n + 1) (K ++ [a]) ∧ w2.grownBy w3 (some b) := by
  obtain ⟨kl, hk⟩ := key_cel a ha
  obtain ⟨st, w1, hr, hg1, hst⟩ := MapV.entry h law_cel (t := 90) Tryz.underlying90 ceV_inj hn zv_int hk
  rw [cntC_get] at hr
  have he := MapV.entered h law_cel (t := 90) Tryz.underlying90 ceV_inj hn zv_int hk hr
  have hl := MapV.look he (Maps.Keyed.of_law law_cel) (t := 90) Tryz.underlying90 (zv_int w1) hk
  simp only [if_pos, Option.getD_some] at hl
  refine ⟨st, w1, hr, hg1, hl, fun w2 hw2 => ?_⟩
  obtain ⟨w3, h3, hm, hg3⟩ := hst w2 (.int .i64 (((idxs K a).length : Int) + 1)) hw2
  exact ⟨w3, h3, by unfold CntCM; rw [cntC_snoc]; exact hm, hg3⟩
/-- Which keys have been seen. -/
def seenF {α : Type} [DecidableEq α] (K : List α) (a : α) : Option Value := if a ∈ K then some (.bool true) else none
def seenB {α : Type} [DecidableEq α] (K : List α) (a : α) : Bool := decide (a ∈ K)
theorem seenF_get {α : Type} [DecidableEq α] (K : List α) (a : α) : (seenF K a).getD (.bool false) = .bool (seenB K a) := by
  unfold seenF seenB
  by_cases h : a ∈ K
  · simp [h]
  · simp [h]
theorem seenF_snoc {α : Type} [DecidableEq α] (K : List α) (a : α) : seenF (K ++ [a]) = fun x => if x = a then some (.bool true) else seenF K x := by
  funext x
  unfold seenF
  by_cases h : x = a
  · simp [h]
  · simp [h]
theorem zv_bool (u : World) : (zeroValue 4).run Tryz.prog u = .ok (.bool false) u := by kernel_rfl
abbrev SeenC (w : World) (b n : Nat) (K : List (Int × Int)) : Prop := MapV Tryz.prog 31 ceV w b n (seenF K)
theorem SeenC.made (w : World) : SeenC (w.alloc (.map #[] 0)) w.heap.size 0 [] := by
  have := MapV.made Tryz.prog 31 ceV w
  simpa [SeenC, show (seenF ([] : List (Int × Int))) = fun _ => none from by funext a; simp [seenF]] using this
set_option maxRecDepth 100000 in
theorem SeenC.look {w : World} {b n : Nat} {K : List (Int × Int)} (h : SeenC w b n K) (a : Int × Int) (ha : wf2 a) (V : World) (hV : Below w.heap.size w V) :
    (Instr.lookup 183 (.map (some b)) (ceV a) false).run Tryz.prog V = .ok (.bool (seenB K a)) V := by
  obtain ⟨kl, hk⟩ := key_cel a ha
  have := MapV.look (h.kept hV) (Maps.Keyed.of_law law_cel) (t := 183) Tryz.underlying183 (zv_bool V) hk
  rw [this, seenF_get]
set_option maxRecDepth 100000 in
theorem SeenC.step {w : World} {b n : Nat} {K : List (Int × Int)} (h : SeenC w b n K) (hn : n < 1000000) (a : Int × Int) (ha : wf2 a) :
    ∃ w1, (Instr.mapUpdate 183 (.map (some b)) (ceV a) (.bool true)).run Tryz.prog w = .ok () w1 ∧ SeenC w1 b (n + 1) (K ++ [a]) ∧ w.grownBy w1 (some b) := by
  obtain ⟨kl, hk⟩ := key_cel a ha
  obtain ⟨w1, hr, hm, hg⟩ := MapV.put h (Maps.Keyed.of_law law_cel) (t := 183) Tryz.underlying183 ceV_inj hn hk (.bool true)
  exact ⟨w1, hr, by unfold SeenC; rw [seenF_snoc]; exact hm, hg⟩
abbrev SeenP (w : World) (b n : Nat) (K : List P3) : Prop := MapV Tryz.prog 29 ptV w b n (seenF K)
theorem SeenP.made (w : World) : SeenP (w.alloc (.map #[] 0)) w.heap.size 0 [] := by
  have := MapV.made Tryz.prog 29 ptV w
  simpa [SeenP, show (seenF ([] : List P3)) = fun _ => none from by funext a; simp [seenF]] using this
/-- The greatest number of times that a cell comes, till a place. -/
def busyTo (K : List (Int × Int)) : Nat → Nat
  | 0 => 0
  | i + 1 => max (busyTo K i) (idxs (K.take (i + 1)) (K.getD i (0, 0))).length
theorem busyTo_le (K : List (Int × Int)) : ∀ i, busyTo K i ≤ K.length
  | 0 => Nat.zero_le _
  | i + 1 => by
    have h1 := busyTo_le K i
    have h2 := idxs_len (K.take (i + 1)) (K.getD i (0, 0))
    rw [List.length_take] at h2
    show max _ _ ≤ _
    omega
def busyL (r : RecD) (u : P3) : Nat := busyTo ((ptsL r.n r.l).map (cellC r.n u)) (ptsL r.n r.l).length
end Go.Proofs.YtnejicklenhpeaaGreat
namespace Go.Proofs.YtnejicklenhpeaaGreat
open Go.RowKit Go.Lib
set_option linter.unusedVariables false
def CellsE (r : RecD) (u : P3) (e : Ending) (w' : World) : Prop := ∃ v, e = .returned (.tuple #[v, .int .i64 (askE r u)]) ∧ SlOf w' w'.heap.size 2 encC v (if askE r u = 0 then cellsL r u else [])
theorem cellsE_err {r : RecD} {u : P3} {k : Int} (h : askE r u = k) (hk : k ≠ 0) (w' : World) : CellsE r u (.returned (.tuple #[.slice none 0 0, .int .i64 k])) w' := by
  unfold CellsE
  rw [h, if_neg hk]
  exact ⟨_, rfl, Sl.nil _ _ _⟩
theorem cellsE_ok {r : RecD} {u : P3} (h : askE r u = 0) {w' : World} {v : Value} (hs : SlOf w' w'.heap.size 2 encC v (cellsL r u)) : CellsE r u (.returned (.tuple #[v, .int .i64 0])) w' := by
  unfold CellsE
  rw [h, if_pos rfl]
  exact ⟨_, rfl, hs⟩
set_option maxHeartbeats 4000000 in
set_option maxRecDepth 100000 in
theorem Cells_l (r : RecD) (u : P3) (w : World) (hr : RecRd w r) :
    Calls Tryz.prog 96 #[.agg #[.int .i64 r.n, r.lv, r.vv], .agg #[.int .i64 u.1, .int .i64 u.2.1, .int .i64 u.2.2]] w fun e w' => CellsE r u e w' ∧ Below w.heap.size w w' := by
  have HR := Lib.hid hr
  clear hr
  have HLK := Lib.hid (fun (W : World) (h : RecRd W r) => look_l r u W h)
  obtain ⟨W0, hW0⟩ : ∃ W : World, (w.alloc (Obj.cells #[.int .i64 r.n, r.lv, r.vv] 27)).alloc (Obj.cells #[.int .i64 u.1, .int .i64 u.2.1, .int .i64 u.2.2] 29) = W := ⟨_, rfl⟩
  have kw0 : Below w.heap.size w W0 := by rw [← hW0]; exact (by repeat (first | exact Below.refl _ _ | assumption | (refine Below.drew ?_) | (refine below_drewN ?_ _) | (refine Below.alloc ?_ (by first | (simp; done) | (simp; omega) | omega) _) | (refine Below.setCell ?_ (by first | (simp; done) | (simp; omega) | omega) _) | (refine Below.trans ?_ (Below.mono (by assumption) (by first | (simp; done) | (simp; omega) | omega)))))
  have ks0 : W0.heap.size = w.heap.size + 2 := by rw [← hW0]; simp
  have RD0 := Lib.hid (show ∀ V, Below W0.heap.size W0 V → V.cell? ⟨w.heap.size, 0, none⟩ = some (.int .i64 r.n) ∧ V.cell? ⟨w.heap.size, 1, none⟩ = some (r.lv) ∧ V.cell? ⟨w.heap.size, 2, none⟩ = some (r.vv) ∧ V.cell? ⟨w.heap.size + 1, 0, none⟩ = some (.int .i64 u.1) ∧ V.cell? ⟨w.heap.size + 1, 1, none⟩ = some (.int .i64 u.2.1) ∧ V.cell? ⟨w.heap.size + 1, 2, none⟩ = some (.int .i64 u.2.2) from fun V h => by
      refine ⟨(h.cell (p := ⟨w.heap.size, 0, none⟩) (by simp; omega)).trans ?_, (h.cell (p := ⟨w.heap.size, 1, none⟩) (by simp; omega)).trans ?_, (h.cell (p := ⟨w.heap.size, 2, none⟩) (by simp; omega)).trans ?_, (h.cell (p := ⟨w.heap.size + 1, 0, none⟩) (by simp; omega)).trans ?_, (h.cell (p := ⟨w.heap.size + 1, 1, none⟩) (by simp; omega)).trans ?_, (h.cell (p := ⟨w.heap.size + 1, 2, none⟩) (by simp; omega)).trans ?_⟩ <;> (subst hW0; go_simp))
  have HW0 := Lib.hid hW0; have KW0 := Lib.hid kw0; clear hW0 kw0
  by_cases ha : askE r u = 0
  rotate_left
  · have HE := Lib.hid (fun w' => cellsE_err (rfl : askE r u = askE r u) ha w')
    have hnz : (askE r u != 0) = true := by simpa using ha
    have HA := Lib.hid ha
    clear ha
    generalize hA : askE r u = A at *
    go_enter Tryz.func96, Tryz.ntmps96
    go_wp2_with (go_at_call 122; rw [HW0.out]; refine (HLK.out _ (HR.out.below KW0.out)).mono ?_; go_must (rintro e w1 ⟨hl, hb1⟩; unfold LookR at hl; rw [hA, if_neg HA.out] at hl; subst hl))
    go_ret2
    exact ⟨HE.out _, below_at KW0.out (by omega) hb1⟩
  have HA := Lib.hid ha
  have hao := askE_ok ha
  have HCE := Lib.hid (fun (b : Nat) (pv : Value) (W : World) (h : ViewAt W b r u pv) => cells_l r u hao.2 (validR_out hao.1).2.1 b pv W h)
  have HY := Lib.hid (fun (w' : World) (v : Value) (hs : SlOf w' w'.heap.size 2 encC v (cellsL r u)) => cellsE_ok ha hs)
  clear ha hao
  go_enter Tryz.func96, Tryz.ntmps96
  go_wp2_with (first | (go_at_call 122; rw [HW0.out]; refine (HLK.out _ (HR.out.below KW0.out)).mono ?_; go_must (rintro e w1 ⟨hl, hb1⟩; unfold LookR at hl; rw [HA.out, if_pos rfl] at hl; obtain ⟨b, pv, rfl, hv⟩ := hl; have HV := Lib.hid hv; have HB1 := Lib.hid hb1; have hs1 := hb1.size; clear hv hb1)) | (go_at_call 143; refine (HCE.out _ _ _ HV.out).mono ?_; go_must (rintro e w2 ⟨⟨v, rfl, hsl⟩, hb2⟩)))
  go_ret2
  exact ⟨HY.out _ _ hsl, below_at KW0.out (by omega) (below_at HB1.out hs1 hb2)⟩
set_option maxHeartbeats 4000000 in
set_option maxRecDepth 100000 in
theorem rcells_l (r : RecD) (u : P3) (ha : askE r u = 0) (w : World) (hr : RecRd w r) :
    Calls Tryz.prog 146 #[.agg #[.int .i64 r.n, r.lv, r.vv], .agg #[.int .i64 u.1, .int .i64 u.2.1, .int .i64 u.2.2]] w fun e w' => CellsR r u e w' ∧ Below w.heap.size w w' := by
  have HAO := Lib.hid (askE_ok ha)
  have hvo := validR_out HAO.out.1
  have hdo := validD_out hvo.1
  have HAL := Lib.hid (fun (W : World) (hw : SlOf W W.heap.size 4 encI r.lv r.l) => rAll_l r.n r.l hdo.1 hdo.2.2 W r.lv hw)
  have HMM := Lib.hid (fun p (hp : p ∈ ptsL r.n r.l) => ((mem_ptsL hdo.1 p).1 hp).1)
  have hL1 : (ptsL r.n r.l).length ≤ 1000 := hvo.2.1
  clear hvo hdo ha
  have HR := Lib.hid hr
  clear hr
  obtain ⟨W0, hW0⟩ : ∃ W : World, (w.alloc (Obj.cells #[.int .i64 r.n, r.lv, r.vv] 27)).alloc (Obj.cells #[.int .i64 u.1, .int .i64 u.2.1, .int .i64 u.2.2] 29) = W := ⟨_, rfl⟩
  have kw0 : Below w.heap.size w W0 := by rw [← hW0]; exact (by repeat (first | exact Below.refl _ _ | assumption | (refine Below.drew ?_) | (refine below_drewN ?_ _) | (refine Below.alloc ?_ (by first | (simp; done) | (simp; omega) | omega) _) | (refine Below.setCell ?_ (by first | (simp; done) | (simp; omega) | omega) _) | (refine Below.trans ?_ (Below.mono (by assumption) (by first | (simp; done) | (simp; omega) | omega)))))
  have ks0 : W0.heap.size = w.heap.size + 2 := by rw [← hW0]; simp
  have RD0 := Lib.hid (show ∀ V, Below W0.heap.size W0 V → V.cell? ⟨w.heap.size, 0, none⟩ = some (.int .i64 r.n) ∧ V.cell? ⟨w.heap.size, 1, none⟩ = some (r.lv) ∧ V.cell? ⟨w.heap.size, 2, none⟩ = some (r.vv) ∧ V.cell? ⟨w.heap.size + 1, 0, none⟩ = some (.int .i64 u.1) ∧ V.cell? ⟨w.heap.size + 1, 1, none⟩ = some (.int .i64 u.2.1) ∧ V.cell? ⟨w.heap.size + 1, 2, none⟩ = some (.int .i64 u.2.2) from fun V h => by
      refine ⟨(h.cell (p := ⟨w.heap.size, 0, none⟩) (by simp; omega)).trans ?_, (h.cell (p := ⟨w.heap.size, 1, none⟩) (by simp; omega)).trans ?_, (h.cell (p := ⟨w.heap.size, 2, none⟩) (by simp; omega)).trans ?_, (h.cell (p := ⟨w.heap.size + 1, 0, none⟩) (by simp; omega)).trans ?_, (h.cell (p := ⟨w.heap.size + 1, 1, none⟩) (by simp; omega)).trans ?_, (h.cell (p := ⟨w.heap.size + 1, 2, none⟩) (by simp; omega)).trans ?_⟩ <;> (subst hW0; go_simp))
  have HW0 := Lib.hid hW0; have KW0 := Lib.hid kw0; clear hW0 kw0
  have HCL := Lib.hid (fun (p : P3) (h : p ∈ ptsL r.n r.l) (W : World) => rFold_l r.n u p HAO.out.2 20 (HMM.out p h) W)
  have HWF := Lib.hid (fun (p : P3) => (cell_wf r.n u p : wf2 (cellC r.n u p)))
  have HCS := Lib.hid (show cellsL r u = sortC ((ptsL r.n r.l).map (cellC r.n u)) from rfl)
  have HCR := Lib.hid (fun (e : Ending) (w' : World) (v : Value) (he : e = .returned v) (hs : SlOf w' w'.heap.size 2 encC v (cellsL r u)) => show CellsR r u e w' from ⟨v, he, hs⟩)
  generalize cellC r.n u = F at *
  have hmm := @run_makeMap Tryz.prog
  go_enter Tryz.func146, Tryz.ntmps146
  go_wp2_with (go_at_call 38; rw [HW0.out]; refine (HAL.out _ (HR.out.l.below (KW0.out.alloc (by omega) _))).mono ?_; go_must (rintro e w1 ⟨⟨v', rfl, hsl⟩, hb1⟩; have hs1 := hb1.size; simp at hs1; obtain ⟨pa, pc, hpv, -⟩ := hsl.shape; subst hpv))
  obtain ⟨qa, qc, g, off, hqe, hlc, hcm, hx⟩ := SlOf.at (enc := encP) (fun _ => rfl) un_pts sz_pts hsl
  have hqa : qa = pa := by cases hqe; rfl
  have hqc : qc = pc := by cases hqe; rfl
  subst hqa hqc
  clear hqe hsl
  unfold maxLen at hcm
  have HX := Lib.hid hx; clear hx hmm
  have K00 := Lib.hid (show Below W0.heap.size W0 w1 from ((Below.refl _ _).alloc (Nat.le_refl _) _).trans (hb1.mono (by simp)))
  have HSM := Lib.hid (show SeenC w1 (w.heap.size + 1 + 1) 0 [] by have := MapV.kept (SeenC.made W0) hb1; rwa [ks0] at this)
  clear hb1
  have hbm : w.heap.size + 1 + 1 ≤ W0.heap.size ∧ W0.heap.size ≤ w.heap.size + 1 + 1 := by omega
  clear ks0
  generalize ptsL r.n r.l = L at *
  go_loopw [5, 8] (fun t5 t8 wr => ∃ k n2 : Nat, k ≤ L.length ∧ t8 = .int .i64 (k : Nat) ∧ Hid (SeenC wr (w.heap.size + 1 + 1) n2 ((L.take k).map F)) ∧ n2 ≤ k ∧ Hid (∃ D : List (Int × Int), OwnOf wr w1.heap.size 31 2 encC t5 D ∧ D.length ≤ k ∧ ∀ a, a ∈ D ↔ a ∈ (L.take k).map F) ∧ Below W0.heap.size w1 wr ∧ Hid (KeepS (fun b => b = w.heap.size + 1 + 1) w1.heap.size w1 wr)) (fun _ t8 _ => L.length - (intOf t8).toNat)
  case atStart => exact ⟨0, 0, Nat.zero_le _, rfl, HSM, Nat.le_refl _, Lib.hid ⟨[], OwnOf.nil _ _ _ _ _, Nat.le_refl _, fun a => by simp⟩, Below.refl _ _, Lib.hid (KeepS.refl _ _ _)⟩
  case round =>
    obtain ⟨k, n2, hk, rfl, HM, hn2, HD, hb, HKS⟩ := hrel
    have hs := hb.size
    have K0 := K00.out.trans hb
    obtain ⟨D, hD, hDl, hDm⟩ := HD.out
    have HO := Lib.hid hD
    have HDM := Lib.hid hDm
    clear HD hD hDm
    by_cases hlt : k < L.length
    rotate_left
    · have hke : k = L.length := by omega
      have HE := Lib.hid (show cellsL r u = sortC D by
        rw [HCS.out]
        refine sortC_eq (fun a => ?_)
        rw [HDM.out a, hke, List.take_length])
      have HSO := Lib.hid (fun (W : World) (v : Value) (h : SlOf W W.heap.size 2 encC v D) => Sorted_l D (by omega) W v h)
      go_wp2_with (go_at_call 103; refine (HSO.out _ _ HO.out.sl).mono ?_; go_must (rintro e w2 ⟨⟨v2, rfl, hsl2⟩, hb2⟩))
      refine bodyPost_ret (v := v2) (by simp only [results, Tryz.results146]; first | (go_simp; done) | (go_simp; rfl)) rfl ⟨HCR.out _ _ v2 rfl (by rw [HE.out]; exact hsl2), below_at (KW0.out.trans (K0.mono (by omega))) (by omega) hb2⟩
    obtain ⟨-, hi, hg, hc⟩ := HX.out k hlt
    have hc0 := hc 0 (by omega)
    have hgb : g ≠ w.heap.size + 1 + 1 := by
      intro e
      obtain ⟨o, h1, h2, -⟩ := MapV.isWalk HSM.out
      obtain ⟨o', h3, h4⟩ := cells_of_cell (hc0.trans (by rfl : (encP L[k])[0]? = some (.int .i64 L[k].1)))
      simp only [e] at h3
      rw [h1] at h3
      cases h3
      rw [h2] at h4; cases h4
    have hge := HKS.out.2 g hg hgb
    have rd := fun j hj => (World.cell?_of_block (a := ⟨g, off + 3 * k + j, none⟩) hge).trans (hc j hj)
    clear hc hc0 hge hgb
    have hmem : L[k] ∈ L := List.getElem_mem hlt
    have HSK := Lib.hid (HCL.out L[k] hmem)
    have HWK := Lib.hid (HWF.out L[k])
    have HT := Lib.hid (show (L.take (k + 1)).map F = (L.take k).map F ++ [F L[k]] by rw [List.take_succ_eq_append_getElem hlt, List.map_append]; rfl)
    have HLT := Lib.hid hlt
    clear hmem HSM
    generalize (L.take k).map F = M at *
    generalize L[k] = p at *
    generalize F p = a at *
    obtain ⟨p0, p1, p2⟩ := p
    obtain ⟨a0, a1⟩ := a
    simp only at HSK
    have r0 : wr.cell? ⟨g, off + 3 * k, none⟩ = some (.int .i64 p0) := rd 0 (by omega)
    have r1 : wr.cell? ⟨g, off + 3 * k + 1, none⟩ = some (.int .i64 p1) := rd 1 (by omega)
    have r2 : wr.cell? ⟨g, off + 3 * k + 2, none⟩ = some (.int .i64 p2) := rd 2 (by omega)
    clear rd
    have hgr : g < wr.heap.size := by omega
    have PT := Lib.hid (show ∀ V, Below wr.heap.size wr V → V.cell? ⟨g, off + 3 * k, none⟩ = some (.int .i64 p0) ∧ V.cell? ⟨g, off + 3 * k + 1, none⟩ = some (.int .i64 p1) ∧ V.cell? ⟨g, off + 3 * k + 2, none⟩ = some (.int .i64 p2) from fun V h => ⟨(h.cell (p := ⟨g, off + 3 * k, none⟩) hgr).trans (by assumption), (h.cell (p := ⟨g, off + 3 * k + 1, none⟩) hgr).trans (by assumption), (h.cell (p := ⟨g, off + 3 * k + 2, none⟩) hgr).trans (by assumption)⟩)
    have KR0 := Lib.hid K0
    have hsW : W0.heap.size ≤ wr.heap.size := by omega
    clear K0
    obtain ⟨da, dc, hde⟩ := HO.out.shape
    subst hde
    go_wp2_with fail
    go_cut [5, 8, 9] from 14 to 38 (fun t5 t8 t9 wx => ∃ g8, t9 = .pointer (some ⟨g8, 0, none⟩) ∧ t8 = .int .i64 (k : Nat) ∧ t5 = .slice da D.length dc ∧ wr.heap.size ≤ g8 ∧ g8 < wx.heap.size ∧ wx.cell? ⟨g8, 0, none⟩ = some (.int .i64 a0) ∧ wx.cell? ⟨g8, 1, none⟩ = some (.int .i64 a1) ∧ Below wr.heap.size wr wx)
    case first =>
      clear r0 r1 r2
      go_region_held3 (fun w' => Below wr.heap.size wr w' ∧ (w'.cell? ⟨w.heap.size, 0, none⟩ = some (.int .i64 r.n) ∧ w'.cell? ⟨w.heap.size, 1, none⟩ = some (r.lv) ∧ w'.cell? ⟨w.heap.size, 2, none⟩ = some (r.vv) ∧ w'.cell? ⟨w.heap.size + 1, 0, none⟩ = some (.int .i64 u.1) ∧ w'.cell? ⟨w.heap.size + 1, 1, none⟩ = some (.int .i64 u.2.1) ∧ w'.cell? ⟨w.heap.size + 1, 2, none⟩ = some (.int .i64 u.2.2)) ∧ (w'.cell? ⟨g, off + 3 * k, none⟩ = some (.int .i64 p0) ∧ w'.cell? ⟨g, off + 3 * k + 1, none⟩ = some (.int .i64 p1) ∧ w'.cell? ⟨g, off + 3 * k + 2, none⟩ = some (.int .i64 p2))) (((refine (fun kb => (⟨kb, RD0.out _ (below_at KR0.out hsW kb), PT.out _ kb⟩)) (?_ : Below wr.heap.size wr _); exact (by repeat (first | exact Below.refl _ _ | assumption | (refine Below.drew ?_) | (refine below_drewN ?_ _) | (refine Below.alloc ?_ (by first | (simp; done) | (simp; omega) | omega) _) | (refine Below.setCell ?_ (by first | (simp; done) | (simp; omega) | omega) _) | (refine Below.trans ?_ (Below.mono (by assumption) (by first | (simp; done) | (simp; omega) | omega)))))))) (first | (go_at_call 55; refine (HSK.out _).mono ?_; go_must (rintro e w5 ⟨rfl, hb5⟩; have hs5 := hb5.size; (try simp at hs5); obtain ⟨hc5, hf5⟩ := bcell hb5; (first | have z := z10 hs5 | have z := z9 hs5 | have z := z8 hs5 | have z := z7 hs5 | have z := z6 hs5 | have z := z5 hs5 | have z := z4 hs5 | have z := z3 hs5 | have z := z2 hs5 | have z := z1 hs5 | skip))))
      all_goals (try go_wp2_with fail)
      all_goals go_meet
      all_goals (refine ⟨_, rfl, rfl, rfl, by omega, by first | (simp; done) | (simp; omega), by go_simp, by go_simp, by repeat (first | exact Below.refl _ _ | assumption | (refine Below.drew ?_) | (refine below_drewN ?_ _) | (refine Below.alloc ?_ (by first | (simp; done) | (simp; omega) | omega) _) | (refine Below.setCell ?_ (by first | (simp; done) | (simp; omega) | omega) _) | (refine Below.trans ?_ (Below.mono (by assumption) (by first | (simp; done) | (simp; omega) | omega))))⟩)
    case rest =>
      obtain ⟨g8, rfl, rfl, rfl, hg8, hg8', y0, y1, hbx⟩ := hcut
      have hsx := hbx.size
      have hlt1 := MapV.lt HM.out
      have hlk := SeenC.look HM.out (a0, a1) HWK.out wc hbx
      simp only [ceV] at hlk
      have HDW := Lib.hid hbx
      cases hsb : seenB M (a0, a1)
      · obtain ⟨w3, hr3, hm3, hg3⟩ := SeenC.step (MapV.kept HM.out hbx) (by omega) (a0, a1) HWK.out
        simp only [ceV] at hr3
        have hs3 := hg3.size
        have hg8e : w3.heap[g8]? = wc.heap[g8]? := hg3.block g8 (by omega) (by intro e; simp only [Option.some.injEq] at e; omega)
        have z0 := (World.cell?_of_block (a := ⟨g8, 0, none⟩) hg8e).trans y0
        have z1 := (World.cell?_of_block (a := ⟨g8, 1, none⟩) hg8e).trans y1
        have HO3 := Lib.hid (OwnOf.grown (HO.out.kept hbx) hg3 (.inl (fun e => by have := (HO.out.lt _ e).1; omega)))
        have hb3 : Below W0.heap.size w1 w3 := (hb.trans (hbx.mono hsW)).grown hg3 (by omega) (fun r e => by cases e; omega)
        have HK3 := Lib.hid ((HKS.out.trans (KeepS.of_below (hbx.mono hs))).trans (KeepS.grown hg3 (by omega) (fun r e => by cases e; exact .inl rfl)))
        clear hg8e
        rw [hsb] at hlk
        have HSB := Lib.hid hsb
        clear hsb hbx
        go_wp2_with (at_builtin; refine wpList_push rfl _ _ _ rfl slCe HO3.out rfl rfl (by first | rfl | simp) rfl rfl (by omega) (by omega) (by omega) ?_; intro g5 c5 w6 hown6 hg6 hat6)
        go_roundw
        case rel =>
          refine ⟨k + 1, n2 + 1, HLT.out, by simp, Lib.hid ?_, by omega, Lib.hid ⟨D ++ [(a0, a1)], OwnOf.snoc (l := D) (x := (a0, a1)) (enc := encC) (by simpa [encC] using hown6) rfl, by simp; omega, fun a => by rw [HT.out, List.mem_append, List.mem_append, HDM.out]⟩, below_push hb3 HO3.out (by omega) (by omega) hg6, Lib.hid (HK3.out.trans (KeepS.grown hg6 (by omega) (fun r e => .inr (HO3.out.lt r e).1)))⟩
          rw [HT.out]
          exact MapV.grown hm3 hg6 (fun e => by have := (HO3.out.lt _ e.symm).1; omega)
        case measure => simp only [intOf]; have := HLT.out; omega
      · rw [hsb] at hlk
        have HMA := Lib.hid (show (a0, a1) ∈ M by simpa [seenB] using hsb)
        clear hsb
        go_wp2
        go_roundw
        case rel =>
          refine ⟨k + 1, n2, HLT.out, by simp, Lib.hid ?_, by omega, Lib.hid ⟨D, HO.out.kept HDW.out, by omega, fun a => ?_⟩, hb.trans (HDW.out.mono hsW), Lib.hid (HKS.out.trans (KeepS.of_below (HDW.out.mono hs)))⟩
          · rw [HT.out]
            have e : seenF (M ++ [(a0, a1)]) = seenF M := by
              rw [seenF_snoc]; funext x
              by_cases h : x = (a0, a1)
              · subst h; simp [seenF, HMA.out]
              · simp [h]
            show MapV _ _ _ _ _ _ _
            rw [e]
            exact MapV.kept HM.out HDW.out
          · rw [HT.out, HDM.out, List.mem_append, List.mem_singleton]
            constructor
            · exact .inl
            · rintro (h | rfl)
              · exact h
              · exact HMA.out
        case measure => simp only [intOf]; have := HLT.out; omega
set_option maxHeartbeats 4000000 in
set_option maxRecDepth 100000 in
theorem rCells_l (r : RecD) (u : P3) (w : World) (hr : RecRd w r) :
    Calls Tryz.prog 101 #[.agg #[.int .i64 r.n, r.lv, r.vv], .agg #[.int .i64 u.1, .int .i64 u.2.1, .int .i64 u.2.2]] w fun e w' => CellsE r u e w' ∧ Below w.heap.size w w' := by
  have HR := Lib.hid hr
  clear hr
  have HAS := Lib.hid (fun (W : World) (h : RecRd W r) => Asked_l r u W h)
  obtain ⟨W0, hW0⟩ : ∃ W : World, (w.alloc (Obj.cells #[.int .i64 r.n, r.lv, r.vv] 27)).alloc (Obj.cells #[.int .i64 u.1, .int .i64 u.2.1, .int .i64 u.2.2] 29) = W := ⟨_, rfl⟩
  have kw0 : Below w.heap.size w W0 := by rw [← hW0]; exact (by repeat (first | exact Below.refl _ _ | assumption | (refine Below.drew ?_) | (refine below_drewN ?_ _) | (refine Below.alloc ?_ (by first | (simp; done) | (simp; omega) | omega) _) | (refine Below.setCell ?_ (by first | (simp; done) | (simp; omega) | omega) _) | (refine Below.trans ?_ (Below.mono (by assumption) (by first | (simp; done) | (simp; omega) | omega)))))
  have ks0 : W0.heap.size = w.heap.size + 2 := by rw [← hW0]; simp
  have RD0 := Lib.hid (show ∀ V, Below W0.heap.size W0 V → V.cell? ⟨w.heap.size, 0, none⟩ = some (.int .i64 r.n) ∧ V.cell? ⟨w.heap.size, 1, none⟩ = some (r.lv) ∧ V.cell? ⟨w.heap.size, 2, none⟩ = some (r.vv) ∧ V.cell? ⟨w.heap.size + 1, 0, none⟩ = some (.int .i64 u.1) ∧ V.cell? ⟨w.heap.size + 1, 1, none⟩ = some (.int .i64 u.2.1) ∧ V.cell? ⟨w.heap.size + 1, 2, none⟩ = some (.int .i64 u.2.2) from fun V h => by
      refine ⟨(h.cell (p := ⟨w.heap.size, 0, none⟩) (by simp; omega)).trans ?_, (h.cell (p := ⟨w.heap.size, 1, none⟩) (by simp; omega)).trans ?_, (h.cell (p := ⟨w.heap.size, 2, none⟩) (by simp; omega)).trans ?_, (h.cell (p := ⟨w.heap.size + 1, 0, none⟩) (by simp; omega)).trans ?_, (h.cell (p := ⟨w.heap.size + 1, 1, none⟩) (by simp; omega)).trans ?_, (h.cell (p := ⟨w.heap.size + 1, 2, none⟩) (by simp; omega)).trans ?_⟩ <;> (subst hW0; go_simp))
  have HW0 := Lib.hid hW0; have KW0 := Lib.hid kw0; clear hW0 kw0
  by_cases ha : askE r u = 0
  rotate_left
  · have HE := Lib.hid (fun w' => cellsE_err (rfl : askE r u = askE r u) ha w')
    have hnz : (askE r u != 0) = true := by simpa using ha
    clear ha
    generalize hA : askE r u = A at *
    have HA := Lib.hid hA; clear hA
    go_enter Tryz.func101, Tryz.ntmps101
    go_wp2_with (go_at_call 100; rw [HW0.out]; refine (HAS.out _ (HR.out.below KW0.out)).mono ?_; go_must (rintro e w1 ⟨rfl, hb1⟩; have K0 := hb1; have HB1 := Lib.hid hb1; clear hb1; obtain ⟨k0_0, k0_1, k0_2, k0_3, k0_4, k0_5⟩ := RD0.out _ K0; skip))
    go_ret2
    exact ⟨HE.out _, below_at KW0.out (by omega) K0⟩
  have HA := Lib.hid ha
  have HY := Lib.hid (fun (w' : World) (v : Value) (hs : SlOf w' w'.heap.size 2 encC v (cellsL r u)) => cellsE_ok ha hs)
  have HC := Lib.hid (fun (W : World) (h : RecRd W r) => rcells_l r u ha W h)
  clear ha
  go_enter Tryz.func101, Tryz.ntmps101
  go_wp2_with (first | (go_at_call 100; rw [HW0.out]; refine (HAS.out _ (HR.out.below KW0.out)).mono ?_; go_must (rintro e w1 ⟨rfl, hb1⟩; have K0 := hb1; have HB1 := Lib.hid hb1; clear hb1; obtain ⟨k0_0, k0_1, k0_2, k0_3, k0_4, k0_5⟩ := RD0.out _ K0; rw [HA.out])) | (go_at_call 146; refine (HC.out _ (HR.out.below (KW0.out.trans (K0.mono (by omega))))).mono ?_; go_must (rintro e w2 ⟨⟨v', rfl, hsl⟩, hb2⟩; have K' := (by first | exact below_at K0 (by have := K0.size; omega) hb2 | exact below_at K0 (by have := K0.size; omega) (by repeat (first | exact Below.refl _ _ | assumption | (refine Below.drew ?_) | (refine below_drewN ?_ _) | (refine Below.alloc ?_ (by first | (simp; done) | (simp; omega) | omega) _) | (refine Below.setCell ?_ (by first | (simp; done) | (simp; omega) | omega) _) | (refine Below.trans ?_ (Below.mono (by assumption) (by first | (simp; done) | (simp; omega) | omega))))) : Below W0.heap.size W0 w2); have HB2 := Lib.hid hb2; clear K0 hb2; (try clear k0_0); (try clear k0_1); (try clear k0_2); (try clear k0_3); (try clear k0_4); (try clear k0_5); have K0 := K'; clear K'; obtain ⟨k0_0, k0_1, k0_2, k0_3, k0_4, k0_5⟩ := RD0.out _ K0; skip)))
  go_ret2
  exact ⟨HY.out _ _ hsl, (KW0.out.trans (K0.mono (by omega)))⟩
end Go.Proofs.YtnejicklenhpeaaGreat
namespace Go.Proofs.YtnejicklenhpeaaGreat
open Go.RowKit Go.Lib Go.WideMaps
set_option linter.unusedVariables false
def BusyV (r : RecD) (u : P3) : Value := .tuple #[.int .i64 (if askE r u = 0 then (busyL r u : Int) else 0), .int .i64 (askE r u)]
theorem busyV_err {r : RecD} {u : P3} {k : Int} (h : askE r u = k) (hk : k ≠ 0) : BusyV r u = .tuple #[.int .i64 0, .int .i64 k] := by
  unfold BusyV; rw [h, if_neg hk]
theorem busyV_ok {r : RecD} {u : P3} (h : askE r u = 0) : BusyV r u = .tuple #[.int .i64 (busyL r u : Int), .int .i64 0] := by
  unfold BusyV; rw [h, if_pos rfl]
theorem busyTo_succ (K : List (Int × Int)) (i : Nat) (h : i < K.length) : busyTo K (i + 1) = max (busyTo K i) ((idxs (K.take i) K[i]).length + 1) := by
  show max _ _ = _
  congr 1
  rw [List.take_succ_eq_append_getElem h, show K.getD i (0, 0) = K[i] by simp [List.getD, h], idxs_snoc, if_pos rfl, List.length_append, List.length_singleton]
end Go.Proofs.YtnejicklenhpeaaGreat
