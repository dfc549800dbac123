/- Maps whose keys are cells or points: how often each comes, and which have been seen. -/
import Derived.Test.YtndfdgdahinkpaaSafeQ
namespace Go.Proofs.Ytndfdgdahinkpaa
open Go.RowKit Go.WideMaps
def ceV (c : Int × Int) : Value := .agg #[.int .i64 c.1, .int .i64 c.2]
theorem ceV_inj (x y : Int × Int) (h : ceV x = ceV y) : x = y := by
  obtain ⟨a, b⟩ := x; obtain ⟨d, e⟩ := y
  simp [ceV] at h
  simp [h]
def wf2 (c : Int × Int) : Prop := (Lit.int .i64 c.1).wf = true ∧ (Lit.int .i64 c.2).wf = true
theorem law_cel : KeyLaw Try.prog 31 := deep_law_laid (m := 8) (by kernel_rfl) (by decide) (of_decide_eq_true (by kernel_rfl)) (by kernel_rfl) (by kernel_rfl)
set_option maxRecDepth 100000 in
theorem key_cel (k : Int × Int) (h : wf2 k) : ∃ kl, keyOf Try.prog 31 (ceV k) = some kl := by
  obtain ⟨x, y⟩ := k
  obtain ⟨hx, hy⟩ := h
  simp only at hx hy
  have e1 : Try.prog.cellsOf 3 = 1 := by kernel_rfl
  have e2 : Try.prog.cellsOf 31 = 2 := by kernel_rfl
  have e3 : Try.prog.keyType 31 = true := by kernel_rfl
  obtain ⟨m, hm⟩ := types_some
  have h2 : Try.prog.keyLits (m + 3) 31 [.int .i64 x, .int .i64 y] = some [.int .i64 x, .int .i64 y] := by
    simp [Program.keyLits, Try.underlying31, Try.underlying3, e1, e2, List.range_succ, hx, hy]
  unfold keyOf
  rw [hm]
  simp [ceV, Try.underlying31, e2, e3, Value.formed, Value.cells, h2]
/-- How often each cell comes. -/
def cntC (K : List (Int × Int)) (a : Int × Int) : Option Value := if idxs K a = [] then none else some (.int .i64 ((idxs K a).length : Int))
theorem cntC_get (K : List (Int × Int)) (a : Int × Int) : (cntC K a).getD (.int .i64 0) = .int .i64 ((idxs K a).length : Int) := by
  unfold cntC
  by_cases h : idxs K a = []
  · simp [h]
  · simp [h]
theorem cntC_snoc (K : List (Int × Int)) (a : Int × Int) : cntC (K ++ [a]) = fun x => if x = a then some (.int .i64 (((idxs K a).length + 1 : Nat) : Int)) else cntC K x := by
  funext x
  unfold cntC
  rw [idxs_snoc]
  by_cases h : x = a
  · subst h; simp
  · have : ¬ (a = x) := fun e => h e.symm
    simp [h, this]
abbrev CntCM (w : World) (b n : Nat) (K : List (Int × Int)) : Prop := MapV Try.prog 31 ceV w b n (cntC K)
theorem CntCM.made (w : World) : CntCM (w.alloc (.map #[] 0)) w.heap.size 0 [] := by
  have := MapV.made Try.prog 31 ceV w
  simpa [CntCM, show cntC [] = fun _ => none from by funext a; simp [cntC, idxs_nil]] using this
set_option maxRecDepth 100000 in
theorem CntCM.look {w : World} {b n : Nat} {K : List (Int × Int)} (h : CntCM w b n K) (a : Int × Int) (ha : wf2 a) (V : World) (hV : Below w.heap.size w V) :
    (Instr.lookup 121 (.map (some b)) (ceV a) false).run Try.prog V = .ok (.int .i64 ((idxs K a).length : Int)) V := by
  obtain ⟨kl, hk⟩ := key_cel a ha
  have := MapV.look (h.kept hV) (Maps.Keyed.of_law law_cel) (t := 121) Try.underlying121 (zv_int V) hk
  rw [this, cntC_get]
set_option maxRecDepth 100000 in
theorem CntCM.step {w : World} {b n : Nat} {K : List (Int × Int)} (h : CntCM w b n K) (hn : n < 1000000) (a : Int × Int) (ha : wf2 a) :
    ∃ (st : Nat) (w1 : World), (Instr.mapEntry 121 (.map (some b)) (ceV a)).run Try.prog w = .ok (.tuple #[.int .i64 ((idxs K a).length : Int), goInt st]) w1 ∧ w.grownBy w1 (some b) ∧
      (Instr.lookup 121 (.map (some b)) (ceV a) false).run Try.prog w1 = .ok (.int .i64 ((idxs K a).length : Int)) w1 ∧
      ∀ w2, w2.heap[b]? = w1.heap[b]? → ∃ w3, (Instr.entryStore 121 (.map (some b)) (goInt st) (.int .i64 (((idxs K a).length : Int) + 1))).run Try.prog w2 = .ok () w3 ∧ CntCM w3 b (n + 1) (K ++ [a]) ∧ w2.grownBy w3 (some b) := by
  obtain ⟨kl, hk⟩ := key_cel a ha
  obtain ⟨st, w1, hr, hg1, hst⟩ := MapV.entry h law_cel (t := 121) Try.underlying121 ceV_inj hn zv_int hk
  rw [cntC_get] at hr
  have he := MapV.entered h law_cel (t := 121) Try.underlying121 ceV_inj hn zv_int hk hr
  have hl := MapV.look he (Maps.Keyed.of_law law_cel) (t := 121) Try.underlying121 (zv_int w1) hk
  simp only [if_pos, Option.getD_some] at hl
  refine ⟨st, w1, hr, hg1, hl, fun w2 hw2 => ?_⟩
  obtain ⟨w3, h3, hm, hg3⟩ := hst w2 (.int .i64 (((idxs K a).length : Int) + 1)) hw2
  exact ⟨w3, h3, by unfold CntCM; rw [cntC_snoc]; exact hm, hg3⟩
/-- Which keys have been seen. -/
def seenF {α : Type} [DecidableEq α] (K : List α) (a : α) : Option Value := if a ∈ K then some (.bool true) else none
def seenB {α : Type} [DecidableEq α] (K : List α) (a : α) : Bool := decide (a ∈ K)
theorem seenF_get {α : Type} [DecidableEq α] (K : List α) (a : α) : (seenF K a).getD (.bool false) = .bool (seenB K a) := by
  unfold seenF seenB
  by_cases h : a ∈ K
  · simp [h]
  · simp [h]
theorem seenF_snoc {α : Type} [DecidableEq α] (K : List α) (a : α) : seenF (K ++ [a]) = fun x => if x = a then some (.bool true) else seenF K x := by
  funext x
  unfold seenF
  by_cases h : x = a
  · simp [h]
  · simp [h]
theorem zv_bool (u : World) : (zeroValue 4).run Try.prog u = .ok (.bool false) u := by kernel_rfl
abbrev SeenC (w : World) (b n : Nat) (K : List (Int × Int)) : Prop := MapV Try.prog 31 ceV w b n (seenF K)
theorem SeenC.made (w : World) : SeenC (w.alloc (.map #[] 0)) w.heap.size 0 [] := by
  have := MapV.made Try.prog 31 ceV w
  simpa [SeenC, show (seenF ([] : List (Int × Int))) = fun _ => none from by funext a; simp [seenF]] using this
set_option maxRecDepth 100000 in
theorem SeenC.look {w : World} {b n : Nat} {K : List (Int × Int)} (h : SeenC w b n K) (a : Int × Int) (ha : wf2 a) (V : World) (hV : Below w.heap.size w V) :
    (Instr.lookup 160 (.map (some b)) (ceV a) false).run Try.prog V = .ok (.bool (seenB K a)) V := by
  obtain ⟨kl, hk⟩ := key_cel a ha
  have := MapV.look (h.kept hV) (Maps.Keyed.of_law law_cel) (t := 160) Try.underlying160 (zv_bool V) hk
  rw [this, seenF_get]
set_option maxRecDepth 100000 in
theorem SeenC.step {w : World} {b n : Nat} {K : List (Int × Int)} (h : SeenC w b n K) (hn : n < 1000000) (a : Int × Int) (ha : wf2 a) :
    ∃ w1, (Instr.mapUpdate 160 (.map (some b)) (ceV a) (.bool true)).run Try.prog w = .ok () w1 ∧ SeenC w1 b (n + 1) (K ++ [a]) ∧ w.grownBy w1 (some b) := by
  obtain ⟨kl, hk⟩ := key_cel a ha
  obtain ⟨w1, hr, hm, hg⟩ := MapV.put h (Maps.Keyed.of_law law_cel) (t := 160) Try.underlying160 ceV_inj hn hk (.bool true)
  exact ⟨w1, hr, by unfold SeenC; rw [seenF_snoc]; exact hm, hg⟩
abbrev SeenP (w : World) (b n : Nat) (K : List P3) : Prop := MapV Try.prog 29 ptV w b n (seenF K)
theorem SeenP.made (w : World) : SeenP (w.alloc (.map #[] 0)) w.heap.size 0 [] := by
  have := MapV.made Try.prog 29 ptV w
  simpa [SeenP, show (seenF ([] : List P3)) = fun _ => none from by funext a; simp [seenF]] using this
set_option maxRecDepth 100000 in
theorem SeenP.look {w : World} {b n : Nat} {K : List P3} (h : SeenP w b n K) (a : P3) (ha : wf3 a) (V : World) (hV : Below w.heap.size w V) :
    (Instr.lookup 69 (.map (some b)) (ptV a) false).run Try.prog V = .ok (.bool (seenB K a)) V := by
  obtain ⟨kl, hk⟩ := key_pnt a ha
  have := MapV.look (h.kept hV) (Maps.Keyed.of_law law_pnt) (t := 69) Try.underlying69 (zv_bool V) hk
  rw [this, seenF_get]
set_option maxRecDepth 100000 in
theorem SeenP.step {w : World} {b n : Nat} {K : List P3} (h : SeenP w b n K) (hn : n < 1000000) (a : P3) (ha : wf3 a) :
    ∃ w1, (Instr.mapUpdate 69 (.map (some b)) (ptV a) (.bool true)).run Try.prog w = .ok () w1 ∧ SeenP w1 b (n + 1) (K ++ [a]) ∧ w.grownBy w1 (some b) := by
  obtain ⟨kl, hk⟩ := key_pnt a ha
  obtain ⟨w1, hr, hm, hg⟩ := MapV.put h (Maps.Keyed.of_law law_pnt) (t := 69) Try.underlying69 ptV_inj hn hk (.bool true)
  exact ⟨w1, hr, by unfold SeenP; rw [seenF_snoc]; exact hm, hg⟩
/-- The greatest number of times that a cell comes, till a place. -/
def busyTo (K : List (Int × Int)) : Nat → Nat
  | 0 => 0
  | i + 1 => max (busyTo K i) (idxs (K.take (i + 1)) (K.getD i (0, 0))).length
theorem busyTo_le (K : List (Int × Int)) : ∀ i, busyTo K i ≤ K.length
  | 0 => Nat.zero_le _
  | i + 1 => by
    have h1 := busyTo_le K i
    have h2 := idxs_len (K.take (i + 1)) (K.getD i (0, 0))
    rw [List.length_take] at h2
    show max _ _ ≤ _
    omega
def busyL (r : RecD) (u : P3) : Nat := busyTo ((ptsL r.n r.l).map (cellC r.n u)) (ptsL r.n r.l).length
end Go.Proofs.Ytndfdgdahinkpaa
