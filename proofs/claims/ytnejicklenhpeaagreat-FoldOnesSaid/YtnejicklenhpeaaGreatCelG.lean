/- Cells in order, each once: inserting, sorting, and that such a list is told by its members (plain). The cells of a view: the program's walk. Conditions: none. -/
import Derived.Test.YtnejicklenhpeaaGreatCelA
namespace Go.Proofs.YtnejicklenhpeaaGreat
open Go.Lib
def cltC (a b : Int × Int) : Prop := a.1 < b.1 ∨ (a.1 = b.1 ∧ a.2 < b.2)
instance (a b : Int × Int) : Decidable (cltC a b) := inferInstanceAs (Decidable (_ ∨ _))
theorem cltC_irr (a : Int × Int) : ¬ cltC a a := by unfold cltC; omega
theorem cltC_trans {a b c : Int × Int} (h : cltC a b) (k : cltC b c) : cltC a c := by unfold cltC at *; omega
theorem cltC_tri {a b : Int × Int} (h : ¬ cltC a b) (k : a ≠ b) : cltC b a := by
  obtain ⟨a1, a2⟩ := a; obtain ⟨b1, b2⟩ := b
  have : ¬ (a1 = b1 ∧ a2 = b2) := fun e => k (Prod.ext_iff.2 e)
  unfold cltC at *; simp only at *; omega
/-- Cells in ascending order, each once. -/
def StrictC (l : List (Int × Int)) : Prop := l.Pairwise cltC
def insC (c : Int × Int) : List (Int × Int) → List (Int × Int)
  | [] => [c]
  | x :: t => if cltC x c then x :: insC c t else if x = c then x :: t else c :: x :: t
theorem mem_insC (c a : Int × Int) : ∀ l, a ∈ insC c l ↔ a = c ∨ a ∈ l
  | [] => by simp [insC]
  | x :: t => by
    unfold insC
    split
    · rw [List.mem_cons, mem_insC c a t, List.mem_cons, or_left_comm]
    · split
      · next h1 h2 => subst h2; simp
      · rw [List.mem_cons]
theorem strict_insC (c : Int × Int) : ∀ l, StrictC l → StrictC (insC c l)
  | [], _ => List.pairwise_singleton _ _
  | x :: t, h => by
    have h' := List.pairwise_cons.1 h
    unfold insC
    split
    · next h1 =>
      refine List.pairwise_cons.2 ⟨fun a ha => ?_, strict_insC c t h'.2⟩
      rcases (mem_insC c a t).1 ha with rfl | ha
      · exact h1
      · exact h'.1 a ha
    · split
      · exact h
      · next h1 h2 =>
        have hc := cltC_tri h1 h2
        refine List.pairwise_cons.2 ⟨fun a ha => ?_, h⟩
        rcases List.mem_cons.1 ha with rfl | ha
        · exact hc
        · exact cltC_trans hc (h'.1 a ha)
theorem strict_uniq : ∀ (l m : List (Int × Int)), StrictC l → StrictC m → (∀ a, a ∈ l ↔ a ∈ m) → l = m
  | [], [], _, _, _ => rfl
  | [], y :: t, _, _, h => absurd ((h y).2 (by simp)) (by simp)
  | x :: s, [], _, _, h => absurd ((h x).1 (by simp)) (by simp)
  | x :: s, y :: t, hl, hm, h => by
    have hl' := List.pairwise_cons.1 hl
    have hm' := List.pairwise_cons.1 hm
    have hxy : x = y := by
      rcases List.mem_cons.1 ((h x).1 (by simp)) with e | hx
      · exact e
      · rcases List.mem_cons.1 ((h y).2 (by simp)) with e | hy
        · exact e.symm
        · exact absurd (cltC_trans (hl'.1 y hy) (hm'.1 x hx)) (cltC_irr _)
    subst hxy
    rw [strict_uniq s t hl'.2 hm'.2 (fun a => ?_)]
    have := h a
    simp only [List.mem_cons] at this
    constructor
    · intro ha
      rcases this.1 (.inr ha) with e | e
      · subst e; exact absurd (hl'.1 _ ha) (cltC_irr _)
      · exact e
    · intro ha
      rcases this.2 (.inr ha) with e | e
      · subst e; exact absurd (hm'.1 _ ha) (cltC_irr _)
      · exact e
/-- The cells of a list in ascending order, each once. -/
def sortC (l : List (Int × Int)) : List (Int × Int) := l.foldl (fun o c => insC c o) []
theorem sortC_snoc (l : List (Int × Int)) (c : Int × Int) : sortC (l ++ [c]) = insC c (sortC l) := by simp [sortC]
theorem sortC_ind : ∀ (l : List (Int × Int)) (P : List (Int × Int) → List (Int × Int) → Prop), P [] [] → (∀ l c, P l (sortC l) → P (l ++ [c]) (insC c (sortC l))) → P l (sortC l) := by
  intro l P h0 hs
  suffices ∀ n (l : List (Int × Int)), l.length = n → P l (sortC l) from this _ l rfl
  intro n
  induction n with
  | zero => intro l hl; obtain rfl := List.length_eq_zero_iff.1 hl; exact h0
  | succ n ih =>
    intro l hl
    rcases List.eq_nil_or_concat l with rfl | ⟨s, c, rfl⟩
    · simp at hl
    · rw [List.concat_eq_append, sortC_snoc]
      exact hs s c (ih s (by simpa using hl))
theorem sortC_strict (l : List (Int × Int)) : StrictC (sortC l) := sortC_ind l (fun _ o => StrictC o) List.Pairwise.nil (fun _ c h => strict_insC c _ h)
theorem mem_sortC (l : List (Int × Int)) (a : Int × Int) : a ∈ sortC l ↔ a ∈ l := sortC_ind l (fun l o => a ∈ o ↔ a ∈ l) (by simp) (fun l c h => by rw [mem_insC, h]; simp [or_comm])
theorem sortC_eq {l m : List (Int × Int)} (h : ∀ a, a ∈ l ↔ a ∈ m) : sortC l = sortC m :=
  strict_uniq _ _ (sortC_strict l) (sortC_strict m) (fun a => by rw [mem_sortC, mem_sortC, h])
theorem insC_len (c : Int × Int) : ∀ l, (insC c l).length ≤ l.length + 1
  | [] => by simp [insC]
  | x :: t => by
    unfold insC
    split
    · have := insC_len c t; simp; omega
    · split <;> simp
theorem sortC_len (l : List (Int × Int)) : (sortC l).length ≤ l.length := sortC_ind l (fun l o => o.length ≤ l.length) (by simp) (fun l c h => by have := insC_len c (sortC l); simp; omega)
theorem sortC_pos {l : List (Int × Int)} (h : 0 < l.length) : 0 < (sortC l).length := by
  obtain ⟨x, hx⟩ := List.exists_mem_of_length_pos h
  exact List.length_pos_of_mem ((mem_sortC l x).2 hx)
/-- Where a cell is to be put. -/
theorem insC_at (c : Int × Int) : ∀ (l : List (Int × Int)) (k : Nat), k ≤ l.length → (∀ j (hj : j < l.length), j < k → cltC l[j] c) → (∀ (hk : k < l.length), ¬ cltC l[k] c) →
    insC c l = if (∃ hk : k < l.length, l[k] = c) then l else l.take k ++ c :: l.drop k
  | [], k, hk, _, _ => by
    have : k = 0 := by simpa using hk
    subst this
    simp [insC]
  | x :: t, 0, _, _, h2 => by
    have h := h2 (by simp)
    simp only [List.getElem_cons_zero] at h
    unfold insC
    rw [if_neg h]
    by_cases hx : x = c
    · rw [if_pos hx, if_pos ⟨by simp, by simpa using hx⟩]
    · rw [if_neg hx, if_neg (by simpa using hx)]; rfl
  | x :: t, k + 1, hk, h1, h2 => by
    have h := h1 0 (by simp) (by omega)
    simp only [List.getElem_cons_zero] at h
    unfold insC
    rw [if_pos h, insC_at c t k (by simpa using hk) (fun j hj hjk => h1 (j + 1) (by simpa using hj) (by omega)) (fun hk2 => h2 (by simpa using hk2))]
    by_cases hx : ∃ hk : k < t.length, t[k] = c
    · rw [if_pos hx, if_pos (by obtain ⟨a, b⟩ := hx; exact ⟨by simpa using a, by simpa using b⟩)]
    · rw [if_neg hx, if_neg (fun e => hx (by obtain ⟨a, b⟩ := e; exact ⟨by simpa using a, by simpa using b⟩))]
      rfl
/-- Moving the cells from k on by one place, from the end on: what stands at a place then. -/
def shiftC (l : List (Int × Int)) (c : Int × Int) (k : Nat) : List (Int × Int) := (l ++ [c]).take (k + 1) ++ l.drop k
theorem shiftC_len (l : List (Int × Int)) (c : Int × Int) (k : Nat) (hk : k ≤ l.length) : (shiftC l c k).length = l.length + 1 := by
  simp [shiftC]; omega
theorem shiftC_start (l : List (Int × Int)) (c : Int × Int) : shiftC l c l.length = l ++ [c] := by
  unfold shiftC; rw [List.take_of_length_le (by simp), List.drop_length, List.append_nil]
theorem shiftC_get (l : List (Int × Int)) (c : Int × Int) (k : Nat) (hk : k ≤ l.length) (j : Nat) : (shiftC l c k)[j]? = if j ≤ k then (l ++ [c])[j]? else l[j - 1]? := by
  unfold shiftC
  have ht : ((l ++ [c]).take (k + 1)).length = k + 1 := by simp; omega
  by_cases h : j ≤ k
  · rw [if_pos h, List.getElem?_append_left (by omega), List.getElem?_take_of_lt (by omega)]
  · rw [if_neg h, List.getElem?_append_right (by omega), ht, List.getElem?_drop]
    congr 1; omega
theorem shiftC_step (l : List (Int × Int)) (c : Int × Int) (k : Nat) (hk : k < l.length) : (shiftC l c (k + 1)).set (k + 1) l[k] = shiftC l c k := by
  refine List.ext_getElem? (fun j => ?_)
  rw [List.getElem?_set, shiftC_get l c (k + 1) (by omega), shiftC_get l c k (by omega), shiftC_len l c _ (by omega)]
  by_cases h : k + 1 = j
  · subst h
    rw [if_pos rfl, if_pos (by omega), if_neg (by omega)]; simp [hk]
  · rw [if_neg h]
    by_cases h2 : j ≤ k
    · rw [if_pos (by omega), if_pos h2]
    · rw [if_neg (by omega), if_neg h2]
theorem shiftC_end (l : List (Int × Int)) (c : Int × Int) (k : Nat) (hk : k ≤ l.length) : (shiftC l c k).set k c = l.take k ++ c :: l.drop k := by
  refine List.ext_getElem? (fun j => ?_)
  rw [List.getElem?_set, shiftC_get l c k hk, shiftC_len l c k hk]
  have ht : (l.take k).length = k := by simp; omega
  by_cases h : k = j
  · subst h
    rw [if_pos rfl, if_pos (by omega), List.getElem?_append_right (by omega), ht]; simp
  · rw [if_neg h]
    by_cases h2 : j ≤ k
    · rw [if_pos h2, List.getElem?_append_left (by omega), List.getElem?_append_left (by omega), List.getElem?_take_of_lt (by omega)]
    · rw [if_neg h2, List.getElem?_append_right (by omega), ht, show j - k = (j - k - 1) + 1 by omega, List.getElem?_cons_succ, List.getElem?_drop]
      congr 1; omega
theorem sorted_le {l : List (Int × Int)} (h : SortedC l) {i j : Nat} (hij : i ≤ j) (hj : j < l.length) : ¬ cltC l[j] l[i] := by
  rcases Nat.lt_or_eq_of_le hij with e | rfl
  · exact (List.pairwise_iff_getElem.1 h) i j (by omega) hj e
  · exact cltC_irr _
theorem toArr_get (l : List (Int × Int)) (j : Nat) (hj : j < l.length) : l.toArray[j]! = l[j] := by rw [getElem!_pos _ j (by simpa using hj), List.getElem_toArray]
theorem compact_strict (l : List (Int × Int)) (h : SortedC l) : ∀ m, m ≤ l.length → StrictC (compactUpTo l.toArray m) ∧ ∀ a, a ∈ compactUpTo l.toArray m ↔ a ∈ l.take m
  | 0, _ => ⟨List.Pairwise.nil, fun a => by simp [compactUpTo]⟩
  | m + 1, hm => by
    obtain ⟨h1, h2⟩ := compact_strict l h m (by omega)
    rw [compactUpTo_succ, toArr_get l m (by omega), List.take_succ_eq_append_getElem (by omega)]
    have hk : keeps l.toArray m = true ↔ (m = 0 ∨ l[m] ≠ l[m - 1]) := by
      simp only [keeps, decide_eq_true_eq]
      rw [toArr_get l m (by omega), toArr_get l (m - 1) (by omega)]
    by_cases hc : m = 0 ∨ l[m] ≠ l[m - 1]
    · rw [if_pos (hk.2 hc)]
      refine ⟨List.pairwise_append.2 ⟨h1, List.pairwise_singleton _ _, fun x hx y hy => ?_⟩, fun a => by rw [List.mem_append, List.mem_append, h2]⟩
      obtain rfl : y = l[m] := by simpa using hy
      obtain ⟨j, hj, rfl⟩ := List.getElem_of_mem ((h2 x).1 hx)
      have hjm : j < m := by rw [List.length_take] at hj; omega
      rw [List.getElem_take]
      rcases hc with rfl | hc
      · omega
      refine Decidable.byContradiction fun hn => ?_
      have a1 := sorted_le h (i := j) (j := m - 1) (by omega) (by omega)
      have a2 := sorted_le h (i := m - 1) (j := m) (by omega) (by omega)
      have e1 : l[j] = l[m] := Decidable.byContradiction fun e => hn (Decidable.byContradiction fun hh => sorted_le h (i := j) (j := m) (by omega) (by omega) (cltC_tri hh e))
      rw [e1] at a1
      exact hc (Decidable.byContradiction fun e => a1 (cltC_tri a2 e))
    · rw [if_neg (fun e => hc (hk.1 e)), List.append_nil]
      refine ⟨h1, fun a => ?_⟩
      rw [h2, List.mem_append]
      have hc2 : m ≠ 0 ∧ l[m] = l[m - 1] := ⟨fun e => hc (.inl e), Decidable.byContradiction fun e => hc (.inr e)⟩
      constructor
      · exact .inl
      · rintro (e | e)
        · exact e
        · obtain rfl : a = l[m] := by simpa using e
          rw [hc2.2]
          refine List.mem_of_getElem? (i := m - 1) ?_
          rw [List.getElem?_take_of_lt (by omega), List.getElem?_eq_getElem]
/-- A sorted rearrangement of a list, each cell once: the list's cells in order. -/
theorem compact_sortC {l m : List (Int × Int)} (h : SortedC l) (hp : l.Perm m) : compactUpTo l.toArray l.length = sortC m := by
  obtain ⟨h1, h2⟩ := compact_strict l h l.length (Nat.le_refl _)
  exact strict_uniq _ _ h1 (sortC_strict m) (fun a => by rw [h2, mem_sortC, List.take_length]; exact hp.mem_iff)
end Go.Proofs.YtnejicklenhpeaaGreat
namespace Go.Proofs.YtnejicklenhpeaaGreat
open Go.RowKit Go.Lib
set_option linter.unusedVariables false
theorem slCe : SlT Tryz.prog 34 31 (.agg #[.int .i64 0, .int .i64 0]) 2 16 := ⟨Tryz.underlying34, by kernel_rfl, rfl, by decide⟩
/-- The cells of the points, in order, each once. -/
def cellsL (r : RecD) (u : P3) : List (Int × Int) := sortC ((ptsL r.n r.l).map (cellC r.n u))
def CellsR (r : RecD) (u : P3) (e : Ending) (w' : World) : Prop := ∃ v, e = .returned v ∧ SlOf w' w'.heap.size 2 encC v (cellsL r u)
/-- A block that an append leaves alone. -/
theorem OwnOf.keepCell {α : Type} {enc : α → List Value} {wr w5 w7 : World} {lo : Nat} {e : TypeId} {sz : Nat} {v : Value} {l : List α} (h : OwnOf wr lo e sz enc v l) (hg : w5.grownBy w7 v.ownBlock) {b o : Nat} {x : Value} (hb : b < lo ∨ wr.heap.size ≤ b) (hc : w5.cell? ⟨b, o, none⟩ = some x) : w7.cell? ⟨b, o, none⟩ = some x :=
  hg.cell hc (fun e => by have := h.lt b e.symm; omega)
set_option maxHeartbeats 4000000 in
set_option maxRecDepth 100000 in
theorem cells_l (r : RecD) (u : P3) (hd : dirB r.n u = true) (hnp : (ptsL r.n r.l).length ≤ 1000) (b : Nat) (pv : Value) (w : World) (h : ViewAt w b r u pv) :
    Calls Tryz.prog 143 #[.pointer (some ⟨b, 0, none⟩)] w fun e w' => CellsR r u e w' ∧ Below w.heap.size w w' := by
  obtain ⟨qa, qc, g, off, rfl, hlc, hcm, hx⟩ := SlOf.at (enc := encP) (fun _ => rfl) un_pts sz_pts h.pts
  unfold maxLen at hcm
  have HX := Lib.hid hx; clear hx
  have HC := Lib.hid (fun (p : P3) (W : World) => cell_l r.n u p hd W)
  have v8 := h.c8
  have hblt := h.lt
  have f0 := h.c0
  have f1 := h.c1
  have f2 := h.c2
  have f3 := h.c3
  have f4 := h.c4
  have HCL := Lib.hid (show cellsL r u = sortC ((ptsL r.n r.l).map (cellC r.n u)) from rfl)
  have HCR := Lib.hid (fun (e : Ending) (w' : World) (v : Value) (he : e = .returned v) (hs : SlOf w' w'.heap.size 2 encC v (cellsL r u)) => show CellsR r u e w' from ⟨v, he, hs⟩)
  clear h
  generalize axK r.n u = kk at *
  have VD := Lib.hid (show ∀ V, Below w.heap.size w V → V.cell? ⟨b, 0, none⟩ = some (.int .i64 r.n) ∧ V.cell? ⟨b, 1, none⟩ = some (.int .i64 kk) ∧ V.cell? ⟨b, 2, none⟩ = some (.int .i64 u.1) ∧ V.cell? ⟨b, 3, none⟩ = some (.int .i64 u.2.1) ∧ V.cell? ⟨b, 4, none⟩ = some (.int .i64 u.2.2) from
    fun V h => ⟨(h.cell (p := ⟨b, 0, none⟩) hblt).trans f0, (h.cell (p := ⟨b, 1, none⟩) hblt).trans f1, (h.cell (p := ⟨b, 2, none⟩) hblt).trans f2, (h.cell (p := ⟨b, 3, none⟩) hblt).trans f3, (h.cell (p := ⟨b, 4, none⟩) hblt).trans f4⟩)
  clear f0 f1 f2 f3 f4
  generalize ptsL r.n r.l = L at *
  go_enter Tryz.func143, Tryz.ntmps143
  go_wp2
  go_loopw [3, 11] (fun t3 t11 wr => ∃ i : Nat, i ≤ L.length ∧ t11 = .int .i64 (i : Nat) ∧ Hid (i = 0 → t3 = .slice none 0 0) ∧ Hid (OwnOf wr w.heap.size 31 2 encC t3 ((L.take i).map (cellC r.n u))) ∧ Below w.heap.size w wr) (fun _ t11 _ => L.length - (intOf t11).toNat)
  case atStart => exact ⟨0, Nat.zero_le _, rfl, Lib.hid (fun _ => rfl), Lib.hid (OwnOf.nil _ _ _ _ _), Below.refl _ _⟩
  case round =>
    obtain ⟨i, hi, rfl, HN, HO, hk⟩ := hrel
    have hsr := hk.size
    have HKK := Lib.hid hk
    by_cases hlt : i < L.length
    rotate_left
    · have hie : i = L.length := by omega
      have HO2 := Lib.hid (show OwnOf wr w.heap.size 31 2 encC u3 (L.map (cellC r.n u)) by have := HO.out; rwa [hie, List.take_length] at this)
      have HML := Lib.hid (show (L.map (cellC r.n u)).length = L.length by simp)
      clear HO VD HC HX v8 hk
      generalize L.map (cellC r.n u) = M at *
      generalize L.length = n at *
      subst hie
      by_cases hpos : 0 < M.length
      · have HSO := Lib.hid (sorts_ok wr w.heap.size _ M HO2.out hsr (by rw [HML.out]; omega) hpos)
        have HPOS := Lib.hid hpos
        clear hpos
        go_wp2_with (first | (go_at_call 98; refine HSO.out.mono ?_; go_must (rintro e w1 ⟨rfl, l', hp', hs', ho', hg'⟩; obtain ⟨g1, c1, rfl, hlo, hlc1, hcm1, hrow⟩ := ho'.row (by rw [hp'.length_eq]; exact HPOS.out); have HP := Lib.hid hp'; have HS := Lib.hid hs'; have HG := Lib.hid hg'; have HR := Lib.hid hrow; clear hp' hs' ho' hg' hrow; generalize hl' : l'.length = m at *; have HM := Lib.hid hl'; clear hl')) | (go_at_call 99; refine ((show Calls Tryz.prog 99 #[.slice (some ⟨g1, 0, none⟩) m c1] w1 (CmpR g1 c1 l'.toArray w1) from by have := compact_any l'.toArray g1 c1 w1 HR.out (by simp [HM.out]; have := HP.out.length_eq; have := HM.out; have := HML.out; omega) (by simp [HM.out]; exact hlc1) (by unfold maxLen at hcm1; exact hcm1); simpa [HM.out] using this)).mono ?_; go_must (rintro e w2 ⟨rfl, hrow2, hb2, -⟩)))
        have HE := Lib.hid (show compactUpTo l'.toArray l'.toArray.size = cellsL r u by rw [HCL.out]; exact compact_sortC HS.out HP.out)
        have hcl : (compactUpTo l'.toArray l'.toArray.size).length ≤ c1 := by
          rw [HE.out, HCL.out]
          refine Nat.le_trans (sortC_len _) ?_
          rw [← HP.out.length_eq, HM.out]; exact hlc1
        rw [HE.out] at hcl hrow2
        have HE2 := Lib.hid (show (compactUpTo l'.toArray l'.length).length = (cellsL r u).length from congrArg List.length HE.out)
        have hwb : Below w.heap.size w w1 := HKK.out.grown HG.out hsr (fun r e => (HO2.out.lt r e).1)
        refine bodyPost_ret (v := .slice (some ⟨g1, 0, none⟩) (compactUpTo l'.toArray l'.length).length c1) (by simp only [results, Tryz.results143]; first | (go_simp; done) | (go_simp; rfl)) rfl ⟨HCR.out _ _ (.slice (some ⟨g1, 0, none⟩) (cellsL r u).length c1) (by rw [HE2.out]) (hrow2.sl hcl hcm1), hwb.trans (hb2.mono hlo)⟩
      · obtain rfl : M = [] := List.eq_nil_of_length_eq_zero (by omega)
        have hu3 : u3 = .slice none 0 0 := HN.out (by have := HML.out; simp at this; omega)
        subst hu3
        have HE := Lib.hid (show cellsL r u = [] from HCL.out)
        go_wp2_with (first | (go_at_call 98; refine (sort_nil _).mono ?_; go_must (rintro e w1 ⟨rfl, rfl⟩)) | (go_at_call 99; refine (compact_nil _).mono ?_; go_must (rintro e w2 ⟨rfl, rfl⟩)))
        refine bodyPost_ret (v := .slice none 0 0) (by simp only [results, Tryz.results143]; first | (go_simp; done) | (go_simp; rfl)) rfl ⟨HCR.out _ _ (.slice none 0 0) rfl (by rw [HE.out]; exact Sl.nil _ _ _), HKK.out⟩
    obtain ⟨-, hii, hg, hc⟩ := HX.out i hlt
    have rd := fun j hj => (hk.cell (p := ⟨g, off + 3 * i + j, none⟩) hg).trans (hc j hj)
    clear hc
    have HT := Lib.hid (show (L.take (i + 1)).map (cellC r.n u) = (L.take i).map (cellC r.n u) ++ [cellC r.n u L[i]] by rw [List.take_succ_eq_append_getElem hlt, List.map_append]; rfl)
    have HLT := Lib.hid hlt
    have hacc : ((L.take i).map (cellC r.n u)).length + 1 ≤ 1073741824 := by rw [List.length_map, List.length_take]; omega
    generalize (L.take i).map (cellC r.n u) = D at *
    have HCP := Lib.hid (fun (W : World) => HC.out L[i] W)
    generalize cellC r.n u L[i] = E at *
    generalize L[i] = p at *
    obtain ⟨p0, p1, p2⟩ := p
    obtain ⟨x, y⟩ := E
    have r0 : wr.cell? ⟨g, off + 3 * i, none⟩ = some (.int .i64 p0) := rd 0 (by omega)
    have r1 : wr.cell? ⟨g, off + 3 * i + 1, none⟩ = some (.int .i64 p1) := rd 1 (by omega)
    have r2 : wr.cell? ⟨g, off + 3 * i + 2, none⟩ = some (.int .i64 p2) := rd 2 (by omega)
    clear rd
    obtain ⟨W, hW⟩ : ∃ W : World, wr.alloc (Obj.cells #[.int .i64 p0, .int .i64 p1, .int .i64 p2] 29) = W := ⟨_, rfl⟩
    have KR := Lib.hid (show Below wr.heap.size wr W by rw [← hW]; exact (by repeat (first | exact Below.refl _ _ | assumption | (refine Below.drew ?_) | (refine below_drewN ?_ _) | (refine Below.alloc ?_ (by first | (simp; done) | (simp; omega) | omega) _) | (refine Below.setCell ?_ (by first | (simp; done) | (simp; omega) | omega) _) | (refine Below.trans ?_ (Below.mono (by assumption) (by first | (simp; done) | (simp; omega) | omega))))))
    have kz : W.heap.size = wr.heap.size + 1 := by rw [← hW]; simp
    have x0 : W.cell? ⟨wr.heap.size, 0, none⟩ = some (.int .i64 p0) := by subst hW; go_simp
    have x1 : W.cell? ⟨wr.heap.size, 1, none⟩ = some (.int .i64 p1) := by subst hW; go_simp
    have x2 : W.cell? ⟨wr.heap.size, 2, none⟩ = some (.int .i64 p2) := by subst hW; go_simp
    have KB := Lib.hid (below_at hk hsr KR.out)
    obtain ⟨v0, v1, v2, v3, v4⟩ := VD.out W KB.out
    have g1 : wr.heap.size < W.heap.size := by omega
    have g2 : b < W.heap.size := by omega
    have HWW := Lib.hid hW; clear hW
    go_wp2
    rw [HWW.out]
    clear r0 r1 r2 hii v8
    go_region_held3 (fun w' => Below w.heap.size W w' ∧ w'.cell? ⟨wr.heap.size, 0, none⟩ = some (.int .i64 p0) ∧ w'.cell? ⟨wr.heap.size, 1, none⟩ = some (.int .i64 p1) ∧ w'.cell? ⟨wr.heap.size, 2, none⟩ = some (.int .i64 p2) ∧ w'.cell? ⟨b, 0, none⟩ = some (.int .i64 r.n) ∧ w'.cell? ⟨b, 1, none⟩ = some (.int .i64 kk) ∧ w'.cell? ⟨b, 2, none⟩ = some (.int .i64 u.1) ∧ w'.cell? ⟨b, 3, none⟩ = some (.int .i64 u.2.1) ∧ w'.cell? ⟨b, 4, none⟩ = some (.int .i64 u.2.2)) ((first | exact hS7 | ((refine (fun kb => ⟨kb.mono (by omega), (kb.cell (p := ⟨wr.heap.size, 0, none⟩) g1).trans x0, (kb.cell (p := ⟨wr.heap.size, 1, none⟩) g1).trans x1, (kb.cell (p := ⟨wr.heap.size, 2, none⟩) g1).trans x2, (kb.cell (p := ⟨b, 0, none⟩) g2).trans v0, (kb.cell (p := ⟨b, 1, none⟩) g2).trans v1, (kb.cell (p := ⟨b, 2, none⟩) g2).trans v2, (kb.cell (p := ⟨b, 3, none⟩) g2).trans v3, (kb.cell (p := ⟨b, 4, none⟩) g2).trans v4⟩) (?_ : Below W.heap.size W _)); exact (by repeat (first | (with_reducible exact Below.refl _ _) | (with_reducible assumption) | (with_reducible refine Below.drew ?_) | (with_reducible refine Below.setCell ?_ (by first | (simp; done) | (simp; omega) | omega) _) | (with_reducible refine Below.alloc ?_ (by first | (simp; done) | (simp; omega) | omega) _) | (with_reducible refine below_drewN ?_ _) | (refine Below.trans ?_ (Below.mono (by with_reducible assumption) (by first | (simp; done) | (simp; omega) | omega)))))))) (first | (go_at_call 108; refine (HCP.out _).mono ?_; go_must (rintro e w5 ⟨rfl, hb5⟩; have hw5 : Below W.heap.size W w5 := (by exact (by repeat (first | (with_reducible exact Below.refl _ _) | (with_reducible assumption) | (with_reducible refine Below.drew ?_) | (with_reducible refine Below.setCell ?_ (by first | (simp; done) | (simp; omega) | omega) _) | (with_reducible refine Below.alloc ?_ (by first | (simp; done) | (simp; omega) | omega) _) | (with_reducible refine below_drewN ?_ _) | (refine Below.trans ?_ (Below.mono (by with_reducible assumption) (by first | (simp; done) | (simp; omega) | omega)))))); have hs5 := hw5.size; have HO5 := Lib.hid (HO.out.kept (below_at KR.out (by omega) hw5)); have hsz5 : w.heap.size ≤ w5.heap.size := (by omega))) | (refine step_push rfl _ _ _ (by rfl) slCe HO5.out (by rfl) (by rfl) (heap_alloc_new _ _) rfl rfl hacc (by omega) hsz5 (World.grownBy_alloc _ _ _) ?_; intro g7 c7 w7 hown7 hg7 hat7; have hS7 : Below w.heap.size W w7 ∧ w7.cell? ⟨wr.heap.size, 0, none⟩ = some (.int .i64 p0) ∧ w7.cell? ⟨wr.heap.size, 1, none⟩ = some (.int .i64 p1) ∧ w7.cell? ⟨wr.heap.size, 2, none⟩ = some (.int .i64 p2) ∧ w7.cell? ⟨b, 0, none⟩ = some (.int .i64 r.n) ∧ w7.cell? ⟨b, 1, none⟩ = some (.int .i64 kk) ∧ w7.cell? ⟨b, 2, none⟩ = some (.int .i64 u.1) ∧ w7.cell? ⟨b, 3, none⟩ = some (.int .i64 u.2.1) ∧ w7.cell? ⟨b, 4, none⟩ = some (.int .i64 u.2.2) := ⟨below_push (hw5.mono (by omega)) HO5.out (Nat.le_refl _) hsz5 hg7, HO.out.keepCell hg7 (.inr (Nat.le_refl _)) ((hw5.cell (p := ⟨wr.heap.size, 0, none⟩) g1).trans x0), HO.out.keepCell hg7 (.inr (Nat.le_refl _)) ((hw5.cell (p := ⟨wr.heap.size, 1, none⟩) g1).trans x1), HO.out.keepCell hg7 (.inr (Nat.le_refl _)) ((hw5.cell (p := ⟨wr.heap.size, 2, none⟩) g1).trans x2), HO.out.keepCell hg7 (.inl hblt) ((hw5.cell (p := ⟨b, 0, none⟩) g2).trans v0), HO.out.keepCell hg7 (.inl hblt) ((hw5.cell (p := ⟨b, 1, none⟩) g2).trans v1), HO.out.keepCell hg7 (.inl hblt) ((hw5.cell (p := ⟨b, 2, none⟩) g2).trans v2), HO.out.keepCell hg7 (.inl hblt) ((hw5.cell (p := ⟨b, 3, none⟩) g2).trans v3), HO.out.keepCell hg7 (.inl hblt) ((hw5.cell (p := ⟨b, 4, none⟩) g2).trans v4)⟩))
    go_wp2
    go_roundw
    case rel => exact ⟨i + 1, HLT.out, by simp, Lib.hid (fun h => by omega), Lib.hid (by rw [HT.out]; exact OwnOf.snoc (enc := encC) (by simpa [encC] using hown7) rfl), KB.out.trans hS7.1⟩
    case measure => simp only [intOf]; have := HLT.out; omega
end Go.Proofs.YtnejicklenhpeaaGreat
