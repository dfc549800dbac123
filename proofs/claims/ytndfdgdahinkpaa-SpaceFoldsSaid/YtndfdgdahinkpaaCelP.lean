/- Cells in order, each once: inserting, sorting, and that such a list is told by its members (plain). -/
import Derived.Test.YtndfdgdahinkpaaCelF
namespace Go.Proofs.Ytndfdgdahinkpaa
open Go.Lib
def cltC (a b : Int × Int) : Prop := a.1 < b.1 ∨ (a.1 = b.1 ∧ a.2 < b.2)
instance (a b : Int × Int) : Decidable (cltC a b) := inferInstanceAs (Decidable (_ ∨ _))
theorem cltC_irr (a : Int × Int) : ¬ cltC a a := by unfold cltC; omega
theorem cltC_trans {a b c : Int × Int} (h : cltC a b) (k : cltC b c) : cltC a c := by unfold cltC at *; omega
theorem cltC_tri {a b : Int × Int} (h : ¬ cltC a b) (k : a ≠ b) : cltC b a := by
  obtain ⟨a1, a2⟩ := a; obtain ⟨b1, b2⟩ := b
  have : ¬ (a1 = b1 ∧ a2 = b2) := fun e => k (Prod.ext_iff.2 e)
  unfold cltC at *; simp only at *; omega
/-- Cells in ascending order, each once. -/
def StrictC (l : List (Int × Int)) : Prop := l.Pairwise cltC
def insC (c : Int × Int) : List (Int × Int) → List (Int × Int)
  | [] => [c]
  | x :: t => if cltC x c then x :: insC c t else if x = c then x :: t else c :: x :: t
theorem mem_insC (c a : Int × Int) : ∀ l, a ∈ insC c l ↔ a = c ∨ a ∈ l
  | [] => by simp [insC]
  | x :: t => by
    unfold insC
    split
    · rw [List.mem_cons, mem_insC c a t, List.mem_cons, or_left_comm]
    · split
      · next h1 h2 => subst h2; simp
      · rw [List.mem_cons]
theorem strict_insC (c : Int × Int) : ∀ l, StrictC l → StrictC (insC c l)
  | [], _ => List.pairwise_singleton _ _
  | x :: t, h => by
    have h' := List.pairwise_cons.1 h
    unfold insC
    split
    · next h1 =>
      refine List.pairwise_cons.2 ⟨fun a ha => ?_, strict_insC c t h'.2⟩
      rcases (mem_insC c a t).1 ha with rfl | ha
      · exact h1
      · exact h'.1 a ha
    · split
      · exact h
      · next h1 h2 =>
        have hc := cltC_tri h1 h2
        refine List.pairwise_cons.2 ⟨fun a ha => ?_, h⟩
        rcases List.mem_cons.1 ha with rfl | ha
        · exact hc
        · exact cltC_trans hc (h'.1 a ha)
theorem strict_uniq : ∀ (l m : List (Int × Int)), StrictC l → StrictC m → (∀ a, a ∈ l ↔ a ∈ m) → l = m
  | [], [], _, _, _ => rfl
  | [], y :: t, _, _, h => absurd ((h y).2 (by simp)) (by simp)
  | x :: s, [], _, _, h => absurd ((h x).1 (by simp)) (by simp)
  | x :: s, y :: t, hl, hm, h => by
    have hl' := List.pairwise_cons.1 hl
    have hm' := List.pairwise_cons.1 hm
    have hxy : x = y := by
      rcases List.mem_cons.1 ((h x).1 (by simp)) with e | hx
      · exact e
      · rcases List.mem_cons.1 ((h y).2 (by simp)) with e | hy
        · exact e.symm
        · exact absurd (cltC_trans (hl'.1 y hy) (hm'.1 x hx)) (cltC_irr _)
    subst hxy
    rw [strict_uniq s t hl'.2 hm'.2 (fun a => ?_)]
    have := h a
    simp only [List.mem_cons] at this
    constructor
    · intro ha
      rcases this.1 (.inr ha) with e | e
      · subst e; exact absurd (hl'.1 _ ha) (cltC_irr _)
      · exact e
    · intro ha
      rcases this.2 (.inr ha) with e | e
      · subst e; exact absurd (hm'.1 _ ha) (cltC_irr _)
      · exact e
/-- The cells of a list in ascending order, each once. -/
def sortC (l : List (Int × Int)) : List (Int × Int) := l.foldl (fun o c => insC c o) []
theorem sortC_snoc (l : List (Int × Int)) (c : Int × Int) : sortC (l ++ [c]) = insC c (sortC l) := by simp [sortC]
theorem sortC_ind : ∀ (l : List (Int × Int)) (P : List (Int × Int) → List (Int × Int) → Prop), P [] [] → (∀ l c, P l (sortC l) → P (l ++ [c]) (insC c (sortC l))) → P l (sortC l) := by
  intro l P h0 hs
  suffices ∀ n (l : List (Int × Int)), l.length = n → P l (sortC l) from this _ l rfl
  intro n
  induction n with
  | zero => intro l hl; obtain rfl := List.length_eq_zero_iff.1 hl; exact h0
  | succ n ih =>
    intro l hl
    rcases List.eq_nil_or_concat l with rfl | ⟨s, c, rfl⟩
    · simp at hl
    · rw [List.concat_eq_append, sortC_snoc]
      exact hs s c (ih s (by simpa using hl))
theorem sortC_strict (l : List (Int × Int)) : StrictC (sortC l) := sortC_ind l (fun _ o => StrictC o) List.Pairwise.nil (fun _ c h => strict_insC c _ h)
theorem mem_sortC (l : List (Int × Int)) (a : Int × Int) : a ∈ sortC l ↔ a ∈ l := sortC_ind l (fun l o => a ∈ o ↔ a ∈ l) (by simp) (fun l c h => by rw [mem_insC, h]; simp [or_comm])
theorem sortC_eq {l m : List (Int × Int)} (h : ∀ a, a ∈ l ↔ a ∈ m) : sortC l = sortC m :=
  strict_uniq _ _ (sortC_strict l) (sortC_strict m) (fun a => by rw [mem_sortC, mem_sortC, h])
theorem insC_len (c : Int × Int) : ∀ l, (insC c l).length ≤ l.length + 1
  | [] => by simp [insC]
  | x :: t => by
    unfold insC
    split
    · have := insC_len c t; simp; omega
    · split <;> simp
theorem sortC_len (l : List (Int × Int)) : (sortC l).length ≤ l.length := sortC_ind l (fun l o => o.length ≤ l.length) (by simp) (fun l c h => by have := insC_len c (sortC l); simp; omega)
theorem sortC_pos {l : List (Int × Int)} (h : 0 < l.length) : 0 < (sortC l).length := by
  obtain ⟨x, hx⟩ := List.exists_mem_of_length_pos h
  exact List.length_pos_of_mem ((mem_sortC l x).2 hx)
/-- Where a cell is to be put. -/
theorem insC_at (c : Int × Int) : ∀ (l : List (Int × Int)) (k : Nat), k ≤ l.length → (∀ j (hj : j < l.length), j < k → cltC l[j] c) → (∀ (hk : k < l.length), ¬ cltC l[k] c) →
    insC c l = if (∃ hk : k < l.length, l[k] = c) then l else l.take k ++ c :: l.drop k
  | [], k, hk, _, _ => by
    have : k = 0 := by simpa using hk
    subst this
    simp [insC]
  | x :: t, 0, _, _, h2 => by
    have h := h2 (by simp)
    simp only [List.getElem_cons_zero] at h
    unfold insC
    rw [if_neg h]
    by_cases hx : x = c
    · rw [if_pos hx, if_pos ⟨by simp, by simpa using hx⟩]
    · rw [if_neg hx, if_neg (by simpa using hx)]; rfl
  | x :: t, k + 1, hk, h1, h2 => by
    have h := h1 0 (by simp) (by omega)
    simp only [List.getElem_cons_zero] at h
    unfold insC
    rw [if_pos h, insC_at c t k (by simpa using hk) (fun j hj hjk => h1 (j + 1) (by simpa using hj) (by omega)) (fun hk2 => h2 (by simpa using hk2))]
    by_cases hx : ∃ hk : k < t.length, t[k] = c
    · rw [if_pos hx, if_pos (by obtain ⟨a, b⟩ := hx; exact ⟨by simpa using a, by simpa using b⟩)]
    · rw [if_neg hx, if_neg (fun e => hx (by obtain ⟨a, b⟩ := e; exact ⟨by simpa using a, by simpa using b⟩))]
      rfl
/-- Moving the cells from k on by one place, from the end on: what stands at a place then. -/
def shiftC (l : List (Int × Int)) (c : Int × Int) (k : Nat) : List (Int × Int) := (l ++ [c]).take (k + 1) ++ l.drop k
theorem shiftC_len (l : List (Int × Int)) (c : Int × Int) (k : Nat) (hk : k ≤ l.length) : (shiftC l c k).length = l.length + 1 := by
  simp [shiftC]; omega
theorem shiftC_start (l : List (Int × Int)) (c : Int × Int) : shiftC l c l.length = l ++ [c] := by
  unfold shiftC; rw [List.take_of_length_le (by simp), List.drop_length, List.append_nil]
theorem shiftC_get (l : List (Int × Int)) (c : Int × Int) (k : Nat) (hk : k ≤ l.length) (j : Nat) : (shiftC l c k)[j]? = if j ≤ k then (l ++ [c])[j]? else l[j - 1]? := by
  unfold shiftC
  have ht : ((l ++ [c]).take (k + 1)).length = k + 1 := by simp; omega
  by_cases h : j ≤ k
  · rw [if_pos h, List.getElem?_append_left (by omega), List.getElem?_take_of_lt (by omega)]
  · rw [if_neg h, List.getElem?_append_right (by omega), ht, List.getElem?_drop]
    congr 1; omega
theorem shiftC_step (l : List (Int × Int)) (c : Int × Int) (k : Nat) (hk : k < l.length) : (shiftC l c (k + 1)).set (k + 1) l[k] = shiftC l c k := by
  refine List.ext_getElem? (fun j => ?_)
  rw [List.getElem?_set, shiftC_get l c (k + 1) (by omega), shiftC_get l c k (by omega), shiftC_len l c _ (by omega)]
  by_cases h : k + 1 = j
  · subst h
    rw [if_pos rfl, if_pos (by omega), if_neg (by omega)]; simp [hk]
  · rw [if_neg h]
    by_cases h2 : j ≤ k
    · rw [if_pos (by omega), if_pos h2]
    · rw [if_neg (by omega), if_neg h2]
theorem shiftC_end (l : List (Int × Int)) (c : Int × Int) (k : Nat) (hk : k ≤ l.length) : (shiftC l c k).set k c = l.take k ++ c :: l.drop k := by
  refine List.ext_getElem? (fun j => ?_)
  rw [List.getElem?_set, shiftC_get l c k hk, shiftC_len l c k hk]
  have ht : (l.take k).length = k := by simp; omega
  by_cases h : k = j
  · subst h
    rw [if_pos rfl, if_pos (by omega), List.getElem?_append_right (by omega), ht]; simp
  · rw [if_neg h]
    by_cases h2 : j ≤ k
    · rw [if_pos h2, List.getElem?_append_left (by omega), List.getElem?_append_left (by omega), List.getElem?_take_of_lt (by omega)]
    · rw [if_neg h2, List.getElem?_append_right (by omega), ht, show j - k = (j - k - 1) + 1 by omega, List.getElem?_cons_succ, List.getElem?_drop]
      congr 1; omega
theorem sorted_le {l : List (Int × Int)} (h : SortedC l) {i j : Nat} (hij : i ≤ j) (hj : j < l.length) : ¬ cltC l[j] l[i] := by
  rcases Nat.lt_or_eq_of_le hij with e | rfl
  · exact (List.pairwise_iff_getElem.1 h) i j (by omega) hj e
  · exact cltC_irr _
theorem toArr_get (l : List (Int × Int)) (j : Nat) (hj : j < l.length) : l.toArray[j]! = l[j] := by rw [getElem!_pos _ j (by simpa using hj), List.getElem_toArray]
theorem compact_strict (l : List (Int × Int)) (h : SortedC l) : ∀ m, m ≤ l.length → StrictC (compactUpTo l.toArray m) ∧ ∀ a, a ∈ compactUpTo l.toArray m ↔ a ∈ l.take m
  | 0, _ => ⟨List.Pairwise.nil, fun a => by simp [compactUpTo]⟩
  | m + 1, hm => by
    obtain ⟨h1, h2⟩ := compact_strict l h m (by omega)
    rw [compactUpTo_succ, toArr_get l m (by omega), List.take_succ_eq_append_getElem (by omega)]
    have hk : keeps l.toArray m = true ↔ (m = 0 ∨ l[m] ≠ l[m - 1]) := by
      simp only [keeps, decide_eq_true_eq]
      rw [toArr_get l m (by omega), toArr_get l (m - 1) (by omega)]
    by_cases hc : m = 0 ∨ l[m] ≠ l[m - 1]
    · rw [if_pos (hk.2 hc)]
      refine ⟨List.pairwise_append.2 ⟨h1, List.pairwise_singleton _ _, fun x hx y hy => ?_⟩, fun a => by rw [List.mem_append, List.mem_append, h2]⟩
      obtain rfl : y = l[m] := by simpa using hy
      obtain ⟨j, hj, rfl⟩ := List.getElem_of_mem ((h2 x).1 hx)
      have hjm : j < m := by rw [List.length_take] at hj; omega
      rw [List.getElem_take]
      rcases hc with rfl | hc
      · omega
      refine Decidable.byContradiction fun hn => ?_
      have a1 := sorted_le h (i := j) (j := m - 1) (by omega) (by omega)
      have a2 := sorted_le h (i := m - 1) (j := m) (by omega) (by omega)
      have e1 : l[j] = l[m] := Decidable.byContradiction fun e => hn (Decidable.byContradiction fun hh => sorted_le h (i := j) (j := m) (by omega) (by omega) (cltC_tri hh e))
      rw [e1] at a1
      exact hc (Decidable.byContradiction fun e => a1 (cltC_tri a2 e))
    · rw [if_neg (fun e => hc (hk.1 e)), List.append_nil]
      refine ⟨h1, fun a => ?_⟩
      rw [h2, List.mem_append]
      have hc2 : m ≠ 0 ∧ l[m] = l[m - 1] := ⟨fun e => hc (.inl e), Decidable.byContradiction fun e => hc (.inr e)⟩
      constructor
      · exact .inl
      · rintro (e | e)
        · exact e
        · obtain rfl : a = l[m] := by simpa using e
          rw [hc2.2]
          refine List.mem_of_getElem? (i := m - 1) ?_
          rw [List.getElem?_take_of_lt (by omega), List.getElem?_eq_getElem]
/-- A sorted rearrangement of a list, each cell once: the list's cells in order. -/
theorem compact_sortC {l m : List (Int × Int)} (h : SortedC l) (hp : l.Perm m) : compactUpTo l.toArray l.length = sortC m := by
  obtain ⟨h1, h2⟩ := compact_strict l h l.length (Nat.le_refl _)
  exact strict_uniq _ _ h1 (sortC_strict m) (fun a => by rw [h2, mem_sortC, List.take_length]; exact hp.mem_iff)
end Go.Proofs.Ytndfdgdahinkpaa
