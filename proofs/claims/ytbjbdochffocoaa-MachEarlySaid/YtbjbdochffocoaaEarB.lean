/- The reference's early: plain part and walk. -/
import Derived.Test.YtbjbdochffocoaaEarA
namespace Go.Proofs.Ytbjbdochffocoaa
open Go.RowKit Go.Lib
set_option linter.unusedVariables false
/-- Some times are found, each out of found ones; -1 stands for one that is not. -/
structure PartE (p : List OpD) (l : List Int) : Prop where
  len : l.length = p.length
  each : ∀ i (h : i < p.length), l.getD i 0 = -1 ∨ (0 ≤ l.getD i 0 ∧ l.getD i 0 ≤ p[i].t + 100000 ∧ l.getD i 0 = earlyO (fun j => l.getD j 0) p[i] ∧ ∀ s ∈ p[i].src, 0 ≤ s.op → 0 ≤ l.getD s.op.toNat 0)
theorem PartE.put {p : List OpD} {l : List Int} (h : PartE p l) (hsm : SmallP p) (hr : Ready p) {i : Nat} (hi : i < p.length) (hs : ∀ s ∈ p[i].src, 0 ≤ s.op → 0 ≤ l.getD s.op.toNat 0) : PartE p (l.set i (earlyO (fun j => l.getD j 0) p[i])) ∧ ExtV l (l.set i (earlyO (fun j => l.getD j 0) p[i])) ∧ 0 ≤ earlyO (fun j => l.getD j 0) p[i] ∧ earlyO (fun j => l.getD j 0) p[i] ≤ p[i].t + 100000 := by
  have hil : i < l.length := by rw [h.len]; exact hi
  have hti := hsm.time i
  rw [timeP_at hi] at hti
  have hbd : 0 ≤ earlyO (fun j => l.getD j 0) p[i] ∧ earlyO (fun j => l.getD j 0) p[i] ≤ p[i].t + 100000 := by
    unfold earlyO
    cases ha : arrF (fun j => l.getD j 0) p[i].src with
    | none => simp only [Option.getD_none]; omega
    | some a =>
      simp only [Option.getD_some]
      obtain ⟨s, hs2, h0, e⟩ := (arrF_le ha).2
      obtain ⟨h1, h2⟩ := hr i hi s hs2 h0
      have h3 := hs s hs2 h0
      rw [timeP_at h1] at h2
      rcases h.each _ h1 with h4 | h4
      · omega
      · have := h4.2.1; omega
  refine ⟨?_, ?_, hbd⟩
  · rcases h.each i hi with hn | hn
    · have hne : ∀ j, 0 ≤ l.getD j 0 → (l.set i (earlyO (fun j => l.getD j 0) p[i])).getD j 0 = l.getD j 0 := fun j hj => getD_set _ _ _ _ (fun e => by subst e; omega)
      have heq : ∀ o : OpD, (∀ s ∈ o.src, 0 ≤ s.op → 0 ≤ l.getD s.op.toNat 0) → earlyO (fun j => (l.set i (earlyO (fun j => l.getD j 0) p[i])).getD j 0) o = earlyO (fun j => l.getD j 0) o := fun o ho => earlyO_eq (fun s hs h0 => hne _ (ho s hs h0))
      refine ⟨by rw [List.length_set]; exact h.len, fun j hj => ?_⟩
      by_cases e : i = j
      · subst e
        refine .inr ⟨?_, ?_, ?_, fun s hs2 h0 => ?_⟩
        · rw [getD_set_self _ _ _ hil]; exact hbd.1
        · rw [getD_set_self _ _ _ hil]; exact hbd.2
        · rw [getD_set_self _ _ _ hil, heq _ hs]
        · rw [hne _ (hs s hs2 h0)]; exact hs s hs2 h0
      · rw [getD_set _ _ _ _ e]
        rcases h.each j hj with h1 | ⟨h1, h2, h3, h4⟩
        · exact .inl h1
        · exact .inr ⟨h1, h2, by rw [heq _ h4]; exact h3, fun s hs2 h0 => by rw [hne _ (h4 s hs2 h0)]; exact h4 s hs2 h0⟩
    · have e : l.set i (earlyO (fun j => l.getD j 0) p[i]) = l := by
        rw [← hn.2.2.1, List.getD_eq_getElem?_getD, List.getElem?_eq_getElem hil]
        exact List.set_getElem_self hil
      rw [e]; exact h
  · intro j hj
    by_cases e : i = j
    · subst e
      rcases h.each i hi with hn | hn
      · omega
      · rw [getD_set_self _ _ _ hil]; exact hn.2.2.1.symm
    · exact getD_set _ _ _ _ e
theorem PartE.all {p : List OpD} {l : List Int} (h : PartE p l) (ha : ∀ i, i < p.length → 0 ≤ l.getD i 0) : Erl p (fun j => l.getD j 0) := fun i hi => by
  rcases h.each i hi with h1 | h1
  · have := ha i hi; omega
  · exact h1.2.2.1
theorem PartE.start (p : List OpD) : PartE p (List.replicate p.length (-1)) :=
  ⟨by simp, fun i hi => .inl (by simp [List.getD_eq_getElem?_getD, hi])⟩
theorem PartE.bd {p : List OpD} {l : List Int} (h : PartE p l) (hsm : SmallP p) (j : Nat) (h0 : 0 ≤ l.getD j 0) : l.getD j 0 ≤ 200000 := by
  by_cases hj : j < p.length
  · rcases h.each j hj with h1 | h1
    · omega
    · have := hsm.time j; rw [timeP_at hj] at this; have := h1.2.1; omega
  · rw [List.getD_eq_getElem?_getD, List.getElem?_eq_none (by rw [h.len]; omega)]; simp
/-- The greatest of the times so far. -/
def accE (m : List Int) (l : List SrcD) : Int := l.foldl (fun t s => if s.op < 0 then t else max t (m.getD s.op.toNat 0 + max 1 s.hops)) 0
theorem accE_snoc (m : List Int) (l : List SrcD) (s : SrcD) : accE m (l ++ [s]) = if s.op < 0 then accE m l else max (accE m l) (m.getD s.op.toNat 0 + max 1 s.hops) := by
  unfold accE; rw [List.foldl_append]; rfl
theorem accE_aux (m : List Int) : ∀ (l : List SrcD) (o : Option Int), (∀ s ∈ l, 0 ≤ s.op → 0 ≤ m.getD s.op.toNat 0) → 0 ≤ o.getD 0 → l.foldl (fun t s => if s.op < 0 then t else max t (m.getD s.op.toNat 0 + max 1 s.hops)) (o.getD 0) = (l.foldl (arrStep fun j => m.getD j 0) o).getD 0
  | [], o, _, _ => rfl
  | s :: l, o, h, h0 => by
    rw [List.foldl_cons, List.foldl_cons]
    have h1 := h s List.mem_cons_self
    have h2 := fun x hx => h x (List.mem_cons_of_mem _ hx)
    have e : (if s.op < 0 then o.getD 0 else max (o.getD 0) (m.getD s.op.toNat 0 + max 1 s.hops)) = (arrStep (fun j => m.getD j 0) o s).getD 0 := by
      unfold arrStep
      by_cases hs : s.op < 0
      · rw [if_pos hs, if_pos hs]
      · rw [if_neg hs, if_neg hs]
        have h3 := h1 (by omega)
        cases o with
        | none => simp only [Option.getD_none, Option.getD_some]; (try omega)
        | some a => simp only [Option.getD_some]; (try omega)
    rw [e]
    refine accE_aux m l _ h2 ?_
    rw [← e]
    split
    · exact h0
    · omega
theorem accE_all {m : List Int} {o : OpD} (h : ∀ s ∈ o.src, 0 ≤ s.op → 0 ≤ m.getD s.op.toNat 0) : accE m o.src = earlyO (fun j => m.getD j 0) o := by
  have := accE_aux m o.src none h (Int.le_refl _)
  rw [← arrF_foldl] at this
  exact this
theorem accE_bd {m : List Int} {l : List SrcD} (h : ∀ s ∈ l, 0 ≤ s.op → m.getD s.op.toNat 0 ≤ 200000 ∧ s.hops ≤ 12) : 0 ≤ accE m l ∧ accE m l ≤ 200012 := by
  have key : ∀ (l : List SrcD) (t : Int), (∀ s ∈ l, 0 ≤ s.op → m.getD s.op.toNat 0 ≤ 200000 ∧ s.hops ≤ 12) → 0 ≤ t ∧ t ≤ 200012 → 0 ≤ l.foldl (fun t s => if s.op < 0 then t else max t (m.getD s.op.toNat 0 + max 1 s.hops)) t ∧ l.foldl (fun t s => if s.op < 0 then t else max t (m.getD s.op.toNat 0 + max 1 s.hops)) t ≤ 200012 := fun l => by
    induction l with
    | nil => exact fun t _ h => h
    | cons s l ih =>
      intro t h ht
      rw [List.foldl_cons]
      refine ih _ (fun x hx => h x (List.mem_cons_of_mem _ hx)) ?_
      by_cases hs : s.op < 0
      · rw [if_pos hs]; exact ht
      · rw [if_neg hs]; have := h s List.mem_cons_self (by omega); omega
  exact key l 0 h (by omega)
theorem accE_ext {l m : List Int} (h : ExtV l m) {s : List SrcD} (hs : ∀ x ∈ s, 0 ≤ x.op → 0 ≤ l.getD x.op.toNat 0) : accE m s = accE l s := by
  have key : ∀ (s : List SrcD) (t : Int), (∀ x ∈ s, 0 ≤ x.op → 0 ≤ l.getD x.op.toNat 0) → s.foldl (fun t s => if s.op < 0 then t else max t (m.getD s.op.toNat 0 + max 1 s.hops)) t = s.foldl (fun t s => if s.op < 0 then t else max t (l.getD s.op.toNat 0 + max 1 s.hops)) t := fun s => by
    induction s with
    | nil => exact fun t _ => rfl
    | cons x s ih =>
      intro t hx
      rw [List.foldl_cons, List.foldl_cons]
      have h1 := hx x List.mem_cons_self
      by_cases h0 : x.op < 0
      · rw [if_pos h0, if_pos h0]; exact ih _ (fun y hy => hx y (List.mem_cons_of_mem _ hy))
      · rw [if_neg h0, if_neg h0, h _ (h1 (by omega))]; exact ih _ (fun y hy => hx y (List.mem_cons_of_mem _ hy))
  exact key s 0 hs
end Go.Proofs.Ytbjbdochffocoaa
