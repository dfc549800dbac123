/- Programs of operations, plainly: the earliest times. -/
import Derived.Test.YtbjbdochffocoaaMachB
namespace Go.Proofs.Ytbjbdochffocoaa
open Go.RowKit
theorem nodup_le {α : Type} [DecidableEq α] : ∀ (l m : List α), l.Nodup → (∀ a ∈ l, a ∈ m) → l.length ≤ m.length
  | [], m, _, _ => by simp
  | a :: l, m, h, hs => by
    have h1 := List.nodup_cons.1 h
    have h2 := nodup_le l (m.erase a) h1.2 (fun b hb => by
      have hb2 := hs b (List.mem_cons_of_mem _ hb)
      exact (List.mem_erase_of_ne (fun e => h1.1 (by rw [← e]; exact hb))).2 hb2)
    have h3 := List.length_erase_of_mem (hs a List.mem_cons_self)
    have h4 : 0 < m.length := List.length_pos_of_mem (hs a List.mem_cons_self)
    simp only [List.length_cons]
    omega
/-- How many operations come earlier. -/
def rankP (p : List OpD) (i : Nat) : Nat := ((List.range p.length).filter fun j => decide (timeP p j < timeP p i)).length
theorem rank_lt {p : List OpD} {i j : Nat} (hj : j < p.length) (h : timeP p j < timeP p i) : rankP p j + 1 ≤ rankP p i := by
  unfold rankP
  rw [← List.length_cons (a := j)]
  refine nodup_le _ _ (List.nodup_cons.2 ⟨fun e => ?_, List.Pairwise.filter _ List.nodup_range⟩) (fun a ha => ?_)
  · have := (List.mem_filter.1 e).2; simp at this
  · rcases List.mem_cons.1 ha with e | e
    · subst e; exact List.mem_filter.2 ⟨List.mem_range.2 hj, by simpa using h⟩
    · obtain ⟨e1, e2⟩ := List.mem_filter.1 e
      exact List.mem_filter.2 ⟨e1, by simp only [decide_eq_true_eq] at e2 ⊢; omega⟩
theorem rank_le {p : List OpD} {i : Nat} (hi : i < p.length) : rankP p i + 1 ≤ p.length := by
  unfold rankP
  rw [← List.length_cons (a := i)]
  refine Nat.le_trans (nodup_le _ (List.range p.length) (List.nodup_cons.2 ⟨fun e => ?_, List.Pairwise.filter _ List.nodup_range⟩) (fun a ha => ?_)) (by simp)
  · have := (List.mem_filter.1 e).2; simp at this
  · rcases List.mem_cons.1 ha with e | e
    · subst e; exact List.mem_range.2 hi
    · exact (List.mem_filter.1 e).1
theorem max_le' {a b c : Int} (h1 : a ≤ c) (h2 : b ≤ c) : max a b ≤ c := by omega
/-- Earliest times are not below 0, small, and not later than the times were. -/
theorem early_bd {p : List OpD} (hv : validP p = true) (hr : Ready p) {v : Nat → Int} (he : Erl p v) {first : Int} (hf : ∀ i (h : i < p.length), first ≤ p[i].t) : ∀ i, i < p.length → 0 ≤ v i ∧ v i ≤ 12 * (rankP p i : Int) ∧ v i ≤ timeP p i - first := by
  refine ready_ind hr (fun i hi ih => ?_)
  rw [he i hi]
  unfold earlyO
  cases ha : arrF v p[i].src with
  | none =>
    simp only [Option.getD_none]
    have := hf i hi
    rw [timeP_at hi]
    omega
  | some a =>
    simp only [Option.getD_some]
    obtain ⟨h1, s, hs, h0, e⟩ := arrF_le ha
    obtain ⟨i1, i2, i3⟩ := ih s hs h0
    obtain ⟨r1, r2⟩ := hr i hi s hs h0
    obtain ⟨-, -, k1, k2⟩ := src_op ((valid_at hv hi).2 s hs) h0
    have hlt : timeP p s.op.toNat < timeP p i := by rw [timeP_at hi]; omega
    have := rank_lt r1 hlt
    rw [timeP_at hi]
    omega
/-- q is p, but for where its sources lie, with the times v. -/
structure Timed (v : Nat → Int) (p q : List OpD) : Prop where
  len : q.length = p.length
  at_ : ∀ i (h : i < q.length) (h2 : i < p.length), q[i].t = v i ∧ q[i].c = p[i].c ∧ q[i].unit = p[i].unit ∧ q[i].kind = p[i].kind ∧ q[i].src = p[i].src
section
variable {p q : List OpD} {v : Nat → Int}
theorem Timed.time (h : Timed v p q) {i : Nat} (hi : i < p.length) : timeP q i = v i := by
  rw [timeP_at (by rw [h.len]; exact hi)]
  exact (h.at_ i (by rw [h.len]; exact hi) hi).1
theorem Timed.valid (h : Timed v p q) (hv : validP p = true) (ht : ∀ i, i < p.length → -100000 ≤ v i ∧ v i ≤ 100000) : validP q = true := by
  simp only [validP, Bool.and_eq_true, decide_eq_true_eq, List.all_eq_true] at hv ⊢
  refine ⟨by rw [h.len]; exact hv.1, fun x hx => ?_⟩
  obtain ⟨i, hi, rfl⟩ := List.getElem_of_mem hx
  have hi2 : i < p.length := by rw [← h.len]; exact hi
  obtain ⟨e1, e2, e3, e4, e5⟩ := h.at_ i hi hi2
  have h1 := hv.2 _ (List.getElem_mem hi2)
  have h2 := ht i hi2
  have hn : (q.length : Int) = (p.length : Int) := by rw [h.len]
  rw [hn]
  unfold opB headB at h1 ⊢
  rw [e1, e2, e3, e4, e5]
  simp only [Bool.and_eq_true, btwM_iff] at h1 ⊢
  exact ⟨⟨⟨h1.1.1.1, h2, h1.1.1.2.2⟩, h1.1.2⟩, h1.2⟩
theorem Timed.arr (h : Timed v p q) (hr : Ready p) {i : Nat} (hi : i < q.length) (hi2 : i < p.length) : arrF (timeP q) q[i].src = arrF v p[i].src := by
  rw [(h.at_ i hi hi2).2.2.2.2]
  exact arrF_eq (fun s hs h0 => h.time (hr i hi2 s hs h0).1)
theorem Timed.ready (h : Timed v p q) (hr : Ready p) (he : Erl p v) : Ready q := by
  intro i hi s hs h0
  have hi2 : i < p.length := by rw [← h.len]; exact hi
  obtain ⟨e1, -, -, -, e5⟩ := h.at_ i hi hi2
  rw [e5] at hs
  obtain ⟨r1, r2⟩ := hr i hi2 s hs h0
  refine ⟨by rw [h.len]; exact r1, ?_⟩
  rw [h.time r1, e1, he i hi2]
  unfold earlyO
  cases ha : arrF v p[i].src with
  | none => have := arrF_none.1 ha s hs; omega
  | some a => exact (arrF_le ha).1 s hs h0
theorem Timed.slack (h : Timed v p q) (hr : Ready p) (he : Erl p v) {i : Nat} (hi : i < q.length) : slackO (timeP q) q[i] = 0 ∨ (slackO (timeP q) q[i] = -1 ∧ q[i].t = 0) := by
  have hi2 : i < p.length := by rw [← h.len]; exact hi
  have e1 := (h.at_ i hi hi2).1
  have e := he i hi2
  unfold earlyO at e
  unfold slackO
  rw [h.arr hr hi hi2, e1, e]
  cases ha : arrF v p[i].src with
  | none => exact .inr ⟨rfl, rfl⟩
  | some a => simp only [Option.getD_some]; rw [if_neg (by omega)]; exact .inl (by omega)
theorem Timed.run (h : Timed v p q) {l : List Int} (h1 : RunOk p l) : RunOk q l := by
  refine ⟨h1.len.trans h.len.symm, fun i hi => ?_⟩
  obtain ⟨-, -, -, e4, e5⟩ := h.at_ i hi (by rw [← h.len]; exact hi)
  have h3 := h1.val i (by rw [← h.len]; exact hi)
  rw [h3]; unfold valO; rw [e4, e5]
end
/-- What the law on earliest times says. -/
theorem early_law {p q : List OpD} {v : Nat → Int} (h : Timed v p q) (hv : validP p = true) (hr : Ready p) (he : Erl p v) (hn : p.length ≤ 4000) {first : Int} (hf : ∀ i (h : i < p.length), first ≤ p[i].t) :
    validP q = true ∧ Ready q ∧ (∀ i (hi : i < q.length) (hi2 : i < p.length), 0 ≤ q[i].t ∧ q[i].t ≤ p[i].t - first) ∧ (∀ i (hi : i < q.length), slackO (timeP q) q[i] = 0 ∨ (slackO (timeP q) q[i] = -1 ∧ q[i].t = 0)) := by
  have hb := early_bd hv hr he hf
  refine ⟨h.valid hv (fun i hi => ?_), h.ready hr he, fun i hi hi2 => ?_, fun i hi => h.slack hr he hi⟩
  · have := hb i hi; have := rank_le hi; omega
  · have := hb i hi2; rw [timeP_at hi2] at this; rw [(h.at_ i hi hi2).1]; omega
end Go.Proofs.Ytbjbdochffocoaa
