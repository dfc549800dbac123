/- The cells that Reach collects, plainly: each once; and that both ways give one list. -/
import Derived.Test.YtjceppinjeehiaaLinkCD
namespace Go.Proofs.Ytjceppinjeehiaa
/-- What was seen, and what is new: while a level is made. -/
def LI (seen : List C2) (st : List C2 × List C2) : Prop := st.1 = seen ++ st.2 ∧ st.2.Nodup ∧ ∀ c ∈ st.2, c ∉ seen
theorem LI.step {seen : List C2} {st : List C2 × List C2} (h : LI seen st) (go : Bool) (c l : C2) : LI seen (stepL go c st l) := by
  unfold stepL
  split
  · rename_i hg
    obtain ⟨h1, h2, h3⟩ := h
    have hn := hg.2
    rw [h1, List.mem_append] at hn
    refine ⟨by simp [h1], ?_, ?_⟩
    · simp only
      rw [List.nodup_append]
      exact ⟨h2, by simp, by intro a ha b hb e; simp at hb; subst hb; subst e; exact hn (.inr ha)⟩
    · intro x hx
      simp at hx
      rcases hx with hx | rfl
      · exact h3 x hx
      · exact fun hs => hn (.inl hs)
  · exact h
theorem LI.stepC {seen : List C2} (go : Bool) (c : C2) : ∀ (links : List C2) {st : List C2 × List C2}, LI seen st → LI seen (stepC go links st c)
  | [], _, h => h
  | l :: ls, _, h => LI.stepC go c ls (h.step go c l)
theorem LI.level {seen : List C2} (go : Bool) (links : List C2) : ∀ (now : List C2) {st : List C2 × List C2}, LI seen st → LI seen (level go links now st)
  | [], _, h => h
  | c :: cs, _, h => LI.level go links cs (h.stepC go c links)
theorem wavesF_nodup (links : List C2) (most : Nat) : ∀ (f n : Nat) (now seen : List C2), now.Nodup → (∀ c ∈ now, c ∈ seen) →
    ((wavesF links most f n now seen).map (·.1)).Nodup ∧ ∀ c ∈ (wavesF links most f n now seen).map (·.1), c ∈ now ∨ c ∉ seen
  | 0, _, _, _, _, _ => by simp [wavesF]
  | f + 1, n, now, seen, hn, hs => by
    rw [wavesF]
    split
    · simp
    · obtain ⟨h1, h2, h3⟩ := LI.level (decide (n < most)) links now (seen := seen) (st := (seen, [])) ⟨by simp, by simp, by simp⟩
      generalize level (decide (n < most)) links now (seen, []) = st at h1 h2 h3
      have ih := wavesF_nodup links most f (n + 1) st.2 st.1 h2 (fun c hc => by rw [h1]; simp [hc])
      have hnew : ∀ c ∈ (wavesF links most f (n + 1) st.2 st.1).map (·.1), c ∉ seen := fun c hc => by
        rcases ih.2 c hc with h | h
        · exact h3 c h
        · exact fun hs2 => h (by rw [h1]; simp [hs2])
      have e : (now.map (fun c => (c, n)) ++ wavesF links most f (n + 1) st.2 st.1).map (·.1) = now ++ (wavesF links most f (n + 1) st.2 st.1).map (·.1) := by
        rw [List.map_append, List.map_map]
        congr 1
        exact List.map_id _
      rw [e]
      refine ⟨List.nodup_append.2 ⟨hn, ih.1, fun a ha b hb e2 => ?_⟩, fun c hc => ?_⟩
      · subst e2
        exact hnew a hb (hs a ha)
      · rcases List.mem_append.1 hc with h | h
        · exact .inl h
        · exact .inr (hnew c h)
/-- What Reach collects. -/
def wavC (links : List C2) (k : Nat) : List C2 := (wavesL links k).map (·.1)
theorem wavC_nodup (links : List C2) (k : Nat) : (wavC links k).Nodup := (wavesF_nodup links k (k + 1) 0 [(0, 0)] [(0, 0)] (by simp) (by simp)).1
theorem mem_wavC (links : List C2) (k : Nat) (c : C2) : c ∈ wavC links k ↔ ∃ j, j ≤ k ∧ Sums links j c := by
  simp only [wavC, List.mem_map]
  constructor
  · rintro ⟨⟨d, j⟩, h, rfl⟩
    have := (mem_wavesL links k d j).1 h
    exact ⟨j, this.1, this.2.1⟩
  · rintro ⟨j, hj, hs⟩
    obtain ⟨i, hi, hd⟩ := dist_of_sums j hs
    exact ⟨(c, i), (mem_wavesL links k c i).2 ⟨by omega, hd⟩, rfl⟩
theorem wavC_near {links : List C2} (hl : ∀ l ∈ links, Near 3 l) {k : Nat} (hk : k ≤ 12) : ∀ c ∈ wavC links k, Near 36 c := fun c hc => by
  obtain ⟨j, hj, hs⟩ := (mem_wavC links k c).1 hc
  exact (hs.near hl).mono (by omega)
theorem wavC_len {links : List C2} (hl : ∀ l ∈ links, Near 3 l) {k : Nat} (hk : k ≤ 12) : (wavC links k).length ≤ 5329 :=
  nodup_len (m := 36) (wavC_nodup links k) (wavC_near hl hk)
def lt2 (a b : C2) : Prop := a.1 < b.1 ∨ (a.1 = b.1 ∧ a.2 < b.2)
theorem eq_of_lt2 : ∀ (l m : List C2), l.Pairwise lt2 → m.Pairwise lt2 → (∀ c, c ∈ l ↔ c ∈ m) → l = m
  | [], [], _, _, _ => rfl
  | [], b :: m, _, _, h => by have := (h b).2 (by simp); cases this
  | a :: l, [], _, _, h => by have := (h a).1 (by simp); cases this
  | a :: l, b :: m, hl, hm, h => by
    have hl' := List.pairwise_cons.1 hl
    have hm' := List.pairwise_cons.1 hm
    have hab : a = b := by
      have h1 := (h a).1 (by simp)
      have h2 := (h b).2 (by simp)
      rcases List.mem_cons.1 h1 with e | e1
      · exact e
      · rcases List.mem_cons.1 h2 with e | e2
        · exact e.symm
        · have x := hm'.1 a e1
          have y := hl'.1 b e2
          unfold lt2 at x y
          omega
    subst hab
    congr 1
    refine eq_of_lt2 l m hl'.2 hm'.2 (fun c => ⟨fun hc => ?_, fun hc => ?_⟩)
    · rcases List.mem_cons.1 ((h c).1 (by simp [hc])) with e | e
      · have := hl'.1 c hc; rw [e] at this; unfold lt2 at this; omega
      · exact e
    · rcases List.mem_cons.1 ((h c).2 (by simp [hc])) with e | e
      · have := hm'.1 c hc; rw [e] at this; unfold lt2 at this; omega
      · exact e
theorem sorted_lt2 {l : List C2} (hn : l.Nodup) (hs : l.Pairwise (fun a b => ¬ (b.1 < a.1 ∨ (b.1 = a.1 ∧ b.2 < a.2)))) : l.Pairwise lt2 := by
  refine (List.Pairwise.and hs hn).imp (fun {a b} h => ?_)
  obtain ⟨h1, h2⟩ := h
  unfold lt2
  have : a ≠ b := h2
  have h3 : ¬ (a.1 = b.1 ∧ a.2 = b.2) := fun e => this (Prod.ext e.1 e.2)
  omega
end Go.Proofs.Ytjceppinjeehiaa
