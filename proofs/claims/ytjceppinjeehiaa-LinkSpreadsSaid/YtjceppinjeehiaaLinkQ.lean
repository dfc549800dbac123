/- Which cells come in the waves, and when: plainly. -/
import Derived.Test.YtjceppinjeehiaaLinkP
namespace Go.Proofs.Ytjceppinjeehiaa
/-- Just n links lead to a cell. -/
def Sums (links : List C2) : Nat → C2 → Prop
  | 0, c => c = (0, 0)
  | n + 1, c => ∃ b, Sums links n b ∧ ∃ l ∈ links, c = add2 b l
/-- .. and no fewer. -/
def Dist (links : List C2) (c : C2) (n : Nat) : Prop := Sums links n c ∧ ∀ k, k < n → ¬ Sums links k c
theorem Dist.uniq {links : List C2} {c : C2} {n m : Nat} (h : Dist links c n) (k : Dist links c m) : n = m := by
  rcases Nat.lt_trichotomy n m with h1 | h1 | h1
  · exact absurd h.1 (k.2 n h1)
  · exact h1
  · exact absurd k.1 (h.2 m h1)
theorem dist_of_sums {links : List C2} {c : C2} : ∀ (n : Nat), Sums links n c → ∃ k, k ≤ n ∧ Dist links c k := by
  intro n
  induction n using Nat.strongRecOn with
  | ind n ih =>
    intro h
    by_cases hk : ∃ k, k < n ∧ Sums links k c
    · obtain ⟨k, h1, h2⟩ := hk
      obtain ⟨j, h3, h4⟩ := ih k h1 h2
      exact ⟨j, by omega, h4⟩
    · exact ⟨n, Nat.le_refl _, h, fun k h1 h2 => hk ⟨k, h1, h2⟩⟩
theorem Sums.near {links : List C2} (hl : ∀ l ∈ links, Near 3 l) : ∀ {n : Nat} {c : C2}, Sums links n c → Near (3 * n) c
  | 0, c, h => by
    have h : c = (0, 0) := h
    subst h
    simp [Near]
  | n + 1, c, h => by
    obtain ⟨b, hb, l, hlm, rfl⟩ := h
    have := (Sums.near hl hb).add (hl l hlm)
    exact this.mono (by omega)
theorem mem_stepL (c l : C2) (st : List C2 × List C2) (x : C2) :
    (x ∈ (stepL true c st l).1 ↔ x ∈ st.1 ∨ x = add2 c l) ∧ (x ∈ (stepL true c st l).2 ↔ x ∈ st.2 ∨ (x ∉ st.1 ∧ x = add2 c l)) := by
  unfold stepL
  by_cases h : add2 c l ∈ st.1
  · rw [if_neg (by simp [h])]
    refine ⟨⟨.inl, ?_⟩, ⟨.inl, ?_⟩⟩
    · rintro (h1 | rfl)
      · exact h1
      · exact h
    · rintro (h1 | ⟨h1, rfl⟩)
      · exact h1
      · exact absurd h h1
  · rw [if_pos ⟨rfl, h⟩]
    simp only [List.mem_append, List.mem_singleton, true_and]
    refine ⟨fun hx => ?_, fun hx => ?_⟩
    · rcases hx with h1 | rfl
      · exact .inl h1
      · exact .inr ⟨h, rfl⟩
    · rcases hx with h1 | ⟨_, h1⟩
      · exact .inl h1
      · exact .inr h1
/-- Two steps of this kind make one. -/
theorem mem_join {A B C : C2 → Prop} {s s' t t' u u' : List C2} (h1 : ∀ x, (x ∈ t ↔ x ∈ s ∨ A x) ∧ (x ∈ t' ↔ x ∈ s' ∨ (x ∉ s ∧ A x))) (h2 : ∀ x, (x ∈ u ↔ x ∈ t ∨ B x) ∧ (x ∈ u' ↔ x ∈ t' ∨ (x ∉ t ∧ B x))) (hC : ∀ x, C x ↔ A x ∨ B x) (x : C2) :
    (x ∈ u ↔ x ∈ s ∨ C x) ∧ (x ∈ u' ↔ x ∈ s' ∨ (x ∉ s ∧ C x)) := by
  rw [(h2 x).1, (h2 x).2, (h1 x).1, (h1 x).2, hC]
  by_cases hs : x ∈ s <;> by_cases ha : A x <;> by_cases hb : B x <;> simp [hs, ha, hb]
theorem mem_stepC (c : C2) : ∀ (links : List C2) (st : List C2 × List C2) (x : C2),
    (x ∈ (stepC true links st c).1 ↔ x ∈ st.1 ∨ ∃ l ∈ links, x = add2 c l) ∧ (x ∈ (stepC true links st c).2 ↔ x ∈ st.2 ∨ (x ∉ st.1 ∧ ∃ l ∈ links, x = add2 c l))
  | [], st, x => by simp [stepC]
  | l :: ls, st, x => mem_join (A := fun x => x = add2 c l) (B := fun x => ∃ l ∈ ls, x = add2 c l) (C := fun x => ∃ m ∈ l :: ls, x = add2 c m) (mem_stepL c l st) (mem_stepC c ls (stepL true c st l)) (fun x => by simp only [List.mem_cons, exists_eq_or_imp]) x
theorem mem_level (links : List C2) : ∀ (now : List C2) (st : List C2 × List C2) (x : C2),
    (x ∈ (level true links now st).1 ↔ x ∈ st.1 ∨ ∃ c ∈ now, ∃ l ∈ links, x = add2 c l) ∧ (x ∈ (level true links now st).2 ↔ x ∈ st.2 ∨ (x ∉ st.1 ∧ ∃ c ∈ now, ∃ l ∈ links, x = add2 c l))
  | [], st, x => by simp [level]
  | c :: cs, st, x => mem_join (A := fun x => ∃ l ∈ links, x = add2 c l) (B := fun x => ∃ c ∈ cs, ∃ l ∈ links, x = add2 c l) (C := fun x => ∃ d ∈ c :: cs, ∃ l ∈ links, x = add2 d l) (mem_stepC c links st) (mem_level links cs (stepC true links st c)) (fun x => by simp only [List.mem_cons, exists_eq_or_imp]) x
/-- What stands at the head of a level. -/
structure Lvl (links : List C2) (n : Nat) (now seen : List C2) : Prop where
  now : ∀ c, c ∈ now ↔ Dist links c n
  seen : ∀ c, c ∈ seen ↔ ∃ k, k ≤ n ∧ Sums links k c
theorem lvl_0 (links : List C2) : Lvl links 0 [(0, 0)] [(0, 0)] := by
  refine ⟨fun c => ?_, fun c => ?_⟩
  · simp [Dist, Sums]
  · constructor
    · intro h; simp at h; exact ⟨0, Nat.le_refl _, h⟩
    · rintro ⟨k, hk, h⟩
      obtain rfl : k = 0 := by omega
      simpa [Sums] using h
theorem Lvl.next {links : List C2} {n : Nat} {now seen : List C2} (h : Lvl links n now seen) : Lvl links (n + 1) (level true links now (seen, [])).2 (level true links now (seen, [])).1 := by
  have key : ∀ c, (∃ b ∈ now, ∃ l ∈ links, c = add2 b l) → Sums links (n + 1) c := by
    rintro c ⟨b, hb, l, hl, rfl⟩
    exact ⟨b, ((h.now b).1 hb).1, l, hl, rfl⟩
  have back : ∀ c, c ∉ seen → Sums links (n + 1) c → ∃ b ∈ now, ∃ l ∈ links, c = add2 b l := by
    rintro c hc ⟨b, hb, l, hl, rfl⟩
    refine ⟨b, (h.now b).2 ⟨hb, fun k hk hs => hc ((h.seen _).2 ⟨k + 1, by omega, b, hs, l, hl, rfl⟩)⟩, l, hl, rfl⟩
  refine ⟨fun c => ?_, fun c => ?_⟩
  · rw [(mem_level links now (seen, []) c).2]
    simp only [List.not_mem_nil, false_or]
    constructor
    · rintro ⟨h1, h2⟩
      exact ⟨key c h2, fun k hk hs => h1 ((h.seen c).2 ⟨k, by omega, hs⟩)⟩
    · rintro ⟨h1, h2⟩
      have hc : c ∉ seen := fun hm => by
        obtain ⟨k, hk, hs⟩ := (h.seen c).1 hm
        exact h2 k (by omega) hs
      exact ⟨hc, back c hc h1⟩
  · rw [(mem_level links now (seen, []) c).1]
    constructor
    · rintro (h1 | h1)
      · obtain ⟨k, hk, hs⟩ := (h.seen c).1 h1
        exact ⟨k, by omega, hs⟩
      · exact ⟨n + 1, Nat.le_refl _, key c h1⟩
    · rintro ⟨k, hk, hs⟩
      by_cases hm : c ∈ seen
      · exact .inl hm
      · refine .inr (back c hm ?_)
        by_cases he : k = n + 1
        · rw [← he]; exact hs
        · exact absurd ((h.seen c).2 ⟨k, by omega, hs⟩) hm
theorem no_more {links : List C2} {n : Nat} (h : ∀ c, ¬ Dist links c n) : ∀ k, n ≤ k → ∀ c, ¬ Dist links c k := by
  intro k hk
  induction k with
  | zero => obtain rfl : n = 0 := by omega
            exact h
  | succ k ih =>
    by_cases he : n = k + 1
    · rw [← he]; exact h
    · rintro c ⟨⟨b, hb, l, hl, rfl⟩, h2⟩
      refine ih (by omega) b ⟨hb, fun j hj hs => h2 (j + 1) (by omega) ⟨b, hs, l, hl, rfl⟩⟩
theorem mem_wavesF (links : List C2) (most : Nat) : ∀ (f n : Nat) (now seen : List C2), f + n = most + 1 → Lvl links n now seen → ∀ c k, (c, k) ∈ wavesF links most f n now seen ↔ n ≤ k ∧ k ≤ most ∧ Dist links c k := by
  intro f
  induction f with
  | zero => intro n now seen hf h c k; simp [wavesF]; omega
  | succ f ih =>
    intro n now seen hf h c k
    unfold wavesF
    by_cases hn : now = []
    · rw [if_pos hn]
      simp only [List.not_mem_nil, false_iff]
      rintro ⟨h1, h2, h3⟩
      exact no_more (n := n) (fun c hd => by have := (h.now c).2 hd; rw [hn] at this; cases this) k h1 c h3
    · rw [if_neg hn]
      simp only [List.mem_append, List.mem_map, Prod.mk.injEq]
      by_cases hg : n < most
      · rw [decide_eq_true hg, ih (n + 1) _ _ (by omega) h.next c k]
        constructor
        · rintro (⟨b, hb, rfl, rfl⟩ | ⟨h1, h2, h3⟩)
          · exact ⟨Nat.le_refl _, by omega, (h.now b).1 hb⟩
          · exact ⟨by omega, h2, h3⟩
        · rintro ⟨h1, h2, h3⟩
          by_cases he : k = n
          · exact .inl ⟨c, (h.now c).2 (he ▸ h3), rfl, he.symm⟩
          · exact .inr ⟨by omega, h2, h3⟩
      · rw [decide_eq_false hg, level_stop]
        obtain rfl : n = most := by omega
        obtain rfl : f = 0 := by omega
        simp only [wavesF, List.not_mem_nil, or_false]
        constructor
        · rintro ⟨b, hb, rfl, rfl⟩
          exact ⟨Nat.le_refl _, Nat.le_refl _, (h.now b).1 hb⟩
        · rintro ⟨h1, h2, h3⟩
          obtain rfl : k = n := by omega
          exact ⟨c, (h.now c).2 h3, rfl, rfl⟩
/-- **In the waves a cell comes with k just where it takes k links, at most 'most'.** -/
theorem mem_wavesL (links : List C2) (most : Nat) (c : C2) (k : Nat) : (c, k) ∈ wavesL links most ↔ k ≤ most ∧ Dist links c k := by
  have := mem_wavesF links most (most + 1) 0 [(0, 0)] [(0, 0)] (by omega) (lvl_0 links) c k
  simpa [wavesL] using this
end Go.Proofs.Ytjceppinjeehiaa
