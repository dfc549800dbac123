/- Stable sorting, plainly: rotations, exchanges of ranges, and the steps of the merge in place. No program in sight. -/
import Derived.IntWalk
namespace Go.Proofs.Ytbjbdochffocoaa
section
variable {α : Type}
/-- The cells lo .. hi with those from m on first. -/
def rotF (lo m hi : Nat) (f : Nat → α) (x : Nat) : α := if lo ≤ x ∧ x < lo + (hi - m) then f (x + (m - lo)) else if lo + (hi - m) ≤ x ∧ x < hi then f (x - (hi - m)) else f x
/-- The n cells from a on and those from b on exchanged. -/
def rngF (a b n : Nat) (f : Nat → α) (x : Nat) : α := if a ≤ x ∧ x < a + n then f (x - a + b) else if b ≤ x ∧ x < b + n then f (x - b + a) else f x
def swF (i j : Nat) (f : Nat → α) (x : Nat) : α := if x = j then f i else if x = i then f j else f x
theorem rot_long {i j m : Nat} (f : Nat → α) (h : j < i) (hi : i ≤ m) : rotF (m - (i - j)) m (m + j) (rngF (m - i) m j f) = rotF (m - i) m (m + j) f := by
  funext x
  simp only [rotF, rngF]
  repeat' split
  all_goals (first | rfl | (congr 1; omega) | omega)
theorem rot_short {i j m : Nat} (f : Nat → α) (h : i < j) (hi : i ≤ m) : rotF (m - i) m (m + (j - i)) (rngF (m - i) (m + j - i) i f) = rotF (m - i) m (m + j) f := by
  funext x
  simp only [rotF, rngF]
  repeat' split
  all_goals (first | rfl | (congr 1; omega) | omega)
theorem rot_even {i m : Nat} (f : Nat → α) (hi : i ≤ m) : rngF (m - i) m i f = rotF (m - i) m (m + i) f := by
  funext x
  simp only [rotF, rngF]
  repeat' split
  all_goals (first | rfl | (congr 1; omega) | omega)
theorem rot_up {a k : Nat} (f : Nat → α) (h : a ≤ k) : swF k (k + 1) (rotF a (a + 1) (k + 1) f) = rotF a (a + 1) (k + 1 + 1) f := by
  funext x
  simp only [rotF, swF]
  repeat' split
  all_goals (first | rfl | (congr 1; omega) | omega)
theorem rot_down {k m : Nat} (f : Nat → α) (h : k + 1 ≤ m) : swF (k + 1) k (rotF (k + 1) m (m + 1) f) = rotF k m (m + 1) f := by
  funext x
  simp only [rotF, swF]
  repeat' split
  all_goals (first | rfl | (congr 1; omega) | omega)
theorem rot_start {a : Nat} (f : Nat → α) : rotF a (a + 1) (a + 1) f = f := by
  funext x
  simp only [rotF]
  repeat' split
  all_goals (first | rfl | (congr 1; omega) | omega)
theorem rot_end {m : Nat} (f : Nat → α) : rotF m m (m + 1) f = f := by
  funext x
  simp only [rotF]
  repeat' split
  all_goals (first | rfl | (congr 1; omega) | omega)
theorem rot_none {lo m hi : Nat} (f : Nat → α) (h1 : lo ≤ m) (h2 : m ≤ hi) (h : lo = m ∨ m = hi) : rotF lo m hi f = f := by
  funext x
  simp only [rotF]
  repeat' split
  all_goals (first | rfl | (congr 1; omega) | omega)
theorem rng_none {a b : Nat} (f : Nat → α) : rngF a b 0 f = f := by
  funext x
  simp only [rngF]
  repeat' split
  all_goals (first | rfl | (congr 1; omega) | omega)
theorem rng_step {a b n : Nat} (f : Nat → α) (h : a + n < b) : swF (a + n) (b + n) (rngF a b n f) = rngF a b (n + 1) f := by
  funext x
  simp only [rngF, swF]
  repeat' split
  all_goals (first | rfl | (congr 1; omega) | omega)
/-- Strictly in order from a to b. -/
def SrtF (lt : α → α → Prop) (f : Nat → α) (a b : Nat) : Prop := ∀ i j, a ≤ i → i < j → j < b → lt (f i) (f j)
/-- Across two halves the test tells the order. -/
def CrsF (lt : α → α → Prop) (cl : α → α → Bool) (f : Nat → α) (a m b : Nat) : Prop := ∀ i j, a ≤ i → i < m → m ≤ j → j < b → (cl (f j) (f i) = true → lt (f j) (f i)) ∧ (cl (f j) (f i) = false → lt (f i) (f j))
/-- f' is f but for a to b, where it is in order and has the same. -/
structure Mrg (lt : α → α → Prop) (f f' : Nat → α) (a b : Nat) : Prop where
  out : ∀ x, x < a ∨ b ≤ x → f' x = f x
  srt : SrtF lt f' a b
  mem : ∀ x, a ≤ x → x < b → ∃ y, a ≤ y ∧ y < b ∧ f' x = f y
  memr : ∀ y, a ≤ y → y < b → ∃ x, a ≤ x ∧ x < b ∧ f' x = f y
variable {lt : α → α → Prop} {cl : α → α → Bool}
theorem Mrg.same {f : Nat → α} {a b : Nat} (h : SrtF lt f a b) : Mrg lt f f a b :=
  ⟨fun _ _ => rfl, h, fun x h1 h2 => ⟨x, h1, h2, rfl⟩, fun x h1 h2 => ⟨x, h1, h2, rfl⟩⟩
theorem rot_in {lo m hi : Nat} (f : Nat → α) (h1 : lo ≤ m) (h2 : m ≤ hi) (x : Nat) : ∃ y, rotF lo m hi f x = f y ∧ ((lo ≤ x ∧ x < lo + (hi - m) ∧ y = x + (m - lo) ∧ m ≤ y ∧ y < hi) ∨ (lo + (hi - m) ≤ x ∧ x < hi ∧ y + (hi - m) = x ∧ lo ≤ y ∧ y < m) ∨ ((x < lo ∨ hi ≤ x) ∧ y = x)) := by
  unfold rotF
  by_cases c1 : lo ≤ x ∧ x < lo + (hi - m)
  · rw [if_pos c1]; exact ⟨_, rfl, .inl ⟨c1.1, c1.2, rfl, by omega, by omega⟩⟩
  · rw [if_neg c1]
    by_cases c2 : lo + (hi - m) ≤ x ∧ x < hi
    · rw [if_pos c2]; exact ⟨_, rfl, .inr (.inl ⟨c2.1, c2.2, by omega, by omega, by omega⟩)⟩
    · rw [if_neg c2]; exact ⟨_, rfl, .inr (.inr ⟨by omega, rfl⟩)⟩
theorem rot_back {lo m hi : Nat} (f : Nat → α) (h1 : lo ≤ m) (h2 : m ≤ hi) (y : Nat) : ∃ x, rotF lo m hi f x = f y ∧ ((m ≤ y ∧ y < hi ∧ x + (m - lo) = y) ∨ (lo ≤ y ∧ y < m ∧ x = y + (hi - m)) ∨ ((y < lo ∨ hi ≤ y) ∧ x = y)) := by
  by_cases c1 : m ≤ y ∧ y < hi
  · refine ⟨y - (m - lo), ?_, .inl ⟨c1.1, c1.2, by omega⟩⟩
    unfold rotF; rw [if_pos (by omega)]; congr 1; omega
  · by_cases c2 : lo ≤ y ∧ y < m
    · refine ⟨y + (hi - m), ?_, .inr (.inl ⟨c2.1, c2.2, rfl⟩)⟩
      unfold rotF; rw [if_neg (by omega), if_pos (by omega)]; congr 1; omega
    · refine ⟨y, ?_, .inr (.inr ⟨by omega, rfl⟩)⟩
      unfold rotF; rw [if_neg (by omega), if_neg (by omega)]
/-- One element on the left, put behind those that are less. -/
theorem mrg_left {f : Nat → α} {a b i : Nat} (hi : a + 1 ≤ i) (hib : i ≤ b) (hs : SrtF lt f (a + 1) b) (h1 : ∀ h, a + 1 ≤ h → h < i → lt (f h) (f a)) (h2 : ∀ h, i ≤ h → h < b → lt (f a) (f h)) : Mrg lt f (rotF a (a + 1) i f) a b := by
  refine ⟨fun x hx => ?_, fun x y ha hxy hy => ?_, fun x ha hb => ?_, fun y ha hb => ?_⟩
  · obtain ⟨y, e, h⟩ := rot_in f (show a ≤ a + 1 by omega) hi x
    rw [e]; congr 1; omega
  · obtain ⟨p, ep, hp⟩ := rot_in f (show a ≤ a + 1 by omega) hi x
    obtain ⟨q, eq, hq⟩ := rot_in f (show a ≤ a + 1 by omega) hi y
    rw [ep, eq]
    by_cases hpa : p = a
    · subst hpa; exact h2 q (by omega) (by omega)
    · by_cases hqa : q = a
      · subst hqa; exact h1 p (by omega) (by omega)
      · exact hs p q (by omega) (by omega) (by omega)
  · obtain ⟨p, ep, hp⟩ := rot_in f (show a ≤ a + 1 by omega) hi x
    exact ⟨p, by omega, by omega, ep⟩
  · obtain ⟨p, ep, hp⟩ := rot_back f (show a ≤ a + 1 by omega) hi y
    exact ⟨p, by omega, by omega, ep⟩
/-- One element on the right, put ahead of those that are greater. -/
theorem mrg_right {f : Nat → α} {a m i : Nat} (hi : a ≤ i) (him : i ≤ m) (hs : SrtF lt f a m) (h1 : ∀ h, a ≤ h → h < i → lt (f h) (f m)) (h2 : ∀ h, i ≤ h → h < m → lt (f m) (f h)) : Mrg lt f (rotF i m (m + 1) f) a (m + 1) := by
  refine ⟨fun x hx => ?_, fun x y ha hxy hy => ?_, fun x ha hb => ?_, fun y ha hb => ?_⟩
  · obtain ⟨y, e, h⟩ := rot_in f him (show m ≤ m + 1 by omega) x
    rw [e]; congr 1; omega
  · obtain ⟨p, ep, hp⟩ := rot_in f him (show m ≤ m + 1 by omega) x
    obtain ⟨q, eq, hq⟩ := rot_in f him (show m ≤ m + 1 by omega) y
    rw [ep, eq]
    by_cases hpa : p = m
    · subst hpa; exact h2 q (by omega) (by omega)
    · by_cases hqa : q = m
      · subst hqa; exact h1 p (by omega) (by omega)
      · exact hs p q (by omega) (by omega) (by omega)
  · obtain ⟨p, ep, hp⟩ := rot_in f him (show m ≤ m + 1 by omega) x
    exact ⟨p, by omega, by omega, ep⟩
  · obtain ⟨p, ep, hp⟩ := rot_back f him (show m ≤ m + 1 by omega) y
    exact ⟨p, by omega, by omega, ep⟩
/-- The two halves behind a rotation, each put in order, are the whole in order. -/
theorem mrg_parts {f g1 g2 : Nat → α} {a s m e b mid : Nat} (h1 : a ≤ s) (h2 : s ≤ m) (h3 : m ≤ e) (h4 : e ≤ b) (hmid : mid + m = s + e)
    (hsa : SrtF lt f a m) (hsb : SrtF lt f m b) (ht : ∀ x y z, lt x y → lt y z → lt x z)
    (hse : a < s → e < b → lt (f (s - 1)) (f e)) (hes : m < e → s < m → lt (f (e - 1)) (f s))
    (hg1 : Mrg lt (rotF s m e f) g1 a mid) (hg2 : Mrg lt g1 g2 mid b) : Mrg lt f g2 a b := by
  have hlow : ∀ x, a ≤ x → x < mid → ∃ y, g2 x = f y ∧ ((a ≤ y ∧ y < s) ∨ (m ≤ y ∧ y < e)) := fun x ha hx => by
    rw [hg2.out x (.inl hx)]
    obtain ⟨z, hz1, hz2, e1⟩ := hg1.mem x ha hx
    obtain ⟨y, e2, hy⟩ := rot_in f h2 h3 z
    exact ⟨y, e1.trans e2, by omega⟩
  have hhigh : ∀ x, mid ≤ x → x < b → ∃ y, g2 x = f y ∧ ((s ≤ y ∧ y < m) ∨ (e ≤ y ∧ y < b)) := fun x ha hx => by
    obtain ⟨z, hz1, hz2, e1⟩ := hg2.mem x ha hx
    rw [e1, hg1.out z (.inr hz1)]
    obtain ⟨y, e2, hy⟩ := rot_in f h2 h3 z
    exact ⟨y, e2, by omega⟩
  have hcross : ∀ x y, ((a ≤ x ∧ x < s) ∨ (m ≤ x ∧ x < e)) → ((s ≤ y ∧ y < m) ∨ (e ≤ y ∧ y < b)) → lt (f x) (f y) := fun x y hx hy => by
    have le1 : ∀ p q, a ≤ p → p ≤ q → q < m → f p = f q ∨ lt (f p) (f q) := fun p q a1 a2 a3 => by
      by_cases hpq : p = q
      · exact .inl (by rw [hpq])
      · exact .inr (hsa p q a1 (by omega) a3)
    have le2 : ∀ p q, m ≤ p → p ≤ q → q < b → f p = f q ∨ lt (f p) (f q) := fun p q a1 a2 a3 => by
      by_cases hpq : p = q
      · exact .inl (by rw [hpq])
      · exact .inr (hsb p q a1 (by omega) a3)
    have tr : ∀ {p q r : α}, (p = q ∨ lt p q) → lt q r → lt p r := fun h h' => by
      rcases h with h | h
      · rw [h]; exact h'
      · exact ht _ _ _ h h'
    have tr' : ∀ {p q r : α}, lt p q → (q = r ∨ lt q r) → lt p r := fun h h' => by
      rcases h' with h' | h'
      · rw [← h']; exact h
      · exact ht _ _ _ h h'
    rcases hx with hx | hx <;> rcases hy with hy | hy
    · exact hsa x y hx.1 (by omega) hy.2
    · exact tr (le1 x (s - 1) hx.1 (by omega) (by omega)) (tr' (hse (by omega) (by omega)) (le2 e y (by omega) hy.1 hy.2))
    · exact tr (le2 x (e - 1) hx.1 (by omega) (by omega)) (tr' (hes (by omega) (by omega)) (le1 s y (by omega) hy.1 hy.2))
    · exact hsb x y hx.1 (by omega) hy.2
  refine ⟨fun x hx => ?_, fun x y ha hxy hy => ?_, fun x ha hb => ?_, fun y ha hb => ?_⟩
  · rw [hg2.out x (by omega), hg1.out x (by omega)]
    obtain ⟨z, ez, hz⟩ := rot_in f h2 h3 x
    rw [ez]; congr 1; omega
  · by_cases hxm : y < mid
    · rw [hg2.out x (.inl (by omega)), hg2.out y (.inl hxm)]
      exact hg1.srt x y ha hxy hxm
    · by_cases hmx : mid ≤ x
      · exact hg2.srt x y hmx hxy hy
      · obtain ⟨p, ep, hp⟩ := hlow x ha (by omega)
        obtain ⟨q, eq, hq⟩ := hhigh y (by omega) hy
        rw [ep, eq]
        exact hcross p q hp hq
  · by_cases hxm : x < mid
    · obtain ⟨p, ep, hp⟩ := hlow x ha hxm
      exact ⟨p, by omega, by omega, ep⟩
    · obtain ⟨p, ep, hp⟩ := hhigh x (by omega) hb
      exact ⟨p, by omega, by omega, ep⟩
  · obtain ⟨z, ez, hz⟩ := rot_back f h2 h3 y
    by_cases hzm : z < mid
    · obtain ⟨x, x1, x2, ex⟩ := hg1.memr z (by omega) hzm
      exact ⟨x, x1, by omega, by rw [hg2.out x (.inl x2), ex, ez]⟩
    · obtain ⟨x, x1, x2, ex⟩ := hg2.memr z (by omega) (by omega)
      exact ⟨x, by omega, x2, by rw [ex, hg1.out z (.inr (by omega)), ez]⟩
end
end Go.Proofs.Ytbjbdochffocoaa
