/- Stable sorting, plainly: insertion, and blocks that are merged. No program in sight. -/
import Derived.Test.YtbjbdochffocoaaStabA
import Derived.Sort.WalkA
namespace Go.Proofs.Ytbjbdochffocoaa
open Go.Sort Go.Proofs
set_option linter.unusedSectionVars false
section
variable {α : Type} [Inhabited α] {lt : α → α → Prop} {cl : α → α → Bool}
def getF (d : Array α) (x : Nat) : α := d[x]!
theorem getF_swp (d : Array α) {i j : Nat} (hi : i < d.size) (hj : j < d.size) : getF (swp d i j) = swF i j (getF d) := by
  funext x
  unfold getF swF
  exact swp_get d hi hj x
theorem Mrg.comp {f g h : Nat → α} {a i : Nat} (h1 : Mrg lt f g a i) (h2 : Mrg lt g h a (i + 1)) : Mrg lt f h a (i + 1) := by
  refine ⟨fun x hx => by rw [h2.out x hx, h1.out x (by omega)], h2.srt, fun x ha hb => ?_, fun y ha hb => ?_⟩
  · obtain ⟨y, y1, y2, e⟩ := h2.mem x ha hb
    by_cases hy : y < i
    · obtain ⟨z, z1, z2, e2⟩ := h1.mem y y1 hy
      exact ⟨z, z1, by omega, e.trans e2⟩
    · exact ⟨y, y1, y2, e.trans (h1.out y (.inr (by omega)))⟩
  · by_cases hy : y < i
    · obtain ⟨z, z1, z2, e⟩ := h1.memr y ha hy
      obtain ⟨x, x1, x2, e2⟩ := h2.memr z z1 (by omega)
      exact ⟨x, x1, x2, e2.trans e⟩
    · obtain ⟨x, x1, x2, e2⟩ := h2.memr y ha hb
      exact ⟨x, x1, x2, e2.trans (h1.out y (.inr (by omega)))⟩
theorem ins_inner {f : Nat → α} {a i : Nat} (hs : SrtF lt f a i) (ht : ∀ x y z, lt x y → lt y z → lt x z)
    (hc : ∀ p, a ≤ p → p < i → (cl (f i) (f p) = true → lt (f i) (f p)) ∧ (cl (f i) (f p) = false → lt (f p) (f i))) :
    ∀ (k : Nat) (d : Array α), a ≤ k → k ≤ i → i < d.size → getF d = rotF k i (i + 1) f → (∀ h, k ≤ h → h < i → lt (f i) (f h)) →
      (insInner cl a k d).size = d.size ∧ Mrg lt f (getF (insInner cl a k d)) a (i + 1) := by
  intro k
  induction k with
  | zero =>
    intro d ha hk hd hf hh
    rw [insInner_stop cl a 0 d (.inl (by omega))]
    refine ⟨rfl, ?_⟩
    rw [hf]
    exact mrg_right (by omega) (by omega) hs (fun h h1 h2 => by omega) (fun h h1 h2 => hh h h1 h2)
  | succ k ih =>
    intro d ha hk hd hf hh
    by_cases hka : k + 1 ≤ a
    · rw [insInner_stop cl a (k + 1) d (.inl hka)]
      refine ⟨rfl, ?_⟩
      rw [hf]
      exact mrg_right (by omega) (by omega) hs (fun h h1 h2 => by omega) (fun h h1 h2 => hh h h1 h2)
    have e1 : d[k + 1]! = f i := by
      have := congrFun hf (k + 1)
      unfold getF at this
      rw [this]; unfold rotF
      by_cases hki : k + 1 = i
      · rw [if_pos (by omega)]; congr 1; omega
      · rw [if_pos (by omega)]; congr 1; omega
    have e2 : d[k]! = f k := by
      have := congrFun hf k
      unfold getF at this
      rw [this]; unfold rotF
      rw [if_neg (by omega), if_neg (by omega)]
    cases hcl : cl (f i) (f k) with
    | false =>
      rw [insInner_stop cl a (k + 1) d (.inr (by rw [show k + 1 - 1 = k from rfl, e1, e2, hcl]))]
      refine ⟨rfl, ?_⟩
      rw [hf]
      have hki := (hc k (by omega) (by omega)).2 hcl
      refine mrg_right (by omega) (by omega) hs (fun h h1 h2 => ?_) (fun h h1 h2 => hh h h1 h2)
      by_cases hhk : h = k
      · rw [hhk]; exact hki
      · exact ht _ _ _ (hs h k h1 (by omega) (by omega)) hki
    | true =>
      rw [insInner_go cl a (k + 1) d (by omega) (by rw [show k + 1 - 1 = k from rfl, e1, e2, hcl])]
      have hki := (hc k (by omega) (by omega)).1 hcl
      obtain ⟨r1, r2⟩ := ih (swp d (k + 1) k) (by omega) (by omega) (by rw [size_swp]; exact hd) (by rw [getF_swp d (by omega) (by omega), hf, rot_down f (by omega)]) (fun h h1 h2 => by
        by_cases hhk : h = k
        · rw [hhk]; exact hki
        · exact hh h (by omega) h2)
      exact ⟨by rw [show k + 1 - 1 = k from rfl, r1, size_swp], r2⟩
theorem ins_outer {f : Nat → α} {a b : Nat} (ht : ∀ x y z, lt x y → lt y z → lt x z)
    (hc : ∀ p q, a ≤ p → p < q → q < b → (cl (f q) (f p) = true → lt (f q) (f p)) ∧ (cl (f q) (f p) = false → lt (f p) (f q))) :
    ∀ (m i : Nat) (d : Array α), b - i ≤ m → a ≤ i → i ≤ b → b ≤ d.size → Mrg lt f (getF d) a i →
      (insOuter cl a b i d).size = d.size ∧ Mrg lt f (getF (insOuter cl a b i d)) a b := by
  intro m
  induction m with
  | zero =>
    intro i d hm hai hib hd hg
    rw [insOuter_stop cl a b i d (by omega)]
    have : i = b := by omega
    exact ⟨rfl, this ▸ hg⟩
  | succ m ih =>
    intro i d hm hai hib hd hg
    by_cases hlt : i < b
    rotate_left
    · rw [insOuter_stop cl a b i d (by omega)]
      have : i = b := by omega
      exact ⟨rfl, this ▸ hg⟩
    rw [insOuter_go cl a b i d hlt]
    have hfi : getF d i = f i := hg.out i (.inr (Nat.le_refl _))
    obtain ⟨s1, s2⟩ := ins_inner (cl := cl) (f := getF d) hg.srt ht (fun p h1 h2 => by
      obtain ⟨y, y1, y2, e⟩ := hg.mem p h1 h2
      rw [hfi, e]
      exact hc y i y1 (by omega) hlt) i d hai (Nat.le_refl _) (by omega) (rot_end _).symm (fun h h1 h2 => by omega)
    obtain ⟨r1, r2⟩ := ih (i + 1) (insInner cl a i d) (by omega) (by omega) (by omega) (by omega) (hg.comp s2)
    exact ⟨r1.trans s1, r2⟩
theorem ins_sorted {a b : Nat} (d : Array α) (ht : ∀ x y z, lt x y → lt y z → lt x z) (hab : a ≤ b) (hb : b ≤ d.size)
    (hc : ∀ p q, a ≤ p → p < q → q < b → (cl (getF d q) (getF d p) = true → lt (getF d q) (getF d p)) ∧ (cl (getF d q) (getF d p) = false → lt (getF d p) (getF d q))) :
    (insertionSort cl d a b).size = d.size ∧ Mrg lt (getF d) (getF (insertionSort cl d a b)) a b := by
  unfold insertionSort
  by_cases hab2 : a = b
  · subst hab2
    rw [insOuter_stop cl a a (a + 1) d (by omega)]
    exact ⟨rfl, Mrg.same (fun i j h1 h2 h3 => by omega)⟩
  · exact ins_outer ht hc (b - a) (a + 1) d (by omega) (by omega) (by omega) hb (Mrg.same (fun i j h1 h2 h3 => by omega))
/-- From lo to hi lies in order what lay there at first. -/
structure Blk (lt : α → α → Prop) (f0 f : Nat → α) (lo hi : Nat) : Prop where
  srt : SrtF lt f lo hi
  mem : ∀ x, lo ≤ x → x < hi → ∃ y, lo ≤ y ∧ y < hi ∧ f x = f0 y
  memr : ∀ y, lo ≤ y → y < hi → ∃ x, lo ≤ x ∧ x < hi ∧ f x = f0 y
theorem Blk.out {f0 f f' : Nat → α} {lo hi a b : Nat} (h : Blk lt f0 f lo hi) (g : ∀ x, x < a ∨ b ≤ x → f' x = f x) (hd : hi ≤ a ∨ b ≤ lo) : Blk lt f0 f' lo hi := by
  have e : ∀ x, lo ≤ x → x < hi → f' x = f x := fun x h1 h2 => g x (by omega)
  refine ⟨fun i j h1 h2 h3 => ?_, fun x h1 h2 => ?_, fun y h1 h2 => ?_⟩
  · rw [e i (by omega) (by omega), e j (by omega) (by omega)]; exact h.srt i j h1 h2 h3
  · rw [e x h1 h2]; exact h.mem x h1 h2
  · obtain ⟨x, x1, x2, ex⟩ := h.memr y h1 h2
    exact ⟨x, x1, x2, (e x x1 x2).trans ex⟩
theorem Blk.merged {f0 f f' : Nat → α} {lo m hi : Nat} (h1 : Blk lt f0 f lo m) (h2 : Blk lt f0 f m hi) (hlm : lo ≤ m) (hmh : m ≤ hi) (h : Mrg lt f f' lo hi) : Blk lt f0 f' lo hi := by
  refine ⟨h.srt, fun x a b => ?_, fun y a b => ?_⟩
  · obtain ⟨z, z1, z2, ez⟩ := h.mem x a b
    by_cases hz : z < m
    · obtain ⟨y, y1, y2, ey⟩ := h1.mem z z1 hz
      exact ⟨y, y1, by omega, ez.trans ey⟩
    · obtain ⟨y, y1, y2, ey⟩ := h2.mem z (by omega) z2
      exact ⟨y, by omega, y2, ez.trans ey⟩
  · by_cases hy : y < m
    · obtain ⟨z, z1, z2, ez⟩ := h1.memr y a hy
      obtain ⟨x, x1, x2, ex⟩ := h.memr z z1 (by omega)
      exact ⟨x, x1, x2, ex.trans ez⟩
    · obtain ⟨z, z1, z2, ez⟩ := h2.memr y (by omega) b
      obtain ⟨x, x1, x2, ex⟩ := h.memr z (by omega) z2
      exact ⟨x, x1, x2, ex.trans ez⟩
def Apart (lt : α → α → Prop) (cl : α → α → Bool) (f0 : Nat → α) (n : Nat) : Prop := ∀ p q, p < q → q < n → (cl (f0 q) (f0 p) = true → lt (f0 q) (f0 p)) ∧ (cl (f0 q) (f0 p) = false → lt (f0 p) (f0 q))
theorem Blk.cross {f0 f : Nat → α} {lo m hi n : Nat} (h1 : Blk lt f0 f lo m) (h2 : Blk lt f0 f m hi) (hn : hi ≤ n) (h0 : Apart lt cl f0 n) : CrsF lt cl f lo m hi := by
  intro i j a b c d
  obtain ⟨p, p1, p2, ep⟩ := h1.mem i a b
  obtain ⟨q, q1, q2, eq⟩ := h2.mem j c d
  rw [ep, eq]
  exact h0 p q (by omega) (by omega)
/-- All blocks of b cells from lo on. -/
def Blks (lt : α → α → Prop) (f0 f : Nat → α) (n b lo : Nat) : Prop := ∀ s, b ∣ s → lo ≤ s → s < n → Blk lt f0 f s (min (s + b) n)
/-- All full blocks of b cells ahead of hi. -/
def Full (lt : α → α → Prop) (f0 f : Nat → α) (b hi : Nat) : Prop := ∀ s, b ∣ s → s < hi → Blk lt f0 f s (s + b)
theorem dvd_next {d a s : Nat} (h1 : d ∣ a) (h2 : d ∣ s) (h3 : a ≤ s) (h4 : s < a + d) : s = a := by
  have := Nat.eq_zero_of_dvd_of_lt ((Nat.dvd_sub h2 h1)) (show s - a < d by omega)
  omega
theorem dvd_half {d s : Nat} (h : 2 * d ∣ s) : d ∣ s ∧ d ∣ s + d := by
  obtain ⟨k, rfl⟩ := h
  have h1 : d ∣ 2 * d * k := ⟨2 * k, by rw [Nat.mul_assoc, Nat.mul_left_comm]⟩
  exact ⟨h1, Nat.dvd_add h1 (Nat.dvd_refl d)⟩
/-- One more block of 20 put in order. -/
theorem full_ins {f0 f f' : Nat → α} {b a : Nat} (hd : b ∣ a) (hF : Full lt f0 f b a) (hf : ∀ x, a ≤ x → f x = f0 x) (hm : Mrg lt f f' a (a + b)) : Full lt f0 f' b (a + b) ∧ ∀ x, a + b ≤ x → f' x = f0 x := by
  refine ⟨fun s h1 h2 => ?_, fun x hx => by rw [hm.out x (.inr hx), hf x (by omega)]⟩
  by_cases hs : s < a
  · have hle : s + b ≤ a := by
      have := dvd_next h1 hd
      by_cases hlt : a < s + b
      · have := this (by omega) hlt; omega
      · omega
    exact (hF s h1 hs).out hm.out (.inl hle)
  · obtain rfl := dvd_next hd h1 (by omega) h2
    refine ⟨hm.srt, fun x a1 a2 => ?_, fun y a1 a2 => ?_⟩
    · obtain ⟨y, y1, y2, e⟩ := hm.mem x a1 a2
      exact ⟨y, y1, y2, e.trans (hf y y1)⟩
    · obtain ⟨x, x1, x2, e⟩ := hm.memr y a1 a2
      exact ⟨x, x1, x2, e.trans (hf y a1)⟩
theorem full_last {f0 f f' : Nat → α} {b a n : Nat} (hd : b ∣ a) (hF : Full lt f0 f b a) (han : a ≤ n) (hnb : n < a + b) (hf : ∀ x, a ≤ x → f x = f0 x) (hm : Mrg lt f f' a n) : Blks lt f0 f' n b 0 := by
  intro s h1 _ h2
  by_cases hs : s < a
  · have hle : s + b ≤ a := by
      have := dvd_next h1 hd
      by_cases hlt : a < s + b
      · have := this (by omega) hlt; omega
      · omega
    rw [Nat.min_eq_left (by omega)]
    exact (hF s h1 hs).out hm.out (.inl hle)
  · obtain rfl := dvd_next hd h1 (by omega) (by omega)
    rw [Nat.min_eq_right (by omega)]
    refine ⟨hm.srt, fun x a1 a2 => ?_, fun y a1 a2 => ?_⟩
    · obtain ⟨y, y1, y2, e⟩ := hm.mem x a1 a2
      exact ⟨y, y1, y2, e.trans (hf y y1)⟩
    · obtain ⟨x, x1, x2, e⟩ := hm.memr y a1 a2
      exact ⟨x, x1, x2, e.trans (hf y a1)⟩
/-- Two blocks merged. -/
theorem pair_two {f0 f : Nat → α} {b a n : Nat} (hd : 2 * b ∣ a) (hB : Blks lt f0 f n b a) (hn : a + 2 * b ≤ n) (hb : 0 < b) : Blk lt f0 f a (a + b) ∧ Blk lt f0 f (a + b) (a + 2 * b) := by
  obtain ⟨d1, d2⟩ := dvd_half hd
  have h1 := hB a d1 (Nat.le_refl _) (by omega)
  have h2 := hB (a + b) d2 (by omega) (by omega)
  rw [Nat.min_eq_left (by omega)] at h1
  rw [Nat.min_eq_left (by omega)] at h2
  exact ⟨h1, by rw [show a + 2 * b = a + b + b by omega]; exact h2⟩
theorem pair_last {f0 f : Nat → α} {b a n : Nat} (hd : 2 * b ∣ a) (hB : Blks lt f0 f n b a) (hn : a + b < n) (hn2 : n < a + 2 * b) (hb : 0 < b) : Blk lt f0 f a (a + b) ∧ Blk lt f0 f (a + b) n := by
  obtain ⟨d1, d2⟩ := dvd_half hd
  have h1 := hB a d1 (Nat.le_refl _) (by omega)
  have h2 := hB (a + b) d2 (by omega) (by omega)
  rw [Nat.min_eq_left (by omega)] at h1
  rw [Nat.min_eq_right (by omega)] at h2
  exact ⟨h1, h2⟩
theorem pair_step {f0 f f' : Nat → α} {b a n : Nat} (hb : 0 < b) (hd : 2 * b ∣ a) (hF : Full lt f0 f (2 * b) a) (hB : Blks lt f0 f n b a) (hn : a + 2 * b ≤ n) (hm : Mrg lt f f' a (a + 2 * b)) : Full lt f0 f' (2 * b) (a + 2 * b) ∧ Blks lt f0 f' n b (a + 2 * b) := by
  obtain ⟨p1, p2⟩ := pair_two hd hB hn hb
  refine ⟨fun s h1 h2 => ?_, fun s h1 h2 h3 => (hB s h1 (by omega) h3).out hm.out (.inr h2)⟩
  by_cases hs : s < a
  · have hle : s + 2 * b ≤ a := by
      have := dvd_next h1 hd
      by_cases hlt : a < s + 2 * b
      · have := this (by omega) hlt; omega
      · omega
    exact (hF s h1 hs).out hm.out (.inl hle)
  · obtain rfl := dvd_next hd h1 (by omega) h2
    exact p1.merged p2 (by omega) (by omega) hm
theorem pair_end {f0 f f' : Nat → α} {b a n : Nat} (han : a ≤ n) (hb : 0 < b) (hd : 2 * b ∣ a) (hF : Full lt f0 f (2 * b) a) (hB : Blks lt f0 f n b a) (hn : n < a + 2 * b) (hm : (a + b < n ∧ Mrg lt f f' a n) ∨ (n ≤ a + b ∧ f' = f)) : Blks lt f0 f' n (2 * b) 0 := by
  intro s h1 _ h2
  have hle : s < a → s + 2 * b ≤ a := fun hs => by
    have := dvd_next h1 hd
    by_cases hlt : a < s + 2 * b
    · have := this (by omega) hlt; omega
    · omega
  rcases hm with ⟨hab, hm⟩ | ⟨hab, rfl⟩
  · by_cases hs : s < a
    · have := hle hs
      rw [Nat.min_eq_left (by omega)]
      exact (hF s h1 hs).out hm.out (.inl this)
    · obtain rfl := dvd_next hd h1 (by omega) (by omega)
      rw [Nat.min_eq_right (by omega)]
      obtain ⟨p1, p2⟩ := pair_last hd hB hab hn hb
      exact p1.merged p2 (by omega) (by omega) hm
  · by_cases hs : s < a
    · have := hle hs
      rw [Nat.min_eq_left (by omega)]; exact hF s h1 hs
    · obtain rfl := dvd_next hd h1 (by omega) (by omega)
      have := hB s (dvd_half hd).1 (Nat.le_refl _) h2
      rwa [Nat.min_eq_right hab, ← Nat.min_eq_right (show n ≤ s + 2 * b by omega)] at this
end
end Go.Proofs.Ytbjbdochffocoaa
