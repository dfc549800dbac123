/- The plain law of LinkBounds. -/
import Derived.Test.YtjceppinjeehiaaLinkO
import Derived.Test.YtjceppinjeehiaaLinkAC
import Derived.Test.YtjceppinjeehiaaLinkAH
namespace Go.Proofs.Ytjceppinjeehiaa
theorem mostL_ge {links : List C2} {w : C2} : ∀ {m : Int}, m ≤ mostL links w m ∧ ∀ l ∈ links, dotL w l ≤ mostL links w m := by
  induction links with
  | nil => intro m; simp [mostL]
  | cons c r ih =>
    intro m
    have h := @ih (max m (dotL w c))
    have e : mostL (c :: r) w m = mostL r w (max m (dotL w c)) := rfl
    rw [e]
    refine ⟨by omega, fun l hl => ?_⟩
    rcases List.mem_cons.1 hl with rfl | hl
    · omega
    · exact h.2 l hl
theorem dotL_add (w a b : C2) : dotL w (add2 a b) = dotL w a + dotL w b := by
  simp only [dotL, add2, Int.mul_add]; omega
theorem dot_sums {links : List C2} {w : C2} {D : Int} (hD : ∀ l ∈ links, dotL w l ≤ D) : ∀ {k : Nat} {m : C2}, Sums links k m → dotL w m ≤ k * D
  | 0, m, h => by
    have h : m = (0, 0) := h
    subst h
    simp [dotL]
  | k + 1, m, ⟨b, hb, l, hl, e⟩ => by
    subst e
    have h1 := dot_sums hD hb
    have h2 := hD l hl
    rw [dotL_add]
    have : ((k + 1 : Nat) : Int) * D = k * D + D := by rw [Int.natCast_add, Int.add_mul]; simp
    omega
theorem never_no {links : List C2} {m u : C2} {k : Nat} (h : Dist links m k) : (neverV links m u).1 = false := by
  unfold neverV
  split
  · split
    · cases hx : decide (mostL links u 0 ≤ 0)
      · rfl
      · have h0 : mostL links u 0 ≤ 0 := of_decide_eq_true hx
        have := dot_sums (w := u) (D := 0) (fun l hl => by have := (mostL_ge (links := links) (w := u) (m := 0)).2 l hl; omega) h.1
        rw [Int.mul_zero] at this
        simp only [Bool.true_and]
        exact decide_eq_false (by omega)
    · rfl
  · rfl
theorem qL_dist {links : List C2} {m w : C2} {k : Nat} (hd : 1 ≤ mostL links w 1) (h : Dist links m k) : qL links m w ≤ k := by
  rcases Int.lt_or_le (k : Int) (qL links m w) with h1 | h1
  · have h2 := (qL_iff (m := m) hd ((k : Int) + 1) (by omega)).2 (by omega)
    have h3 := dot_sums (w := w) (D := mostL links w 1) (fun l hl => (mostL_ge (m := 1)).2 l hl) h.1
    rw [show (k : Int) + 1 - 1 = k by omega, Int.mul_comm] at h2
    omega
  · exact h1
theorem best_dist {links : List C2} {m : C2} {k : Nat} (hl : ∀ l ∈ links, Near 3 l) (h : Dist links m k) : ∀ j, j ≤ 169 → bestL links m j ≤ k
  | 0, _ => by simp [bestL]
  | j + 1, hj => by
    have h1 := best_dist hl h j (by omega)
    have h2 := qL_dist (wt_most hl j (by omega)).1 h
    simp only [bestL]
    omega
theorem proves_dist {links : List C2} {m u : C2} {d n : Int} {k : Nat} (h : Dist links m k) (hp : provesV links m u d n = (true, 0)) : n ≤ k := by
  unfold provesV at hp
  split at hp
  · split at hp
    · rename_i h1 h2
      simp only [Prod.mk.injEq, Bool.and_eq_true, decide_eq_true_eq, and_true] at hp
      have h3 := dot_sums (w := u) (D := d) (fun l hl => by have := (mostL_ge (links := links) (w := u) (m := d)).2 l hl; omega) h.1
      rcases Int.lt_or_le (k : Int) n with h4 | h4
      · have h5 : (k : Int) * d ≤ d * (n - 1) := by
          rw [Int.mul_comm]
          exact Int.mul_le_mul_of_nonneg_left (by omega) (by omega)
        omega
      · exact h4
    · cases hp
  · cases hp
theorem sums_way {links : List C2} : ∀ (way : List Int), way.all (okIdx links.length) = true → Sums links way.length (sumW links way) := by
  intro way
  generalize hn : way.length = n
  induction n generalizing way with
  | zero =>
    intro _
    obtain rfl := List.eq_nil_of_length_eq_zero hn
    rfl
  | succ n ih =>
    intro h
    have hne : way ≠ [] := fun e => by subst e; cases hn
    obtain ⟨l, x, rfl⟩ : ∃ l x, way = l ++ [x] := ⟨way.dropLast, way.getLast hne, (List.dropLast_concat_getLast hne).symm⟩
    have hl : l.length = n := by simpa using hn
    rw [List.all_append, Bool.and_eq_true] at h
    rw [sumW_snoc]
    refine ⟨_, ih l hl h.1, _, ?_, rfl⟩
    have hx : okIdx links.length x = true := by simpa using h.2
    simp only [okIdx, Bool.and_eq_true, decide_eq_true_eq] at hx
    have : x.toNat < links.length := by omega
    simp [this]
theorem way_ge {links : List C2} {m : C2} {k : Nat} {way : List Int} (h : Dist links m k) (hw : wayV links m way = (true, 0)) : k ≤ way.length := by
  unfold wayV at hw
  split at hw
  · split at hw
    · cases hw
    · simp only [Prod.mk.injEq, Bool.and_eq_true, decide_eq_true_eq, and_true] at hw
      have hs := sums_way way hw.1
      rw [hw.2.2] at hs
      rcases Nat.lt_or_ge way.length k with h1 | h1
      · exact absurd hs (h.2 _ h1)
      · exact h1
  · cases hw
theorem sumW_cons (links : List C2) (x : Int) (l : List Int) : sumW links (x :: l) = add2 (links.getD x.toNat (0, 0)) (sumW links l) := by
  have key : ∀ (l : List Int) (a b : C2), l.foldl (fun c i => add2 c (links.getD i.toNat (0, 0))) (add2 a b) = add2 a (l.foldl (fun c i => add2 c (links.getD i.toNat (0, 0))) b) := by
    intro l
    induction l with
    | nil => intro a b; rfl
    | cons y r ih =>
      intro a b
      simp only [List.foldl_cons]
      rw [← ih, show add2 (add2 a b) (links.getD y.toNat (0, 0)) = add2 a (add2 b (links.getD y.toNat (0, 0))) by simp only [add2]; apply Prod.ext <;> simp <;> omega]
  have := key l (links.getD x.toNat (0, 0)) (0, 0)
  simp only [sumW, List.foldl_cons]
  rw [← this]
  congr 1
  simp only [add2]; apply Prod.ext <;> simp
theorem wayF_good (links : List C2) : ∀ (f i : Nat) (m : C2) (n : Nat), f = links.length - i + n → Dist (links.drop i) m n →
    (wayF links f i m n).length = n ∧ (∀ x ∈ wayF links f i m n, (i : Int) ≤ x ∧ x < links.length) ∧ (wayF links f i m n).Pairwise (· ≤ ·) ∧ sumW links (wayF links f i m n) = m
  | 0, i, m, n, hf, hd => by
    obtain rfl : n = 0 := by omega
    have hm : m = (0, 0) := hd.1
    subst hm
    simp [wayF, sumW]
  | f + 1, i, m, n, hf, hd => by
    rcases Nat.eq_zero_or_pos n with rfl | hn
    · have hm : m = (0, 0) := hd.1
      subst hm
      simp [wayF, sumW]
    · obtain ⟨n, rfl⟩ : ∃ p, n = p + 1 := ⟨n - 1, by omega⟩
      have hi := dist_lt hd
      rw [wayF, if_neg (by omega), Nat.add_sub_cancel]
      cases hc : cnd links i m n
      · simp only [Bool.false_eq_true, if_false]
        have h := wayF_good links f (i + 1) m (n + 1) (by omega) (dist_skip hd hc)
        exact ⟨h.1, fun x hx => by have := h.2.1 x hx; omega, h.2.2⟩
      · simp only [if_true]
        have h := wayF_good links f i _ n (by omega) (dist_take hd hc)
        refine ⟨by rw [List.length_cons, h.1], fun x hx => ?_, List.pairwise_cons.2 ⟨fun x hx => (h.2.1 x hx).1, h.2.2.1⟩, ?_⟩
        · rcases List.mem_cons.1 hx with rfl | hx
          · omega
          · exact h.2.1 x hx
        · rw [sumW_cons, h.2.2.2]
          simp only [Int.toNat_natCast, add2, sub2]
          apply Prod.ext <;> simp <;> omega
theorem wayG_good {links : List C2} {m : C2} {k : Nat} (hk : k ≤ 12) (h : Dist links m k) (hc : chkL links m = 0) : (wayG links 0 m k).length = k ∧ wayV links m (wayG links 0 m k) = (true, 0) := by
  have hg := wayF_good links (links.length - 0 + k) 0 m k rfl (by simpa using h)
  refine ⟨hg.1, ?_⟩
  unfold wayG
  generalize wayF links (links.length - 0 + k) 0 m k = out at hg
  obtain ⟨h1, h2, h3, h4⟩ := hg
  rw [wayV, if_pos hc, if_neg (by omega), h4]
  have ha : out.all (okIdx links.length) = true := List.all_eq_true.2 fun x hx => by
    have := h2 x hx
    simp only [okIdx, Bool.and_eq_true, decide_eq_true_eq]
    omega
  have hs : sortedB out = true := (sortedB_iff _).2 fun j hj => by
    have := List.pairwise_iff_getElem.1 h3 j (j + 1) (by omega) hj (by omega)
    simpa [hj, show j < out.length by omega] using this
  simp [ha, hs]
end Go.Proofs.Ytjceppinjeehiaa
