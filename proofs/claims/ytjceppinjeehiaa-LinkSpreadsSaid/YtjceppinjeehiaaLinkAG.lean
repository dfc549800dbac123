/- The way that comes first, plainly. -/
import Derived.Test.YtjceppinjeehiaaLinkZ
import Derived.Test.YtjceppinjeehiaaKitE
namespace Go.Proofs.Ytjceppinjeehiaa
def sub2 (a b : C2) : C2 := (a.1 - b.1, a.2 - b.2)
theorem sub2_add2 (a b : C2) : sub2 (add2 a b) b = a := by simp only [sub2, add2]; apply Prod.ext <;> simp <;> omega
theorem add2_sub2 (a b : C2) : add2 (sub2 a b) b = a := by simp only [sub2, add2]; apply Prod.ext <;> simp <;> omega
theorem Sums.mono {l l' : List C2} (h : ∀ c ∈ l, c ∈ l') : ∀ {n : Nat} {c : C2}, Sums l n c → Sums l' n c
  | 0, _, hs => hs
  | _ + 1, _, ⟨b, hb, x, hx, e⟩ => ⟨b, Sums.mono h hb, x, h x hx, e⟩
theorem Sums.more {l : List C2} {n : Nat} {m c : C2} (hc : c ∈ l) (h : Sums l n (sub2 m c)) : Sums l (n + 1) m := ⟨_, h, c, hc, (add2_sub2 m c).symm⟩
/-- What one link does to the sums. -/
theorem Sums.part {c : C2} {r : List C2} : ∀ {n : Nat} {m : C2}, Sums (c :: r) n m → Sums r n m ∨ ∃ k, n = k + 1 ∧ Sums (c :: r) k (sub2 m c)
  | 0, _, h => .inl h
  | n + 1, m, ⟨b, hb, x, hx, e⟩ => by
    rcases List.mem_cons.1 hx with rfl | hx'
    · exact .inr ⟨n, rfl, by rw [e, sub2_add2]; exact hb⟩
    · rcases Sums.part hb with h | ⟨k, rfl, h⟩
      · exact .inl ⟨b, h, x, hx', e⟩
      · refine .inr ⟨k + 1, rfl, ⟨_, h, x, hx, ?_⟩⟩
        rw [e]; simp only [sub2, add2]; apply Prod.ext <;> simp <;> omega
theorem Dist.taken {c : C2} {r : List C2} {n : Nat} {m : C2} (h : Dist (c :: r) m (n + 1)) (hs : Sums (c :: r) n (sub2 m c)) : Dist (c :: r) (sub2 m c) n :=
  ⟨hs, fun k hk hk2 => h.2 (k + 1) (by omega) (Sums.more (by simp) hk2)⟩
theorem Dist.left {c : C2} {r : List C2} {n : Nat} {m : C2} (h : Dist (c :: r) m (n + 1)) (hs : ¬ Sums (c :: r) n (sub2 m c)) : Dist r m (n + 1) := by
  refine ⟨?_, fun k hk hk2 => h.2 k hk (Sums.mono (fun x hx => by simp [hx]) hk2)⟩
  rcases Sums.part h.1 with h1 | ⟨k, e, h1⟩
  · exact h1
  · obtain rfl : n = k := by omega
    exact absurd h1 hs
theorem Sums.nil_no {n : Nat} {m : C2} (h : Sums [] (n + 1) m) : False := by
  obtain ⟨_, _, x, hx, _⟩ := h
  cases hx
/-- The test of a link: whether so many links from it on make what it leaves. -/
def cnd (links : List C2) (i : Nat) (m : C2) (n : Nat) : Bool := decide (sub2 m (links.getD i (0, 0)) ∈ sumsL (links.drop i) n)
theorem cnd_iff (links : List C2) (i : Nat) (m : C2) (n : Nat) : cnd links i m n = true ↔ Sums (links.drop i) n (sub2 m (links.getD i (0, 0))) := by
  rw [cnd, decide_eq_true_eq, mem_sumsL]
def wayF (links : List C2) : Nat → Nat → C2 → Nat → List Int
  | 0, _, _, _ => []
  | f + 1, i, m, n => if n = 0 then [] else if cnd links i m (n - 1) = true then (i : Int) :: wayF links f i (sub2 m (links.getD i (0, 0))) (n - 1) else wayF links f (i + 1) m n
/-- The way from link i on. -/
def wayG (links : List C2) (i : Nat) (m : C2) (n : Nat) : List Int := wayF links (links.length - i + n) i m n
theorem wayG_zero (links : List C2) (i : Nat) (m : C2) : wayG links i m 0 = [] := by
  unfold wayG
  cases links.length - i + 0 <;> simp [wayF]
theorem wayG_take {links : List C2} {i : Nat} {m : C2} {n : Nat} (h : cnd links i m n = true) : wayG links i m (n + 1) = (i : Int) :: wayG links i (sub2 m (links.getD i (0, 0))) n := by
  unfold wayG
  rw [show links.length - i + (n + 1) = (links.length - i + n) + 1 by omega, wayF, if_neg (by omega), Nat.add_sub_cancel, if_pos h]
theorem wayG_skip {links : List C2} {i : Nat} {m : C2} {n : Nat} (hi : i < links.length) (h : cnd links i m n = false) : wayG links i m (n + 1) = wayG links (i + 1) m (n + 1) := by
  rw [wayG, show links.length - i + (n + 1) = (links.length - (i + 1) + (n + 1)) + 1 by omega, wayF, if_neg (by omega), Nat.add_sub_cancel, if_neg (by simp [h])]
  rfl
theorem drop_cons (links : List C2) (i : Nat) (hi : i < links.length) : links.drop i = links.getD i (0, 0) :: links.drop (i + 1) := by
  rw [List.drop_eq_getElem_cons hi]; simp [hi]
theorem dist_lt {links : List C2} {i : Nat} {m : C2} {n : Nat} (h : Dist (links.drop i) m (n + 1)) : i < links.length := by
  rcases Nat.lt_or_ge i links.length with h1 | h1
  · exact h1
  · rw [List.drop_eq_nil_of_le h1] at h
    exact (Sums.nil_no h.1).elim
theorem dist_take {links : List C2} {i : Nat} {m : C2} {n : Nat} (h : Dist (links.drop i) m (n + 1)) (hc : cnd links i m n = true) : Dist (links.drop i) (sub2 m (links.getD i (0, 0))) n := by
  have hi := dist_lt h
  rw [cnd_iff] at hc
  rw [drop_cons links i hi] at h hc ⊢
  exact Dist.taken h hc
theorem dist_skip {links : List C2} {i : Nat} {m : C2} {n : Nat} (h : Dist (links.drop i) m (n + 1)) (hc : cnd links i m n = false) : Dist (links.drop (i + 1)) m (n + 1) := by
  have hi := dist_lt h
  have hc2 : ¬ Sums (links.drop i) n (sub2 m (links.getD i (0, 0))) := fun hs => by rw [(cnd_iff _ _ _ _).2 hs] at hc; cases hc
  rw [drop_cons links i hi] at h hc2
  exact Dist.left h hc2
/-- The program's test is the reference's. -/
theorem dist_cnd {links : List C2} {i : Nat} {m : C2} {n : Nat} (h : Dist (links.drop i) m (n + 1)) : Dist (links.drop i) (sub2 m (links.getD i (0, 0))) n ↔ cnd links i m n = true :=
  ⟨fun hd => (cnd_iff _ _ _ _).2 hd.1, dist_take h⟩
end Go.Proofs.Ytjceppinjeehiaa
