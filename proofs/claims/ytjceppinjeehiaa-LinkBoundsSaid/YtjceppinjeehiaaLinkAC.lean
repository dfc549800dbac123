/- What Floor says, plainly: the program's way and the reference's. -/
import Derived.Test.YtjceppinjeehiaaLinkK
namespace Go.Proofs.Ytjceppinjeehiaa
/-- How many hops one weight proves. -/
def qL (links : List C2) (m w : C2) : Int := if 0 < dotL w m then (dotL w m - 1) / mostL links w 1 + 1 else 0
def wt (k : Nat) : C2 := ((k : Int) / 13 - 6, (k : Int) % 13 - 6)
def bestL (links : List C2) (m : C2) : Nat → Int
  | 0 => 0
  | n + 1 => max (bestL links m n) (qL links m (wt n))
theorem wt_near (k : Nat) (h : k < 169) : Near 6 (wt k) := by
  unfold wt Near
  have h1 : ((k : Int)) < 169 := by omega
  simp only
  omega
theorem qL_nonneg {links : List C2} {m w : C2} (hd : 1 ≤ mostL links w 1) : 0 ≤ qL links m w := by
  unfold qL
  split
  · have := Int.ediv_nonneg (a := dotL w m - 1) (b := mostL links w 1) (by omega) (by omega)
    omega
  · omega
theorem qL_le {links : List C2} {m w : C2} (hp : dotL w m ≤ 1000) : qL links m w ≤ 1000 := by
  unfold qL
  split
  · have := Int.ediv_le_self (a := dotL w m - 1) (mostL links w 1) (by omega)
    omega
  · omega
theorem qL_iff {links : List C2} {m w : C2} (hd : 1 ≤ mostL links w 1) (n : Int) (hn : 1 ≤ n) : mostL links w 1 * (n - 1) < dotL w m ↔ n ≤ qL links m w := by
  unfold qL
  split
  · rename_i h
    have := Int.le_ediv_iff_mul_le (a := n - 1) (b := dotL w m - 1) (c := mostL links w 1) (by omega)
    rw [Int.mul_comm]
    omega
  · have := Int.mul_nonneg (a := mostL links w 1) (b := n - 1) (by omega) (by omega)
    omega
theorem bestL_bd {links : List C2} {m : C2} (hd : ∀ k, k < 169 → 1 ≤ mostL links (wt k) 1) (hp : ∀ k, k < 169 → dotL (wt k) m ≤ 1000) : ∀ k, k ≤ 169 → 0 ≤ bestL links m k ∧ bestL links m k ≤ 1000
  | 0, _ => by simp [bestL]
  | k + 1, h => by
    have := bestL_bd hd hp k (by omega)
    have h1 := qL_le (links := links) (hp k (by omega))
    simp only [bestL]
    omega
def floorV (links : List C2) (m : C2) : Int × Int := if chkL links m = 0 then (min (bestL links m 169) 100, 0) else (0, chkL links m)
theorem wt_most {links : List C2} (hl : ∀ l ∈ links, Near 3 l) (k : Nat) (h : k < 169) : 1 ≤ mostL links (wt k) 1 ∧ mostL links (wt k) 1 ≤ 1000 := mostL_bd hl ((wt_near k h).mono (by omega)) (by omega)
theorem wt_dot {m : C2} (hm : Near 20 m) (k : Nat) (h : k < 169) : -1000 ≤ dotL (wt k) m ∧ dotL (wt k) m ≤ 1000 := by
  have := dotL_bd (wt_near k h) hm
  omega
end Go.Proofs.Ytjceppinjeehiaa
