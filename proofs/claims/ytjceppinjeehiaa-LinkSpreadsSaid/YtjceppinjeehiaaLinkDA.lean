/- The plain law of LinkSpreads: what is turned back gives the same cells, turned back. -/
import Derived.Test.YtjceppinjeehiaaLinkCH
import Derived.Test.YtjceppinjeehiaaLinkS
namespace Go.Proofs.Ytjceppinjeehiaa
theorem back_grid {links : List C2} (h : validL links = true) {k : Nat} (hk : k ≤ 4) : gridL (links.map neg2) k = ((gridL links k).map neg2).reverse := by
  have hl : ∀ l ∈ links, Near 3 l := fun l hl => (((validL_iff links).1 h).2 l hl).1
  have hl2 : ∀ l ∈ links.map neg2, Near 3 l := fun l hl => (((validL_iff _).1 (valid_neg h)).2 l hl).1
  refine eq_of_lt2 _ _ (gridL_sorted _ _) ?_ (fun c => ?_)
  · rw [List.pairwise_reverse, List.pairwise_map]
    exact (gridL_sorted links k).imp (fun {a b} h => by unfold lt2 neg2 at *; simp only; omega)
  · rw [mem_gridL hl2 hk, List.mem_reverse, List.mem_map]
    constructor
    · rintro ⟨j, hj, hs⟩
      have := sums_neg hs
      rw [neg2_map] at this
      exact ⟨neg2 c, (mem_gridL hl hk _).2 ⟨j, hj, this⟩, neg2_neg2 c⟩
    · rintro ⟨d, hd, rfl⟩
      obtain ⟨j, hj, hs⟩ := (mem_gridL hl hk d).1 hd
      exact ⟨j, hj, sums_neg hs⟩
/-- Whether a move is among the cells: as its hops say. -/
theorem found_hops {links : List C2} {m : C2} {n e : Int} (h : validL links = true) {k : Nat} (hk : k ≤ 4) (hr : HopsR links m n e) (he : e ≠ 2) : decide (m ∈ gridL links k) = (decide (e = 0) && decide (n ≤ k)) := by
  have hl : ∀ l ∈ links, Near 3 l := fun l hl => (((validL_iff links).1 h).2 l hl).1
  rw [Bool.eq_iff_iff, decide_eq_true_eq, mem_gridL hl hk, Bool.and_eq_true, decide_eq_true_eq, decide_eq_true_eq]
  rcases hr with ⟨h1, _, h3⟩ | ⟨_, ⟨j, hj, hd, rfl, rfl⟩ | ⟨hno, rfl, rfl⟩⟩
  · exfalso
    apply he
    rw [h3]
    unfold chkL at h1 ⊢
    rw [if_pos h] at *
    split
    · rename_i h2; rw [if_pos h2] at h1; exact absurd rfl h1
    · rfl
  · constructor
    · rintro ⟨i, hi, hs⟩
      refine ⟨rfl, ?_⟩
      rcases Nat.lt_or_ge i j with h4 | h4
      · exact absurd hs (hd.2 i h4)
      · omega
    · rintro ⟨_, hj2⟩
      exact ⟨j, by omega, hd.1⟩
  · constructor
    · rintro ⟨i, hi, hs⟩
      obtain ⟨q, hq, hd⟩ := dist_of_sums i hs
      exact absurd hd (hno q (by omega))
    · rintro ⟨h4, _⟩
      cases h4
end Go.Proofs.Ytjceppinjeehiaa
