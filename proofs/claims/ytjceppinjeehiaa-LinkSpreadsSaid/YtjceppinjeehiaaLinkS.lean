/- The law LinkSums: plainly, and its walk. -/
import Derived.Test.YtjceppinjeehiaaLinkZ
namespace Go.Proofs.Ytjceppinjeehiaa
open Go.RowKit
theorem neg2_neg2 (c : C2) : neg2 (neg2 c) = c := by simp [neg2]
theorem neg2_map (l : List C2) : (l.map neg2).map neg2 = l := by
  rw [List.map_map]
  conv => rhs; rw [← List.map_id l]
  exact List.map_congr_left fun c _ => neg2_neg2 c
theorem sums_neg {links : List C2} : ∀ {n : Nat} {c : C2}, Sums links n c → Sums (links.map neg2) n (neg2 c)
  | 0, c, h => by
    have h : c = (0, 0) := h
    subst h
    rfl
  | n + 1, c, h => by
    obtain ⟨b, hb, l, hl, rfl⟩ := h
    exact ⟨neg2 b, sums_neg hb, neg2 l, List.mem_map_of_mem hl, by apply Prod.ext <;> simp [neg2, add2] <;> omega⟩
theorem dist_neg {links : List C2} {n : Nat} {c : C2} (h : Dist links c n) : Dist (links.map neg2) (neg2 c) n := by
  refine ⟨sums_neg h.1, fun k hk hs => h.2 k hk ?_⟩
  have := sums_neg hs
  rwa [neg2_map, neg2_neg2] at this
theorem sums_add {links : List C2} {a : C2} {n : Nat} (ha : Sums links n a) : ∀ {m : Nat} {b : C2}, Sums links m b → Sums links (n + m) (add2 a b)
  | 0, b, h => by
    have h : b = (0, 0) := h
    subst h
    simpa [add2] using ha
  | m + 1, b, h => by
    obtain ⟨c, hc, l, hl, rfl⟩ := h
    exact ⟨add2 a c, sums_add ha hc, l, hl, by apply Prod.ext <;> simp [add2] <;> omega⟩
theorem hopsR_ex (links : List C2) (m : C2) : ∃ n e, HopsR links m n e := by
  by_cases h : chkL links m = 0
  · by_cases hk : ∃ k, k ≤ 12 ∧ Dist links m k
    · obtain ⟨k, h1, h2⟩ := hk
      exact ⟨k, 0, .inr ⟨h, .inl ⟨k, h1, h2, rfl, rfl⟩⟩⟩
    · exact ⟨0, 5, .inr ⟨h, .inr ⟨fun k h1 h2 => hk ⟨k, h1, h2⟩, rfl, rfl⟩⟩⟩
  · exact ⟨0, chkL links m, .inl ⟨h, rfl, rfl⟩⟩
theorem hopsR_uniq {links : List C2} {m : C2} {n e n' e' : Int} (h : HopsR links m n e) (k : HopsR links m n' e') : n' = n ∧ e' = e := by
  rcases h with ⟨h1, rfl, rfl⟩ | ⟨h1, h2⟩
  · rcases k with ⟨_, rfl, rfl⟩ | ⟨k1, _⟩
    · exact ⟨rfl, rfl⟩
    · exact absurd k1 h1
  · rcases k with ⟨k1, _, _⟩ | ⟨_, k2⟩
    · exact absurd h1 k1
    · rcases h2 with ⟨j, h3, h4, rfl, rfl⟩ | ⟨h3, rfl, rfl⟩
      · rcases k2 with ⟨i, k3, k4, rfl, rfl⟩ | ⟨k3, _, _⟩
        · exact ⟨by rw [h4.uniq k4], rfl⟩
        · exact absurd h4 (k3 j h3)
      · rcases k2 with ⟨i, k3, k4, rfl, rfl⟩ | ⟨_, rfl, rfl⟩
        · exact absurd k4 (h3 i k3)
        · exact ⟨rfl, rfl⟩
theorem near_neg {m : Int} {c : C2} (h : Near m c) : Near m (neg2 c) := by
  obtain ⟨h1, h2, h3, h4⟩ := h
  exact ⟨by simp [neg2]; omega, by simp [neg2]; omega, by simp [neg2]; omega, by simp [neg2]; omega⟩
theorem valid_neg {links : List C2} (h : validL links = true) : validL (links.map neg2) = true := by
  rw [validL_iff] at h ⊢
  refine ⟨by simpa using h.1, fun l hl => ?_⟩
  obtain ⟨c, hc, rfl⟩ := List.mem_map.1 hl
  refine ⟨near_neg (h.2 c hc).1, fun e => (h.2 c hc).2 ?_⟩
  rw [← neg2_neg2 c, e]; rfl
theorem hopsR_neg {links : List C2} {m : C2} {n e : Int} (hv : validL links = true) (hm : nearB 20 m = true) (h : HopsR links m n e) : HopsR (links.map neg2) (neg2 m) n e := by
  have c1 : chkL links m = 0 := by simp [chkL, hv, hm]
  have c2 : chkL (links.map neg2) (neg2 m) = 0 := by
    have : nearB 20 (neg2 m) = true := (nearB_iff _ _).2 (near_neg ((nearB_iff _ _).1 hm))
    simp [chkL, valid_neg hv, this]
  rcases h with ⟨h1, _⟩ | ⟨_, ⟨k, h2, h3, rfl, rfl⟩ | ⟨h2, rfl, rfl⟩⟩
  · exact absurd c1 h1
  · exact .inr ⟨c2, .inl ⟨k, h2, dist_neg h3, rfl, rfl⟩⟩
  · refine .inr ⟨c2, .inr ⟨fun k hk hd => h2 k hk ?_, rfl, rfl⟩⟩
    have := dist_neg hd
    rwa [neg2_map, neg2_neg2] at this
theorem hopsR_sum {links : List C2} {a b : C2} {n m k : Int} (ha : HopsR links a n 0) (hb : HopsR links b m 0) (hs : HopsR links (add2 a b) k 0) : k ≤ n + m ∧ 0 ≤ n ∧ n ≤ 12 ∧ 0 ≤ m ∧ m ≤ 12 := by
  have key : ∀ {c : C2} {z : Int}, HopsR links c z 0 → ∃ j : Nat, j ≤ 12 ∧ Dist links c j ∧ z = j := by
    rintro c z (⟨h1, _, h2⟩ | ⟨_, ⟨j, h2, h3, rfl, _⟩ | ⟨_, _, h2⟩⟩)
    · exact absurd h2.symm h1
    · exact ⟨j, h2, h3, rfl⟩
    · omega
  obtain ⟨i, hi, h1, rfl⟩ := key ha
  obtain ⟨j, hj, h2, rfl⟩ := key hb
  obtain ⟨l, _, h3, rfl⟩ := key hs
  obtain ⟨p, hp, h4⟩ := dist_of_sums _ (sums_add h1.1 h2.1)
  have := h3.uniq h4
  omega
end Go.Proofs.Ytjceppinjeehiaa
