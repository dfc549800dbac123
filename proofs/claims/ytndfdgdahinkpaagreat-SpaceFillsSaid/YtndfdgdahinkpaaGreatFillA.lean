/- What a safe fold fills: plainly: not more than its cells and times; no cell is busier than the latency; the best direction is the least. Conditions: none. -/
import Derived.Test.YtndfdgdahinkpaaGreatBestB
import Derived.Test.YtndfdgdahinkpaaGreatTabC
namespace Go.Proofs.YtndfdgdahinkpaaGreat
open Go.RowKit
set_option linter.unusedVariables false
theorem nodup_len {α : Type} [DecidableEq α] : ∀ (l m : List α), l.Nodup → (∀ a ∈ l, a ∈ m) → l.length ≤ m.length
  | [], m, _, _ => Nat.zero_le _
  | a :: l, m, hn, hs => by
    have ha : a ∈ m := hs a (List.mem_cons_self ..)
    obtain ⟨h1, h2⟩ := List.nodup_cons.1 hn
    have ih := nodup_len l (m.erase a) h2 (fun b hb => by
      have hne : b ≠ a := fun e => h1 (e ▸ hb)
      exact (List.mem_erase_of_ne hne).2 (hs b (List.mem_cons_of_mem _ hb)))
    have hl := List.length_erase_of_mem ha
    have hp := List.length_pos_of_mem ha
    simp only [List.length_cons]
    omega
theorem keys_nodup {r : RecD} {s : SchedD} {u : P3} (h : clashL r s u = none) : ((ptsL r.n r.l).map (keyS r s u)).Nodup := by
  unfold clashL at h
  rw [List.nodup_iff_pairwise_ne, List.pairwise_iff_getElem]
  intro i j hi hj hij e
  have := clash_inj h (List.getElem?_eq_getElem hi) (e ▸ List.getElem?_eq_getElem hj)
  omega
/-- The number of times between the least and the greatest. -/
theorem dots_in {r : RecD} {s : SchedD} {p : P3} (hp : p ∈ ptsL r.n r.l) : minI (dotsL r s) ≤ dot3 s.f p ∧ dot3 s.f p ≤ maxI (dotsL r s) :=
  ⟨minI_le (List.mem_map_of_mem hp), le_maxI (List.mem_map_of_mem hp)⟩
theorem lat_span {r : RecD} {s : SchedD} (h : latErr r s = 0) : maxI (dotsL r s) - minI (dotsL r s) + 1 ≤ latI r s := by
  have ha : askD r s = 0 := by
    unfold latErr at h; split at h
    · assumption
    · exact h
  obtain ⟨hv, hsb⟩ := askD_out ha
  have hso := off_bd hsb
  have hnv := (validR_out hv).2.2.1
  have ho : s.off ≠ [] := List.ne_nil_of_length_pos (by omega)
  have c2 := minI_le (maxI_mem ho)
  unfold latI hiT loT
  rw [if_pos h]
  omega
theorem fill_le {r : RecD} {s : SchedD} {u : P3} (hl : latErr r s = 0) (h : clashL r s u = none) : useN r ≤ useD r s u := by
  have hn := keys_nodup h
  have hs := lat_span hl
  have hpos := lat_ne hl
  have hd0 : dotsL r s ≠ [] := by
    intro e; have := congrArg List.length e; unfold dotsL at this; simp at this; rw [this] at hpos; simp at hpos
  have hmm := minI_le (maxI_mem hd0)
  have hsub : ∀ k ∈ (ptsL r.n r.l).map (keyS r s u), k ∈ (List.range (maxI (dotsL r s) - minI (dotsL r s) + 1).toNat).flatMap fun (i : Nat) => (cellsL r u).map fun c => ((minI (dotsL r s) + (i : Int), c.1, c.2) : P3) := by
    intro k hk
    obtain ⟨p, hp, rfl⟩ := List.mem_map.1 hk
    have hb := dots_in (s := s) hp
    refine List.mem_flatMap.2 ⟨(dot3 s.f p - minI (dotsL r s)).toNat, List.mem_range.2 (by omega), List.mem_map.2 ⟨cellC r.n u p, ?_, ?_⟩⟩
    · unfold cellsL; rw [mem_sortC]; exact List.mem_map_of_mem hp
    · unfold keyS
      refine Prod.ext ?_ rfl
      show minI (dotsL r s) + ((dot3 s.f p - minI (dotsL r s)).toNat : Int) = dot3 s.f p
      omega
  have := nodup_len _ _ hn hsub
  rw [List.length_map, flat_lenE (fun i : Nat => (cellsL r u).map fun c => ((minI (dotsL r s) + (i : Int), c.1, c.2) : P3)) (cellsL r u).length (fun v => by simp)] at this
  unfold useN useD
  refine Nat.le_trans this ?_
  rw [Nat.mul_comm]
  exact Nat.mul_le_mul_left _ (by omega)
theorem busy_le {r : RecD} {s : SchedD} {u : P3} (hl : latErr r s = 0) (h : clashL r s u = none) : (busyL r u : Int) ≤ latI r s := by
  have hs := lat_span hl
  have hpos := lat_ne hl
  have hd0 : dotsL r s ≠ [] := by
    intro e; have := congrArg List.length e; unfold dotsL at this; simp at this; rw [this] at hpos; simp at hpos
  have hmm := minI_le (maxI_mem hd0)
  have key : ∀ m c, (idxs (((ptsL r.n r.l).map (cellC r.n u)).take m) c).length ≤ (maxI (dotsL r s) - minI (dotsL r s) + 1).toNat := by
    intro m c
    have hin : ∀ j ∈ idxs (((ptsL r.n r.l).map (cellC r.n u)).take m) c, ∃ p, (ptsL r.n r.l)[j]? = some p ∧ cellC r.n u p = c := by
      intro j hj
      have := mem_idxs.1 hj
      rw [List.getElem?_take] at this
      split at this
      · rw [List.getElem?_map] at this
        obtain ⟨p, h1, h2⟩ := Option.map_eq_some_iff.1 this
        exact ⟨p, h1, h2⟩
      · cases this
    have hnd : ((idxs (((ptsL r.n r.l).map (cellC r.n u)).take m) c).map fun j => dot3 s.f ((ptsL r.n r.l).getD j (0, 0, 0))).Nodup := by
      rw [List.nodup_iff_pairwise_ne, List.pairwise_map]
      have hf : (idxs (((ptsL r.n r.l).map (cellC r.n u)).take m) c).Pairwise (· < ·) := by
        unfold idxs; exact List.Pairwise.filter _ List.pairwise_lt_range
      refine List.Pairwise.imp_of_mem (fun {a b} ha hb hab e => ?_) hf
      obtain ⟨p, hp, hpc⟩ := hin a ha
      obtain ⟨q, hq, hqc⟩ := hin b hb
      simp only [List.getD, hp, hq, Option.getD_some] at e
      have hk : keyS r s u p = keyS r s u q := by unfold keyS; rw [e, hpc, hqc]
      have := clash_inj (show clashF ((ptsL r.n r.l).map (keyS r s u)) = none from h) (i := a) (j := b) (a := keyS r s u p) (by rw [List.getElem?_map, hp]; rfl) (by rw [List.getElem?_map, hq, hk]; rfl)
      omega
    have hsub : ∀ t ∈ (idxs (((ptsL r.n r.l).map (cellC r.n u)).take m) c).map (fun j => dot3 s.f ((ptsL r.n r.l).getD j (0, 0, 0))), t ∈ (List.range (maxI (dotsL r s) - minI (dotsL r s) + 1).toNat).map (fun i : Nat => minI (dotsL r s) + (i : Int)) := by
      intro t ht
      obtain ⟨j, hj, rfl⟩ := List.mem_map.1 ht
      obtain ⟨p, hp, hpc⟩ := hin j hj
      have hb := dots_in (s := s) (List.mem_of_getElem? hp)
      refine List.mem_map.2 ⟨(dot3 s.f p - minI (dotsL r s)).toNat, List.mem_range.2 (by omega), ?_⟩
      simp only [List.getD, hp, Option.getD_some]
      omega
    have := nodup_len _ _ hnd hsub
    simpa using this
  have hb : ∀ i, busyTo ((ptsL r.n r.l).map (cellC r.n u)) i ≤ (maxI (dotsL r s) - minI (dotsL r s) + 1).toNat := by
    intro i
    induction i with
    | zero => exact Nat.zero_le _
    | succ i ih =>
      show max _ _ ≤ _
      exact Nat.max_le.2 ⟨ih, key _ _⟩
  have := hb (ptsL r.n r.l).length
  unfold busyL
  omega
theorem best_law (r : RecD) (s : SchedD) (k : Nat) : (∀ j, j < k → goodB r s (dirK j) = true → (bestTo r s k).2 ≠ 0 ∧ (bestTo r s k).2 ≤ (cellsL r (dirK j)).length) ∧ ((bestTo r s k).2 ≠ 0 → goodB r s (bestTo r s k).1 = true ∧ (cellsL r (bestTo r s k).1).length = (bestTo r s k).2) := by
  induction k with
  | zero => exact ⟨fun j hj => absurd hj (by omega), fun h => absurd rfl h⟩
  | succ k ih =>
    rw [bestTo_succ]
    obtain ⟨h1, h2⟩ := ih
    cases hg : goodB r s (dirK k)
    · rw [step_bad hg]
      refine ⟨fun j hj hgj => ?_, h2⟩
      by_cases e : j = k
      · subst e; rw [hg] at hgj; cases hgj
      · exact h1 j (by omega) hgj
    · have hp : 0 < (cellsL r (dirK k)).length := by
        have : 0 < (ptsL r.n r.l).length := by
          unfold goodB at hg; simp at hg; exact hg.2.1
        exact cellsL_pos this
      by_cases hq : (bestTo r s k).2 = 0 ∨ (cellsL r (dirK k)).length < (bestTo r s k).2
      · rw [step_take hg hq]
        refine ⟨fun j hj hgj => ⟨by simp only; omega, ?_⟩, fun _ => ⟨hg, rfl⟩⟩
        by_cases e : j = k
        · subst e; exact Nat.le_refl _
        · have := h1 j (by omega) hgj
          simp only; omega
      · rw [step_keep hq]
        refine ⟨fun j hj hgj => ?_, h2⟩
        by_cases e : j = k
        · subst e; omega
        · exact h1 j (by omega) hgj
/-- Whether a direction is one of the 27. -/
def smallB (u : P3) : Bool := decide (-1 ≤ u.1 ∧ u.1 ≤ 1) && (decide (-1 ≤ u.2.1 ∧ u.2.1 ≤ 1) && decide (-1 ≤ u.2.2 ∧ u.2.2 ≤ 1))
theorem small_dir {u : P3} (h : smallB u = true) : ∃ k, k < 27 ∧ dirK k = u := by
  simp only [smallB, Bool.and_eq_true, decide_eq_true_eq] at h
  obtain ⟨x, y, z⟩ := u
  simp only at h
  refine ⟨(x + 1).toNat * 9 + (y + 1).toNat * 3 + (z + 1).toNat, by omega, ?_⟩
  exact dirK_at (by omega) (by omega) (by omega) (by omega) (by omega)
theorem best_least {r : RecD} {s : SchedD} {u : P3} (hu : smallB u = true) (hg : goodB r s u = true) : (bestTo r s 27).2 ≠ 0 ∧ (cellsL r (bestTo r s 27).1).length ≤ (cellsL r u).length := by
  obtain ⟨k, hk, rfl⟩ := small_dir hu
  obtain ⟨h1, h2⟩ := best_law r s 27
  obtain ⟨h3, h4⟩ := h1 k hk hg
  exact ⟨h3, by rw [(h2 h3).2]; exact h4⟩
end Go.Proofs.YtndfdgdahinkpaaGreat
