/- A row of cells that the call owns, told cell by cell. -/
import Derived.Test.YtndfdgdahinkpaaCelE
namespace Go.Proofs.Ytndfdgdahinkpaa
open Go.RowKit Go.Lib
theorem OwnOf.row {W : World} {lo : Nat} {v : Value} {l : List (Int × Int)} (hown : OwnOf W lo 31 2 encC v l) (hpos : 0 < l.length) :
    ∃ g cap, v = .slice (some ⟨g, 0, none⟩) l.length cap ∧ lo ≤ g ∧ l.length ≤ cap ∧ cap ≤ maxLen ∧ RowC W g l.toArray := by
  unfold OwnOf at hown
  obtain ⟨hl, ⟨rfl, h0⟩ | ⟨g, cap, cur, rfl, hbg, hg, hc, hm, hs, ht⟩⟩ := id hown
  · omega
  have hcell := fun i hi => World.ownsRow.cellAt hown i hi
  refine ⟨g, cap, rfl, hbg, hc, hm, lt_of_block hg, fun j hj => ?_⟩
  have hj' : j < l.length := by simpa using hj
  have h1 := flatC_at l j hj'
  have e : l.toArray[j]! = l[j] := by rw [getElem!_pos _ j hj, List.getElem_toArray]
  have a0 := hcell (j * 2) (by omega)
  have a1 := hcell (j * 2 + 1) (by omega)
  rw [show j * 2 = 2 * j by omega] at a0 a1 ⊢
  rw [e]
  exact ⟨by rw [a0]; exact h1.1, by rw [a1]; exact h1.2, by simp [World.frozen?, hg], by simp [World.frozen?, hg]⟩
theorem RowC.sl {W : World} {g : Nat} {l : List (Int × Int)} (h : RowC W g l.toArray) {cap : Nat} (hc : l.length ≤ cap) (hm : cap ≤ maxLen) : SlOf W W.heap.size 2 encC (.slice (some ⟨g, 0, none⟩) l.length cap) l := by
  refine ⟨some ⟨g, 0, none⟩, cap, rfl, flatC_len l, hc, hm, (fun e => by cases e), .inr ⟨g, 0, rfl, h.1, fun i hi => ?_⟩⟩
  have key : ∀ k, k < l.length → W.cell? ⟨g, k * 2, none⟩ = some (.int .i64 l[k]!.1) ∧ W.cell? ⟨g, k * 2 + 1, none⟩ = some (.int .i64 l[k]!.2) ∧ (l.flatMap encC)[2 * k]? = some (.int .i64 l[k]!.1) ∧ (l.flatMap encC)[2 * k + 1]? = some (.int .i64 l[k]!.2) := fun k hk => by
    obtain ⟨a0, a1, -⟩ := h.2 k (by simpa using hk)
    have e : l.toArray[k]! = l[k] := by rw [getElem!_pos l.toArray k (by simpa using hk), List.getElem_toArray]
    have e2 : l[k]! = l[k] := getElem!_pos l k hk
    have h1 := flatC_at l k hk
    rw [e] at a0 a1
    rw [e2]
    exact ⟨a0, a1, h1⟩
  obtain ⟨k, hk⟩ : ∃ k, i = 2 * k ∨ i = 2 * k + 1 := ⟨i / 2, by omega⟩
  obtain ⟨a0, a1, b0, b1⟩ := key k (by omega)
  rcases hk with rfl | rfl
  · rw [show 0 + 2 * k = k * 2 by omega, a0, b0]
  · rw [show 0 + (2 * k + 1) = k * 2 + 1 by omega, a1, b1]
end Go.Proofs.Ytndfdgdahinkpaa
