/- The pieces of a disk, plainly; reading the rows of pieces and of slices of bytes. -/
import Derived.Test.YtpoofjioeljigaaByteP
namespace Go.Proofs.Ytpoofjioeljigaa
open Go.RowKit
/-- The first piece of bytes, and what is behind it. -/
def nextP (disk : Nat) (b : List Int) : Option ((Int × List Int) × List Int) :=
  if b.length = 0 ∨ 200 < b.getD 0 0 then none
  else if b.length < partLen disk (b.getD 0 0).toNat + 2 ∨ b.getD (partLen disk (b.getD 0 0).toNat + 1) 0 ≠ 165 then none
  else some ((b.getD 0 0, (b.take (partLen disk (b.getD 0 0).toNat + 1)).drop 1), b.drop (partLen disk (b.getD 0 0).toNat + 2))
theorem nextP_len {disk : Nat} {b r : List Int} {p : Int × List Int} (h : nextP disk b = some (p, r)) : r.length + p.2.length + 2 = b.length ∧ p.1 ≤ 200 := by
  unfold nextP at h
  split at h
  · cases h
  · rename_i h1
    split at h
    · cases h
    · rename_i h2
      simp only [Option.some.injEq, Prod.mk.injEq] at h
      obtain ⟨rfl, rfl⟩ := h
      simp only [List.length_drop, List.length_take]
      omega
def piecesF (disk : Nat) : Nat → List Int → List (Int × List Int)
  | 0, _ => []
  | f + 1, b => match nextP disk b with
    | none => []
    | some (p, r) => p :: piecesF disk f r
theorem piecesF_fuel (disk : Nat) : ∀ (f g : Nat) (b : List Int), b.length < f → b.length < g → piecesF disk f b = piecesF disk g b := by
  intro f
  induction f with
  | zero => intro g b h; omega
  | succ f ih =>
    intro g b hf hg
    cases g with
    | zero => omega
    | succ g =>
      simp only [piecesF]
      rcases h : nextP disk b with _ | ⟨p, r⟩
      · rfl
      · have := (nextP_len h).1
        simp only
        rw [ih g r (by omega) (by omega)]
def piecesL (disk : Nat) (b : List Int) : List (Int × List Int) := piecesF disk (b.length + 1) b
theorem piecesL_none {disk : Nat} {b : List Int} (h : nextP disk b = none) : piecesL disk b = [] := by simp only [piecesL, piecesF, h]
theorem piecesL_some {disk : Nat} {b r : List Int} {p : Int × List Int} (h : nextP disk b = some (p, r)) : piecesL disk b = p :: piecesL disk r := by
  have := (nextP_len h).1
  unfold piecesL
  rw [piecesF_fuel disk (r.length + 1) b.length r (by omega) (by omega)]
  simp only [piecesF, h]
/-- How many bytes pieces have. -/
def totalP (ps : List (Int × List Int)) : Nat := (ps.map fun p => p.2.length + 2).sum
theorem totalP_le (disk : Nat) : ∀ (n : Nat) (b : List Int), b.length ≤ n → totalP (piecesL disk b) ≤ b.length ∧ (piecesL disk b).length ≤ b.length ∧ ∀ p ∈ piecesL disk b, p.1 ≤ 200 := by
  intro n
  induction n with
  | zero =>
    intro b hb
    have : nextP disk b = none := by unfold nextP; rw [if_pos (.inl (by omega))]
    rw [piecesL_none this]; exact ⟨by simp [totalP], by simp, by simp⟩
  | succ n ih =>
    intro b hb
    rcases h : nextP disk b with _ | ⟨p, r⟩
    · rw [piecesL_none h]; exact ⟨by simp [totalP], by simp, by simp⟩
    · rw [piecesL_some h]
      have hl := nextP_len h
      obtain ⟨h1, h2, h3⟩ := ih r (by omega)
      refine ⟨?_, by simp; omega, ?_⟩
      · simp only [totalP, List.map_cons, List.sum_cons] at h1 ⊢; omega
      · intro q hq
        rcases List.mem_cons.1 hq with rfl | hq
        · exact hl.2
        · exact h3 q hq
theorem slPs : SlT Try.prog 94 97 (.agg #[.int .i64 0, .slice none 0 0]) 2 32 := ⟨Try.underlying94, by kernel_rfl, rfl, by decide⟩
theorem slBs : SlT Try.prog 57 34 (.slice none 0 0) 1 24 := ⟨Try.underlying57, by kernel_rfl, rfl, by decide⟩
end Go.Proofs.Ytpoofjioeljigaa
