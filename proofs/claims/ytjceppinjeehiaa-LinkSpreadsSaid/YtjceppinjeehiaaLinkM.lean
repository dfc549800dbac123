/- A set of cells as a map from api.Cell to bool. -/
import Derived.Maps.OwnIn
import Derived.Maps.Views
import Derived.DeepKeys4
import Derived.Test.YtjceppinjeehiaaKit
import Derived.Test.YtjceppinjeehiaaLinkR
namespace Go.Proofs.Ytjceppinjeehiaa
open Go.RowKit
theorem cell_keyed : Maps.Keyed Try.prog 24 := Maps.Keyed.of_law (deep_law_laid (m := 8) (by kernel_rfl) (by decide) (of_decide_eq_true (by kernel_rfl)) (by kernel_rfl) (by kernel_rfl))
theorem cell_key (x y : Int) (hx : (Lit.int .i64 x).wf = true) (hy : (Lit.int .i64 y).wf = true) : ∃ kl, keyOf Try.prog 24 (.agg #[.int .i64 x, .int .i64 y]) = some kl := by
  have e1 : Try.prog.cellsOf 3 = 1 := by kernel_rfl
  have e2 : Try.prog.cellsOf 24 = 2 := by kernel_rfl
  have e3 : Try.prog.keyType 24 = true := by kernel_rfl
  obtain ⟨m, hm⟩ : ∃ m, Try.prog.types.size + 1 = m + 2 := ⟨Try.prog.types.size - 1, by have : 1 ≤ Try.prog.types.size := of_decide_eq_true (by kernel_rfl); omega⟩
  have h2 : Try.prog.keyLits (m + 2) 24 [.int .i64 x, .int .i64 y] = some [.int .i64 x, .int .i64 y] := by
    simp [Program.keyLits, Try.underlying24, Try.underlying3, e1, e2, List.range_succ, hx, hy]
  unfold keyOf
  rw [hm]
  simp [Try.underlying24, e2, e3, Value.formed, Value.cells, h2]
/-- Block b is a map that has just the cells of S. -/
def Seen (w : World) (b : Nat) (S : List (Int × Int)) : Prop :=
  ∃ D : DataW Unit, w.ownsMap Try.prog 24 (plainElem Try.prog 4) b S.length D ∧ Maps.IsMap D ∧ ∀ x y kl, keyOf Try.prog 24 (.agg #[.int .i64 x, .int .i64 y]) = some kl → D.atKey kl (.lit (.bool false)) = .lit (.bool (decide ((x, y) ∈ S)))
theorem Seen.made (w : World) : Seen (w.alloc (.map #[] 0)) w.heap.size [] := ⟨.map [], World.ownsMap_made _ _ _ _, ⟨[], rfl⟩, fun x y kl _ => by simp [WideAt.atKey_none]⟩
theorem Seen.lt {w : World} {b : Nat} {S : List (Int × Int)} (h : Seen w b S) : b < w.heap.size := by obtain ⟨D, h1, -⟩ := h; exact h1.lt
theorem Seen.isWalk {w : World} {b : Nat} {S : List (Int × Int)} (h : Seen w b S) : ∃ o, w.heap[b]? = some o ∧ o.isCells = false ∧ o.isWalk = true := by
  obtain ⟨D, ⟨es, clock, hb, _⟩, -⟩ := h
  exact ⟨_, hb, rfl, rfl⟩
theorem Seen.of_block {w w' : World} {b : Nat} {S : List (Int × Int)} (h : Seen w b S) (hb : w'.heap[b]? = w.heap[b]?) : Seen w' b S := by
  obtain ⟨D, ⟨es, clock, h1, r⟩, h2⟩ := h
  exact ⟨D, ⟨es, clock, hb.trans h1, r⟩, h2⟩
set_option maxRecDepth 100000 in
theorem Seen.look {w : World} {b : Nat} {S : List (Int × Int)} (h : Seen w b S) (x y : Int) (hx : (Lit.int .i64 x).wf = true) (hy : (Lit.int .i64 y).wf = true) :
    (Instr.lookup 64 (.map (some b)) (.agg #[.int .i64 x, .int .i64 y]) false).run Try.prog w = .ok (.bool (decide ((x, y) ∈ S))) w := by
  obtain ⟨D, h1, hm, h2⟩ := h
  obtain ⟨kl, hk⟩ := cell_key x y hx hy
  obtain ⟨v, ps, hr, hv⟩ := h1.lookup (t := 64) cell_keyed Try.underlying64 (z := .bool false) (by kernel_rfl) (plainElem_bool Try.underlying4 false) hk
  rw [h2 x y kl hk] at hv
  rw [hr]
  have : v = .bool (decide ((x, y) ∈ S)) := by
    unfold plainElem at hv
    rw [Try.underlying4] at hv
    cases v <;> simp at hv ⊢
    exact hv.1
  rw [this]
theorem Seen.put {w : World} {b : Nat} {S : List (Int × Int)} (h : Seen w b S) (hS : S.length < 1000000) (x y : Int) (hx : (Lit.int .i64 x).wf = true) (hy : (Lit.int .i64 y).wf = true) :
    ∃ w', (Instr.mapUpdate 64 (.map (some b)) (.agg #[.int .i64 x, .int .i64 y]) (.bool true)).run Try.prog w = .ok () w' ∧ Seen w' b (S ++ [(x, y)]) ∧ w.grownBy w' (some b) := by
  obtain ⟨D, h1, hm, h2⟩ := h
  obtain ⟨kl, hk⟩ := cell_key x y hx hy
  obtain ⟨w', hr, ho, hg⟩ := h1.update (t := 64) cell_keyed Try.underlying64 (by unfold maxLen; omega) hk (plainElem_bool Try.underlying4 true)
  refine ⟨w', hr, ⟨D.put kl (.lit (.bool true)), by simpa using ho, hm.put _ _, ?_⟩, hg⟩
  intro x' y' kl' hk'
  by_cases he : kl' = kl
  · subst he
    have := cell_keyed.inj hk' hk
    simp at this
    rw [Maps.atKey_put_same hm (cell_keyed.key hk)]
    simp [this]
  · rw [Maps.atKey_put_other he, h2 x' y' kl' hk']
    have : ¬ ((x', y') = (x, y)) := fun e => he (by cases e; rw [hk] at hk'; cases hk'; rfl)
    simp only [Prod.mk.injEq] at this
    simp [this]
end Go.Proofs.Ytjceppinjeehiaa
