/- Small lemmas of my own, used by all the walks of this seat: what a call that writes nothing old leaves of the cells; equations between endings. More of what the walk's simplifier asks of block numbers. Laws of my own on slices that a call makes: one element put behind, what stays as it was, how such a slice reads. An element put behind a slice of the call's own, inside a region that draws its order. Cells and marks below a block; products within bounds. Equality of cells, as the machine reckons it: a law for the walks. Opening array arguments of integers: what the walk is told of them. Opening an argument that is two rows of three integers. Slices whose elements are told by data: how they read, and how they are opened as arguments. Slices that a call owns, told by data. A range over a function whose iterator keeps rows and maps of its own, while the body may own others: the contract and the law. A range over a function whose iterator makes memory but turns none: what the caller's body may own. An element put behind a slice of the call's own, inside a fence. Maps that a call makes, told as functions from keys to values. 'm[k] op= v' at a map that a call makes: the entry, then its store. What a map is behind the making of an entry. Conditions: none. -/
import Derived.Deep.RegionWith
import Derived.Test.YtnejicklenhpeaaGreatChecked
import Derived.WalkKit
import Derived.WalkSpells
import Derived.WalkLawsBesides
import Derived.Outline
import Derived.BigQuiet
import Derived.BigRegion
import Derived.RegionTactic
import Derived.Deep.QuietTactic
import Derived.StillTailTactics
import Derived.Lib.Hide
import Derived.LoopN
import Derived.ChangeAlike
import Derived.Maps.AppendAt
import Derived.Laws.AppendOwnNone
import Derived.Deep.RegionHeld3
import Derived.Deep.AppendLies
import Derived.ProofKit
import Derived.OpenShut
import Derived.ShutString
import Derived.ChangeOld
import Derived.Below
import Derived.ChangeSlices
import Derived.RangeFuncNested
import Derived.RangeFuncBound
import Derived.RangeFuncCalls
import Derived.RangeFuncLeaves
import Derived.Shelf.Abstract
import Derived.Shelf.RegionOpen
import Derived.WalkKit
import Derived.OwnWalkIn
import Derived.TacticsInMore
import Derived.LoopNIn
import Derived.LoopIn
import Derived.Maps.OwnIn
import Derived.Maps.Views
import Derived.DeepKeys4
import Derived.WideKeyEntry
namespace Go.Proofs.YtnejicklenhpeaaGreat
open Go.RowKit
/-- Below the old heap's size a call that only makes new blocks leaves each cell and each mark. -/
theorem bcell {W w1 : World} (hb : Below W.heap.size W w1) : (∀ b o, b < W.heap.size → w1.cell? ⟨b, o, none⟩ = W.cell? ⟨b, o, none⟩) ∧ (∀ b o, b < W.heap.size → w1.frozen? ⟨b, o, none⟩ = W.frozen? ⟨b, o, none⟩) :=
  ⟨fun b o h => hb.cell (p := ⟨b, o, none⟩) h, fun b o h => hb.frozen (p := ⟨b, o, none⟩) h⟩
/-- What the walk's simplifier asks of two block numbers at least 1 apart. -/
theorem z1 {a b : Nat} (h : a + 1 ≤ b) : a < b ∧ (a = b) = False ∧ (b = a) = False ∧ (a = b + 1) = False ∧ (b + 1 = a) = False ∧ (a = b + 1 + 1) = False ∧ (b + 1 + 1 = a) = False ∧ (a = b + 1 + 1 + 1) = False ∧ (b + 1 + 1 + 1 = a) = False ∧ (a = b + 1 + 1 + 1 + 1) = False ∧ (b + 1 + 1 + 1 + 1 = a) = False :=
  ⟨by omega, eq_false (by omega), eq_false (by omega), eq_false (by omega), eq_false (by omega), eq_false (by omega), eq_false (by omega), eq_false (by omega), eq_false (by omega), eq_false (by omega), eq_false (by omega)⟩
/-- What the walk's simplifier asks of two block numbers at least 2 apart. -/
theorem z2 {a b : Nat} (h : a + 1 + 1 ≤ b) : a < b ∧ a + 1 < b ∧ (a = b) = False ∧ (a + 1 = b) = False ∧ (b = a) = False ∧ (b = a + 1) = False ∧ (a = b + 1) = False ∧ (b + 1 = a) = False ∧ (a = b + 1 + 1) = False ∧ (b + 1 + 1 = a) = False ∧ (a = b + 1 + 1 + 1) = False ∧ (b + 1 + 1 + 1 = a) = False ∧ (a = b + 1 + 1 + 1 + 1) = False ∧ (b + 1 + 1 + 1 + 1 = a) = False :=
  ⟨by omega, by omega, eq_false (by omega), eq_false (by omega), eq_false (by omega), eq_false (by omega), eq_false (by omega), eq_false (by omega), eq_false (by omega), eq_false (by omega), eq_false (by omega), eq_false (by omega), eq_false (by omega), eq_false (by omega)⟩
/-- What the walk's simplifier asks of two block numbers at least 3 apart. -/
theorem z3 {a b : Nat} (h : a + 1 + 1 + 1 ≤ b) : a < b ∧ a + 1 < b ∧ a + 1 + 1 < b ∧ (a = b) = False ∧ (a + 1 = b) = False ∧ (a + 1 + 1 = b) = False ∧ (b = a) = False ∧ (b = a + 1) = False ∧ (b = a + 1 + 1) = False ∧ (a = b + 1) = False ∧ (b + 1 = a) = False ∧ (a = b + 1 + 1) = False ∧ (b + 1 + 1 = a) = False ∧ (a = b + 1 + 1 + 1) = False ∧ (b + 1 + 1 + 1 = a) = False ∧ (a = b + 1 + 1 + 1 + 1) = False ∧ (b + 1 + 1 + 1 + 1 = a) = False :=
  ⟨by omega, by omega, by omega, eq_false (by omega), eq_false (by omega), eq_false (by omega), eq_false (by omega), eq_false (by omega), eq_false (by omega), eq_false (by omega), eq_false (by omega), eq_false (by omega), eq_false (by omega), eq_false (by omega), eq_false (by omega), eq_false (by omega), eq_false (by omega)⟩
/-- What the walk's simplifier asks of two block numbers at least 4 apart. -/
theorem z4 {a b : Nat} (h : a + 1 + 1 + 1 + 1 ≤ b) : a < b ∧ a + 1 < b ∧ a + 1 + 1 < b ∧ a + 1 + 1 + 1 < b ∧ (a = b) = False ∧ (a + 1 = b) = False ∧ (a + 1 + 1 = b) = False ∧ (a + 1 + 1 + 1 = b) = False ∧ (b = a) = False ∧ (b = a + 1) = False ∧ (b = a + 1 + 1) = False ∧ (b = a + 1 + 1 + 1) = False ∧ (a = b + 1) = False ∧ (b + 1 = a) = False ∧ (a = b + 1 + 1) = False ∧ (b + 1 + 1 = a) = False ∧ (a = b + 1 + 1 + 1) = False ∧ (b + 1 + 1 + 1 = a) = False ∧ (a = b + 1 + 1 + 1 + 1) = False ∧ (b + 1 + 1 + 1 + 1 = a) = False :=
  ⟨by omega, by omega, by omega, by omega, eq_false (by omega), eq_false (by omega), eq_false (by omega), eq_false (by omega), eq_false (by omega), eq_false (by omega), eq_false (by omega), eq_false (by omega), eq_false (by omega), eq_false (by omega), eq_false (by omega), eq_false (by omega), eq_false (by omega), eq_false (by omega), eq_false (by omega), eq_false (by omega)⟩
/-- What the walk's simplifier asks of two block numbers at least 5 apart. -/
theorem z5 {a b : Nat} (h : a + 1 + 1 + 1 + 1 + 1 ≤ b) : a < b ∧ a + 1 < b ∧ a + 1 + 1 < b ∧ a + 1 + 1 + 1 < b ∧ a + 1 + 1 + 1 + 1 < b ∧ (a = b) = False ∧ (a + 1 = b) = False ∧ (a + 1 + 1 = b) = False ∧ (a + 1 + 1 + 1 = b) = False ∧ (a + 1 + 1 + 1 + 1 = b) = False ∧ (b = a) = False ∧ (b = a + 1) = False ∧ (b = a + 1 + 1) = False ∧ (b = a + 1 + 1 + 1) = False ∧ (b = a + 1 + 1 + 1 + 1) = False ∧ (a = b + 1) = False ∧ (b + 1 = a) = False ∧ (a = b + 1 + 1) = False ∧ (b + 1 + 1 = a) = False ∧ (a = b + 1 + 1 + 1) = False ∧ (b + 1 + 1 + 1 = a) = False ∧ (a = b + 1 + 1 + 1 + 1) = False ∧ (b + 1 + 1 + 1 + 1 = a) = False :=
  ⟨by omega, by omega, by omega, by omega, by omega, eq_false (by omega), eq_false (by omega), eq_false (by omega), eq_false (by omega), eq_false (by omega), eq_false (by omega), eq_false (by omega), eq_false (by omega), eq_false (by omega), eq_false (by omega), eq_false (by omega), eq_false (by omega), eq_false (by omega), eq_false (by omega), eq_false (by omega), eq_false (by omega), eq_false (by omega), eq_false (by omega)⟩
/-- What the walk's simplifier asks of two block numbers at least 6 apart. -/
theorem z6 {a b : Nat} (h : a + 1 + 1 + 1 + 1 + 1 + 1 ≤ b) : a < b ∧ a + 1 < b ∧ a + 1 + 1 < b ∧ a + 1 + 1 + 1 < b ∧ a + 1 + 1 + 1 + 1 < b ∧ a + 1 + 1 + 1 + 1 + 1 < b ∧ (a = b) = False ∧ (a + 1 = b) = False ∧ (a + 1 + 1 = b) = False ∧ (a + 1 + 1 + 1 = b) = False ∧ (a + 1 + 1 + 1 + 1 = b) = False ∧ (a + 1 + 1 + 1 + 1 + 1 = b) = False ∧ (b = a) = False ∧ (b = a + 1) = False ∧ (b = a + 1 + 1) = False ∧ (b = a + 1 + 1 + 1) = False ∧ (b = a + 1 + 1 + 1 + 1) = False ∧ (b = a + 1 + 1 + 1 + 1 + 1) = False ∧ (a = b + 1) = False ∧ (b + 1 = a) = False ∧ (a = b + 1 + 1) = False ∧ (b + 1 + 1 = a) = False ∧ (a = b + 1 + 1 + 1) = False ∧ (b + 1 + 1 + 1 = a) = False ∧ (a = b + 1 + 1 + 1 + 1) = False ∧ (b + 1 + 1 + 1 + 1 = a) = False :=
  ⟨by omega, by omega, by omega, by omega, by omega, by omega, eq_false (by omega), eq_false (by omega), eq_false (by omega), eq_false (by omega), eq_false (by omega), eq_false (by omega), eq_false (by omega), eq_false (by omega), eq_false (by omega), eq_false (by omega), eq_false (by omega), eq_false (by omega), eq_false (by omega), eq_false (by omega), eq_false (by omega), eq_false (by omega), eq_false (by omega), eq_false (by omega), eq_false (by omega), eq_false (by omega)⟩
/-- What the walk's simplifier asks of two block numbers at least 7 apart. -/
theorem z7 {a b : Nat} (h : a + 1 + 1 + 1 + 1 + 1 + 1 + 1 ≤ b) : a < b ∧ a + 1 < b ∧ a + 1 + 1 < b ∧ a + 1 + 1 + 1 < b ∧ a + 1 + 1 + 1 + 1 < b ∧ a + 1 + 1 + 1 + 1 + 1 < b ∧ a + 1 + 1 + 1 + 1 + 1 + 1 < b ∧ (a = b) = False ∧ (a + 1 = b) = False ∧ (a + 1 + 1 = b) = False ∧ (a + 1 + 1 + 1 = b) = False ∧ (a + 1 + 1 + 1 + 1 = b) = False ∧ (a + 1 + 1 + 1 + 1 + 1 = b) = False ∧ (a + 1 + 1 + 1 + 1 + 1 + 1 = b) = False ∧ (b = a) = False ∧ (b = a + 1) = False ∧ (b = a + 1 + 1) = False ∧ (b = a + 1 + 1 + 1) = False ∧ (b = a + 1 + 1 + 1 + 1) = False ∧ (b = a + 1 + 1 + 1 + 1 + 1) = False ∧ (b = a + 1 + 1 + 1 + 1 + 1 + 1) = False ∧ (a = b + 1) = False ∧ (b + 1 = a) = False ∧ (a = b + 1 + 1) = False ∧ (b + 1 + 1 = a) = False ∧ (a = b + 1 + 1 + 1) = False ∧ (b + 1 + 1 + 1 = a) = False ∧ (a = b + 1 + 1 + 1 + 1) = False ∧ (b + 1 + 1 + 1 + 1 = a) = False :=
  ⟨by omega, by omega, by omega, by omega, by omega, by omega, by omega, eq_false (by omega), eq_false (by omega), eq_false (by omega), eq_false (by omega), eq_false (by omega), eq_false (by omega), eq_false (by omega), eq_false (by omega), eq_false (by omega), eq_false (by omega), eq_false (by omega), eq_false (by omega), eq_false (by omega), eq_false (by omega), eq_false (by omega), eq_false (by omega), eq_false (by omega), eq_false (by omega), eq_false (by omega), eq_false (by omega), eq_false (by omega), eq_false (by omega)⟩
/-- What the walk's simplifier asks of two block numbers at least 8 apart. -/
theorem z8 {a b : Nat} (h : a + 1 + 1 + 1 + 1 + 1 + 1 + 1 + 1 ≤ b) : a < b ∧ a + 1 < b ∧ a + 1 + 1 < b ∧ a + 1 + 1 + 1 < b ∧ a + 1 + 1 + 1 + 1 < b ∧ a + 1 + 1 + 1 + 1 + 1 < b ∧ a + 1 + 1 + 1 + 1 + 1 + 1 < b ∧ a + 1 + 1 + 1 + 1 + 1 + 1 + 1 < b ∧ (a = b) = False ∧ (a + 1 = b) = False ∧ (a + 1 + 1 = b) = False ∧ (a + 1 + 1 + 1 = b) = False ∧ (a + 1 + 1 + 1 + 1 = b) = False ∧ (a + 1 + 1 + 1 + 1 + 1 = b) = False ∧ (a + 1 + 1 + 1 + 1 + 1 + 1 = b) = False ∧ (a + 1 + 1 + 1 + 1 + 1 + 1 + 1 = b) = False ∧ (b = a) = False ∧ (b = a + 1) = False ∧ (b = a + 1 + 1) = False ∧ (b = a + 1 + 1 + 1) = False ∧ (b = a + 1 + 1 + 1 + 1) = False ∧ (b = a + 1 + 1 + 1 + 1 + 1) = False ∧ (b = a + 1 + 1 + 1 + 1 + 1 + 1) = False ∧ (b = a + 1 + 1 + 1 + 1 + 1 + 1 + 1) = False ∧ (a = b + 1) = False ∧ (b + 1 = a) = False ∧ (a = b + 1 + 1) = False ∧ (b + 1 + 1 = a) = False ∧ (a = b + 1 + 1 + 1) = False ∧ (b + 1 + 1 + 1 = a) = False ∧ (a = b + 1 + 1 + 1 + 1) = False ∧ (b + 1 + 1 + 1 + 1 = a) = False :=
  ⟨by omega, by omega, by omega, by omega, by omega, by omega, by omega, by omega, eq_false (by omega), eq_false (by omega), eq_false (by omega), eq_false (by omega), eq_false (by omega), eq_false (by omega), eq_false (by omega), eq_false (by omega), eq_false (by omega), eq_false (by omega), eq_false (by omega), eq_false (by omega), eq_false (by omega), eq_false (by omega), eq_false (by omega), eq_false (by omega), eq_false (by omega), eq_false (by omega), eq_false (by omega), eq_false (by omega), eq_false (by omega), eq_false (by omega), eq_false (by omega), eq_false (by omega)⟩
/-- What the walk's simplifier asks of two block numbers at least 9 apart. -/
theorem z9 {a b : Nat} (h : a + 1 + 1 + 1 + 1 + 1 + 1 + 1 + 1 + 1 ≤ b) : a < b ∧ a + 1 < b ∧ a + 1 + 1 < b ∧ a + 1 + 1 + 1 < b ∧ a + 1 + 1 + 1 + 1 < b ∧ a + 1 + 1 + 1 + 1 + 1 < b ∧ a + 1 + 1 + 1 + 1 + 1 + 1 < b ∧ a + 1 + 1 + 1 + 1 + 1 + 1 + 1 < b ∧ a + 1 + 1 + 1 + 1 + 1 + 1 + 1 + 1 < b ∧ (a = b) = False ∧ (a + 1 = b) = False ∧ (a + 1 + 1 = b) = False ∧ (a + 1 + 1 + 1 = b) = False ∧ (a + 1 + 1 + 1 + 1 = b) = False ∧ (a + 1 + 1 + 1 + 1 + 1 = b) = False ∧ (a + 1 + 1 + 1 + 1 + 1 + 1 = b) = False ∧ (a + 1 + 1 + 1 + 1 + 1 + 1 + 1 = b) = False ∧ (a + 1 + 1 + 1 + 1 + 1 + 1 + 1 + 1 = b) = False ∧ (b = a) = False ∧ (b = a + 1) = False ∧ (b = a + 1 + 1) = False ∧ (b = a + 1 + 1 + 1) = False ∧ (b = a + 1 + 1 + 1 + 1) = False ∧ (b = a + 1 + 1 + 1 + 1 + 1) = False ∧ (b = a + 1 + 1 + 1 + 1 + 1 + 1) = False ∧ (b = a + 1 + 1 + 1 + 1 + 1 + 1 + 1) = False ∧ (b = a + 1 + 1 + 1 + 1 + 1 + 1 + 1 + 1) = False ∧ (a = b + 1) = False ∧ (b + 1 = a) = False ∧ (a = b + 1 + 1) = False ∧ (b + 1 + 1 = a) = False ∧ (a = b + 1 + 1 + 1) = False ∧ (b + 1 + 1 + 1 = a) = False ∧ (a = b + 1 + 1 + 1 + 1) = False ∧ (b + 1 + 1 + 1 + 1 = a) = False :=
  ⟨by omega, by omega, by omega, by omega, by omega, by omega, by omega, by omega, by omega, eq_false (by omega), eq_false (by omega), eq_false (by omega), eq_false (by omega), eq_false (by omega), eq_false (by omega), eq_false (by omega), eq_false (by omega), eq_false (by omega), eq_false (by omega), eq_false (by omega), eq_false (by omega), eq_false (by omega), eq_false (by omega), eq_false (by omega), eq_false (by omega), eq_false (by omega), eq_false (by omega), eq_false (by omega), eq_false (by omega), eq_false (by omega), eq_false (by omega), eq_false (by omega), eq_false (by omega), eq_false (by omega), eq_false (by omega)⟩
/-- What the walk's simplifier asks of two block numbers at least 10 apart. -/
theorem z10 {a b : Nat} (h : a + 1 + 1 + 1 + 1 + 1 + 1 + 1 + 1 + 1 + 1 ≤ b) : a < b ∧ a + 1 < b ∧ a + 1 + 1 < b ∧ a + 1 + 1 + 1 < b ∧ a + 1 + 1 + 1 + 1 < b ∧ a + 1 + 1 + 1 + 1 + 1 < b ∧ a + 1 + 1 + 1 + 1 + 1 + 1 < b ∧ a + 1 + 1 + 1 + 1 + 1 + 1 + 1 < b ∧ a + 1 + 1 + 1 + 1 + 1 + 1 + 1 + 1 < b ∧ a + 1 + 1 + 1 + 1 + 1 + 1 + 1 + 1 + 1 < b ∧ (a = b) = False ∧ (a + 1 = b) = False ∧ (a + 1 + 1 = b) = False ∧ (a + 1 + 1 + 1 = b) = False ∧ (a + 1 + 1 + 1 + 1 = b) = False ∧ (a + 1 + 1 + 1 + 1 + 1 = b) = False ∧ (a + 1 + 1 + 1 + 1 + 1 + 1 = b) = False ∧ (a + 1 + 1 + 1 + 1 + 1 + 1 + 1 = b) = False ∧ (a + 1 + 1 + 1 + 1 + 1 + 1 + 1 + 1 = b) = False ∧ (a + 1 + 1 + 1 + 1 + 1 + 1 + 1 + 1 + 1 = b) = False ∧ (b = a) = False ∧ (b = a + 1) = False ∧ (b = a + 1 + 1) = False ∧ (b = a + 1 + 1 + 1) = False ∧ (b = a + 1 + 1 + 1 + 1) = False ∧ (b = a + 1 + 1 + 1 + 1 + 1) = False ∧ (b = a + 1 + 1 + 1 + 1 + 1 + 1) = False ∧ (b = a + 1 + 1 + 1 + 1 + 1 + 1 + 1) = False ∧ (b = a + 1 + 1 + 1 + 1 + 1 + 1 + 1 + 1) = False ∧ (b = a + 1 + 1 + 1 + 1 + 1 + 1 + 1 + 1 + 1) = False ∧ (a = b + 1) = False ∧ (b + 1 = a) = False ∧ (a = b + 1 + 1) = False ∧ (b + 1 + 1 = a) = False ∧ (a = b + 1 + 1 + 1) = False ∧ (b + 1 + 1 + 1 = a) = False ∧ (a = b + 1 + 1 + 1 + 1) = False ∧ (b + 1 + 1 + 1 + 1 = a) = False :=
  ⟨by omega, by omega, by omega, by omega, by omega, by omega, by omega, by omega, by omega, by omega, eq_false (by omega), eq_false (by omega), eq_false (by omega), eq_false (by omega), eq_false (by omega), eq_false (by omega), eq_false (by omega), eq_false (by omega), eq_false (by omega), eq_false (by omega), eq_false (by omega), eq_false (by omega), eq_false (by omega), eq_false (by omega), eq_false (by omega), eq_false (by omega), eq_false (by omega), eq_false (by omega), eq_false (by omega), eq_false (by omega), eq_false (by omega), eq_false (by omega), eq_false (by omega), eq_false (by omega), eq_false (by omega), eq_false (by omega), eq_false (by omega), eq_false (by omega)⟩
/-- The kit's law of a region that reads quietly but for its tail, with the drawn world by its name. -/
theorem stilld {P : Program} {id : Nat} {Q : Exit → Act → World → Prop} {a : Act} {w : World} {l : List Oper} (n : Nat) (hm : P.follows .mixedOrders = true) (hB : Region.lexTailB .any l.toArray n = true)
    (h : wpStill P l.toArray w.drew (fun a' => wpList P l.toArray Q (l.drop n) a' w.drew) (l.take n) a) : (Code.region id l.toArray true).wp P Q a w :=
  wp_region_still_tail n hm hB h
theorem below_drewN {B : Nat} {a w : World} (h : Below B a w) (n : Nat) : Below B a (w.drewN n) := ⟨h.os, h.tape, h.output, h.size, h.block⟩
theorem ret_bool {a b : Bool} (h : a = b) : Ending.returned (.bool a) = Ending.returned (.bool b) := by rw [h]
theorem ret_int {k : IntKind} {a b : Int} (h : a = b) : Ending.returned (.int k a) = Ending.returned (.int k b) := by rw [h]
end Go.Proofs.YtnejicklenhpeaaGreat
namespace Go.Proofs.YtnejicklenhpeaaGreat
theorem yy {a b : Nat} (h : a < b) : a ≤ b ∧ a < b + 1 ∧ a < b + 1 + 1 ∧ a < b + 1 + 1 + 1 ∧ a < b + 1 + 1 + 1 + 1 ∧ a < b + 1 + 1 + 1 + 1 + 1 ∧ a < b + 1 + 1 + 1 + 1 + 1 + 1 ∧ a < b + 1 + 1 + 1 + 1 + 1 + 1 + 1 :=
  ⟨by omega, by omega, by omega, by omega, by omega, by omega, by omega, by omega⟩
/-- A call goes through if it does in every world of which a few facts hold. -/
theorem forget {P : Program} {f : FuncId} {args : Array Value} {W : World} {Q : Ending → World → Prop} (S : World → Prop) (hS : S W) (h : ∀ W, S W → Calls P f args W Q) : Calls P f args W Q := h W hS
/-- A piece of code goes through if it does in every world of which a few facts hold. -/
theorem forgetW {P : Program} {c : Code} {Q : Exit → Act → World → Prop} {a : Act} {W : World} (S : World → Prop) (hS : S W) (h : ∀ W, S W → c.wp P Q a W) : c.wp P Q a W := h W hS
end Go.Proofs.YtnejicklenhpeaaGreat
namespace Go.Proofs.YtnejicklenhpeaaGreat
open Go.RowKit
/-- The row of the table for a slice type: its elements' type, zero value, cells and bytes. -/
def SlT (P : Program) (t e : TypeId) (z : Value) (size bytes : Nat) : Prop :=
  P.underlying t = some (.slice e) ∧ (P.info? e).map (fun i => (i.zero, i.size, i.bytes)) = some (some z, size, bytes) ∧ z.cells.size = size ∧ 0 < size
/-- 'append(s, x)' of one element, s the call's own: one law for both arms. -/
theorem wpList_push {P : Program} {ops : Array Oper} {rest : List Oper} {o : Oper} {a : Act} {Q : Exit → Act → World → Prop} {w0 : World} {cs : Array Value} {t0 : TypeId} (hgd : o.guard = none) (s x : Operand) (t : TypeId)
    (ho : o.op = .call { callee := .builtin .append, args := #[s, x], argTypes := #[t, t] })
    {base : Nat} {e : TypeId} {z : Value} {size bytes : Nat} (T : SlT P t e z size bytes)
    {v : Value} {n : Nat} {xs : List Value} (hown : w0.ownsRow base e size v n xs) (hs : a.eval s = v)
    {b c : Nat} (hx : a.eval x = .slice (some ⟨b, 0, none⟩) 1 c) (hb : b = w0.heap.size) (hcs : cs.size = size) (h1 : cs.toList.all Value.oneCell' = true)
    (h63 : n + 1 ≤ 1073741824) (hbytes : bytes ≤ 1024) (hbase : base ≤ w0.heap.size)
    (h : ∀ (g c' : Nat) (w' : World), w'.ownsRow base e size (.slice (some ⟨g, 0, none⟩) (n + 1) c') (n + 1) (xs ++ cs.toList) → w0.grownBy w' v.ownBlock → (v.ownBlock = some g ∨ w0.heap.size ≤ g) → wpList P ops Q rest (a.put o.dst (.slice (some ⟨g, 0, none⟩) (n + 1) c')) w') :
    wpList P ops Q (o :: rest) a (w0.alloc (.cells cs t0)) := by
  obtain ⟨ht, hinf, hzs, hsz⟩ := T
  obtain ⟨i, hi, hz, hz1, hz2⟩ := info_parts hinf
  subst hb
  refine wpList_append_own_at _ hgd s x t ho base e i z size bytes ht hi hz hz1 hz2 hzs hsz v n xs hs (hown.alloc _) ⟨w0.heap.size, 0, none⟩ 1 c cs.toList hx (by simp [hcs]) ?_ ?_ (by unfold maxLen; omega) ?_ (by simp; omega) ?_
  · intro j u hj
    have hj' : cs[j]? = some u := by simpa using hj
    have e : (⟨w0.heap.size, 0, none⟩ : Addr).add j = ⟨w0.heap.size, j, none⟩ := by simp only [Addr.add]; split <;> simp_all
    rw [e]
    simp only [World.cell?, heap_alloc_new]
    exact hj'
  · intro u hu
    exact List.all_eq_true.1 h1 u hu
  · have : (n + 1) * bytes ≤ 1073741824 * 1024 := Nat.mul_le_mul h63 hbytes
    omega
  · intro v' w' ho' hg _ hat
    rcases ho'.2 with ⟨_, hn⟩ | ⟨g, cap, cur, rfl, hr⟩
    · omega
    · refine h g cap w' ho' ((World.grownBy_alloc _ _ _).trans hg) ?_
      rcases hat with hat | hat
      · exact .inl hat.symm
      · simp [Value.ownBlock] at hat; exact .inr (by omega)
/-- Below the base of what was grown all is as it was. -/
theorem below_push {B base : Nat} {W w w' : World} {e : TypeId} {size n : Nat} {v : Value} {xs : List Value} (hb : Below B W w) (hown : w.ownsRow base e size v n xs) (hB : B ≤ base) (hw : B ≤ w.heap.size) (hg : w.grownBy w' v.ownBlock) : Below B W w' := by
  refine hb.grown hg hw (fun k hk => ?_)
  rcases hown.2 with ⟨rfl, _⟩ | ⟨g, cap, cur, rfl, hbg, _⟩
  · simp [Value.ownBlock] at hk
  · simp [Value.ownBlock] at hk; omega
/-- In world w the slice v of n elements reads the cells xs, which lie below block B. -/
def Sl (w : World) (B size : Nat) (v : Value) (n : Nat) (xs : List Value) : Prop :=
  ∃ a cap, v = .slice a n cap ∧ xs.length = n * size ∧ n ≤ cap ∧ cap ≤ maxLen ∧ (a = none → cap = 0) ∧ (n = 0 ∨ ∃ b off, a = some ⟨b, off, none⟩ ∧ b < B ∧ ∀ i, i < n * size → w.cell? ⟨b, off + i, none⟩ = xs[i]?)
theorem Sl.kept {w w' : World} {B size n : Nat} {v : Value} {xs : List Value} (h : Sl w B size v n xs) (hb : Below B w w') : Sl w' B size v n xs := by
  obtain ⟨a, cap, rfl, hl, hc, hm, h0, hr⟩ := h
  refine ⟨a, cap, rfl, hl, hc, hm, h0, hr.imp id ?_⟩
  rintro ⟨b, off, rfl, hlt, hx⟩
  exact ⟨b, off, rfl, hlt, fun i hi => (hb.cell (p := ⟨b, off + i, none⟩) hlt).trans (hx i hi)⟩
theorem Sl.mono {w : World} {B B' size n : Nat} {v : Value} {xs : List Value} (h : Sl w B size v n xs) (hB : B ≤ B') : Sl w B' size v n xs := by
  obtain ⟨a, cap, rfl, hl, hc, hm, h0, hr⟩ := h
  refine ⟨a, cap, rfl, hl, hc, hm, h0, hr.imp id ?_⟩
  rintro ⟨b, off, rfl, hlt, hx⟩
  exact ⟨b, off, rfl, Nat.lt_of_lt_of_le hlt hB, hx⟩
theorem Sl.of_own {w : World} {base : Nat} {e : TypeId} {size : Nat} {v : Value} {n : Nat} {xs : List Value} (h : w.ownsRow base e size v n xs) : Sl w w.heap.size size v n xs := by
  obtain ⟨hl, ⟨rfl, rfl⟩ | ⟨g, cap, cur, rfl, hbg, hg, hc, hm, hs, ht⟩⟩ := h
  · exact ⟨none, 0, rfl, hl, Nat.le_refl _, by unfold maxLen; omega, fun _ => rfl, .inl rfl⟩
  · refine ⟨_, cap, rfl, hl, hc, hm, by simp, .inr ⟨g, 0, rfl, lt_of_block hg, fun i hi => ?_⟩⟩
    rw [Nat.zero_add]
    exact World.ownsRow.cellAt (w := w) (base := base) (e := e) (size := size) ⟨hl, .inr ⟨g, cap, cur, rfl, hbg, hg, hc, hm, hs, ht⟩⟩ i hi
theorem Sl.nil (w : World) (B size : Nat) : Sl w B size (.slice none 0 0) 0 [] := ⟨none, 0, rfl, by simp, Nat.le_refl _, by unfold maxLen; omega, fun _ => rfl, .inl rfl⟩
/-- 'append(s, x...)', s the call's own, x any slice that reads: its cells are put behind. -/
theorem wpList_concat {P : Program} {ops : Array Oper} {rest : List Oper} {o : Oper} {a : Act} {Q : Exit → Act → World → Prop} {w : World} (hgd : o.guard = none) (s x : Operand) (t : TypeId)
    (ho : o.op = .call { callee := .builtin .append, args := #[s, x], argTypes := #[t, t] })
    {base : Nat} {e : TypeId} {z : Value} {size bytes : Nat} (T : SlT P t e z size bytes)
    {v : Value} {n : Nat} {xs : List Value} (hown : w.ownsRow base e size v n xs) (hs : a.eval s = v)
    {vx : Value} {B m : Nat} {news : List Value} (hsl : Sl w B size vx m news) (hx : a.eval x = vx) (h1 : news.all Value.oneCell' = true)
    (h63 : n + m ≤ 1073741824) (hbytes : bytes ≤ 1024) (hbase : base ≤ w.heap.size)
    (h : ∀ (b' : Option Addr) (c' : Nat) (w' : World), w'.ownsRow base e size (.slice b' (n + m) c') (n + m) (xs ++ news) → w.grownBy w' v.ownBlock → ((Value.slice b' (n + m) c').ownBlock = v.ownBlock ∨ (Value.slice b' (n + m) c').ownBlock = some w.heap.size) → wpList P ops Q rest (a.put o.dst (.slice b' (n + m) c')) w') :
    wpList P ops Q (o :: rest) a w := by
  obtain ⟨ht, hinf, hzs, hsz⟩ := T
  obtain ⟨i, hi, hz, hz1, hz2⟩ := info_parts hinf
  obtain ⟨ax, cap, rfl, hl, hc, hm, h0, hr⟩ := hsl
  cases ax with
  | none =>
    have hc0 := h0 rfl
    subst hc0
    have hm0 : m = 0 := by omega
    subst hm0
    have hn0 : news = [] := List.eq_nil_of_length_eq_zero (by simpa using hl)
    subst hn0
    refine wpList_append_own_none hgd s x t ho base e i size ht hi v n xs hs hown hx ?_
    have hv : ∃ b' c', v = .slice b' n c' := by
      rcases hown.2 with ⟨rfl, rfl⟩ | ⟨g, cap, cur, rfl, _⟩
      · exact ⟨_, _, rfl⟩
      · exact ⟨_, _, rfl⟩
    obtain ⟨b', c', rfl⟩ := hv
    exact h b' c' w (by simpa using hown) (World.grownBy.refl _ _) (.inl rfl)
  | some ad =>
    refine wpList_append_own_at _ hgd s x t ho base e i z size bytes ht hi hz hz1 hz2 hzs hsz v n xs hs hown ad m cap news hx hl ?_ (fun u hu => List.all_eq_true.1 h1 u hu) (by unfold maxLen; omega) ?_ hbase ?_
    · intro j u hj
      have hjl : j < news.length := (List.getElem?_eq_some_iff.1 hj).1
      rcases hr with rfl | ⟨b, off, he, _, hcell⟩
      · omega
      · cases he
        have e2 : (⟨b, off, none⟩ : Addr).add j = ⟨b, off + j, none⟩ := by simp only [Addr.add]; split <;> simp_all
        rw [e2, hcell j (by omega)]; exact hj
    · have : (n + m) * bytes ≤ 1073741824 * 1024 := Nat.mul_le_mul h63 hbytes
      omega
    · intro v' w' ho' hg _ hat
      have hv : ∃ b' c', v' = .slice b' (n + m) c' := by
        rcases ho'.2 with ⟨rfl, e⟩ | ⟨g, cap, cur, rfl, _⟩
        · exact ⟨_, _, by rw [e]⟩
        · exact ⟨_, _, rfl⟩
      obtain ⟨b', c', rfl⟩ := hv
      exact h b' c' w' ho' hg hat
end Go.Proofs.YtnejicklenhpeaaGreat
namespace Go.Proofs.YtnejicklenhpeaaGreat
open Go.RowKit
theorem grown_drew {w0 w : World} {row : Option Nat} (h : w0.grownBy w row) : w0.grownBy w.drew row := ⟨h.os, h.tape, h.output, h.size, h.block⟩
theorem grown_alloc {w0 w : World} {row : Option Nat} (h : w0.grownBy w row) (o : Obj) : w0.grownBy (w.alloc o) row := h.trans (World.grownBy_alloc _ _ _)
theorem step_push {P : Program} {ops : Array Oper} {o : Oper} {a : Act} {w w0 : World} {K : Act → World → Prop} {Q : Exit → Act → World → Prop} {E : Prop} (hgd : o.guard = none) (s x : Operand) (t : TypeId)
    (ho : o.op = .call { callee := .builtin .append, args := #[s, x], argTypes := #[t, t] })
    {base : Nat} {e : TypeId} {z : Value} {size bytes : Nat} (T : SlT P t e z size bytes)
    {v : Value} {n : Nat} {xs : List Value} (hown : w0.ownsRow base e size v n xs) (hs : a.eval s = v)
    {b c : Nat} {cs : Array Value} {t0 : TypeId} (hx : a.eval x = .slice (some ⟨b, 0, none⟩) 1 c) (hb : w.heap[b]? = some (.cells cs t0)) (hcs : cs.size = size) (h1 : cs.toList.all Value.oneCell' = true)
    (h63 : n + 1 ≤ 1073741824) (hbytes : bytes ≤ 1024) (hbase : base ≤ w0.heap.size) (hw0 : w0.grownBy w none)
    (h : ∀ (g c' : Nat) (w' : World), w'.ownsRow base e size (.slice (some ⟨g, 0, none⟩) (n + 1) c') (n + 1) (xs ++ cs.toList) → w0.grownBy w' v.ownBlock → (v.ownBlock = some g ∨ w0.heap.size ≤ g) → K (a.put o.dst (.slice (some ⟨g, 0, none⟩) (n + 1) c')) w') :
    if Region.wanted o (yielded ops a.tmps) = true then Oper.wp P o a w K Q else E := by
  obtain ⟨ht, hinf, hzs, hsz⟩ := T
  obtain ⟨i, hi, hz, hz1, hz2⟩ := info_parts hinf
  refine step_append_lies w hgd s x t ho base e i z size bytes ht hi hz hz1 hz2 hzs hsz v n xs hs (hown.kept hw0 (by cases v.ownBlock <;> simp)) ⟨b, 0, none⟩ 1 c cs.toList hx (by simp [hcs]) (World.news_of_block hb) (fun u hu => List.all_eq_true.1 h1 u hu) (by omega) (by unfold maxLen; omega) ?_ (Nat.le_trans hbase hw0.size) _ rfl ?_
  · have : (n + 1) * bytes ≤ 1073741824 * 1024 := Nat.mul_le_mul h63 hbytes
    omega
  · intro g cap w' ho' hg hat _
    have hw1 : w0.grownBy w v.ownBlock := ⟨hw0.os, hw0.tape, hw0.output, hw0.size, fun i hi _ => hw0.block i hi (by simp)⟩
    exact h g cap w' ho' (hw1.trans hg) (hat.imp id (fun e => by rw [e]; exact hw0.size))
end Go.Proofs.YtnejicklenhpeaaGreat
namespace Go.Proofs.YtnejicklenhpeaaGreat
open Go.RowKit
theorem bcellB {B : Nat} {W w1 : World} (hb : Below B W w1) : (∀ b o, b < B → w1.cell? ⟨b, o, none⟩ = W.cell? ⟨b, o, none⟩) ∧ (∀ b o, b < B → w1.frozen? ⟨b, o, none⟩ = W.frozen? ⟨b, o, none⟩) :=
  ⟨fun b o h => hb.cell (p := ⟨b, o, none⟩) h, fun b o h => hb.frozen (p := ⟨b, o, none⟩) h⟩
theorem mul_bd {a b A B : Int} (ha : -A ≤ a ∧ a ≤ A) (hb : -B ≤ b ∧ b ≤ B) : -(A * B) ≤ a * b ∧ a * b ≤ A * B := by
  have h1 := Int.mul_nonneg (show 0 ≤ A - a by omega) (show 0 ≤ B - b by omega)
  have h2 := Int.mul_nonneg (show 0 ≤ A + a by omega) (show 0 ≤ B + b by omega)
  have h3 := Int.mul_nonneg (show 0 ≤ A - a by omega) (show 0 ≤ B + b by omega)
  have h4 := Int.mul_nonneg (show 0 ≤ A + a by omega) (show 0 ≤ B - b by omega)
  simp only [Int.sub_mul, Int.mul_sub, Int.add_mul, Int.mul_add] at h1 h2 h3 h4
  omega
/-- Below B, then below the newer world's own size. -/
theorem below_at {B : Nat} {w a b : World} (h : Below B w a) (hB : B ≤ a.heap.size) (k : Below a.heap.size a b) : Below B w b := h.trans (k.mono hB)
end Go.Proofs.YtnejicklenhpeaaGreat
namespace Go.Proofs.YtnejicklenhpeaaGreat
open Go.RowKit
theorem eq_int (d : Nat) (a b : Int) (w : World) : (Op.equalIn (d + 1) 3 (.int .i64 a) (.int .i64 b)).run Tryz.prog w = .ok (decide (a = b)) w := by
  rw [run_equalIn_int w d 3 .i64 .i64 a b Tryz.underlying3]; congr 1
theorem part2_0 (x y : Value) (w : World) : (part 3 #[x, y] 0).run Tryz.prog w = .ok x w := by kernel_rfl
theorem part2_1 (x y : Value) (w : World) : (part 3 #[x, y] 1).run Tryz.prog w = .ok y w := by kernel_rfl
theorem eq_cell (a b c d : Int) (w : World) : (Op.equalIn 10000 31 (.agg #[.int .i64 a, .int .i64 b]) (.agg #[.int .i64 c, .int .i64 d])).run Tryz.prog w = .ok (decide (a = c) && decide (b = d)) w := by
  obtain ⟨i, hi⟩ : ∃ i, Tryz.prog.info? 3 = some i := Option.isSome_iff_exists.mp (by kernel_rfl)
  rw [run_equalIn_array w 9999 (n := 2) (e := 3) _ _ Tryz.underlying31 hi]
  simp only [show Tryz.prog.cellsOf 3 = 1 by kernel_rfl]
  by_cases h1 : a = c <;> by_cases h2 : b = d <;> simp [Op.eqItems, List.range_succ, part2_0, part2_1, eq_int 9998, h1, h2]
end Go.Proofs.YtnejicklenhpeaaGreat
namespace Go.Proofs.YtnejicklenhpeaaGreat
open Go.ChangeShapes Go.WideShapes Go.ChangeAt Go.RowKit
set_option linter.unusedVariables false
theorem okWide_arr {P : Program} {w : World} {r : Reach} {base : Nat} {t : TypeId} {n : Nat} {e : TypeId} {v : Value} (ht : P.underlying t = some (.array n e)) (h : Value.okWide P w r base t v) : ∃ cs, v = .agg cs ∧ cs.size = P.cellsOf t := by
  simp only [Value.okWide, ht] at h
  obtain ⟨cs, h1, h2, _⟩ := h
  exact ⟨cs, h1, h2⟩
theorem open_arr {P : Program} {w : World} {r : Reach} {b0 base spare : Nat} {H : Type} {enc : TypeId × Value → H} {spare' held : _} {t e : TypeId} {n : Nat} {k : IntKind} {v : Value} {d : DataW H} {ps : List MemPlace}
    (ht : P.underlying t = some (.array n e)) (he : P.underlying e = some (.int k)) (ce : P.cellsOf e = 1) (ct : P.cellsOf t = n) (hval : Value.okWide P w r b0 t v) (hd : DataW.Trod enc P w base spare' held t v d ps) :
    ∃ l : List Int, l.length = n ∧ v = .agg (l.map (Value.int k)).toArray ∧ ∀ x ∈ l, (Lit.int k x).wf = true := by
  obtain ⟨cs, rfl, hs⟩ := okWide_arr ht hval
  obtain ⟨fuel, hf⟩ := hd
  obtain ⟨xs, m, _, _, hl, hxn, hx⟩ := DataW.trod_array ht hf
  have key : ∀ i (hi : i < cs.size), ∃ z, cs[i] = .int k z ∧ (Lit.int k z).wf = true := by
    intro i hi
    have h1 := hx i (by omega)
    rw [ce, Nat.mul_one, List.getElem?_eq_getElem (by omega)] at h1
    obtain ⟨z, hz, _, hw⟩ := DataW.trod_int he h1
    refine ⟨z, ?_, hw⟩
    have hi' : i < cs.toList.length := by simpa using hi
    have : List.take 1 (List.drop i cs.toList) = [cs.toList[i]] := by
      rw [List.drop_eq_getElem_cons hi']; rfl
    simp only [Value.cells] at hz
    rw [this] at hz
    simpa using hz
  refine ⟨List.ofFn fun i : Fin cs.size => (key i.1 i.2).choose, by simp; omega, ?_, ?_⟩
  · congr 1
    apply Array.ext
    · simp
    · intro i h1 h2
      simp only [List.getElem_toArray, List.getElem_map, List.getElem_ofFn]
      exact (key i h1).choose_spec.1
  · intro x hx'
    rw [List.mem_ofFn] at hx'
    obtain ⟨i, rfl⟩ := hx'
    exact (key i.1 i.2).choose_spec.2
theorem open_arr2 {P : Program} {w : World} {r : Reach} {b0 base spare : Nat} {H : Type} {enc : TypeId × Value → H} {spare' held : _} {t e : TypeId} {k : IntKind} {v : Value} {d : DataW H} {ps : List MemPlace}
    (ht : P.underlying t = some (.array 2 e)) (he : P.underlying e = some (.int k)) (ce : P.cellsOf e = 1) (ct : P.cellsOf t = 2) (hval : Value.okWide P w r b0 t v) (hd : DataW.Trod enc P w base spare' held t v d ps) :
    ∃ a b, v = .agg #[.int k a, .int k b] ∧ (Lit.int k a).wf = true ∧ (Lit.int k b).wf = true := by
  obtain ⟨l, hl, rfl, hw⟩ := open_arr (spare := spare) ht he ce ct hval hd
  match l, hl with
  | [a, b], _ => exact ⟨a, b, rfl, hw a (by simp), hw b (by simp)⟩
theorem open_arr3 {P : Program} {w : World} {r : Reach} {b0 base spare : Nat} {H : Type} {enc : TypeId × Value → H} {spare' held : _} {t e : TypeId} {k : IntKind} {v : Value} {d : DataW H} {ps : List MemPlace}
    (ht : P.underlying t = some (.array 3 e)) (he : P.underlying e = some (.int k)) (ce : P.cellsOf e = 1) (ct : P.cellsOf t = 3) (hval : Value.okWide P w r b0 t v) (hd : DataW.Trod enc P w base spare' held t v d ps) :
    ∃ a b c, v = .agg #[.int k a, .int k b, .int k c] ∧ (Lit.int k a).wf = true ∧ (Lit.int k b).wf = true ∧ (Lit.int k c).wf = true := by
  obtain ⟨l, hl, rfl, hw⟩ := open_arr (spare := spare) ht he ce ct hval hd
  match l, hl with
  | [a, b, c], _ => exact ⟨a, b, c, rfl, hw a (by simp), hw b (by simp), hw c (by simp)⟩
theorem wf_i16 {a : Int} (h : (Lit.int .i16 a).wf = true) : -32768 ≤ a ∧ a ≤ 32767 := by
  simp [Lit.wf, IntKind.min, IntKind.max, IntKind.bits, IntKind.signed] at h; omega
theorem wf_i8 {a : Int} (h : (Lit.int .i8 a).wf = true) : -128 ≤ a ∧ a ≤ 127 := by
  simp [Lit.wf, IntKind.min, IntKind.max, IntKind.bits, IntKind.signed] at h; omega
theorem wf_u8 {a : Int} (h : (Lit.int .u8 a).wf = true) : 0 ≤ a ∧ a ≤ 255 := by
  simp [Lit.wf, IntKind.min, IntKind.max, IntKind.bits, IntKind.signed] at h; omega
theorem wf_i64 {a : Int} (h : (Lit.int .i64 a).wf = true) : -9223372036854775808 ≤ a ∧ a ≤ 9223372036854775807 := by
  simp [Lit.wf, IntKind.min, IntKind.max, IntKind.bits, IntKind.signed] at h; omega
end Go.Proofs.YtnejicklenhpeaaGreat
namespace Go.Proofs.YtnejicklenhpeaaGreat
open Go.ChangeShapes Go.WideShapes Go.ChangeAt Go.RowKit
set_option linter.unusedVariables false
theorem arr_elems {P : Program} {w : World} {base : Nat} {H : Type} {enc : TypeId × Value → H} {spare held : _} {fuel : Nat} {t e : TypeId} {n : Nat} {k : IntKind} {cs : List Value} {x : DataW H × List MemPlace}
    (ht : P.underlying t = some (.array n e)) (he : P.underlying e = some (.int k)) (ce : P.cellsOf e = 1) (hf : DataW.trod enc P w base spare held fuel t cs = some x) :
    ∀ i, i < n → i < cs.length → ∃ z, cs[i]? = some (.int k z) ∧ (Lit.int k z).wf = true := by
  obtain ⟨xs, m, _, _, hl, hxn, hx⟩ := DataW.trod_array ht hf
  intro i hi hi'
  have h1 := hx i hi
  rw [ce, Nat.mul_one, List.getElem?_eq_getElem (by omega)] at h1
  obtain ⟨z, hz, _, hw⟩ := DataW.trod_int he h1
  have : List.take 1 (List.drop i cs) = [cs[i]] := by rw [List.drop_eq_getElem_cons hi']; rfl
  rw [this] at hz
  exact ⟨z, by rw [List.getElem?_eq_getElem hi']; simpa using hz, hw⟩
theorem open_arr23 {P : Program} {w : World} {r : Reach} {b0 base spare : Nat} {H : Type} {enc : TypeId × Value → H} {spare' held : _} {t u e : TypeId} {k : IntKind} {v : Value} {d : DataW H} {ps : List MemPlace}
    (ht : P.underlying t = some (.array 2 u)) (hu : P.underlying u = some (.array 3 e)) (he : P.underlying e = some (.int k)) (ce : P.cellsOf e = 1) (cu : P.cellsOf u = 3) (ct : P.cellsOf t = 6) (hval : Value.okWide P w r b0 t v) (hd : DataW.Trod enc P w base spare' held t v d ps) :
    ∃ a0 a1 a2 c0 c1 c2, v = .agg #[.int k a0, .int k a1, .int k a2, .int k c0, .int k c1, .int k c2] ∧ (Lit.int k a0).wf = true ∧ (Lit.int k a1).wf = true ∧ (Lit.int k a2).wf = true ∧ (Lit.int k c0).wf = true ∧ (Lit.int k c1).wf = true ∧ (Lit.int k c2).wf = true := by
  obtain ⟨cs, rfl, hs⟩ := okWide_arr ht hval
  obtain ⟨fuel, hf⟩ := hd
  obtain ⟨xs, m, _, _, hl, hxn, hx⟩ := DataW.trod_array ht hf
  have hs6 : cs.size = 6 := by omega
  have g0 := hx 0 (by omega)
  have g1 := hx 1 (by omega)
  rw [cu, List.getElem?_eq_getElem (by omega)] at g0 g1
  have f0 := arr_elems hu he ce g0
  have f1 := arr_elems hu he ce g1
  obtain ⟨l⟩ := cs
  match l, hs6 with
  | [v0, v1, v2, v3, v4, v5], _ =>
    simp only [Value.cells] at f0 f1
    obtain ⟨z0, h0, w0⟩ := f0 0 (by omega) (by simp)
    obtain ⟨z1, h1, w1⟩ := f0 1 (by omega) (by simp)
    obtain ⟨z2, h2, w2⟩ := f0 2 (by omega) (by simp)
    obtain ⟨z3, h3, w3⟩ := f1 0 (by omega) (by simp)
    obtain ⟨z4, h4, w4⟩ := f1 1 (by omega) (by simp)
    obtain ⟨z5, h5, w5⟩ := f1 2 (by omega) (by simp)
    simp at h0 h1 h2 h3 h4 h5
    subst h0 h1 h2 h3 h4 h5
    exact ⟨z0, z1, z2, z3, z4, z5, rfl, w0, w1, w2, w3, w4, w5⟩
end Go.Proofs.YtnejicklenhpeaaGreat
namespace Go.Proofs.YtnejicklenhpeaaGreat
open Go.RowKit Go.ChangeShapes Go.WideShapes Go.ChangeAt
set_option linter.unusedVariables false
/-- In world w the slice v reads the elements l, each as enc says, below block B. -/
def SlOf {α : Type} (w : World) (B sz : Nat) (enc : α → List Value) (v : Value) (l : List α) : Prop := Sl w B sz v l.length (l.flatMap enc)
theorem SlOf.kept {α : Type} {w w' : World} {B sz : Nat} {enc : α → List Value} {v : Value} {l : List α} (h : SlOf w B sz enc v l) (hb : Below B w w') : SlOf w' B sz enc v l := Sl.kept h hb
theorem SlOf.mono {α : Type} {w : World} {B B' sz : Nat} {enc : α → List Value} {v : Value} {l : List α} (h : SlOf w B sz enc v l) (hB : B ≤ B') : SlOf w B' sz enc v l := Sl.mono h hB
theorem SlOf.below {α : Type} {w w' : World} {sz : Nat} {enc : α → List Value} {v : Value} {l : List α} (h : SlOf w w.heap.size sz enc v l) (hb : Below w.heap.size w w') : SlOf w' w'.heap.size sz enc v l := (h.kept hb).mono hb.size
theorem flat_len {α : Type} {enc : α → List Value} {sz : Nat} (he : ∀ a, (enc a).length = sz) : ∀ l : List α, (l.flatMap enc).length = l.length * sz
  | [] => by simp
  | a :: r => by rw [List.flatMap_cons, List.length_append, flat_len he r, he, List.length_cons, Nat.succ_mul, Nat.add_comm]
theorem flat_at {α : Type} {enc : α → List Value} {sz : Nat} (he : ∀ a, (enc a).length = sz) : ∀ (l : List α) (k j : Nat) (hk : k < l.length), j < sz → (l.flatMap enc)[sz * k + j]? = (enc l[k])[j]?
  | a :: r, 0, j, _, hj => by
    rw [List.flatMap_cons, Nat.mul_zero, Nat.zero_add, List.getElem?_append_left (by rw [he]; exact hj)]; rfl
  | a :: r, k + 1, j, hk, hj => by
    have h := flat_at he r k j (by simpa using hk) hj
    rw [List.flatMap_cons, List.getElem?_append_right (by rw [he, Nat.mul_add]; omega), he]
    rw [show sz * (k + 1) + j - sz = sz * k + j by rw [Nat.mul_add]; omega]
    exact h
theorem idx_of {P : Program} {t : TypeId} {size : Nat} (hu : P.underlying t = some (.slice (P.elem t))) (hsz : ∀ W, (sizeOf (P.elem t)).run P W = .ok size W) (g off n cap k : Nat) (hk : k < n) (W : World) :
    (Instr.indexAt t (.slice (some ⟨g, off, none⟩) n cap) (.int .i64 (k : Int))).run P W = .ok (.pointer (some ⟨g, off + size * k, none⟩)) W := by
  rw [run_indexAt_slice (P := P) (w := W) _ _ _ _ _ _ hu, if_pos (by omega), hsz]
  simp only [Result.andThen, Int.toNat_natCast, Addr.add, Nat.mul_comm]
  split <;> simp_all
/-- Indexing such a slice. -/
theorem SlOf.at {α : Type} {P : Program} {t : TypeId} {sz : Nat} {enc : α → List Value} (he : ∀ a, (enc a).length = sz) (hu : P.underlying t = some (.slice (P.elem t))) (hsz : ∀ W, (sizeOf (P.elem t)).run P W = .ok sz W) {w : World} {B : Nat} {v : Value} {l : List α} (h : SlOf w B sz enc v l) :
    ∃ a cap g off, v = .slice a l.length cap ∧ l.length ≤ cap ∧ cap ≤ maxLen ∧ ∀ k (hk : k < l.length), a = some ⟨g, off, none⟩ ∧ (∀ W, (Instr.indexAt t (.slice a l.length cap) (.int .i64 (k : Int))).run P W = .ok (.pointer (some ⟨g, off + sz * k, none⟩)) W) ∧ g < B ∧ ∀ j, j < sz → w.cell? ⟨g, off + sz * k + j, none⟩ = (enc l[k])[j]? := by
  obtain ⟨a, cap, rfl, hl, hc, hm, h0, h1 | ⟨g, off, rfl, hlt, hr⟩⟩ := h
  · exact ⟨a, cap, 0, 0, rfl, hc, hm, fun k hk => absurd hk (by omega)⟩
  · refine ⟨_, cap, g, off, rfl, hc, hm, fun k hk => ⟨rfl, fun W => idx_of hu hsz g off _ cap k hk W, hlt, fun j hj => ?_⟩⟩
    rw [Nat.add_assoc, ← flat_at he l k j hk hj]
    refine hr _ ?_
    have h1 : (k + 1) * sz ≤ l.length * sz := Nat.mul_le_mul_right sz hk
    rw [Nat.add_mul, Nat.one_mul, Nat.mul_comm k sz] at h1
    omega
theorem spot_none {w : World} {a : Addr} {v : Value} (h : w.cell? a = some v) : a.spot = none := by
  cases hs : a.spot with
  | none => rfl
  | some p =>
    simp only [World.cell?, hs, Option.isSome_some, if_true] at h
    split at h <;> simp at h
/-- Opening a slice, its elements opened each. -/
theorem open_slOf {α : Type} {P : Program} {w : World} {base : Nat} {H : Type} {enc' : TypeId × Value → H} {spare held : _} {t e : TypeId} {sz : Nat} {enc : α → List Value} {Good : α → Prop}
    (hu : P.underlying t = some (.slice e)) (hc : P.cellsOf e = sz) (hpos : 0 < sz) (he : ∀ a, (enc a).length = sz)
    (hel : ∀ m cs y, DataW.trod enc' P w base spare held m e cs = some y → ∃ a, cs = enc a ∧ Good a)
    {fuel : Nat} {v : Value} {x : DataW H × List MemPlace} (hf : DataW.trod enc' P w base spare held fuel t [v] = some x) : ∃ l : List α, SlOf w w.heap.size sz enc v l ∧ ∀ a ∈ l, Good a := by
  rcases DataW.trod_slice hu hf with ⟨hcs, _⟩ | ⟨a, len, cap, elems, rest, n, _, hcs, _, _, hl, hm, hlen, hel2, _⟩
  · obtain rfl : v = .slice none 0 0 := by simpa using hcs
    exact ⟨[], Sl.nil _ _ _, by simp⟩
  · obtain rfl : v = .slice (some a) len cap := by simpa using hcs
    have key : ∀ i, i < len → ∃ d : α, Good d ∧ ∀ j, j < sz → w.cell? ((a.add (i * sz)).add j) = (enc d)[j]? := by
      intro i hi
      have h1 := hel2 i hi
      rw [hc] at h1
      obtain ⟨y, hy⟩ : ∃ y, elems[i]? = some y := ⟨elems[i], by simp [hlen, hi]⟩
      rw [hy, Option.bind_eq_some_iff] at h1
      obtain ⟨cs, hcs, ht⟩ := h1
      obtain ⟨d, rfl, hg⟩ := hel _ _ _ ht
      obtain ⟨_, hl2, hcell⟩ := World.cells?_some hcs
      exact ⟨d, hg, fun j hj => hcell j (by omega)⟩
    by_cases h0 : len = 0
    · subst h0
      exact ⟨[], ⟨some a, cap, rfl, by simp, Nat.zero_le _, hm, by simp, .inl rfl⟩, by simp⟩
    · obtain ⟨d0, _, h00⟩ := key 0 (by omega)
      have hsp : a.spot = none := by
        have h1 := h00 0 hpos
        have e1 : (a.add (0 * sz)).add 0 = a := by simp [Addr.add]
        rw [e1, List.getElem?_eq_getElem (by rw [he]; exact hpos)] at h1
        exact spot_none h1
      obtain ⟨b, off, sp⟩ := a
      obtain rfl : sp = none := hsp
      have ead : ∀ j, (⟨b, off, none⟩ : Addr).add j = ⟨b, off + j, none⟩ := fun j => by simp only [Addr.add]; split <;> simp_all
      have ead2 : ∀ o j, (⟨b, o, none⟩ : Addr).add j = ⟨b, o + j, none⟩ := fun o j => by simp only [Addr.add]; split <;> simp_all
      have kk : ∀ i : Fin len, ∃ d : α, Good d ∧ ∀ j, j < sz → w.cell? ⟨b, off + i * sz + j, none⟩ = (enc d)[j]? := fun i => by
        obtain ⟨d, h1, h2⟩ := key i i.2
        exact ⟨d, h1, fun j hj => by have := h2 j hj; rwa [ead, ead2] at this⟩
      refine ⟨List.ofFn fun i : Fin len => (kk i).choose, ?_, fun d hd => ?_⟩
      · refine ⟨_, cap, by rw [List.length_ofFn], flat_len he _, by rw [List.length_ofFn]; exact hl, hm, by simp, .inr ⟨b, off, rfl, ?_, fun i hi => ?_⟩⟩
        · have h1 := (kk ⟨0, by omega⟩).choose_spec.2 0 hpos
          rw [List.getElem?_eq_getElem (by rw [he]; exact hpos)] at h1
          exact World.block_lt_of_cell? w _ h1
        · rw [List.length_ofFn] at hi
          have hq : i / sz < len := Nat.div_lt_of_lt_mul (by rw [Nat.mul_comm]; exact hi)
          have hr : i % sz < sz := Nat.mod_lt _ hpos
          have h1 := (kk ⟨i / sz, hq⟩).choose_spec.2 (i % sz) hr
          have e1 : i / sz * sz + i % sz = i := by rw [Nat.mul_comm]; exact Nat.div_add_mod i sz
          have h2 := flat_at he (List.ofFn fun i : Fin len => (kk i).choose) (i / sz) (i % sz) (by rw [List.length_ofFn]; exact hq) hr
          rw [show sz * (i / sz) + i % sz = i from Nat.div_add_mod i sz] at h2
          rw [h2, List.getElem_ofFn, ← h1, Nat.add_assoc, e1]
      · rw [List.mem_ofFn] at hd
        obtain ⟨i, rfl⟩ := hd
        exact (kk i).choose_spec.1
end Go.Proofs.YtnejicklenhpeaaGreat
namespace Go.Proofs.YtnejicklenhpeaaGreat
open Go.RowKit
/-- In world w the slice v owns a row, from block base on, of the elements l, each as enc says. -/
def OwnOf {α : Type} (w : World) (base : Nat) (e : TypeId) (sz : Nat) (enc : α → List Value) (v : Value) (l : List α) : Prop := w.ownsRow base e sz v l.length (l.flatMap enc)
section
variable {α : Type} {w w1 : World} {base : Nat} {e : TypeId} {sz : Nat} {enc : α → List Value} {v : Value} {l : List α}
theorem OwnOf.nil (w : World) (base : Nat) (e : TypeId) (sz : Nat) (enc : α → List Value) : OwnOf w base e sz enc (.slice none 0 0) [] := World.ownsRow_nil _ _ _ _
theorem OwnOf.shape (h : OwnOf w base e sz enc v l) : ∃ a c, v = .slice a l.length c := by
  obtain ⟨_, ⟨rfl, h0⟩ | ⟨g, cap, cur, rfl, _⟩⟩ := h
  · exact ⟨_, _, by rw [h0]⟩
  · exact ⟨_, _, rfl⟩
theorem OwnOf.kept (h : OwnOf w base e sz enc v l) (hb : Below w.heap.size w w1) : OwnOf w1 base e sz enc v l := by
  refine ⟨h.1, h.2.imp id ?_⟩
  rintro ⟨g, cap, cur, rfl, hbg, hg, r⟩
  exact ⟨g, cap, cur, rfl, hbg, by rw [hb.block g (lt_of_block hg)]; exact hg, r⟩
theorem OwnOf.mono {base' : Nat} (h : OwnOf w base e sz enc v l) (hb : base' ≤ base) : OwnOf w base' e sz enc v l :=
  ⟨h.1, h.2.imp id fun ⟨g, cap, cur, e1, h1, r⟩ => ⟨g, cap, cur, e1, Nat.le_trans hb h1, r⟩⟩
theorem OwnOf.sl (h : OwnOf w base e sz enc v l) : SlOf w w.heap.size sz enc v l := Sl.of_own h
theorem OwnOf.lt (h : OwnOf w base e sz enc v l) (g : Nat) (hg : v.ownBlock = some g) : base ≤ g ∧ g < w.heap.size := by
  rcases h.2 with ⟨rfl, _⟩ | ⟨g', cap, cur, rfl, hbg, hgb, _⟩
  · simp [Value.ownBlock] at hg
  · simp [Value.ownBlock] at hg; subst hg; exact ⟨hbg, lt_of_block hgb⟩
theorem OwnOf.snoc {xs : List Value} {x : α} (h : w.ownsRow base e sz v (l.length + 1) (l.flatMap enc ++ xs)) (hx : xs = enc x) : OwnOf w base e sz enc v (l ++ [x]) := by
  unfold OwnOf
  rw [List.flatMap_append, List.length_append]
  subst hx
  simpa using h
end
/-- Below B all is as it was, when a row of the call's own has grown. -/
theorem OwnOf.push {α : Type} {enc : α → List Value} {B base : Nat} {W w w' : World} {e : TypeId} {sz : Nat} {v : Value} {l : List α} (hb : Below B W w) (hown : OwnOf w base e sz enc v l) (hB : B ≤ base) (hw : B ≤ w.heap.size) (hg : w.grownBy w' v.ownBlock) : Below B W w' := below_push hb hown hB hw hg
/-- A slice below the row's base stays. -/
theorem SlOf.push {α β : Type} {enc : α → List Value} {enc2 : β → List Value} {B base : Nat} {w w' : World} {e : TypeId} {sz s2 : Nat} {v u : Value} {l : List α} {m : List β} (h : SlOf w B s2 enc2 u m) (hown : OwnOf w base e sz enc v l) (hB : B ≤ base) (hw : B ≤ w.heap.size) (hg : w.grownBy w' v.ownBlock) : SlOf w' B s2 enc2 u m :=
  h.kept (below_push (Below.refl B w) hown hB hw hg)
end Go.Proofs.YtnejicklenhpeaaGreat
namespace Go.Proofs.YtnejicklenhpeaaGreat
open Go.RowKit
/-- A step of the iterator's own: what lies below B, what is Mine (the caller's), and what is neither cells nor a walk stays. -/
def StepQ (B : Nat) (Mine : World → Nat → Prop) (W W' : World) : Prop :=
  Below B W W' ∧ ∀ b o, W.heap[b]? = some o → (Mine W b ∨ (o.isCells = false ∧ o.isWalk = false)) → W'.heap[b]? = some o
/-- A round of the caller's: cells and walks that are not Mine stay; Mine gains new blocks alone. -/
def KpM (Mine : World → Nat → Prop) (W W' : World) : Prop :=
  W.heap.size ≤ W'.heap.size ∧ (∀ b o, W.heap[b]? = some o → (o.isCells = true ∨ o.isWalk = true) → ¬ Mine W b → W'.heap[b]? = some o) ∧ (∀ b, Mine W' b → Mine W b ∨ W.heap.size ≤ b) ∧ ((∀ b, Mine W b → b < W.heap.size) → ∀ b, Mine W' b → b < W'.heap.size)
theorem StepQ.refl (B : Nat) (Mine : World → Nat → Prop) (W : World) : StepQ B Mine W W := ⟨Below.refl _ _, fun _ _ h _ => h⟩
theorem StepQ.mono {B B' : Nat} {Mine : World → Nat → Prop} {W W' : World} (h : StepQ B Mine W W') (hB : B' ≤ B) : StepQ B' Mine W W' := ⟨h.1.mono hB, h.2⟩
theorem KpM.trans {Mine : World → Nat → Prop} {A B C : World} (h : KpM Mine A B) (k : KpM Mine B C) : KpM Mine A C := by
  refine ⟨Nat.le_trans h.1 k.1, fun b o hb ho hm => k.2.1 b o (h.2.1 b o hb ho hm) ho (fun hm' => ?_), fun b hb => ?_, fun h0 => k.2.2.2 (h.2.2.2 h0)⟩
  · rcases h.2.2.1 b hm' with h1 | h1
    · exact hm h1
    · have := (Array.getElem?_eq_some_iff.1 hb).1
      omega
  · rcases k.2.2.1 b hb with h1 | h1
    · exact h.2.2.1 b h1
    · exact .inr (Nat.le_trans h.1 h1)
/-- The iterator's contract: it gives just L, or a part of it where a round has said 'no more'. -/
def SeqMine {α : Type} (F : Fence) (n : Nat) (P : Program) (g : Nat) (lb : Array Value) (encs : α → Array Value) (Mine : World → Nat → Prop) (L : List α) (w : World) : Prop :=
  ∀ (l : Nat) (J Jx : List α → World → Prop) (W : World), Below w.heap.size w W → (∀ b, Mine W b → b < W.heap.size) →
    (∀ s A A', J s A → StepQ W.heap.size Mine A A' → J s A') → (∀ s A A', Jx s A → StepQ W.heap.size Mine A A' → Jx s A') →
    (∀ pre x W1, J pre W1 → pre ++ [x] <+: L → YieldAt F (n - 1) P l (encs x) W1 fun e W' =>
      (e = .returned (.bool true) ∧ J (pre ++ [x]) W' ∧ KpM Mine W1 W') ∨ (e = .returned (.bool false) ∧ Jx (pre ++ [x]) W')) →
    J [] W →
    CallsIn F n P g (#[.func (.yield l) #[] #[]] ++ lb) W fun e W' => (∃ v, e = .returned v) ∧ (J L W' ∨ ∃ pre, pre <+: L ∧ Jx pre W')
theorem kpM_putObj {Mine : World → Nat → Prop} (W : World) (l : Nat) (o o' : Obj) (hm : ∀ b, Mine (W.putObj l o') b → Mine W b) (h : W.heap[l]? = some o) (hc : o.isCells = false) (hw : o.isWalk = false) : KpM Mine W (W.putObj l o') := by
  refine ⟨by simp, fun b o1 hb ho _ => ?_, fun b hb => .inl (hm b hb), fun h0 b hb => by simpa using h0 b (hm b hb)⟩
  rw [World.putObj_heap_other]
  · exact hb
  · rintro rfl
    rw [h] at hb
    cases hb
    rcases ho with ho | ho
    · rw [hc] at ho; cases ho
    · rw [hw] at ho; cases ho
variable {F : Fence} {n : Nat} {P : Program}
/-- **The law.** -/
theorem wpIn_range_mine {α : Type} {g : Operand} {ps : Array Tmp} {assign body : Code} {Q : Exit → Act → World → Prop} {a : Act} {w : World}
    (hro : F.round = none) (h1 : 1 ≤ n) {gf : Nat} {lb : Array Value} (hg : a.eval g = .func (.func gf) #[] lb) (hFg : F.fn gf) (eg : ∀ args w, (callFunc gf args).run P w = .ok (.enter gf args) w)
    {encs : α → Array Value} {Mine : World → Nat → Prop} {L : List α} {w0 : World} (hseq : SeqMine F (n - 1) P gf lb encs Mine L w0)
    (hMp : ∀ (W : World) (l : Nat) (o o' : Obj), w.heap.size ≤ l → W.heap[l]? = some o → o.isCells = false → o.isWalk = false → ∀ b, Mine (W.putObj l o') b → Mine W b)
    (hm0 : ∀ W, Below w.heap.size w W → ∀ b, Mine W b → b < W.heap.size)
    (hb0 : Below w0.heap.size w0 w) (hps : ∀ x, (encs x).size = ps.size)
    (I : List α → World → Prop) (Ix : Code → List α → World → Prop) (hI : OwnFrom w.heap.size I) (hIx : ∀ c, OwnFrom w.heap.size (Ix c))
    (hIq : ∀ s A A', I s A → StepQ w.heap.size Mine A A' → I s A') (hIxq : ∀ c s A A', Ix c s A → StepQ w.heap.size Mine A A' → Ix c s A')
    (h0 : I [] w) (Ax : α → Act → World → Prop) (hAx : ∀ x a', OwnFrom w.heap.size (fun (_ : Unit) W => Ax x a' W))
    (hassign : ∀ (l : Nat) (pre : List α) (x : α) (W : World) (K : Act → World → Prop), I pre W → (∀ a' W', KeepsFrom w.heap.size W W' → KpM Mine W W' → I pre W' → Ax x a' W' → K a' W') →
      assign.wpIn (F.inRound l) (n - 1 - 1) P (Exit.then K (fun _ _ _ => False)) { tmps := (ps.zip (encs x)).foldl (fun t (p, v) => t.setIfInBounds p v) a.tmps, defers := [] } W)
    (hbody : ∀ (l : Nat) (pre : List α) (x : α) (a' : Act) (W : World), w.heap.size ≤ l → I pre W → Ax x a' W → pre ++ [x] <+: L → body.wpIn (F.inRound l) (n - 1 - 1) P (ownPostG w.heap.size (KpM Mine) I Ix (pre ++ [x]) W) a' W)
    (hdone : ∀ (D : Nat) (W : World), w.heap.size ≤ D → I L W → W.heap[D]? = some (.deferred (some [])) → Q .normal { a with defers := { target := .collected D, args := #[] } :: a.defers } W)
    (hstop : ∀ (D : Nat) (c : Code) (pre : List α) (W : World), w.heap.size ≤ D → pre <+: L → Ix c pre W → W.heap[D]? = some (.deferred (some [])) → c.wpIn F n P Q { a with defers := { target := .collected D, args := #[] } :: a.defers } W) :
    (Code.rangeFunc g ps assign body).wpIn F n P Q a w := by
  refine wpIn_rangeFunc fun fn hfn => ?_
  rw [hro]
  obtain ⟨rec, hrec⟩ : ∃ rec : LoopState → Option Code → Loop, rec = fun st pe => { state := st, pending := pe, fn, tmps := a.tmps, params := ps, assign, body, defers := w.heap.size } := ⟨_, rfl⟩
  obtain ⟨W1, hW1⟩ : ∃ W1, (w.alloc (.deferred (some []))).alloc (.loop (rec .ready none)) = W1 := ⟨_, rfl⟩
  have hsz : W1.heap.size = w.heap.size + 2 := by rw [← hW1]; simp
  have hL1 : W1.heap[w.heap.size + 1]? = some (.loop (rec .ready none)) := by
    rw [← hW1]; have := World.alloc_heap_new (w.alloc (.deferred (some []))) (.loop (rec .ready none)); rwa [World.size_alloc] at this
  have hK1 : W1.heap[w.heap.size]? = some (.deferred (some [])) := by
    rw [← hW1]; exact (Below.heap_alloc _ _ _ (by simp)).trans (World.alloc_heap_new w _)
  have hI1 : I [] W1 := by rw [← hW1]; exact hI.alloc _ (hI.alloc _ h0)
  have hb1 : Below w0.heap.size w0 W1 := by
    rw [← hW1]; exact hb0.trans ((((Below.refl _ w).alloc (Nat.le_refl _) _).alloc (by simp) _).mono hb0.size)
  refine ⟨w.heap.size + 1, [{ target := .collected w.heap.size, args := #[] }], W1, { target := .fn (.func gf) lb, args := #[.func (.yield (w.heap.size + 1)) #[] #[]] }, W1, gf,
    #[.func (.yield (w.heap.size + 1)) #[] #[]] ++ lb, W1, ?_, ?_, ?_, ?_, fun _ => h1, ?_⟩
  · rw [← hW1, hrec]; exact run_enterLoop_outer _ _ _ _ _
  · simp only [resolve, hg]
    simp [go_sem]
  · intro f' hf'; simp [Target.leads] at hf'; subst hf'; exact hFg
  · simp [invoke, go_sem, eg]
  refine (hseq (w.heap.size + 1)
    (fun pre W => I pre W ∧ W.heap[w.heap.size + 1]? = some (.loop (rec .ready none)) ∧ W.heap[w.heap.size]? = some (.deferred (some [])))
    (fun pre W => ∃ c, Ix c pre W ∧ W.heap[w.heap.size + 1]? = some (.loop (rec .done (some c))) ∧ W.heap[w.heap.size]? = some (.deferred (some [])))
    W1 hb1 (hm0 W1 (by rw [← hW1]; exact ((Below.refl _ w).alloc (Nat.le_refl _) _).alloc (by simp) _))
    (fun s A A' hs hq => ⟨hIq s A A' hs.1 (hq.mono (by omega)), hq.2 _ _ hs.2.1 (.inr ⟨rfl, rfl⟩), hq.2 _ _ hs.2.2 (.inr ⟨rfl, rfl⟩)⟩)
    (fun s A A' hs hq => by
      obtain ⟨c, hc, hl, hk⟩ := hs
      exact ⟨c, hIxq c s A A' hc (hq.mono (by omega)), hq.2 _ _ hl (.inr ⟨rfl, rfl⟩), hq.2 _ _ hk (.inr ⟨rfl, rfl⟩)⟩)
    ?_ ⟨hI1, hL1, hK1⟩).mono ?_
  · rintro pre x W ⟨hi, hl, hk⟩ hpre
    have hy := run_yield (P := P) (args := encs x) hl (by rw [hrec]; exact hps x)
    rw [hrec] at hy
    refine ⟨fn, _, assign, body, hy, roundIn_of_wpIn hfn (hassign _ pre x W _ hi ?_)⟩
    clear hy
    intro a' V hkf hkp hia hax
    have hlV := hkf.same _ _ (by omega) hl rfl
    have hkV := hkf.same _ _ (Nat.le_refl _) hk rfl
    have hltV : w.heap.size + 1 < V.heap.size := (Array.getElem?_eq_some_iff.1 hlV).1
    refine ⟨_, run_beginRound hlV (by rw [hrec]), ?_⟩
    have hl2 : (V.putObj (w.heap.size + 1) (.loop { rec .ready none with state := .busy })).heap[w.heap.size + 1]? = some (.loop { rec .ready none with state := .busy }) := World.putObj_heap_same hltV
    have hk2 : (V.putObj (w.heap.size + 1) (.loop { rec .ready none with state := .busy })).heap[w.heap.size]? = some (.deferred (some [])) := (World.putObj_heap_other (by omega)).trans hkV
    have hw2 : KpM Mine V (V.putObj (w.heap.size + 1) (.loop { rec .ready none with state := .busy })) := kpM_putObj _ _ _ _ (hMp _ _ _ _ (by omega) hlV rfl rfl) hlV rfl rfl
    refine wpIn_mono (hbody _ pre x a' _ (by omega) (hI.putObj _ hia (by omega) hlV rfl) ((hAx x a').putObj (s := ()) _ hax (by omega) hlV rfl) hpre) ?_
    have fin : ∀ (jump : Option Code) (W3 : World), KeepsFrom w.heap.size (V.putObj (w.heap.size + 1) (.loop { rec .ready none with state := .busy })) W3 →
        (Instr.endRound (w.heap.size + 1) jump).run P W3 = .ok (.bool jump.isNone) (W3.putObj (w.heap.size + 1) (.loop (rec (if jump.isNone then .ready else .done) jump))) ∧
        W3.heap[w.heap.size + 1]? = some (.loop { rec .ready none with state := .busy }) ∧
        (W3.putObj (w.heap.size + 1) (.loop (rec (if jump.isNone then .ready else .done) jump))).heap[w.heap.size + 1]? = some (.loop (rec (if jump.isNone then .ready else .done) jump)) ∧
        (W3.putObj (w.heap.size + 1) (.loop (rec (if jump.isNone then .ready else .done) jump))).heap[w.heap.size]? = some (.deferred (some [])) := fun jump W3 hk3 => by
      have hl3 := hk3.same _ _ (by omega) hl2 rfl
      have := run_endRound (P := P) jump hl3
      rw [hrec] at this ⊢
      exact ⟨this, by rw [hrec] at hl3; exact hl3, World.putObj_heap_same (Array.getElem?_eq_some_iff.1 hl3).1, (World.putObj_heap_other (by omega)).trans (hk3.same _ _ (Nat.le_refl _) hk2 rfl)⟩
    rintro e a3 W3 hp
    cases e with
    | normal =>
      obtain ⟨hk3, hkp3, hi3⟩ := hp
      obtain ⟨hr, hl3, hl4, hk4⟩ := fin none W3 hk3
      exact ⟨_, _, hr, .inl ⟨rfl, ⟨hI.putObj _ hi3 (by omega) hl3 rfl, hl4, hk4⟩, hkp.trans ((hw2.trans hkp3).trans (kpM_putObj _ _ _ _ (hMp _ _ _ _ (by omega) hl3 rfl rfl) hl3 rfl rfl))⟩⟩
    | ret =>
      obtain ⟨hk3, hi3⟩ := hp
      obtain ⟨hr, hl3, hl4, hk4⟩ := fin (some .ret) W3 hk3
      exact ⟨_, _, hr, .inr ⟨rfl, .ret, (hIx _).putObj _ hi3 (by omega) hl3 rfl, hl4, hk4⟩⟩
    | exit id =>
      obtain ⟨hk3, hi3⟩ := hp
      obtain ⟨hr, hl3, hl4, hk4⟩ := fin (some (.exit id)) W3 hk3
      exact ⟨_, _, hr, .inr ⟨rfl, .exit id, (hIx _).putObj _ hi3 (by omega) hl3 rfl, hl4, hk4⟩⟩
    | goto t =>
      obtain ⟨hk3, hi3⟩ := hp
      obtain ⟨hr, hl3, hl4, hk4⟩ := fin (some (.goto t)) W3 hk3
      exact ⟨_, _, hr, .inr ⟨rfl, .goto t, (hIx _).putObj _ hi3 (by omega) hl3 rfl, hl4, hk4⟩⟩
    | panic ch => exact hp.elim
    | outgrown => exact hp.elim
  · rintro e W2 ⟨⟨v, rfl⟩, (⟨hi, hl, hk⟩ | ⟨pre, hSp, c, hi, hl, hk⟩)⟩
    · exact ⟨none, _, by have := run_endLoop (P := P) hl (by rw [hrec]; simp); rw [hrec] at this; exact this, hdone _ _ (Nat.le_refl _) (hI.putObj _ hi (by omega) hl rfl) ((World.putObj_heap_other (by omega)).trans hk)⟩
    · exact ⟨some c, _, by have := run_endLoop (P := P) hl (by rw [hrec]; simp); rw [hrec] at this; exact this, hstop _ c pre _ (Nat.le_refl _) hSp ((hIx c).putObj _ hi (by omega) hl rfl) ((World.putObj_heap_other (by omega)).trans hk)⟩
end Go.Proofs.YtnejicklenhpeaaGreat
namespace Go.Proofs.YtnejicklenhpeaaGreat
open Go.RowKit
/-- The caller's: the blocks of S, and all blocks from N0 on. -/
def MineFrom (S : Nat → Prop) (N0 : Nat) (W : World) (b : Nat) : Prop := S b ∨ (N0 ≤ b ∧ b < W.heap.size)
theorem stepQ_from {B : Nat} {Mine : World → Nat → Prop} {w w' : World} (hb : Below w.heap.size w w') (hB : B ≤ w.heap.size) : StepQ B Mine w w' :=
  ⟨hb.mono hB, fun b _ ho _ => (hb.block b (lt_of_block ho)).trans ho⟩
theorem StepQ.all {S : Nat → Prop} {B N0 : Nat} {A A' : World} (h : StepQ B (MineFrom S N0) A A') (hN : N0 ≤ B) : Below A.heap.size A A' := by
  refine ⟨h.1.os, h.1.tape, h.1.output, h.1.size, fun b hb => ?_⟩
  by_cases hB : b < B
  · exact h.1.block b hB
  · have ho := Array.getElem?_eq_getElem hb
    rw [ho]
    exact h.2 b _ ho (.inl (.inr ⟨by omega, hb⟩))
/-- What is not the caller's stays. -/
def KeepS (S : Nat → Prop) (N0 : Nat) (W W' : World) : Prop := W.heap.size ≤ W'.heap.size ∧ ∀ b, b < N0 → ¬ S b → W'.heap[b]? = W.heap[b]?
theorem KeepS.refl (S : Nat → Prop) (N0 : Nat) (W : World) : KeepS S N0 W W := ⟨Nat.le_refl _, fun _ _ _ => rfl⟩
theorem KeepS.of_below {S : Nat → Prop} {N0 : Nat} {W W' : World} (h : Below N0 W W') : KeepS S N0 W W' := ⟨h.size, fun b hb _ => h.block b hb⟩
theorem KeepS.trans {S : Nat → Prop} {N0 : Nat} {A B C : World} (h : KeepS S N0 A B) (k : KeepS S N0 B C) : KeepS S N0 A C := ⟨Nat.le_trans h.1 k.1, fun b hb hs => (k.2 b hb hs).trans (h.2 b hb hs)⟩
/-- A step that turns one block, one of the caller's. -/
theorem KeepS.grown {S : Nat → Prop} {N0 : Nat} {W W' : World} {row : Option Nat} (hg : W.grownBy W' row) (hN : N0 ≤ W.heap.size) (hr : ∀ r, row = some r → S r ∨ N0 ≤ r) : KeepS S N0 W W' :=
  ⟨hg.size, fun b hb hs => hg.block b (by omega) (fun e => (hr b e.symm).elim hs (fun h => by omega))⟩
theorem kpM_from {S : Nat → Prop} {N0 : Nat} {W W' : World} (hS : ∀ b, S b → b < N0) (hN : N0 ≤ W.heap.size) (h : KeepS S N0 W W') : KpM (MineFrom S N0) W W' := by
  refine ⟨h.1, fun b o hb _ hm => ?_, fun b hb => ?_, fun _ b hb => ?_⟩
  · have hl := lt_of_block hb
    have h1 : b < N0 := Classical.byContradiction fun hn => hm (.inr ⟨by omega, hl⟩)
    exact (h.2 b h1 (fun hs => hm (.inl hs))).trans hb
  · rcases hb with hb | hb
    · exact .inl (.inl hb)
    · by_cases hl : b < W.heap.size
      · exact .inl (.inr ⟨hb.1, hl⟩)
      · exact .inr (by omega)
  · rcases hb with hb | hb
    · have := hS b hb; have := h.1; omega
    · exact hb.2
/-- The cells below N0 that are not the caller's stay. -/
def FX (S : Nat → Prop) (N0 : Nat) (W wr : World) : Prop := ∀ b, b < N0 → ¬ S b → ∀ o, W.heap[b]? = some o → o.isCells = true → wr.heap[b]? = some o
theorem FX.refl (S : Nat → Prop) (N0 : Nat) (W : World) : FX S N0 W W := fun _ _ _ _ h _ => h
theorem FX.below {S : Nat → Prop} {N0 : Nat} {W wr w' : World} (h : FX S N0 W wr) (hb : Below N0 wr w') : FX S N0 W w' := fun b hlt hs o ho hc => (hb.block b hlt).trans (h b hlt hs o ho hc)
theorem FX.round {S : Nat → Prop} {N0 : Nat} {W wr w' : World} (h : FX S N0 W wr) (hk : KpM (MineFrom S N0) wr w') : FX S N0 W w' := fun b hlt hs o ho hc => hk.2.1 b o (h b hlt hs o ho hc) (.inl hc) (fun hm => by rcases hm with hm | hm; exact hs hm; have := hm.1; omega)
theorem cells_of_cell {w : World} {a : Addr} {v : Value} (h : w.cell? a = some v) : ∃ o, w.heap[a.block]? = some o ∧ o.isCells = true := by
  have l9 := World.block_lt_of_cell? w a h
  obtain ⟨o, ho⟩ : ∃ o, w.heap[a.block]? = some o := ⟨w.heap[a.block], by simp [l9]⟩
  simp only [World.cell?, ho] at h
  refine ⟨o, ho, ?_⟩
  cases o <;> simp_all [Obj.isCells]
theorem FX.cell {S : Nat → Prop} {N0 : Nat} {W wr : World} (h : FX S N0 W wr) {b o : Nat} {v : Value} (hb : b < N0) (hs : ¬ S b) (hc : W.cell? ⟨b, o, none⟩ = some v) : wr.cell? ⟨b, o, none⟩ = some v := by
  obtain ⟨ob, h1, h2⟩ := cells_of_cell hc
  rw [← hc]
  exact World.cell?_of_block ((h b hb hs ob h1 h2).trans h1.symm)
theorem FX.sl {S : Nat → Prop} {α : Type} {enc : α → List Value} {N0 B sz : Nat} {W wr : World} (h : FX S N0 W wr) {v : Value} {l : List α} (hB : B ≤ N0) (hs : ∀ b, S b → B ≤ b) (hv : SlOf W B sz enc v l) (he : ∀ a, (enc a).length = sz) : SlOf wr B sz enc v l := by
  obtain ⟨a, cap, rfl, hl, hc, hm, h0, hr⟩ := hv
  refine ⟨a, cap, rfl, hl, hc, hm, h0, hr.imp id ?_⟩
  rintro ⟨b, off, rfl, hlt, hx⟩
  refine ⟨b, off, rfl, hlt, fun i hi => ?_⟩
  have hi2 : i < (l.flatMap enc).length := by rw [flat_len he]; exact hi
  rw [List.getElem?_eq_getElem hi2]
  exact h.cell (by omega) (fun e => by have := hs b e; omega) ((hx i hi).trans (List.getElem?_eq_getElem hi2))
end Go.Proofs.YtnejicklenhpeaaGreat
namespace Go.Proofs.YtnejicklenhpeaaGreat
open Go.RowKit Go.Shelf
/-- 'append(s, x)' of one element, inside a fence. -/
theorem pushIn {F : Fence} {nF : Nat} {P : Program} {ops : Array Oper} {rest : List Oper} {o : Oper} {a : Act} {Q : Exit → Act → World → Prop} {w0 : World} {cs : Array Value} {t0 : TypeId} (hgd : o.guard = none) (s x : Operand) (t : TypeId)
    (ho : o.op = .call { callee := .builtin .append, args := #[s, x], argTypes := #[t, t] })
    {base : Nat} {e : TypeId} {z : Value} {size bytes : Nat} (T : SlT P t e z size bytes)
    {v : Value} {n : Nat} {xs : List Value} (hown : w0.ownsRow base e size v n xs) (hs : a.eval s = v)
    {b c : Nat} (hx : a.eval x = .slice (some ⟨b, 0, none⟩) 1 c) (hb : b = w0.heap.size) (hcs : cs.size = size) (h1 : cs.toList.all Value.oneCell' = true)
    (h63 : n + 1 ≤ 1073741824) (hbytes : bytes ≤ 1024) (hbase : base ≤ w0.heap.size)
    (h : ∀ (g c' : Nat) (w' : World), w'.ownsRow base e size (.slice (some ⟨g, 0, none⟩) (n + 1) c') (n + 1) (xs ++ cs.toList) → (w0.alloc (.cells cs t0)).grownBy w' v.ownBlock → (v.ownBlock = some g ∨ (w0.alloc (.cells cs t0)).heap.size ≤ g) → wpListIn F nF P ops Q rest (a.put o.dst (.slice (some ⟨g, 0, none⟩) (n + 1) c')) w') :
    wpListIn F nF P ops Q (o :: rest) a (w0.alloc (.cells cs t0)) := by
  obtain ⟨ht, hinf, hzs, hsz⟩ := T
  obtain ⟨i, hi, hz, hz1, hz2⟩ := info_parts hinf
  subst hb
  refine wpListIn_append_own_at _ hgd s x t ho base e i z size bytes ht hi hz hz1 hz2 hzs hsz v n xs hs (hown.alloc _) ⟨w0.heap.size, 0, none⟩ 1 c cs.toList hx (by simp [hcs]) ?_ ?_ (by unfold maxLen; omega) ?_ (by simp; omega) ?_
  · intro j u hj
    have hj' : cs[j]? = some u := by simpa using hj
    have e : (⟨w0.heap.size, 0, none⟩ : Addr).add j = ⟨w0.heap.size, j, none⟩ := by simp only [Addr.add]; split <;> simp_all
    rw [e]
    simp only [World.cell?, heap_alloc_new]
    exact hj'
  · intro u hu
    exact List.all_eq_true.1 h1 u hu
  · have : (n + 1) * bytes ≤ 1073741824 * 1024 := Nat.mul_le_mul h63 hbytes
    omega
  · intro v' w' ho' hg _ hat
    rcases ho'.2 with ⟨_, hn⟩ | ⟨g, cap, cur, rfl, hr⟩
    · omega
    · refine h g cap w' ho' hg ?_
      rcases hat with hat | hat
      · exact .inl hat.symm
      · simp [Value.ownBlock] at hat; exact .inr (by simp; omega)
theorem OwnOf.from {β α : Type} {enc : α → List Value} {base : Nat} {e : TypeId} {sz : Nat} (B : Nat) (f : β → Value) (g : β → List α) : OwnFrom B (fun (s : β) W => OwnOf W base e sz enc (f s) (g s)) := by
  intro s W W' row h hg hr
  refine ⟨h.1, h.2.imp id ?_⟩
  rintro ⟨b, cap, cur, hv, hbg, hb, r⟩
  refine ⟨b, cap, cur, hv, hbg, (hg.block b (lt_of_block hb) (fun e => ?_)).trans hb, r⟩
  obtain ⟨_, o, ho, hc⟩ := hr b e.symm
  rw [hb] at ho; cases ho; cases hc
theorem ownFrom_ex {β γ : Type} {B : Nat} {I : γ → β → World → Prop} (h : ∀ c, OwnFrom B (I c)) : OwnFrom B (fun s W => ∃ c, I c s W) := fun s W W' row hs hg hr => by
  obtain ⟨c, hc⟩ := hs
  exact ⟨c, h c s W W' row hc hg hr⟩
theorem OwnOf.grown {α : Type} {w w1 : World} {base : Nat} {e : TypeId} {sz : Nat} {enc : α → List Value} {v : Value} {l : List α} {row : Option Nat} (h : OwnOf w base e sz enc v l) (hg : w.grownBy w1 row) (hr : v.ownBlock ≠ row ∨ v.ownBlock = none) : OwnOf w1 base e sz enc v l := by
  refine ⟨h.1, h.2.imp id ?_⟩
  rintro ⟨g, cap, cur, rfl, hbg, hb, r⟩
  refine ⟨g, cap, cur, rfl, hbg, (hg.block g (lt_of_block hb) (fun e => ?_)).trans hb, r⟩
  rcases hr with hr | hr
  · exact hr e
  · cases hr
end Go.Proofs.YtnejicklenhpeaaGreat
namespace Go.Proofs.YtnejicklenhpeaaGreat
open Go.RowKit
def heldR (v : Value) : Option (DataW Value × List MemPlace) := some (.held v, [])
/-- Block b is a map that has the value f a at the key kv a, and n entries at most. -/
def MapV {α : Type} (P : Program) (K : TypeId) (kv : α → Value) (w : World) (b n : Nat) (f : α → Option Value) : Prop :=
  ∃ D : DataW Value, w.ownsMap P K heldR b n D ∧ Maps.IsMap D ∧ ∀ a kl zd, keyOf P K (kv a) = some kl → D.atKey kl zd = (match f a with | some v => .held v | none => zd)
section
variable {α : Type} {P : Program} {K t e : TypeId} {kv : α → Value} {w w' : World} {b n : Nat} {f : α → Option Value}
theorem MapV.made (P : Program) (K : TypeId) (kv : α → Value) (w : World) : MapV P K kv (w.alloc (.map #[] 0)) w.heap.size 0 (fun _ => none) := ⟨.map [], World.ownsMap_made _ _ _ _, ⟨[], rfl⟩, fun x kl zd _ => by simp [WideAt.atKey_none]⟩
theorem MapV.lt (h : MapV P K kv w b n f) : b < w.heap.size := by obtain ⟨D, h1, -⟩ := h; exact h1.lt
theorem MapV.isWalk (h : MapV P K kv w b n f) : ∃ o, w.heap[b]? = some o ∧ o.isCells = false ∧ o.isWalk = true := by
  obtain ⟨D, ⟨es, clock, hb, _⟩, -⟩ := h
  exact ⟨_, hb, rfl, rfl⟩
theorem MapV.of_block (h : MapV P K kv w b n f) (hb : w'.heap[b]? = w.heap[b]?) : MapV P K kv w' b n f := by
  obtain ⟨D, ⟨es, clock, h1, r⟩, h2⟩ := h
  exact ⟨D, ⟨es, clock, hb.trans h1, r⟩, h2⟩
theorem MapV.kept (h : MapV P K kv w b n f) (hb : Below w.heap.size w w') : MapV P K kv w' b n f := h.of_block (hb.block b h.lt)
theorem MapV.grown {row : Option Nat} (h : MapV P K kv w b n f) (hg : w.grownBy w' row) (hr : some b ≠ row) : MapV P K kv w' b n f := h.of_block (hg.block b h.lt hr)
theorem MapV.look (h : MapV P K kv w b n f) (hK : Maps.Keyed P K) (ht : P.underlying t = some (.map K e)) {z : Value} (hz : (zeroValue e).run P w = .ok z w) {a : α} {kl : Lit} (hk : keyOf P K (kv a) = some kl) :
    (Instr.lookup t (.map (some b)) (kv a) false).run P w = .ok ((f a).getD z) w := by
  obtain ⟨D, h1, hm, h2⟩ := h
  obtain ⟨v, ps, hr, hv⟩ := h1.lookup (t := t) hK ht hz (zd := .held z) (zp := []) rfl hk
  rw [h2 a kl _ hk] at hv
  rw [hr]
  cases hf : f a with
  | none => rw [hf] at hv; simp [heldR] at hv; rw [hv.1]; rfl
  | some u => rw [hf] at hv; simp [heldR] at hv; rw [hv.1]; rfl
theorem MapV.lookOk (h : MapV P K kv w b n f) (hK : Maps.Keyed P K) (ht : P.underlying t = some (.map K e)) {z : Value} (hz : (zeroValue e).run P w = .ok z w) {a : α} {kl : Lit} (hk : keyOf P K (kv a) = some kl) :
    (Instr.lookup t (.map (some b)) (kv a) true).run P w = .ok (.tuple #[(f a).getD z, .bool (f a).isSome]) w := by
  obtain ⟨D, ⟨es, clock, hb, F, _, rfl⟩, hm, h2⟩ := h
  rcases Maps.fit_look true hK ht hz hb F hk with ⟨hrun, _, hat⟩ | ⟨e0, y, _, _, hrun, hRv, hat, _⟩
  · rw [hrun]
    cases hf : f a with
    | none => rfl
    | some u =>
      have e1 := (hat (.held .nilFunc)).symm.trans (h2 a kl _ hk)
      have e2 := (hat .nil).symm.trans (h2 a kl _ hk)
      rw [hf] at e1 e2
      simp only at e1 e2
      rw [← e1] at e2; cases e2
  · rw [hrun]
    have hy : y = (.held e0.val, []) := by simp [heldR] at hRv; exact hRv.symm
    subst hy
    cases hf : f a with
    | none =>
      have e2 := (hat .nil).symm.trans (h2 a kl _ hk)
      rw [hf] at e2; cases e2
    | some u =>
      have e2 := (hat .nil).symm.trans (h2 a kl _ hk)
      rw [hf] at e2
      simp only [DataW.held.injEq] at e2
      rw [e2]; rfl
theorem MapV.put [DecidableEq α] (h : MapV P K kv w b n f) (hK : Maps.Keyed P K) (ht : P.underlying t = some (.map K e)) (hinj : ∀ x y, kv x = kv y → x = y) (hn : n < 1000000) {a : α} {kl : Lit} (hk : keyOf P K (kv a) = some kl) (u : Value) :
    ∃ w', (Instr.mapUpdate t (.map (some b)) (kv a) u).run P w = .ok () w' ∧ MapV P K kv w' b (n + 1) (fun x => if x = a then some u else f x) ∧ w.grownBy w' (some b) := by
  obtain ⟨D, h1, hm, h2⟩ := h
  obtain ⟨w', hr, ho, hg⟩ := h1.update (t := t) hK ht (by unfold maxLen; omega) hk (val := u) (d := .held u) (ps := []) rfl
  refine ⟨w', hr, ⟨D.put kl (.held u), ho, hm.put _ _, ?_⟩, hg⟩
  intro x kl' zd hk'
  by_cases he : kl' = kl
  · subst he
    have := hinj _ _ (hK.inj hk' hk)
    rw [Maps.atKey_put_same hm (hK.key hk)]
    simp only [if_pos this]
  · have hne : x ≠ a := by rintro rfl; rw [hk] at hk'; cases hk'; exact he rfl
    rw [Maps.atKey_put_other he, h2 x kl' zd hk']
    simp only [if_neg hne]
end
end Go.Proofs.YtnejicklenhpeaaGreat
namespace Go.Proofs.YtnejicklenhpeaaGreat
open Go.RowKit Go.ChangeMaps Go.MapKept Go.WideMaps Go.WideElems
theorem key_uniq : ∀ (l : List MapEntry), (l.map (·.key)).Nodup → ∀ a ∈ l, ∀ b ∈ l, a.key = b.key → a = b
  | [], _, a, ha, _, _, _ => by cases ha
  | x :: r, h, a, ha, b, hb, e => by
    rw [List.map_cons, List.nodup_cons] at h
    rcases List.mem_cons.1 ha with h1 | h1
    · rcases List.mem_cons.1 hb with h2 | h2
      · rw [h1, h2]
      · subst h1; exact absurd (List.mem_map.2 ⟨b, h2, e.symm⟩) h.1
    · rcases List.mem_cons.1 hb with h2 | h2
      · subst h2; exact absurd (List.mem_map.2 ⟨a, h1, e⟩) h.1
      · exact key_uniq r h.2 a h1 b h2 e
section
variable {α : Type} {P : Program} {K t e : TypeId} {kv : α → Value} {w : World} {b n : Nat} {f : α → Option Value}
theorem MapV.entry [DecidableEq α] (h : MapV P K kv w b n f) (L : KeyLaw P K) (ht : P.underlying t = some (.map K e)) (hinj : ∀ x y, kv x = kv y → x = y) (hn : n < 1000000) {z : Value} (hz : ∀ u : World, (zeroValue e).run P u = .ok z u) {a : α} {kl : Lit} (hk : keyOf P K (kv a) = some kl) :
    ∃ (st : Nat) (w1 : World), (Instr.mapEntry t (.map (some b)) (kv a)).run P w = .ok (.tuple #[(f a).getD z, goInt st]) w1 ∧ w.grownBy w1 (some b) ∧
      ∀ (w2 : World) (u : Value), w2.heap[b]? = w1.heap[b]? → ∃ w3, (Instr.entryStore t (.map (some b)) (goInt st) u).run P w2 = .ok () w3 ∧ MapV P K kv w3 b (n + 1) (fun x => if x = a then some u else f x) ∧ w2.grownBy w3 (some b) := by
  have hK := Maps.Keyed.of_law L
  have hput := fun u => h.put hK ht hinj hn hk u
  have hlook := h.look hK ht (hz w) hk
  obtain ⟨D, ⟨es, clock, hb, F, h1⟩, h2⟩ := h
  obtain ⟨v0, st, es1, clock1, hr, hv0, hst⟩ := entry_then_store L ht hz hb F hk
  have hv : v0 = (f a).getD z := by
    rcases Maps.fit_look false hK ht (hz w) hb F hk with ⟨hrun, hno, _⟩ | ⟨e0, y, he0, hke, hrun, _⟩
    · rw [hlook] at hrun
      rcases hv0 with ⟨e1, he1, hk1, rfl⟩ | ⟨_, rfl⟩
      · exact absurd hk1 (hno e1 he1)
      · simp only [Result.ok.injEq, Bool.false_eq_true, if_false] at hrun; exact hrun.1.symm
    · rw [hlook] at hrun
      rcases hv0 with ⟨e1, he1, hk1, rfl⟩ | ⟨hno, rfl⟩
      · obtain rfl := key_uniq _ F.stamped.2.2 e0 he0 e1 he1 (hke.trans hk1.symm)
        simp only [Result.ok.injEq, Bool.false_eq_true, if_false] at hrun; exact hrun.1.symm
      · exact absurd hke (hno e0 he0)
  subst hv
  refine ⟨st, _, hr, ⟨rfl, rfl, rfl, by simp [setBlock], fun i _ hi => heap_setBlock_other hb _ (fun e => hi (by rw [e]))⟩, fun w2 u hw2 => ?_⟩
  rw [heap_setBlock_same hb] at hw2
  obtain ⟨es', clock', hr2, hr3⟩ := hst w2 u hw2
  obtain ⟨w', hu, hm, hg⟩ := hput u
  rw [hr3] at hu
  cases hu
  refine ⟨_, hr2, hm.of_block ?_, ⟨rfl, rfl, rfl, by simp [setBlock], fun i _ hi => heap_setBlock_other hw2 _ (fun e => hi (by rw [e]))⟩⟩
  rw [heap_setBlock_same hw2, heap_setBlock_same hb]
end
end Go.Proofs.YtnejicklenhpeaaGreat
namespace Go.Proofs.YtnejicklenhpeaaGreat
open Go.RowKit Go.ChangeMaps Go.MapKept Go.WideMaps Go.WideElems
section
variable {P : Program} {w : World} {t k e : TypeId} {R : Value → Option (DataW Value × List MemPlace)} {b : Nat} {es : Array MapEntry} {clock : Nat}
theorem entry_same (K : KeyLaw P k) (ht : P.underlying t = some (.map k e)) {z : Value} (hz : ∀ u : World, (zeroValue e).run P u = .ok z u) (hb : w.heap[b]? = some (.map es clock)) (F : Fit P k R es clock)
    {key : Value} {kl : Lit} (hkey : keyOf P k key = some kl) :
    ∃ (v0 : Value) (st : Nat) (w1 : World), (Instr.mapEntry t (.map (some b)) key).run P w = .ok (.tuple #[v0, goInt st]) w1 ∧ (Instr.mapUpdate t (.map (some b)) key v0).run P w = .ok () w1 := by
  rcases K.find w hkey es.toList F.keys with ⟨h1, h2⟩ | ⟨j, e0, h1, h2, h3⟩
  · refine ⟨z, clock, setBlock w b (.map (es.push ⟨key, z, clock⟩) (clock + 1)), ?_, ?_⟩
    · simp [Instr.mapEntry, run_underlying ht, MapKept.run_getObj_map hb, K.check w false hkey, h1, hz, MapKept.run_setObj_map _ hb, Result.andThen, setBlock]
    · simp [Instr.mapUpdate, run_underlying ht, MapKept.run_getObj_map hb, K.check w false hkey, h1, MapKept.run_setObj_map _ hb, Result.andThen, setBlock]
  · have hj : es[j]? = some e0 := by simpa using h2
    have hsame : es.modify j (fun e => { e with key := key }) = es := by
      apply Array.ext'
      rw [Array.toList_modify, modify_eq_set _ _ _ _ h2]
      have : ({ e0 with key := key } : MapEntry) = e0 := by rw [← h3]
      rw [this]
      exact set_self _ _ _ h2
    have hsame2 : es.modify j (fun e' => { e' with key := key, val := e0.val }) = es := by
      apply Array.ext'
      rw [Array.toList_modify, modify_eq_set _ _ _ _ h2]
      have : ({ e0 with key := key, val := e0.val } : MapEntry) = e0 := by rw [← h3]
      rw [this]
      exact set_self _ _ _ h2
    refine ⟨e0.val, e0.born, setBlock w b (.map es clock), ?_, ?_⟩
    · simp [Instr.mapEntry, run_underlying ht, MapKept.run_getObj_map hb, K.check w false hkey, h1, hj, h3, K.stays w hkey, hsame, MapKept.run_setObj_map _ hb, Result.andThen, setBlock]
    · simp [Instr.mapUpdate, run_underlying ht, MapKept.run_getObj_map hb, K.check w false hkey, h1, hj, h3, K.stays w hkey, hsame2, MapKept.run_setObj_map _ hb, Result.andThen, setBlock]
end
section
variable {α : Type} {P : Program} {K t e : TypeId} {kv : α → Value} {w w1 : World} {b n : Nat} {f : α → Option Value}
/-- Behind 'm[a] op= ..''s entry the map has the value that was read. -/
theorem MapV.entered [DecidableEq α] (h : MapV P K kv w b n f) (L : KeyLaw P K) (ht : P.underlying t = some (.map K e)) (hinj : ∀ x y, kv x = kv y → x = y) (hn : n < 1000000) {z : Value} (hz : ∀ u : World, (zeroValue e).run P u = .ok z u) {a : α} {kl : Lit} (hk : keyOf P K (kv a) = some kl) {v : Value} {st : Nat}
    (hr : (Instr.mapEntry t (.map (some b)) (kv a)).run P w = .ok (.tuple #[v, goInt st]) w1) : MapV P K kv w1 b (n + 1) (fun x => if x = a then some v else f x) := by
  have hput := fun u => h.put (Maps.Keyed.of_law L) ht hinj hn hk u
  obtain ⟨D, ⟨es, clock, hb, F, h1⟩, h2⟩ := h
  obtain ⟨v0, st0, w0, e1, e2⟩ := entry_same L ht hz hb F hk
  rw [hr] at e1
  simp only [Result.ok.injEq, Value.tuple.injEq] at e1
  obtain ⟨e3, rfl⟩ := e1
  have : v = v0 := by
    have := congrArg (fun q => q[0]?) e3
    simpa using this
  subst this
  obtain ⟨w', hu, hm, -⟩ := hput v
  rw [e2] at hu
  cases hu
  exact hm
end
end Go.Proofs.YtnejicklenhpeaaGreat
