/-
  No cell of these rows narrows 'for every input' (looked for: loops, veiled, ifaces, maps, wideKeys, modest, calm, conditions, laid).
  DERIVED. THE GIVEN ROWS OF THIS SEAT. 3 by the template 'for every input the law returns true; each argument reads behind the call as it read before'; 0 by the template 'total and deterministic' (their statements: YtjceppinjeehiaaTotals.lean).
  GIVEN WITH THE SEED: the statements are not yours to turn. If you find one false, say at which input.
  Laid BY PROGRAM, IN A SANDBOX (cutbox-rows.mjs): the forced cells as the released guide's own fill.sh prints them over the translation ec4e0a60e56c00f7… (all of the seat's roots in one cut). By AI agents, Wed Nov 11 2026. No macro, syntax, notation, axiom, sorry.
-/
import Derived.Test.YtjceppinjeehiaaChecked
import GoSem.Claim
import GoSem.ClaimJoined
import GoSem.ClaimMapViews
import Derived.JoinedTies
import Derived.KernelRfl
namespace Go.Proofs.Ytjceppinjeehiaa
/- THE CELL 'sum', in the pinned program and in every row, IS THE sha256 OF THE DUMP (.gsa) THAT YtjceppinjeehiaaProg.lean LOADS. Nothing in Lean hashes anything: it is a label: what it is worth is what the hold of that sum in a sandbox is worth. -/
noncomputable def Try.pinned : Pinned := { name := "ytjceppinjeehiaa", sum := "ec4e0a60e56c00f7e64c516f64f92e154c9e72fa8c51df7b807a44d25752607d", checked := Try.checked }
namespace Rows
def none {H : Type} : Left H := { results := [], args := [] }

/-- 'systolelaw05.LinkBounds': WHATEVER THE INPUT: true; the input reads as it did. -/
def linkBoundsSpec : ChangeSpec := { name := "linkBounds", fn := fun _ => fun
  | [d1, d2, d3, d4, d5, d6] => { results := [.lit (.bool true)], args := [d1, d2, d3, d4, d5, d6] }
  | _ => none }
def linkBoundsRow : OpenClaim := { program := "ytjceppinjeehiaa", sum := "ec4e0a60e56c00f7e64c516f64f92e154c9e72fa8c51df7b807a44d25752607d", func := "systole/systolelaw05.LinkBounds", spec := "linkBounds", unfollowed := true, recurses := true, plainKeys := false, apart := false }
def LinkBoundsSaid : Prop := linkBoundsRow.holds Try.pinned (OpenSpec.ofChange linkBoundsSpec)

/-- ITS FALSE NEIGHBOUR: 'it returns false'. Refute it at one input. -/
def linkBoundsWrong : ChangeSpec := { name := "linkBounds", fn := fun _ => fun
  | [d1, d2, d3, d4, d5, d6] => { results := [.lit (.bool false)], args := [d1, d2, d3, d4, d5, d6] }
  | _ => none }
def LinkBoundsWrongFalsely : Prop := linkBoundsRow.holds Try.pinned (OpenSpec.ofChange linkBoundsWrong)

/-- 'systolelaw05.LinkReaches': WHATEVER THE INPUT: true; the input reads as it did. -/
def linkReachesSpec : ChangeSpec := { name := "linkReaches", fn := fun _ => fun
  | [d1, d2] => { results := [.lit (.bool true)], args := [d1, d2] }
  | _ => none }
def linkReachesRow : OpenClaim := { program := "ytjceppinjeehiaa", sum := "ec4e0a60e56c00f7e64c516f64f92e154c9e72fa8c51df7b807a44d25752607d", func := "systole/systolelaw05.LinkReaches", spec := "linkReaches", unfollowed := true, recurses := true, plainKeys := false, apart := false }
def LinkReachesSaid : Prop := linkReachesRow.holds Try.pinned (OpenSpec.ofChange linkReachesSpec)

/-- ITS FALSE NEIGHBOUR: 'it returns false'. Refute it at one input. -/
def linkReachesWrong : ChangeSpec := { name := "linkReaches", fn := fun _ => fun
  | [d1, d2] => { results := [.lit (.bool false)], args := [d1, d2] }
  | _ => none }
def LinkReachesWrongFalsely : Prop := linkReachesRow.holds Try.pinned (OpenSpec.ofChange linkReachesWrong)

/-- 'systolelaw05.LinkSpreads': WHATEVER THE INPUT: true; the input reads as it did. -/
def linkSpreadsSpec : ChangeSpec := { name := "linkSpreads", fn := fun _ => fun
  | [d1, d2, d3] => { results := [.lit (.bool true)], args := [d1, d2, d3] }
  | _ => none }
def linkSpreadsRow : OpenClaim := { program := "ytjceppinjeehiaa", sum := "ec4e0a60e56c00f7e64c516f64f92e154c9e72fa8c51df7b807a44d25752607d", func := "systole/systolelaw05.LinkSpreads", spec := "linkSpreads", unfollowed := true, recurses := true, plainKeys := false, apart := false }
def LinkSpreadsSaid : Prop := linkSpreadsRow.holds Try.pinned (OpenSpec.ofChange linkSpreadsSpec)

/-- ITS FALSE NEIGHBOUR: 'it returns false'. Refute it at one input. -/
def linkSpreadsWrong : ChangeSpec := { name := "linkSpreads", fn := fun _ => fun
  | [d1, d2, d3] => { results := [.lit (.bool false)], args := [d1, d2, d3] }
  | _ => none }
def LinkSpreadsWrongFalsely : Prop := linkSpreadsRow.holds Try.pinned (OpenSpec.ofChange linkSpreadsWrong)

/- THE SECOND FORM. 'bulk': how many values and letters a reading holds, each counted each time it is reached (what is shared counts as often as it is met; a slice's spare places count too). A statement '..UptoSaid' is the law's where the arguments, and the package variables that the reading takes, are together of bulk at most 1048576: NARROWER than '..Said'. Prove '..Said' where nothing that the law and all that it calls make is longer than what came in: it says more and counts as full. Else prove '..UptoSaid'. A law counts once. -/
mutual
def uptoBulk {H : Type} : DataW H → Nat
  | .lit (.string bytes) => bytes.length + 1
  | .lit _ => 1
  | .nil => 1
  | .ptr d => uptoBulk d + 1
  | .slice elems spare => uptoBulkAll elems + uptoBulkAll spare + 1
  | .agg parts => uptoBulkAll parts + 1
  | .iface _ d => uptoBulk d + 1
  | .map entries => uptoBulkEntries entries + 1
  | .held _ => 1
def uptoBulkAll {H : Type} : List (DataW H) → Nat
  | [] => 0
  | d :: r => uptoBulk d + uptoBulkAll r
def uptoBulkEntries {H : Type} : List (Lit × DataW H) → Nat
  | [] => 0
  | x :: r => uptoBulkEntry x + uptoBulkEntries r
def uptoBulkEntry {H : Type} : Lit × DataW H → Nat
  | (.string bytes, d) => bytes.length + uptoBulk d + 1
  | (_, d) => uptoBulk d + 1
 end
def uptoSmall : (H : Type) → List (DataW H) → Bool := fun _ ds => decide (uptoBulkAll ds ≤ 1048576)
def OpenSpec.upto (s : _root_.Go.ChangeSpec) : _root_.Go.OpenSpec := { _root_.Go.OpenSpec.ofChange s with cond := some uptoSmall }

/-- 'systolelaw05.LinkBounds', WHERE WHAT IT READS IS OF BULK AT MOST 1048576: true; the input reads as it did. -/
def linkBoundsUptoRow : OpenClaim := { program := "ytjceppinjeehiaa", sum := "ec4e0a60e56c00f7e64c516f64f92e154c9e72fa8c51df7b807a44d25752607d", func := "systole/systolelaw05.LinkBounds", spec := "linkBounds", unfollowed := true, recurses := true, plainKeys := false, apart := false, narrowed := true }
def LinkBoundsUptoSaid : Prop := linkBoundsUptoRow.holds Try.pinned (OpenSpec.upto linkBoundsSpec)

/-- 'systolelaw05.LinkReaches', WHERE WHAT IT READS IS OF BULK AT MOST 1048576: true; the input reads as it did. -/
def linkReachesUptoRow : OpenClaim := { program := "ytjceppinjeehiaa", sum := "ec4e0a60e56c00f7e64c516f64f92e154c9e72fa8c51df7b807a44d25752607d", func := "systole/systolelaw05.LinkReaches", spec := "linkReaches", unfollowed := true, recurses := true, plainKeys := false, apart := false, narrowed := true }
def LinkReachesUptoSaid : Prop := linkReachesUptoRow.holds Try.pinned (OpenSpec.upto linkReachesSpec)

/-- 'systolelaw05.LinkSpreads', WHERE WHAT IT READS IS OF BULK AT MOST 1048576: true; the input reads as it did. -/
def linkSpreadsUptoRow : OpenClaim := { program := "ytjceppinjeehiaa", sum := "ec4e0a60e56c00f7e64c516f64f92e154c9e72fa8c51df7b807a44d25752607d", func := "systole/systolelaw05.LinkSpreads", spec := "linkSpreads", unfollowed := true, recurses := true, plainKeys := false, apart := false, narrowed := true }
def LinkSpreadsUptoSaid : Prop := linkSpreadsUptoRow.holds Try.pinned (OpenSpec.upto linkSpreadsSpec)

end Rows
end Go.Proofs.Ytjceppinjeehiaa
