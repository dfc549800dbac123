/-
  No cell of these rows narrows 'for every input' (looked for: loops, veiled, ifaces, maps, wideKeys, modest, calm, conditions, laid).
  DERIVED. THE GIVEN ROWS OF THIS SEAT. 8 by the template 'for every input the law returns true; each argument reads behind the call as it read before'; 0 by the template 'total and deterministic' (their statements: YtnejicklenhpeaaGreatTotals.lean).
  GIVEN WITH THE SEED: the statements are not yours to turn. If you find one false, say at which input.
  Laid BY PROGRAM, IN A SANDBOX (cutbox-rows.mjs): the forced cells as the released guide's own fill.sh prints them over the translation 44e2217a61c7eed4… (all of the seat's roots in one cut). By AI agents, Wed Nov 11 2026. No macro, syntax, notation, axiom, sorry.
-/
import Derived.Test.YtnejicklenhpeaaGreatChecked
import GoSem.Claim
import GoSem.ClaimJoined
import GoSem.ClaimMapViews
import Derived.JoinedTies
import Derived.KernelRfl
namespace Go.Proofs.YtnejicklenhpeaaGreat
/- THE CELL 'sum', in the pinned program and in every row, IS THE sha256 OF THE DUMP (.gsa) THAT YtnejicklenhpeaaGreatProg.lean LOADS. Nothing in Lean hashes anything: it is a label: what it is worth is what the hold of that sum in a sandbox is worth. -/
noncomputable def Tryz.pinned : Pinned := { name := "ytnejicklenhpeaagreat", sum := "44e2217a61c7eed42f58474788f2440f9edbde68ef3809e366ad49b3811d309c", checked := Tryz.checked }
namespace Rows
def none {H : Type} : Left H := { results := [], args := [] }

/-- 'systolelaw06.FoldHomes': WHATEVER THE INPUT: true; the input reads as it did. -/
def foldHomesSpec : ChangeSpec := { name := "foldHomes", fn := fun _ => fun
  | [d1, d2, d3] => { results := [.lit (.bool true)], args := [d1, d2, d3] }
  | _ => none }
def foldHomesRow : OpenClaim := { program := "ytnejicklenhpeaagreat", sum := "44e2217a61c7eed42f58474788f2440f9edbde68ef3809e366ad49b3811d309c", func := "systole/systolelaw06.FoldHomes", spec := "foldHomes", unfollowed := true, recurses := true, plainKeys := false, apart := false }
def FoldHomesSaid : Prop := foldHomesRow.holds Tryz.pinned (OpenSpec.ofChange foldHomesSpec)

/-- ITS FALSE NEIGHBOUR: 'it returns false'. Refute it at one input. -/
def foldHomesWrong : ChangeSpec := { name := "foldHomes", fn := fun _ => fun
  | [d1, d2, d3] => { results := [.lit (.bool false)], args := [d1, d2, d3] }
  | _ => none }
def FoldHomesWrongFalsely : Prop := foldHomesRow.holds Tryz.pinned (OpenSpec.ofChange foldHomesWrong)

/-- 'systolelaw06.FoldEvents': WHATEVER THE INPUT: true; the input reads as it did. -/
def foldEventsSpec : ChangeSpec := { name := "foldEvents", fn := fun _ => fun
  | [d1, d2, d3] => { results := [.lit (.bool true)], args := [d1, d2, d3] }
  | _ => none }
def foldEventsRow : OpenClaim := { program := "ytnejicklenhpeaagreat", sum := "44e2217a61c7eed42f58474788f2440f9edbde68ef3809e366ad49b3811d309c", func := "systole/systolelaw06.FoldEvents", spec := "foldEvents", unfollowed := true, recurses := true, plainKeys := false, apart := false }
def FoldEventsSaid : Prop := foldEventsRow.holds Tryz.pinned (OpenSpec.ofChange foldEventsSpec)

/-- ITS FALSE NEIGHBOUR: 'it returns false'. Refute it at one input. -/
def foldEventsWrong : ChangeSpec := { name := "foldEvents", fn := fun _ => fun
  | [d1, d2, d3] => { results := [.lit (.bool false)], args := [d1, d2, d3] }
  | _ => none }
def FoldEventsWrongFalsely : Prop := foldEventsRow.holds Tryz.pinned (OpenSpec.ofChange foldEventsWrong)

/-- 'systolelaw06.FoldOnes': WHATEVER THE INPUT: true; the input reads as it did. -/
def foldOnesSpec : ChangeSpec := { name := "foldOnes", fn := fun _ => fun
  | [d1, d2] => { results := [.lit (.bool true)], args := [d1, d2] }
  | _ => none }
def foldOnesRow : OpenClaim := { program := "ytnejicklenhpeaagreat", sum := "44e2217a61c7eed42f58474788f2440f9edbde68ef3809e366ad49b3811d309c", func := "systole/systolelaw06.FoldOnes", spec := "foldOnes", unfollowed := true, recurses := true, plainKeys := false, apart := false }
def FoldOnesSaid : Prop := foldOnesRow.holds Tryz.pinned (OpenSpec.ofChange foldOnesSpec)

/-- ITS FALSE NEIGHBOUR: 'it returns false'. Refute it at one input. -/
def foldOnesWrong : ChangeSpec := { name := "foldOnes", fn := fun _ => fun
  | [d1, d2] => { results := [.lit (.bool false)], args := [d1, d2] }
  | _ => none }
def FoldOnesWrongFalsely : Prop := foldOnesRow.holds Tryz.pinned (OpenSpec.ofChange foldOnesWrong)

/-- 'systolelaw06.FoldTables': WHATEVER THE INPUT: true; the input reads as it did. -/
def foldTablesSpec : ChangeSpec := { name := "foldTables", fn := fun _ => fun
  | [d1, d2] => { results := [.lit (.bool true)], args := [d1, d2] }
  | _ => none }
def foldTablesRow : OpenClaim := { program := "ytnejicklenhpeaagreat", sum := "44e2217a61c7eed42f58474788f2440f9edbde68ef3809e366ad49b3811d309c", func := "systole/systolelaw06.FoldTables", spec := "foldTables", unfollowed := true, recurses := true, plainKeys := false, apart := false }
def FoldTablesSaid : Prop := foldTablesRow.holds Tryz.pinned (OpenSpec.ofChange foldTablesSpec)

/-- ITS FALSE NEIGHBOUR: 'it returns false'. Refute it at one input. -/
def foldTablesWrong : ChangeSpec := { name := "foldTables", fn := fun _ => fun
  | [d1, d2] => { results := [.lit (.bool false)], args := [d1, d2] }
  | _ => none }
def FoldTablesWrongFalsely : Prop := foldTablesRow.holds Tryz.pinned (OpenSpec.ofChange foldTablesWrong)

/-- 'systolelaw06.FoldDelays': WHATEVER THE INPUT: true; the input reads as it did. -/
def foldDelaysSpec : ChangeSpec := { name := "foldDelays", fn := fun _ => fun
  | [d1, d2] => { results := [.lit (.bool true)], args := [d1, d2] }
  | _ => none }
def foldDelaysRow : OpenClaim := { program := "ytnejicklenhpeaagreat", sum := "44e2217a61c7eed42f58474788f2440f9edbde68ef3809e366ad49b3811d309c", func := "systole/systolelaw06.FoldDelays", spec := "foldDelays", unfollowed := true, recurses := true, plainKeys := false, apart := false }
def FoldDelaysSaid : Prop := foldDelaysRow.holds Tryz.pinned (OpenSpec.ofChange foldDelaysSpec)

/-- ITS FALSE NEIGHBOUR: 'it returns false'. Refute it at one input. -/
def foldDelaysWrong : ChangeSpec := { name := "foldDelays", fn := fun _ => fun
  | [d1, d2] => { results := [.lit (.bool false)], args := [d1, d2] }
  | _ => none }
def FoldDelaysWrongFalsely : Prop := foldDelaysRow.holds Tryz.pinned (OpenSpec.ofChange foldDelaysWrong)

/-- 'systolelaw06.FoldKept': WHATEVER THE INPUT: true; the input reads as it did. -/
def foldKeptSpec : ChangeSpec := { name := "foldKept", fn := fun _ => fun
  | [d1, d2] => { results := [.lit (.bool true)], args := [d1, d2] }
  | _ => none }
def foldKeptRow : OpenClaim := { program := "ytnejicklenhpeaagreat", sum := "44e2217a61c7eed42f58474788f2440f9edbde68ef3809e366ad49b3811d309c", func := "systole/systolelaw06.FoldKept", spec := "foldKept", unfollowed := true, recurses := true, plainKeys := false, apart := false }
def FoldKeptSaid : Prop := foldKeptRow.holds Tryz.pinned (OpenSpec.ofChange foldKeptSpec)

/-- ITS FALSE NEIGHBOUR: 'it returns false'. Refute it at one input. -/
def foldKeptWrong : ChangeSpec := { name := "foldKept", fn := fun _ => fun
  | [d1, d2] => { results := [.lit (.bool false)], args := [d1, d2] }
  | _ => none }
def FoldKeptWrongFalsely : Prop := foldKeptRow.holds Tryz.pinned (OpenSpec.ofChange foldKeptWrong)

/-- 'systolelaw06.FoldBounds': WHATEVER THE INPUT: true; the input reads as it did. -/
def foldBoundsSpec : ChangeSpec := { name := "foldBounds", fn := fun _ => fun
  | [d1, d2] => { results := [.lit (.bool true)], args := [d1, d2] }
  | _ => none }
def foldBoundsRow : OpenClaim := { program := "ytnejicklenhpeaagreat", sum := "44e2217a61c7eed42f58474788f2440f9edbde68ef3809e366ad49b3811d309c", func := "systole/systolelaw06.FoldBounds", spec := "foldBounds", unfollowed := true, recurses := true, plainKeys := false, apart := false }
def FoldBoundsSaid : Prop := foldBoundsRow.holds Tryz.pinned (OpenSpec.ofChange foldBoundsSpec)

/-- ITS FALSE NEIGHBOUR: 'it returns false'. Refute it at one input. -/
def foldBoundsWrong : ChangeSpec := { name := "foldBounds", fn := fun _ => fun
  | [d1, d2] => { results := [.lit (.bool false)], args := [d1, d2] }
  | _ => none }
def FoldBoundsWrongFalsely : Prop := foldBoundsRow.holds Tryz.pinned (OpenSpec.ofChange foldBoundsWrong)

/-- 'systolelaw08.MachFolds': WHATEVER THE INPUT: true; the input reads as it did. -/
def machFoldsSpec : ChangeSpec := { name := "machFolds", fn := fun _ => fun
  | [d1, d2] => { results := [.lit (.bool true)], args := [d1, d2] }
  | _ => none }
def machFoldsRow : OpenClaim := { program := "ytnejicklenhpeaagreat", sum := "44e2217a61c7eed42f58474788f2440f9edbde68ef3809e366ad49b3811d309c", func := "systole/systolelaw08.MachFolds", spec := "machFolds", unfollowed := true, recurses := true, plainKeys := false, apart := false }
def MachFoldsSaid : Prop := machFoldsRow.holds Tryz.pinned (OpenSpec.ofChange machFoldsSpec)

/-- ITS FALSE NEIGHBOUR: 'it returns false'. Refute it at one input. -/
def machFoldsWrong : ChangeSpec := { name := "machFolds", fn := fun _ => fun
  | [d1, d2] => { results := [.lit (.bool false)], args := [d1, d2] }
  | _ => none }
def MachFoldsWrongFalsely : Prop := machFoldsRow.holds Tryz.pinned (OpenSpec.ofChange machFoldsWrong)

/- THE SECOND FORM. 'bulk': how many values and letters a reading holds, each counted each time it is reached (what is shared counts as often as it is met; a slice's spare places count too). A statement '..UptoSaid' is the law's where the arguments, and the package variables that the reading takes, are together of bulk at most 1048576: NARROWER than '..Said'. Prove '..Said' where nothing that the law and all that it calls make is longer than what came in: it says more and counts as full. Else prove '..UptoSaid'. A law counts once. -/
mutual
def uptoBulk {H : Type} : DataW H → Nat
  | .lit (.string bytes) => bytes.length + 1
  | .lit _ => 1
  | .nil => 1
  | .ptr d => uptoBulk d + 1
  | .slice elems spare => uptoBulkAll elems + uptoBulkAll spare + 1
  | .agg parts => uptoBulkAll parts + 1
  | .iface _ d => uptoBulk d + 1
  | .map entries => uptoBulkEntries entries + 1
  | .held _ => 1
def uptoBulkAll {H : Type} : List (DataW H) → Nat
  | [] => 0
  | d :: r => uptoBulk d + uptoBulkAll r
def uptoBulkEntries {H : Type} : List (Lit × DataW H) → Nat
  | [] => 0
  | x :: r => uptoBulkEntry x + uptoBulkEntries r
def uptoBulkEntry {H : Type} : Lit × DataW H → Nat
  | (.string bytes, d) => bytes.length + uptoBulk d + 1
  | (_, d) => uptoBulk d + 1
 end
def uptoSmall : (H : Type) → List (DataW H) → Bool := fun _ ds => decide (uptoBulkAll ds ≤ 1048576)
def OpenSpec.upto (s : _root_.Go.ChangeSpec) : _root_.Go.OpenSpec := { _root_.Go.OpenSpec.ofChange s with cond := some uptoSmall }

/-- 'systolelaw06.FoldHomes', WHERE WHAT IT READS IS OF BULK AT MOST 1048576: true; the input reads as it did. -/
def foldHomesUptoRow : OpenClaim := { program := "ytnejicklenhpeaagreat", sum := "44e2217a61c7eed42f58474788f2440f9edbde68ef3809e366ad49b3811d309c", func := "systole/systolelaw06.FoldHomes", spec := "foldHomes", unfollowed := true, recurses := true, plainKeys := false, apart := false, narrowed := true }
def FoldHomesUptoSaid : Prop := foldHomesUptoRow.holds Tryz.pinned (OpenSpec.upto foldHomesSpec)

/-- 'systolelaw06.FoldEvents', WHERE WHAT IT READS IS OF BULK AT MOST 1048576: true; the input reads as it did. -/
def foldEventsUptoRow : OpenClaim := { program := "ytnejicklenhpeaagreat", sum := "44e2217a61c7eed42f58474788f2440f9edbde68ef3809e366ad49b3811d309c", func := "systole/systolelaw06.FoldEvents", spec := "foldEvents", unfollowed := true, recurses := true, plainKeys := false, apart := false, narrowed := true }
def FoldEventsUptoSaid : Prop := foldEventsUptoRow.holds Tryz.pinned (OpenSpec.upto foldEventsSpec)

/-- 'systolelaw06.FoldOnes', WHERE WHAT IT READS IS OF BULK AT MOST 1048576: true; the input reads as it did. -/
def foldOnesUptoRow : OpenClaim := { program := "ytnejicklenhpeaagreat", sum := "44e2217a61c7eed42f58474788f2440f9edbde68ef3809e366ad49b3811d309c", func := "systole/systolelaw06.FoldOnes", spec := "foldOnes", unfollowed := true, recurses := true, plainKeys := false, apart := false, narrowed := true }
def FoldOnesUptoSaid : Prop := foldOnesUptoRow.holds Tryz.pinned (OpenSpec.upto foldOnesSpec)

/-- 'systolelaw06.FoldTables', WHERE WHAT IT READS IS OF BULK AT MOST 1048576: true; the input reads as it did. -/
def foldTablesUptoRow : OpenClaim := { program := "ytnejicklenhpeaagreat", sum := "44e2217a61c7eed42f58474788f2440f9edbde68ef3809e366ad49b3811d309c", func := "systole/systolelaw06.FoldTables", spec := "foldTables", unfollowed := true, recurses := true, plainKeys := false, apart := false, narrowed := true }
def FoldTablesUptoSaid : Prop := foldTablesUptoRow.holds Tryz.pinned (OpenSpec.upto foldTablesSpec)

/-- 'systolelaw06.FoldDelays', WHERE WHAT IT READS IS OF BULK AT MOST 1048576: true; the input reads as it did. -/
def foldDelaysUptoRow : OpenClaim := { program := "ytnejicklenhpeaagreat", sum := "44e2217a61c7eed42f58474788f2440f9edbde68ef3809e366ad49b3811d309c", func := "systole/systolelaw06.FoldDelays", spec := "foldDelays", unfollowed := true, recurses := true, plainKeys := false, apart := false, narrowed := true }
def FoldDelaysUptoSaid : Prop := foldDelaysUptoRow.holds Tryz.pinned (OpenSpec.upto foldDelaysSpec)

/-- 'systolelaw06.FoldKept', WHERE WHAT IT READS IS OF BULK AT MOST 1048576: true; the input reads as it did. -/
def foldKeptUptoRow : OpenClaim := { program := "ytnejicklenhpeaagreat", sum := "44e2217a61c7eed42f58474788f2440f9edbde68ef3809e366ad49b3811d309c", func := "systole/systolelaw06.FoldKept", spec := "foldKept", unfollowed := true, recurses := true, plainKeys := false, apart := false, narrowed := true }
def FoldKeptUptoSaid : Prop := foldKeptUptoRow.holds Tryz.pinned (OpenSpec.upto foldKeptSpec)

/-- 'systolelaw06.FoldBounds', WHERE WHAT IT READS IS OF BULK AT MOST 1048576: true; the input reads as it did. -/
def foldBoundsUptoRow : OpenClaim := { program := "ytnejicklenhpeaagreat", sum := "44e2217a61c7eed42f58474788f2440f9edbde68ef3809e366ad49b3811d309c", func := "systole/systolelaw06.FoldBounds", spec := "foldBounds", unfollowed := true, recurses := true, plainKeys := false, apart := false, narrowed := true }
def FoldBoundsUptoSaid : Prop := foldBoundsUptoRow.holds Tryz.pinned (OpenSpec.upto foldBoundsSpec)

/-- 'systolelaw08.MachFolds', WHERE WHAT IT READS IS OF BULK AT MOST 1048576: true; the input reads as it did. -/
def machFoldsUptoRow : OpenClaim := { program := "ytnejicklenhpeaagreat", sum := "44e2217a61c7eed42f58474788f2440f9edbde68ef3809e366ad49b3811d309c", func := "systole/systolelaw08.MachFolds", spec := "machFolds", unfollowed := true, recurses := true, plainKeys := false, apart := false, narrowed := true }
def MachFoldsUptoSaid : Prop := machFoldsUptoRow.holds Tryz.pinned (OpenSpec.upto machFoldsSpec)

end Rows
end Go.Proofs.YtnejicklenhpeaaGreat
