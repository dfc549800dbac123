/-
  No cell of these rows narrows 'for every input' (looked for: loops, veiled, ifaces, maps, wideKeys, modest, calm, conditions, laid).
  DERIVED. THE GIVEN ROWS OF THIS SEAT. 6 by the template 'for every input the law returns true; each argument reads behind the call as it read before'; 0 by the template 'total and deterministic' (their statements: YtndfdgdahinkpaaTotals.lean).
  GIVEN WITH THE SEED: the statements are not yours to turn. If you find one false, say at which input.
  Laid BY PROGRAM, IN A SANDBOX (cutbox-rows.mjs): the forced cells as the released guide's own fill.sh prints them over the translation a5e3379494fc7410… (all of the seat's roots in one cut). By AI agents, Wed Nov 11 2026. No macro, syntax, notation, axiom, sorry.
-/
import Derived.Test.YtndfdgdahinkpaaChecked
import GoSem.Claim
import GoSem.ClaimJoined
import GoSem.ClaimMapViews
import Derived.JoinedTies
import Derived.KernelRfl
namespace Go.Proofs.Ytndfdgdahinkpaa
/- THE CELL 'sum', in the pinned program and in every row, IS THE sha256 OF THE DUMP (.gsa) THAT YtndfdgdahinkpaaProg.lean LOADS. Nothing in Lean hashes anything: it is a label: what it is worth is what the hold of that sum in a sandbox is worth. -/
noncomputable def Try.pinned : Pinned := { name := "ytndfdgdahinkpaa", sum := "a5e3379494fc741096db4ae4f38598ab1cb927b9404cf22dfff2e317dcaf51fd", checked := Try.checked }
namespace Rows
def none {H : Type} : Left H := { results := [], args := [] }

/-- 'systolelaw04.SpaceLines': WHATEVER THE INPUT: true; the input reads as it did. -/
def spaceLinesSpec : ChangeSpec := { name := "spaceLines", fn := fun _ => fun
  | [d1, d2, d3] => { results := [.lit (.bool true)], args := [d1, d2, d3] }
  | _ => none }
def spaceLinesRow : OpenClaim := { program := "ytndfdgdahinkpaa", sum := "a5e3379494fc741096db4ae4f38598ab1cb927b9404cf22dfff2e317dcaf51fd", func := "systole/systolelaw04.SpaceLines", spec := "spaceLines", unfollowed := true, recurses := true, plainKeys := false, apart := false }
def SpaceLinesSaid : Prop := spaceLinesRow.holds Try.pinned (OpenSpec.ofChange spaceLinesSpec)

/-- ITS FALSE NEIGHBOUR: 'it returns false'. Refute it at one input. -/
def spaceLinesWrong : ChangeSpec := { name := "spaceLines", fn := fun _ => fun
  | [d1, d2, d3] => { results := [.lit (.bool false)], args := [d1, d2, d3] }
  | _ => none }
def SpaceLinesWrongFalsely : Prop := spaceLinesRow.holds Try.pinned (OpenSpec.ofChange spaceLinesWrong)

/-- 'systolelaw04.SpaceSafe': WHATEVER THE INPUT: true; the input reads as it did. -/
def spaceSafeSpec : ChangeSpec := { name := "spaceSafe", fn := fun _ => fun
  | [d1, d2, d3] => { results := [.lit (.bool true)], args := [d1, d2, d3] }
  | _ => none }
def spaceSafeRow : OpenClaim := { program := "ytndfdgdahinkpaa", sum := "a5e3379494fc741096db4ae4f38598ab1cb927b9404cf22dfff2e317dcaf51fd", func := "systole/systolelaw04.SpaceSafe", spec := "spaceSafe", unfollowed := true, recurses := true, plainKeys := false, apart := false }
def SpaceSafeSaid : Prop := spaceSafeRow.holds Try.pinned (OpenSpec.ofChange spaceSafeSpec)

/-- ITS FALSE NEIGHBOUR: 'it returns false'. Refute it at one input. -/
def spaceSafeWrong : ChangeSpec := { name := "spaceSafe", fn := fun _ => fun
  | [d1, d2, d3] => { results := [.lit (.bool false)], args := [d1, d2, d3] }
  | _ => none }
def SpaceSafeWrongFalsely : Prop := spaceSafeRow.holds Try.pinned (OpenSpec.ofChange spaceSafeWrong)

/-- 'systolelaw04.SpaceEvents': WHATEVER THE INPUT: true; the input reads as it did. -/
def spaceEventsSpec : ChangeSpec := { name := "spaceEvents", fn := fun _ => fun
  | [d1, d2, d3] => { results := [.lit (.bool true)], args := [d1, d2, d3] }
  | _ => none }
def spaceEventsRow : OpenClaim := { program := "ytndfdgdahinkpaa", sum := "a5e3379494fc741096db4ae4f38598ab1cb927b9404cf22dfff2e317dcaf51fd", func := "systole/systolelaw04.SpaceEvents", spec := "spaceEvents", unfollowed := true, recurses := true, plainKeys := false, apart := false }
def SpaceEventsSaid : Prop := spaceEventsRow.holds Try.pinned (OpenSpec.ofChange spaceEventsSpec)

/-- ITS FALSE NEIGHBOUR: 'it returns false'. Refute it at one input. -/
def spaceEventsWrong : ChangeSpec := { name := "spaceEvents", fn := fun _ => fun
  | [d1, d2, d3] => { results := [.lit (.bool false)], args := [d1, d2, d3] }
  | _ => none }
def SpaceEventsWrongFalsely : Prop := spaceEventsRow.holds Try.pinned (OpenSpec.ofChange spaceEventsWrong)

/-- 'systolelaw04.SpaceClashes': WHATEVER THE INPUT: true; the input reads as it did. -/
def spaceClashesSpec : ChangeSpec := { name := "spaceClashes", fn := fun _ => fun
  | [d1, d2, d3] => { results := [.lit (.bool true)], args := [d1, d2, d3] }
  | _ => none }
def spaceClashesRow : OpenClaim := { program := "ytndfdgdahinkpaa", sum := "a5e3379494fc741096db4ae4f38598ab1cb927b9404cf22dfff2e317dcaf51fd", func := "systole/systolelaw04.SpaceClashes", spec := "spaceClashes", unfollowed := true, recurses := true, plainKeys := false, apart := false }
def SpaceClashesSaid : Prop := spaceClashesRow.holds Try.pinned (OpenSpec.ofChange spaceClashesSpec)

/-- ITS FALSE NEIGHBOUR: 'it returns false'. Refute it at one input. -/
def spaceClashesWrong : ChangeSpec := { name := "spaceClashes", fn := fun _ => fun
  | [d1, d2, d3] => { results := [.lit (.bool false)], args := [d1, d2, d3] }
  | _ => none }
def SpaceClashesWrongFalsely : Prop := spaceClashesRow.holds Try.pinned (OpenSpec.ofChange spaceClashesWrong)

/-- 'systolelaw04.SpaceFolds': WHATEVER THE INPUT: true; the input reads as it did. -/
def spaceFoldsSpec : ChangeSpec := { name := "spaceFolds", fn := fun _ => fun
  | [d1, d2] => { results := [.lit (.bool true)], args := [d1, d2] }
  | _ => none }
def spaceFoldsRow : OpenClaim := { program := "ytndfdgdahinkpaa", sum := "a5e3379494fc741096db4ae4f38598ab1cb927b9404cf22dfff2e317dcaf51fd", func := "systole/systolelaw04.SpaceFolds", spec := "spaceFolds", unfollowed := true, recurses := true, plainKeys := false, apart := false }
def SpaceFoldsSaid : Prop := spaceFoldsRow.holds Try.pinned (OpenSpec.ofChange spaceFoldsSpec)

/-- ITS FALSE NEIGHBOUR: 'it returns false'. Refute it at one input. -/
def spaceFoldsWrong : ChangeSpec := { name := "spaceFolds", fn := fun _ => fun
  | [d1, d2] => { results := [.lit (.bool false)], args := [d1, d2] }
  | _ => none }
def SpaceFoldsWrongFalsely : Prop := spaceFoldsRow.holds Try.pinned (OpenSpec.ofChange spaceFoldsWrong)

/-- 'systolelaw04.SpaceCells': WHATEVER THE INPUT: true; the input reads as it did. -/
def spaceCellsSpec : ChangeSpec := { name := "spaceCells", fn := fun _ => fun
  | [d1, d2] => { results := [.lit (.bool true)], args := [d1, d2] }
  | _ => none }
def spaceCellsRow : OpenClaim := { program := "ytndfdgdahinkpaa", sum := "a5e3379494fc741096db4ae4f38598ab1cb927b9404cf22dfff2e317dcaf51fd", func := "systole/systolelaw04.SpaceCells", spec := "spaceCells", unfollowed := true, recurses := true, plainKeys := false, apart := false }
def SpaceCellsSaid : Prop := spaceCellsRow.holds Try.pinned (OpenSpec.ofChange spaceCellsSpec)

/-- ITS FALSE NEIGHBOUR: 'it returns false'. Refute it at one input. -/
def spaceCellsWrong : ChangeSpec := { name := "spaceCells", fn := fun _ => fun
  | [d1, d2] => { results := [.lit (.bool false)], args := [d1, d2] }
  | _ => none }
def SpaceCellsWrongFalsely : Prop := spaceCellsRow.holds Try.pinned (OpenSpec.ofChange spaceCellsWrong)

/- THE SECOND FORM. 'bulk': how many values and letters a reading holds, each counted each time it is reached (what is shared counts as often as it is met; a slice's spare places count too). A statement '..UptoSaid' is the law's where the arguments, and the package variables that the reading takes, are together of bulk at most 1048576: NARROWER than '..Said'. Prove '..Said' where nothing that the law and all that it calls make is longer than what came in: it says more and counts as full. Else prove '..UptoSaid'. A law counts once. -/
mutual
def uptoBulk {H : Type} : DataW H → Nat
  | .lit (.string bytes) => bytes.length + 1
  | .lit _ => 1
  | .nil => 1
  | .ptr d => uptoBulk d + 1
  | .slice elems spare => uptoBulkAll elems + uptoBulkAll spare + 1
  | .agg parts => uptoBulkAll parts + 1
  | .iface _ d => uptoBulk d + 1
  | .map entries => uptoBulkEntries entries + 1
  | .held _ => 1
def uptoBulkAll {H : Type} : List (DataW H) → Nat
  | [] => 0
  | d :: r => uptoBulk d + uptoBulkAll r
def uptoBulkEntries {H : Type} : List (Lit × DataW H) → Nat
  | [] => 0
  | x :: r => uptoBulkEntry x + uptoBulkEntries r
def uptoBulkEntry {H : Type} : Lit × DataW H → Nat
  | (.string bytes, d) => bytes.length + uptoBulk d + 1
  | (_, d) => uptoBulk d + 1
 end
def uptoSmall : (H : Type) → List (DataW H) → Bool := fun _ ds => decide (uptoBulkAll ds ≤ 1048576)
def OpenSpec.upto (s : _root_.Go.ChangeSpec) : _root_.Go.OpenSpec := { _root_.Go.OpenSpec.ofChange s with cond := some uptoSmall }

/-- 'systolelaw04.SpaceLines', WHERE WHAT IT READS IS OF BULK AT MOST 1048576: true; the input reads as it did. -/
def spaceLinesUptoRow : OpenClaim := { program := "ytndfdgdahinkpaa", sum := "a5e3379494fc741096db4ae4f38598ab1cb927b9404cf22dfff2e317dcaf51fd", func := "systole/systolelaw04.SpaceLines", spec := "spaceLines", unfollowed := true, recurses := true, plainKeys := false, apart := false, narrowed := true }
def SpaceLinesUptoSaid : Prop := spaceLinesUptoRow.holds Try.pinned (OpenSpec.upto spaceLinesSpec)

/-- 'systolelaw04.SpaceSafe', WHERE WHAT IT READS IS OF BULK AT MOST 1048576: true; the input reads as it did. -/
def spaceSafeUptoRow : OpenClaim := { program := "ytndfdgdahinkpaa", sum := "a5e3379494fc741096db4ae4f38598ab1cb927b9404cf22dfff2e317dcaf51fd", func := "systole/systolelaw04.SpaceSafe", spec := "spaceSafe", unfollowed := true, recurses := true, plainKeys := false, apart := false, narrowed := true }
def SpaceSafeUptoSaid : Prop := spaceSafeUptoRow.holds Try.pinned (OpenSpec.upto spaceSafeSpec)

/-- 'systolelaw04.SpaceEvents', WHERE WHAT IT READS IS OF BULK AT MOST 1048576: true; the input reads as it did. -/
def spaceEventsUptoRow : OpenClaim := { program := "ytndfdgdahinkpaa", sum := "a5e3379494fc741096db4ae4f38598ab1cb927b9404cf22dfff2e317dcaf51fd", func := "systole/systolelaw04.SpaceEvents", spec := "spaceEvents", unfollowed := true, recurses := true, plainKeys := false, apart := false, narrowed := true }
def SpaceEventsUptoSaid : Prop := spaceEventsUptoRow.holds Try.pinned (OpenSpec.upto spaceEventsSpec)

/-- 'systolelaw04.SpaceClashes', WHERE WHAT IT READS IS OF BULK AT MOST 1048576: true; the input reads as it did. -/
def spaceClashesUptoRow : OpenClaim := { program := "ytndfdgdahinkpaa", sum := "a5e3379494fc741096db4ae4f38598ab1cb927b9404cf22dfff2e317dcaf51fd", func := "systole/systolelaw04.SpaceClashes", spec := "spaceClashes", unfollowed := true, recurses := true, plainKeys := false, apart := false, narrowed := true }
def SpaceClashesUptoSaid : Prop := spaceClashesUptoRow.holds Try.pinned (OpenSpec.upto spaceClashesSpec)

/-- 'systolelaw04.SpaceFolds', WHERE WHAT IT READS IS OF BULK AT MOST 1048576: true; the input reads as it did. -/
def spaceFoldsUptoRow : OpenClaim := { program := "ytndfdgdahinkpaa", sum := "a5e3379494fc741096db4ae4f38598ab1cb927b9404cf22dfff2e317dcaf51fd", func := "systole/systolelaw04.SpaceFolds", spec := "spaceFolds", unfollowed := true, recurses := true, plainKeys := false, apart := false, narrowed := true }
def SpaceFoldsUptoSaid : Prop := spaceFoldsUptoRow.holds Try.pinned (OpenSpec.upto spaceFoldsSpec)

/-- 'systolelaw04.SpaceCells', WHERE WHAT IT READS IS OF BULK AT MOST 1048576: true; the input reads as it did. -/
def spaceCellsUptoRow : OpenClaim := { program := "ytndfdgdahinkpaa", sum := "a5e3379494fc741096db4ae4f38598ab1cb927b9404cf22dfff2e317dcaf51fd", func := "systole/systolelaw04.SpaceCells", spec := "spaceCells", unfollowed := true, recurses := true, plainKeys := false, apart := false, narrowed := true }
def SpaceCellsUptoSaid : Prop := spaceCellsUptoRow.holds Try.pinned (OpenSpec.upto spaceCellsSpec)

end Rows
end Go.Proofs.Ytndfdgdahinkpaa
