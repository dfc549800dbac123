/-
  No cell of these rows narrows 'for every input' (looked for: loops, veiled, ifaces, maps, wideKeys, modest, calm, conditions, laid).
  DERIVED. THE GIVEN ROWS OF THIS SEAT. 12 by the template 'for every input the law returns true; each argument reads behind the call as it read before'; 0 by the template 'total and deterministic' (their statements: YtpoofjioeljigaaTotals.lean).
  GIVEN WITH THE SEED: the statements are not yours to turn. If you find one false, say at which input.
  Laid BY PROGRAM, IN A SANDBOX (cutbox-rows.mjs): the forced cells as the released guide's own fill.sh prints them over the translation 4b3c7daf35fe9dad… (all of the seat's roots in one cut). By AI agents, Wed Nov 11 2026. No macro, syntax, notation, axiom, sorry.
-/
import Derived.Test.YtpoofjioeljigaaChecked
import GoSem.Claim
import GoSem.ClaimJoined
import GoSem.ClaimMapViews
import Derived.JoinedTies
import Derived.KernelRfl
namespace Go.Proofs.Ytpoofjioeljigaa
/- THE CELL 'sum', in the pinned program and in every row, IS THE sha256 OF THE DUMP (.gsa) THAT YtpoofjioeljigaaProg.lean LOADS. Nothing in Lean hashes anything: it is a label: what it is worth is what the hold of that sum in a sandbox is worth. -/
noncomputable def Try.pinned : Pinned := { name := "ytpoofjioeljigaa", sum := "4b3c7daf35fe9dadc973c7092dbbf187f6d46169cff67553f20f31747074cf9b", checked := Try.checked }
namespace Rows
def none {H : Type} : Left H := { results := [], args := [] }

/-- 'systolelaw06.FoldCells': WHATEVER THE INPUT: true; the input reads as it did. -/
def foldCellsSpec : ChangeSpec := { name := "foldCells", fn := fun _ => fun
  | [d1, d2, d3] => { results := [.lit (.bool true)], args := [d1, d2, d3] }
  | _ => none }
def foldCellsRow : OpenClaim := { program := "ytpoofjioeljigaa", sum := "4b3c7daf35fe9dadc973c7092dbbf187f6d46169cff67553f20f31747074cf9b", func := "systole/systolelaw06.FoldCells", spec := "foldCells", plainKeys := false, apart := false }
def FoldCellsSaid : Prop := foldCellsRow.holds Try.pinned (OpenSpec.ofChange foldCellsSpec)

/-- ITS FALSE NEIGHBOUR: 'it returns false'. Refute it at one input. -/
def foldCellsWrong : ChangeSpec := { name := "foldCells", fn := fun _ => fun
  | [d1, d2, d3] => { results := [.lit (.bool false)], args := [d1, d2, d3] }
  | _ => none }
def FoldCellsWrongFalsely : Prop := foldCellsRow.holds Try.pinned (OpenSpec.ofChange foldCellsWrong)

/-- 'systolelaw06.FoldUnfolds': WHATEVER THE INPUT: true; the input reads as it did. -/
def foldUnfoldsSpec : ChangeSpec := { name := "foldUnfolds", fn := fun _ => fun
  | [d1, d2] => { results := [.lit (.bool true)], args := [d1, d2] }
  | _ => none }
def foldUnfoldsRow : OpenClaim := { program := "ytpoofjioeljigaa", sum := "4b3c7daf35fe9dadc973c7092dbbf187f6d46169cff67553f20f31747074cf9b", func := "systole/systolelaw06.FoldUnfolds", spec := "foldUnfolds", plainKeys := false, apart := false }
def FoldUnfoldsSaid : Prop := foldUnfoldsRow.holds Try.pinned (OpenSpec.ofChange foldUnfoldsSpec)

/-- ITS FALSE NEIGHBOUR: 'it returns false'. Refute it at one input. -/
def foldUnfoldsWrong : ChangeSpec := { name := "foldUnfolds", fn := fun _ => fun
  | [d1, d2] => { results := [.lit (.bool false)], args := [d1, d2] }
  | _ => none }
def FoldUnfoldsWrongFalsely : Prop := foldUnfoldsRow.holds Try.pinned (OpenSpec.ofChange foldUnfoldsWrong)

/-- 'systolelaw10.ForgeParts': WHATEVER THE INPUT: true; the input reads as it did. -/
def forgePartsSpec : ChangeSpec := { name := "forgeParts", fn := fun _ => fun
  | [d1, d2, d3] => { results := [.lit (.bool true)], args := [d1, d2, d3] }
  | _ => none }
def forgePartsRow : OpenClaim := { program := "ytpoofjioeljigaa", sum := "4b3c7daf35fe9dadc973c7092dbbf187f6d46169cff67553f20f31747074cf9b", func := "systole/systolelaw10.ForgeParts", spec := "forgeParts", plainKeys := false, apart := false }
def ForgePartsSaid : Prop := forgePartsRow.holds Try.pinned (OpenSpec.ofChange forgePartsSpec)

/-- ITS FALSE NEIGHBOUR: 'it returns false'. Refute it at one input. -/
def forgePartsWrong : ChangeSpec := { name := "forgeParts", fn := fun _ => fun
  | [d1, d2, d3] => { results := [.lit (.bool false)], args := [d1, d2, d3] }
  | _ => none }
def ForgePartsWrongFalsely : Prop := forgePartsRow.holds Try.pinned (OpenSpec.ofChange forgePartsWrong)

/-- 'systolelaw10.ForgeJoins': WHATEVER THE INPUT: true; the input reads as it did. -/
def forgeJoinsSpec : ChangeSpec := { name := "forgeJoins", fn := fun _ => fun
  | [d1, d2] => { results := [.lit (.bool true)], args := [d1, d2] }
  | _ => none }
def forgeJoinsRow : OpenClaim := { program := "ytpoofjioeljigaa", sum := "4b3c7daf35fe9dadc973c7092dbbf187f6d46169cff67553f20f31747074cf9b", func := "systole/systolelaw10.ForgeJoins", spec := "forgeJoins", plainKeys := false, apart := false }
def ForgeJoinsSaid : Prop := forgeJoinsRow.holds Try.pinned (OpenSpec.ofChange forgeJoinsSpec)

/-- ITS FALSE NEIGHBOUR: 'it returns false'. Refute it at one input. -/
def forgeJoinsWrong : ChangeSpec := { name := "forgeJoins", fn := fun _ => fun
  | [d1, d2] => { results := [.lit (.bool false)], args := [d1, d2] }
  | _ => none }
def ForgeJoinsWrongFalsely : Prop := forgeJoinsRow.holds Try.pinned (OpenSpec.ofChange forgeJoinsWrong)

/-- 'systolelaw04.SpaceDirections': WHATEVER THE INPUT: true; the input reads as it did. -/
def spaceDirectionsSpec : ChangeSpec := { name := "spaceDirections", fn := fun _ => fun
  | [d1, d2, d3] => { results := [.lit (.bool true)], args := [d1, d2, d3] }
  | _ => none }
def spaceDirectionsRow : OpenClaim := { program := "ytpoofjioeljigaa", sum := "4b3c7daf35fe9dadc973c7092dbbf187f6d46169cff67553f20f31747074cf9b", func := "systole/systolelaw04.SpaceDirections", spec := "spaceDirections", unfollowed := true, recurses := true, plainKeys := false, apart := false }
def SpaceDirectionsSaid : Prop := spaceDirectionsRow.holds Try.pinned (OpenSpec.ofChange spaceDirectionsSpec)

/-- ITS FALSE NEIGHBOUR: 'it returns false'. Refute it at one input. -/
def spaceDirectionsWrong : ChangeSpec := { name := "spaceDirections", fn := fun _ => fun
  | [d1, d2, d3] => { results := [.lit (.bool false)], args := [d1, d2, d3] }
  | _ => none }
def SpaceDirectionsWrongFalsely : Prop := spaceDirectionsRow.holds Try.pinned (OpenSpec.ofChange spaceDirectionsWrong)

/-- 'systolelaw04.SpaceAdds': WHATEVER THE INPUT: true; the input reads as it did. -/
def spaceAddsSpec : ChangeSpec := { name := "spaceAdds", fn := fun _ => fun
  | [d1, d2, d3] => { results := [.lit (.bool true)], args := [d1, d2, d3] }
  | _ => none }
def spaceAddsRow : OpenClaim := { program := "ytpoofjioeljigaa", sum := "4b3c7daf35fe9dadc973c7092dbbf187f6d46169cff67553f20f31747074cf9b", func := "systole/systolelaw04.SpaceAdds", spec := "spaceAdds", unfollowed := true, recurses := true, plainKeys := false, apart := false }
def SpaceAddsSaid : Prop := spaceAddsRow.holds Try.pinned (OpenSpec.ofChange spaceAddsSpec)

/-- ITS FALSE NEIGHBOUR: 'it returns false'. Refute it at one input. -/
def spaceAddsWrong : ChangeSpec := { name := "spaceAdds", fn := fun _ => fun
  | [d1, d2, d3] => { results := [.lit (.bool false)], args := [d1, d2, d3] }
  | _ => none }
def SpaceAddsWrongFalsely : Prop := spaceAddsRow.holds Try.pinned (OpenSpec.ofChange spaceAddsWrong)

/-- 'systolelaw05.LinkSums': WHATEVER THE INPUT: true; the input reads as it did. -/
def linkSumsSpec : ChangeSpec := { name := "linkSums", fn := fun _ => fun
  | [d1, d2, d3] => { results := [.lit (.bool true)], args := [d1, d2, d3] }
  | _ => none }
def linkSumsRow : OpenClaim := { program := "ytpoofjioeljigaa", sum := "4b3c7daf35fe9dadc973c7092dbbf187f6d46169cff67553f20f31747074cf9b", func := "systole/systolelaw05.LinkSums", spec := "linkSums", unfollowed := true, recurses := true, plainKeys := false, apart := false }
def LinkSumsSaid : Prop := linkSumsRow.holds Try.pinned (OpenSpec.ofChange linkSumsSpec)

/-- ITS FALSE NEIGHBOUR: 'it returns false'. Refute it at one input. -/
def linkSumsWrong : ChangeSpec := { name := "linkSums", fn := fun _ => fun
  | [d1, d2, d3] => { results := [.lit (.bool false)], args := [d1, d2, d3] }
  | _ => none }
def LinkSumsWrongFalsely : Prop := linkSumsRow.holds Try.pinned (OpenSpec.ofChange linkSumsWrong)

/-- 'systolelaw10.ForgePieces': WHATEVER THE INPUT: true; the input reads as it did. -/
def forgePiecesSpec : ChangeSpec := { name := "forgePieces", fn := fun _ => fun
  | [d1, d2] => { results := [.lit (.bool true)], args := [d1, d2] }
  | _ => none }
def forgePiecesRow : OpenClaim := { program := "ytpoofjioeljigaa", sum := "4b3c7daf35fe9dadc973c7092dbbf187f6d46169cff67553f20f31747074cf9b", func := "systole/systolelaw10.ForgePieces", spec := "forgePieces", plainKeys := false, apart := false }
def ForgePiecesSaid : Prop := forgePiecesRow.holds Try.pinned (OpenSpec.ofChange forgePiecesSpec)

/-- ITS FALSE NEIGHBOUR: 'it returns false'. Refute it at one input. -/
def forgePiecesWrong : ChangeSpec := { name := "forgePieces", fn := fun _ => fun
  | [d1, d2] => { results := [.lit (.bool false)], args := [d1, d2] }
  | _ => none }
def ForgePiecesWrongFalsely : Prop := forgePiecesRow.holds Try.pinned (OpenSpec.ofChange forgePiecesWrong)

/-- 'systolelaw05.LinkHops': WHATEVER THE INPUT: true; the input reads as it did. -/
def linkHopsSpec : ChangeSpec := { name := "linkHops", fn := fun _ => fun
  | [d1, d2] => { results := [.lit (.bool true)], args := [d1, d2] }
  | _ => none }
def linkHopsRow : OpenClaim := { program := "ytpoofjioeljigaa", sum := "4b3c7daf35fe9dadc973c7092dbbf187f6d46169cff67553f20f31747074cf9b", func := "systole/systolelaw05.LinkHops", spec := "linkHops", unfollowed := true, recurses := true, plainKeys := false, apart := false }
def LinkHopsSaid : Prop := linkHopsRow.holds Try.pinned (OpenSpec.ofChange linkHopsSpec)

/-- ITS FALSE NEIGHBOUR: 'it returns false'. Refute it at one input. -/
def linkHopsWrong : ChangeSpec := { name := "linkHops", fn := fun _ => fun
  | [d1, d2] => { results := [.lit (.bool false)], args := [d1, d2] }
  | _ => none }
def LinkHopsWrongFalsely : Prop := linkHopsRow.holds Try.pinned (OpenSpec.ofChange linkHopsWrong)

/-- 'systolelaw05.LinkFloors': WHATEVER THE INPUT: true; the input reads as it did. -/
def linkFloorsSpec : ChangeSpec := { name := "linkFloors", fn := fun _ => fun
  | [d1, d2] => { results := [.lit (.bool true)], args := [d1, d2] }
  | _ => none }
def linkFloorsRow : OpenClaim := { program := "ytpoofjioeljigaa", sum := "4b3c7daf35fe9dadc973c7092dbbf187f6d46169cff67553f20f31747074cf9b", func := "systole/systolelaw05.LinkFloors", spec := "linkFloors", unfollowed := true, recurses := true, plainKeys := false, apart := false }
def LinkFloorsSaid : Prop := linkFloorsRow.holds Try.pinned (OpenSpec.ofChange linkFloorsSpec)

/-- ITS FALSE NEIGHBOUR: 'it returns false'. Refute it at one input. -/
def linkFloorsWrong : ChangeSpec := { name := "linkFloors", fn := fun _ => fun
  | [d1, d2] => { results := [.lit (.bool false)], args := [d1, d2] }
  | _ => none }
def LinkFloorsWrongFalsely : Prop := linkFloorsRow.holds Try.pinned (OpenSpec.ofChange linkFloorsWrong)

/-- 'systolelaw05.LinkProves': WHATEVER THE INPUT: true; the input reads as it did. -/
def linkProvesSpec : ChangeSpec := { name := "linkProves", fn := fun _ => fun
  | [d1, d2, d3, d4, d5] => { results := [.lit (.bool true)], args := [d1, d2, d3, d4, d5] }
  | _ => none }
def linkProvesRow : OpenClaim := { program := "ytpoofjioeljigaa", sum := "4b3c7daf35fe9dadc973c7092dbbf187f6d46169cff67553f20f31747074cf9b", func := "systole/systolelaw05.LinkProves", spec := "linkProves", unfollowed := true, recurses := true, plainKeys := false, apart := false }
def LinkProvesSaid : Prop := linkProvesRow.holds Try.pinned (OpenSpec.ofChange linkProvesSpec)

/-- ITS FALSE NEIGHBOUR: 'it returns false'. Refute it at one input. -/
def linkProvesWrong : ChangeSpec := { name := "linkProves", fn := fun _ => fun
  | [d1, d2, d3, d4, d5] => { results := [.lit (.bool false)], args := [d1, d2, d3, d4, d5] }
  | _ => none }
def LinkProvesWrongFalsely : Prop := linkProvesRow.holds Try.pinned (OpenSpec.ofChange linkProvesWrong)

/-- 'systolelaw05.LinkWays': WHATEVER THE INPUT: true; the input reads as it did. -/
def linkWaysSpec : ChangeSpec := { name := "linkWays", fn := fun _ => fun
  | [d1, d2, d3] => { results := [.lit (.bool true)], args := [d1, d2, d3] }
  | _ => none }
def linkWaysRow : OpenClaim := { program := "ytpoofjioeljigaa", sum := "4b3c7daf35fe9dadc973c7092dbbf187f6d46169cff67553f20f31747074cf9b", func := "systole/systolelaw05.LinkWays", spec := "linkWays", unfollowed := true, recurses := true, plainKeys := false, apart := false }
def LinkWaysSaid : Prop := linkWaysRow.holds Try.pinned (OpenSpec.ofChange linkWaysSpec)

/-- ITS FALSE NEIGHBOUR: 'it returns false'. Refute it at one input. -/
def linkWaysWrong : ChangeSpec := { name := "linkWays", fn := fun _ => fun
  | [d1, d2, d3] => { results := [.lit (.bool false)], args := [d1, d2, d3] }
  | _ => none }
def LinkWaysWrongFalsely : Prop := linkWaysRow.holds Try.pinned (OpenSpec.ofChange linkWaysWrong)

/- THE SECOND FORM. 'bulk': how many values and letters a reading holds, each counted each time it is reached (what is shared counts as often as it is met; a slice's spare places count too). A statement '..UptoSaid' is the law's where the arguments, and the package variables that the reading takes, are together of bulk at most 1048576: NARROWER than '..Said'. Prove '..Said' where nothing that the law and all that it calls make is longer than what came in: it says more and counts as full. Else prove '..UptoSaid'. A law counts once. -/
mutual
def uptoBulk {H : Type} : DataW H → Nat
  | .lit (.string bytes) => bytes.length + 1
  | .lit _ => 1
  | .nil => 1
  | .ptr d => uptoBulk d + 1
  | .slice elems spare => uptoBulkAll elems + uptoBulkAll spare + 1
  | .agg parts => uptoBulkAll parts + 1
  | .iface _ d => uptoBulk d + 1
  | .map entries => uptoBulkEntries entries + 1
  | .held _ => 1
def uptoBulkAll {H : Type} : List (DataW H) → Nat
  | [] => 0
  | d :: r => uptoBulk d + uptoBulkAll r
def uptoBulkEntries {H : Type} : List (Lit × DataW H) → Nat
  | [] => 0
  | x :: r => uptoBulkEntry x + uptoBulkEntries r
def uptoBulkEntry {H : Type} : Lit × DataW H → Nat
  | (.string bytes, d) => bytes.length + uptoBulk d + 1
  | (_, d) => uptoBulk d + 1
 end
def uptoSmall : (H : Type) → List (DataW H) → Bool := fun _ ds => decide (uptoBulkAll ds ≤ 1048576)
def OpenSpec.upto (s : _root_.Go.ChangeSpec) : _root_.Go.OpenSpec := { _root_.Go.OpenSpec.ofChange s with cond := some uptoSmall }

/-- 'systolelaw06.FoldCells', WHERE WHAT IT READS IS OF BULK AT MOST 1048576: true; the input reads as it did. -/
def foldCellsUptoRow : OpenClaim := { program := "ytpoofjioeljigaa", sum := "4b3c7daf35fe9dadc973c7092dbbf187f6d46169cff67553f20f31747074cf9b", func := "systole/systolelaw06.FoldCells", spec := "foldCells", plainKeys := false, apart := false, narrowed := true }
def FoldCellsUptoSaid : Prop := foldCellsUptoRow.holds Try.pinned (OpenSpec.upto foldCellsSpec)

/-- 'systolelaw06.FoldUnfolds', WHERE WHAT IT READS IS OF BULK AT MOST 1048576: true; the input reads as it did. -/
def foldUnfoldsUptoRow : OpenClaim := { program := "ytpoofjioeljigaa", sum := "4b3c7daf35fe9dadc973c7092dbbf187f6d46169cff67553f20f31747074cf9b", func := "systole/systolelaw06.FoldUnfolds", spec := "foldUnfolds", plainKeys := false, apart := false, narrowed := true }
def FoldUnfoldsUptoSaid : Prop := foldUnfoldsUptoRow.holds Try.pinned (OpenSpec.upto foldUnfoldsSpec)

/-- 'systolelaw10.ForgeParts', WHERE WHAT IT READS IS OF BULK AT MOST 1048576: true; the input reads as it did. -/
def forgePartsUptoRow : OpenClaim := { program := "ytpoofjioeljigaa", sum := "4b3c7daf35fe9dadc973c7092dbbf187f6d46169cff67553f20f31747074cf9b", func := "systole/systolelaw10.ForgeParts", spec := "forgeParts", plainKeys := false, apart := false, narrowed := true }
def ForgePartsUptoSaid : Prop := forgePartsUptoRow.holds Try.pinned (OpenSpec.upto forgePartsSpec)

/-- 'systolelaw10.ForgeJoins', WHERE WHAT IT READS IS OF BULK AT MOST 1048576: true; the input reads as it did. -/
def forgeJoinsUptoRow : OpenClaim := { program := "ytpoofjioeljigaa", sum := "4b3c7daf35fe9dadc973c7092dbbf187f6d46169cff67553f20f31747074cf9b", func := "systole/systolelaw10.ForgeJoins", spec := "forgeJoins", plainKeys := false, apart := false, narrowed := true }
def ForgeJoinsUptoSaid : Prop := forgeJoinsUptoRow.holds Try.pinned (OpenSpec.upto forgeJoinsSpec)

/-- 'systolelaw04.SpaceDirections', WHERE WHAT IT READS IS OF BULK AT MOST 1048576: true; the input reads as it did. -/
def spaceDirectionsUptoRow : OpenClaim := { program := "ytpoofjioeljigaa", sum := "4b3c7daf35fe9dadc973c7092dbbf187f6d46169cff67553f20f31747074cf9b", func := "systole/systolelaw04.SpaceDirections", spec := "spaceDirections", unfollowed := true, recurses := true, plainKeys := false, apart := false, narrowed := true }
def SpaceDirectionsUptoSaid : Prop := spaceDirectionsUptoRow.holds Try.pinned (OpenSpec.upto spaceDirectionsSpec)

/-- 'systolelaw04.SpaceAdds', WHERE WHAT IT READS IS OF BULK AT MOST 1048576: true; the input reads as it did. -/
def spaceAddsUptoRow : OpenClaim := { program := "ytpoofjioeljigaa", sum := "4b3c7daf35fe9dadc973c7092dbbf187f6d46169cff67553f20f31747074cf9b", func := "systole/systolelaw04.SpaceAdds", spec := "spaceAdds", unfollowed := true, recurses := true, plainKeys := false, apart := false, narrowed := true }
def SpaceAddsUptoSaid : Prop := spaceAddsUptoRow.holds Try.pinned (OpenSpec.upto spaceAddsSpec)

/-- 'systolelaw05.LinkSums', WHERE WHAT IT READS IS OF BULK AT MOST 1048576: true; the input reads as it did. -/
def linkSumsUptoRow : OpenClaim := { program := "ytpoofjioeljigaa", sum := "4b3c7daf35fe9dadc973c7092dbbf187f6d46169cff67553f20f31747074cf9b", func := "systole/systolelaw05.LinkSums", spec := "linkSums", unfollowed := true, recurses := true, plainKeys := false, apart := false, narrowed := true }
def LinkSumsUptoSaid : Prop := linkSumsUptoRow.holds Try.pinned (OpenSpec.upto linkSumsSpec)

/-- 'systolelaw10.ForgePieces', WHERE WHAT IT READS IS OF BULK AT MOST 1048576: true; the input reads as it did. -/
def forgePiecesUptoRow : OpenClaim := { program := "ytpoofjioeljigaa", sum := "4b3c7daf35fe9dadc973c7092dbbf187f6d46169cff67553f20f31747074cf9b", func := "systole/systolelaw10.ForgePieces", spec := "forgePieces", plainKeys := false, apart := false, narrowed := true }
def ForgePiecesUptoSaid : Prop := forgePiecesUptoRow.holds Try.pinned (OpenSpec.upto forgePiecesSpec)

/-- 'systolelaw05.LinkHops', WHERE WHAT IT READS IS OF BULK AT MOST 1048576: true; the input reads as it did. -/
def linkHopsUptoRow : OpenClaim := { program := "ytpoofjioeljigaa", sum := "4b3c7daf35fe9dadc973c7092dbbf187f6d46169cff67553f20f31747074cf9b", func := "systole/systolelaw05.LinkHops", spec := "linkHops", unfollowed := true, recurses := true, plainKeys := false, apart := false, narrowed := true }
def LinkHopsUptoSaid : Prop := linkHopsUptoRow.holds Try.pinned (OpenSpec.upto linkHopsSpec)

/-- 'systolelaw05.LinkFloors', WHERE WHAT IT READS IS OF BULK AT MOST 1048576: true; the input reads as it did. -/
def linkFloorsUptoRow : OpenClaim := { program := "ytpoofjioeljigaa", sum := "4b3c7daf35fe9dadc973c7092dbbf187f6d46169cff67553f20f31747074cf9b", func := "systole/systolelaw05.LinkFloors", spec := "linkFloors", unfollowed := true, recurses := true, plainKeys := false, apart := false, narrowed := true }
def LinkFloorsUptoSaid : Prop := linkFloorsUptoRow.holds Try.pinned (OpenSpec.upto linkFloorsSpec)

/-- 'systolelaw05.LinkProves', WHERE WHAT IT READS IS OF BULK AT MOST 1048576: true; the input reads as it did. -/
def linkProvesUptoRow : OpenClaim := { program := "ytpoofjioeljigaa", sum := "4b3c7daf35fe9dadc973c7092dbbf187f6d46169cff67553f20f31747074cf9b", func := "systole/systolelaw05.LinkProves", spec := "linkProves", unfollowed := true, recurses := true, plainKeys := false, apart := false, narrowed := true }
def LinkProvesUptoSaid : Prop := linkProvesUptoRow.holds Try.pinned (OpenSpec.upto linkProvesSpec)

/-- 'systolelaw05.LinkWays', WHERE WHAT IT READS IS OF BULK AT MOST 1048576: true; the input reads as it did. -/
def linkWaysUptoRow : OpenClaim := { program := "ytpoofjioeljigaa", sum := "4b3c7daf35fe9dadc973c7092dbbf187f6d46169cff67553f20f31747074cf9b", func := "systole/systolelaw05.LinkWays", spec := "linkWays", unfollowed := true, recurses := true, plainKeys := false, apart := false, narrowed := true }
def LinkWaysUptoSaid : Prop := linkWaysUptoRow.holds Try.pinned (OpenSpec.upto linkWaysSpec)

end Rows
end Go.Proofs.Ytpoofjioeljigaa
