/-
  No cell of these rows narrows 'for every input' (looked for: loops, veiled, ifaces, maps, wideKeys, modest, calm, conditions, laid).
  DERIVED. THE GIVEN ROWS OF THIS SEAT. 7 by the template 'for every input the law returns true; each argument reads behind the call as it read before'; 0 by the template 'total and deterministic' (their statements: YtbjbdochffocoaaTotals.lean).
  GIVEN WITH THE SEED: the statements are not yours to turn. If you find one false, say at which input.
  Laid BY PROGRAM, IN A SANDBOX (cutbox-rows.mjs): the forced cells as the released guide's own fill.sh prints them over the translation 5f50fde29b765551… (all of the seat's roots in one cut). By AI agents, Wed Nov 11 2026. No macro, syntax, notation, axiom, sorry.
-/
import Derived.Test.YtbjbdochffocoaaChecked
import GoSem.Claim
import GoSem.ClaimJoined
import GoSem.ClaimMapViews
import Derived.JoinedTies
import Derived.KernelRfl
namespace Go.Proofs.Ytbjbdochffocoaa
/- THE CELL 'sum', in the pinned program and in every row, IS THE sha256 OF THE DUMP (.gsa) THAT YtbjbdochffocoaaProg.lean LOADS. Nothing in Lean hashes anything: it is a label: what it is worth is what the hold of that sum in a sandbox is worth. -/
noncomputable def Try.pinned : Pinned := { name := "ytbjbdochffocoaa", sum := "5f50fde29b765551d543857892ff3f8bf968ccdd055ef02352b6d525c833dba0", checked := Try.checked }
namespace Rows
def none {H : Type} : Left H := { results := [], args := [] }

/-- 'systolelaw08.MachRuns': WHATEVER THE INPUT: true; the input reads as it did. -/
def machRunsSpec : ChangeSpec := { name := "machRuns", fn := fun _ => fun
  | [d1, d2] => { results := [.lit (.bool true)], args := [d1, d2] }
  | _ => none }
def machRunsRow : OpenClaim := { program := "ytbjbdochffocoaa", sum := "5f50fde29b765551d543857892ff3f8bf968ccdd055ef02352b6d525c833dba0", func := "systole/systolelaw08.MachRuns", spec := "machRuns", unfollowed := true, recurses := true, plainKeys := false, apart := false }
def MachRunsSaid : Prop := machRunsRow.holds Try.pinned (OpenSpec.ofChange machRunsSpec)

/-- ITS FALSE NEIGHBOUR: 'it returns false'. Refute it at one input. -/
def machRunsWrong : ChangeSpec := { name := "machRuns", fn := fun _ => fun
  | [d1, d2] => { results := [.lit (.bool false)], args := [d1, d2] }
  | _ => none }
def MachRunsWrongFalsely : Prop := machRunsRow.holds Try.pinned (OpenSpec.ofChange machRunsWrong)

/-- 'systolelaw08.MachGrows': WHATEVER THE INPUT: true; the input reads as it did. -/
def machGrowsSpec : ChangeSpec := { name := "machGrows", fn := fun _ => fun
  | [d1, d2, d3] => { results := [.lit (.bool true)], args := [d1, d2, d3] }
  | _ => none }
def machGrowsRow : OpenClaim := { program := "ytbjbdochffocoaa", sum := "5f50fde29b765551d543857892ff3f8bf968ccdd055ef02352b6d525c833dba0", func := "systole/systolelaw08.MachGrows", spec := "machGrows", unfollowed := true, recurses := true, plainKeys := false, apart := false }
def MachGrowsSaid : Prop := machGrowsRow.holds Try.pinned (OpenSpec.ofChange machGrowsSpec)

/-- ITS FALSE NEIGHBOUR: 'it returns false'. Refute it at one input. -/
def machGrowsWrong : ChangeSpec := { name := "machGrows", fn := fun _ => fun
  | [d1, d2, d3] => { results := [.lit (.bool false)], args := [d1, d2, d3] }
  | _ => none }
def MachGrowsWrongFalsely : Prop := machGrowsRow.holds Try.pinned (OpenSpec.ofChange machGrowsWrong)

/-- 'systolelaw08.MachWaits': WHATEVER THE INPUT: true; the input reads as it did. -/
def machWaitsSpec : ChangeSpec := { name := "machWaits", fn := fun _ => fun
  | [d] => { results := [.lit (.bool true)], args := [d] }
  | _ => none }
def machWaitsRow : OpenClaim := { program := "ytbjbdochffocoaa", sum := "5f50fde29b765551d543857892ff3f8bf968ccdd055ef02352b6d525c833dba0", func := "systole/systolelaw08.MachWaits", spec := "machWaits", unfollowed := true, recurses := true, plainKeys := false, apart := false }
def MachWaitsSaid : Prop := machWaitsRow.holds Try.pinned (OpenSpec.ofChange machWaitsSpec)

/-- ITS FALSE NEIGHBOUR: 'it returns false'. Refute it at one input. -/
def machWaitsWrong : ChangeSpec := { name := "machWaits", fn := fun _ => fun
  | [d] => { results := [.lit (.bool false)], args := [d] }
  | _ => none }
def MachWaitsWrongFalsely : Prop := machWaitsRow.holds Try.pinned (OpenSpec.ofChange machWaitsWrong)

/-- 'systolelaw08.MachOrders': WHATEVER THE INPUT: true; the input reads as it did. -/
def machOrdersSpec : ChangeSpec := { name := "machOrders", fn := fun _ => fun
  | [d1, d2, d3] => { results := [.lit (.bool true)], args := [d1, d2, d3] }
  | _ => none }
def machOrdersRow : OpenClaim := { program := "ytbjbdochffocoaa", sum := "5f50fde29b765551d543857892ff3f8bf968ccdd055ef02352b6d525c833dba0", func := "systole/systolelaw08.MachOrders", spec := "machOrders", unfollowed := true, recurses := true, plainKeys := false, apart := false }
def MachOrdersSaid : Prop := machOrdersRow.holds Try.pinned (OpenSpec.ofChange machOrdersSpec)

/-- ITS FALSE NEIGHBOUR: 'it returns false'. Refute it at one input. -/
def machOrdersWrong : ChangeSpec := { name := "machOrders", fn := fun _ => fun
  | [d1, d2, d3] => { results := [.lit (.bool false)], args := [d1, d2, d3] }
  | _ => none }
def MachOrdersWrongFalsely : Prop := machOrdersRow.holds Try.pinned (OpenSpec.ofChange machOrdersWrong)

/-- 'systolelaw08.MachSlacks': WHATEVER THE INPUT: true; the input reads as it did. -/
def machSlacksSpec : ChangeSpec := { name := "machSlacks", fn := fun _ => fun
  | [d] => { results := [.lit (.bool true)], args := [d] }
  | _ => none }
def machSlacksRow : OpenClaim := { program := "ytbjbdochffocoaa", sum := "5f50fde29b765551d543857892ff3f8bf968ccdd055ef02352b6d525c833dba0", func := "systole/systolelaw08.MachSlacks", spec := "machSlacks", unfollowed := true, recurses := true, plainKeys := false, apart := false }
def MachSlacksSaid : Prop := machSlacksRow.holds Try.pinned (OpenSpec.ofChange machSlacksSpec)

/-- ITS FALSE NEIGHBOUR: 'it returns false'. Refute it at one input. -/
def machSlacksWrong : ChangeSpec := { name := "machSlacks", fn := fun _ => fun
  | [d] => { results := [.lit (.bool false)], args := [d] }
  | _ => none }
def MachSlacksWrongFalsely : Prop := machSlacksRow.holds Try.pinned (OpenSpec.ofChange machSlacksWrong)

/-- 'systolelaw08.MachEarly': WHATEVER THE INPUT: true; the input reads as it did. -/
def machEarlySpec : ChangeSpec := { name := "machEarly", fn := fun _ => fun
  | [d] => { results := [.lit (.bool true)], args := [d] }
  | _ => none }
def machEarlyRow : OpenClaim := { program := "ytbjbdochffocoaa", sum := "5f50fde29b765551d543857892ff3f8bf968ccdd055ef02352b6d525c833dba0", func := "systole/systolelaw08.MachEarly", spec := "machEarly", unfollowed := true, recurses := true, plainKeys := false, apart := false }
def MachEarlySaid : Prop := machEarlyRow.holds Try.pinned (OpenSpec.ofChange machEarlySpec)

/-- ITS FALSE NEIGHBOUR: 'it returns false'. Refute it at one input. -/
def machEarlyWrong : ChangeSpec := { name := "machEarly", fn := fun _ => fun
  | [d] => { results := [.lit (.bool false)], args := [d] }
  | _ => none }
def MachEarlyWrongFalsely : Prop := machEarlyRow.holds Try.pinned (OpenSpec.ofChange machEarlyWrong)

/-- 'systolelaw08.MachShifts': WHATEVER THE INPUT: true; the input reads as it did. -/
def machShiftsSpec : ChangeSpec := { name := "machShifts", fn := fun _ => fun
  | [d1, d2] => { results := [.lit (.bool true)], args := [d1, d2] }
  | _ => none }
def machShiftsRow : OpenClaim := { program := "ytbjbdochffocoaa", sum := "5f50fde29b765551d543857892ff3f8bf968ccdd055ef02352b6d525c833dba0", func := "systole/systolelaw08.MachShifts", spec := "machShifts", unfollowed := true, recurses := true, plainKeys := false, apart := false }
def MachShiftsSaid : Prop := machShiftsRow.holds Try.pinned (OpenSpec.ofChange machShiftsSpec)

/-- ITS FALSE NEIGHBOUR: 'it returns false'. Refute it at one input. -/
def machShiftsWrong : ChangeSpec := { name := "machShifts", fn := fun _ => fun
  | [d1, d2] => { results := [.lit (.bool false)], args := [d1, d2] }
  | _ => none }
def MachShiftsWrongFalsely : Prop := machShiftsRow.holds Try.pinned (OpenSpec.ofChange machShiftsWrong)

/- THE SECOND FORM. 'bulk': how many values and letters a reading holds, each counted each time it is reached (what is shared counts as often as it is met; a slice's spare places count too). A statement '..UptoSaid' is the law's where the arguments, and the package variables that the reading takes, are together of bulk at most 1048576: NARROWER than '..Said'. Prove '..Said' where nothing that the law and all that it calls make is longer than what came in: it says more and counts as full. Else prove '..UptoSaid'. A law counts once. -/
mutual
def uptoBulk {H : Type} : DataW H → Nat
  | .lit (.string bytes) => bytes.length + 1
  | .lit _ => 1
  | .nil => 1
  | .ptr d => uptoBulk d + 1
  | .slice elems spare => uptoBulkAll elems + uptoBulkAll spare + 1
  | .agg parts => uptoBulkAll parts + 1
  | .iface _ d => uptoBulk d + 1
  | .map entries => uptoBulkEntries entries + 1
  | .held _ => 1
def uptoBulkAll {H : Type} : List (DataW H) → Nat
  | [] => 0
  | d :: r => uptoBulk d + uptoBulkAll r
def uptoBulkEntries {H : Type} : List (Lit × DataW H) → Nat
  | [] => 0
  | x :: r => uptoBulkEntry x + uptoBulkEntries r
def uptoBulkEntry {H : Type} : Lit × DataW H → Nat
  | (.string bytes, d) => bytes.length + uptoBulk d + 1
  | (_, d) => uptoBulk d + 1
 end
def uptoSmall : (H : Type) → List (DataW H) → Bool := fun _ ds => decide (uptoBulkAll ds ≤ 1048576)
def OpenSpec.upto (s : _root_.Go.ChangeSpec) : _root_.Go.OpenSpec := { _root_.Go.OpenSpec.ofChange s with cond := some uptoSmall }

/-- 'systolelaw08.MachRuns', WHERE WHAT IT READS IS OF BULK AT MOST 1048576: true; the input reads as it did. -/
def machRunsUptoRow : OpenClaim := { program := "ytbjbdochffocoaa", sum := "5f50fde29b765551d543857892ff3f8bf968ccdd055ef02352b6d525c833dba0", func := "systole/systolelaw08.MachRuns", spec := "machRuns", unfollowed := true, recurses := true, plainKeys := false, apart := false, narrowed := true }
def MachRunsUptoSaid : Prop := machRunsUptoRow.holds Try.pinned (OpenSpec.upto machRunsSpec)

/-- 'systolelaw08.MachGrows', WHERE WHAT IT READS IS OF BULK AT MOST 1048576: true; the input reads as it did. -/
def machGrowsUptoRow : OpenClaim := { program := "ytbjbdochffocoaa", sum := "5f50fde29b765551d543857892ff3f8bf968ccdd055ef02352b6d525c833dba0", func := "systole/systolelaw08.MachGrows", spec := "machGrows", unfollowed := true, recurses := true, plainKeys := false, apart := false, narrowed := true }
def MachGrowsUptoSaid : Prop := machGrowsUptoRow.holds Try.pinned (OpenSpec.upto machGrowsSpec)

/-- 'systolelaw08.MachWaits', WHERE WHAT IT READS IS OF BULK AT MOST 1048576: true; the input reads as it did. -/
def machWaitsUptoRow : OpenClaim := { program := "ytbjbdochffocoaa", sum := "5f50fde29b765551d543857892ff3f8bf968ccdd055ef02352b6d525c833dba0", func := "systole/systolelaw08.MachWaits", spec := "machWaits", unfollowed := true, recurses := true, plainKeys := false, apart := false, narrowed := true }
def MachWaitsUptoSaid : Prop := machWaitsUptoRow.holds Try.pinned (OpenSpec.upto machWaitsSpec)

/-- 'systolelaw08.MachOrders', WHERE WHAT IT READS IS OF BULK AT MOST 1048576: true; the input reads as it did. -/
def machOrdersUptoRow : OpenClaim := { program := "ytbjbdochffocoaa", sum := "5f50fde29b765551d543857892ff3f8bf968ccdd055ef02352b6d525c833dba0", func := "systole/systolelaw08.MachOrders", spec := "machOrders", unfollowed := true, recurses := true, plainKeys := false, apart := false, narrowed := true }
def MachOrdersUptoSaid : Prop := machOrdersUptoRow.holds Try.pinned (OpenSpec.upto machOrdersSpec)

/-- 'systolelaw08.MachSlacks', WHERE WHAT IT READS IS OF BULK AT MOST 1048576: true; the input reads as it did. -/
def machSlacksUptoRow : OpenClaim := { program := "ytbjbdochffocoaa", sum := "5f50fde29b765551d543857892ff3f8bf968ccdd055ef02352b6d525c833dba0", func := "systole/systolelaw08.MachSlacks", spec := "machSlacks", unfollowed := true, recurses := true, plainKeys := false, apart := false, narrowed := true }
def MachSlacksUptoSaid : Prop := machSlacksUptoRow.holds Try.pinned (OpenSpec.upto machSlacksSpec)

/-- 'systolelaw08.MachEarly', WHERE WHAT IT READS IS OF BULK AT MOST 1048576: true; the input reads as it did. -/
def machEarlyUptoRow : OpenClaim := { program := "ytbjbdochffocoaa", sum := "5f50fde29b765551d543857892ff3f8bf968ccdd055ef02352b6d525c833dba0", func := "systole/systolelaw08.MachEarly", spec := "machEarly", unfollowed := true, recurses := true, plainKeys := false, apart := false, narrowed := true }
def MachEarlyUptoSaid : Prop := machEarlyUptoRow.holds Try.pinned (OpenSpec.upto machEarlySpec)

/-- 'systolelaw08.MachShifts', WHERE WHAT IT READS IS OF BULK AT MOST 1048576: true; the input reads as it did. -/
def machShiftsUptoRow : OpenClaim := { program := "ytbjbdochffocoaa", sum := "5f50fde29b765551d543857892ff3f8bf968ccdd055ef02352b6d525c833dba0", func := "systole/systolelaw08.MachShifts", spec := "machShifts", unfollowed := true, recurses := true, plainKeys := false, apart := false, narrowed := true }
def MachShiftsUptoSaid : Prop := machShiftsUptoRow.holds Try.pinned (OpenSpec.upto machShiftsSpec)

end Rows
end Go.Proofs.Ytbjbdochffocoaa
