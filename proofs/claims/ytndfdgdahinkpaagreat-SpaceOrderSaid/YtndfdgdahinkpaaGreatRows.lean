/-
  No cell of these rows narrows 'for every input' (looked for: loops, veiled, ifaces, maps, wideKeys, modest, calm, conditions, laid).
  DERIVED. THE GIVEN ROWS OF THIS SEAT. 4 by the template 'for every input the law returns true; each argument reads behind the call as it read before'; 0 by the template 'total and deterministic' (their statements: YtndfdgdahinkpaaGreatTotals.lean).
  GIVEN WITH THE SEED: the statements are not yours to turn. If you find one false, say at which input.
  Laid BY PROGRAM, IN A SANDBOX (cutbox-rows.mjs): the forced cells as the released guide's own fill.sh prints them over the translation 530b0eed8e43fb36… (all of the seat's roots in one cut). By AI agents, Wed Nov 11 2026. No macro, syntax, notation, axiom, sorry.
-/
import Derived.Test.YtndfdgdahinkpaaGreatChecked
import GoSem.Claim
import GoSem.ClaimJoined
import GoSem.ClaimMapViews
import Derived.JoinedTies
import Derived.KernelRfl
namespace Go.Proofs.YtndfdgdahinkpaaGreat
/- THE CELL 'sum', in the pinned program and in every row, IS THE sha256 OF THE DUMP (.gsa) THAT YtndfdgdahinkpaaGreatProg.lean LOADS. Nothing in Lean hashes anything: it is a label: what it is worth is what the hold of that sum in a sandbox is worth. -/
noncomputable def Tryz.pinned : Pinned := { name := "ytndfdgdahinkpaagreat", sum := "530b0eed8e43fb36dd8db1beef09e7e2e95e097da8e404f2fe27a06d0b0d443f", checked := Tryz.checked }
namespace Rows
def none {H : Type} : Left H := { results := [], args := [] }

/-- 'systolelaw04.SpaceTables': WHATEVER THE INPUT: true; the input reads as it did. -/
def spaceTablesSpec : ChangeSpec := { name := "spaceTables", fn := fun _ => fun
  | [d1, d2, d3] => { results := [.lit (.bool true)], args := [d1, d2, d3] }
  | _ => none }
def spaceTablesRow : OpenClaim := { program := "ytndfdgdahinkpaagreat", sum := "530b0eed8e43fb36dd8db1beef09e7e2e95e097da8e404f2fe27a06d0b0d443f", func := "systole/systolelaw04.SpaceTables", spec := "spaceTables", unfollowed := true, recurses := true, plainKeys := false, apart := false }
def SpaceTablesSaid : Prop := spaceTablesRow.holds Tryz.pinned (OpenSpec.ofChange spaceTablesSpec)

/-- ITS FALSE NEIGHBOUR: 'it returns false'. Refute it at one input. -/
def spaceTablesWrong : ChangeSpec := { name := "spaceTables", fn := fun _ => fun
  | [d1, d2, d3] => { results := [.lit (.bool false)], args := [d1, d2, d3] }
  | _ => none }
def SpaceTablesWrongFalsely : Prop := spaceTablesRow.holds Tryz.pinned (OpenSpec.ofChange spaceTablesWrong)

/-- 'systolelaw04.SpaceOrder': WHATEVER THE INPUT: true; the input reads as it did. -/
def spaceOrderSpec : ChangeSpec := { name := "spaceOrder", fn := fun _ => fun
  | [d1, d2, d3] => { results := [.lit (.bool true)], args := [d1, d2, d3] }
  | _ => none }
def spaceOrderRow : OpenClaim := { program := "ytndfdgdahinkpaagreat", sum := "530b0eed8e43fb36dd8db1beef09e7e2e95e097da8e404f2fe27a06d0b0d443f", func := "systole/systolelaw04.SpaceOrder", spec := "spaceOrder", unfollowed := true, recurses := true, plainKeys := false, apart := false }
def SpaceOrderSaid : Prop := spaceOrderRow.holds Tryz.pinned (OpenSpec.ofChange spaceOrderSpec)

/-- ITS FALSE NEIGHBOUR: 'it returns false'. Refute it at one input. -/
def spaceOrderWrong : ChangeSpec := { name := "spaceOrder", fn := fun _ => fun
  | [d1, d2, d3] => { results := [.lit (.bool false)], args := [d1, d2, d3] }
  | _ => none }
def SpaceOrderWrongFalsely : Prop := spaceOrderRow.holds Tryz.pinned (OpenSpec.ofChange spaceOrderWrong)

/-- 'systolelaw04.SpaceUses': WHATEVER THE INPUT: true; the input reads as it did. -/
def spaceUsesSpec : ChangeSpec := { name := "spaceUses", fn := fun _ => fun
  | [d1, d2, d3] => { results := [.lit (.bool true)], args := [d1, d2, d3] }
  | _ => none }
def spaceUsesRow : OpenClaim := { program := "ytndfdgdahinkpaagreat", sum := "530b0eed8e43fb36dd8db1beef09e7e2e95e097da8e404f2fe27a06d0b0d443f", func := "systole/systolelaw04.SpaceUses", spec := "spaceUses", unfollowed := true, recurses := true, plainKeys := false, apart := false }
def SpaceUsesSaid : Prop := spaceUsesRow.holds Tryz.pinned (OpenSpec.ofChange spaceUsesSpec)

/-- ITS FALSE NEIGHBOUR: 'it returns false'. Refute it at one input. -/
def spaceUsesWrong : ChangeSpec := { name := "spaceUses", fn := fun _ => fun
  | [d1, d2, d3] => { results := [.lit (.bool false)], args := [d1, d2, d3] }
  | _ => none }
def SpaceUsesWrongFalsely : Prop := spaceUsesRow.holds Tryz.pinned (OpenSpec.ofChange spaceUsesWrong)

/-- 'systolelaw04.SpaceFills': WHATEVER THE INPUT: true; the input reads as it did. -/
def spaceFillsSpec : ChangeSpec := { name := "spaceFills", fn := fun _ => fun
  | [d1, d2, d3] => { results := [.lit (.bool true)], args := [d1, d2, d3] }
  | _ => none }
def spaceFillsRow : OpenClaim := { program := "ytndfdgdahinkpaagreat", sum := "530b0eed8e43fb36dd8db1beef09e7e2e95e097da8e404f2fe27a06d0b0d443f", func := "systole/systolelaw04.SpaceFills", spec := "spaceFills", unfollowed := true, recurses := true, plainKeys := false, apart := false }
def SpaceFillsSaid : Prop := spaceFillsRow.holds Tryz.pinned (OpenSpec.ofChange spaceFillsSpec)

/-- ITS FALSE NEIGHBOUR: 'it returns false'. Refute it at one input. -/
def spaceFillsWrong : ChangeSpec := { name := "spaceFills", fn := fun _ => fun
  | [d1, d2, d3] => { results := [.lit (.bool false)], args := [d1, d2, d3] }
  | _ => none }
def SpaceFillsWrongFalsely : Prop := spaceFillsRow.holds Tryz.pinned (OpenSpec.ofChange spaceFillsWrong)

/- THE SECOND FORM. 'bulk': how many values and letters a reading holds, each counted each time it is reached (what is shared counts as often as it is met; a slice's spare places count too). A statement '..UptoSaid' is the law's where the arguments, and the package variables that the reading takes, are together of bulk at most 1048576: NARROWER than '..Said'. Prove '..Said' where nothing that the law and all that it calls make is longer than what came in: it says more and counts as full. Else prove '..UptoSaid'. A law counts once. -/
mutual
def uptoBulk {H : Type} : DataW H → Nat
  | .lit (.string bytes) => bytes.length + 1
  | .lit _ => 1
  | .nil => 1
  | .ptr d => uptoBulk d + 1
  | .slice elems spare => uptoBulkAll elems + uptoBulkAll spare + 1
  | .agg parts => uptoBulkAll parts + 1
  | .iface _ d => uptoBulk d + 1
  | .map entries => uptoBulkEntries entries + 1
  | .held _ => 1
def uptoBulkAll {H : Type} : List (DataW H) → Nat
  | [] => 0
  | d :: r => uptoBulk d + uptoBulkAll r
def uptoBulkEntries {H : Type} : List (Lit × DataW H) → Nat
  | [] => 0
  | x :: r => uptoBulkEntry x + uptoBulkEntries r
def uptoBulkEntry {H : Type} : Lit × DataW H → Nat
  | (.string bytes, d) => bytes.length + uptoBulk d + 1
  | (_, d) => uptoBulk d + 1
 end
def uptoSmall : (H : Type) → List (DataW H) → Bool := fun _ ds => decide (uptoBulkAll ds ≤ 1048576)
def OpenSpec.upto (s : _root_.Go.ChangeSpec) : _root_.Go.OpenSpec := { _root_.Go.OpenSpec.ofChange s with cond := some uptoSmall }

/-- 'systolelaw04.SpaceTables', WHERE WHAT IT READS IS OF BULK AT MOST 1048576: true; the input reads as it did. -/
def spaceTablesUptoRow : OpenClaim := { program := "ytndfdgdahinkpaagreat", sum := "530b0eed8e43fb36dd8db1beef09e7e2e95e097da8e404f2fe27a06d0b0d443f", func := "systole/systolelaw04.SpaceTables", spec := "spaceTables", unfollowed := true, recurses := true, plainKeys := false, apart := false, narrowed := true }
def SpaceTablesUptoSaid : Prop := spaceTablesUptoRow.holds Tryz.pinned (OpenSpec.upto spaceTablesSpec)

/-- 'systolelaw04.SpaceOrder', WHERE WHAT IT READS IS OF BULK AT MOST 1048576: true; the input reads as it did. -/
def spaceOrderUptoRow : OpenClaim := { program := "ytndfdgdahinkpaagreat", sum := "530b0eed8e43fb36dd8db1beef09e7e2e95e097da8e404f2fe27a06d0b0d443f", func := "systole/systolelaw04.SpaceOrder", spec := "spaceOrder", unfollowed := true, recurses := true, plainKeys := false, apart := false, narrowed := true }
def SpaceOrderUptoSaid : Prop := spaceOrderUptoRow.holds Tryz.pinned (OpenSpec.upto spaceOrderSpec)

/-- 'systolelaw04.SpaceUses', WHERE WHAT IT READS IS OF BULK AT MOST 1048576: true; the input reads as it did. -/
def spaceUsesUptoRow : OpenClaim := { program := "ytndfdgdahinkpaagreat", sum := "530b0eed8e43fb36dd8db1beef09e7e2e95e097da8e404f2fe27a06d0b0d443f", func := "systole/systolelaw04.SpaceUses", spec := "spaceUses", unfollowed := true, recurses := true, plainKeys := false, apart := false, narrowed := true }
def SpaceUsesUptoSaid : Prop := spaceUsesUptoRow.holds Tryz.pinned (OpenSpec.upto spaceUsesSpec)

/-- 'systolelaw04.SpaceFills', WHERE WHAT IT READS IS OF BULK AT MOST 1048576: true; the input reads as it did. -/
def spaceFillsUptoRow : OpenClaim := { program := "ytndfdgdahinkpaagreat", sum := "530b0eed8e43fb36dd8db1beef09e7e2e95e097da8e404f2fe27a06d0b0d443f", func := "systole/systolelaw04.SpaceFills", spec := "spaceFills", unfollowed := true, recurses := true, plainKeys := false, apart := false, narrowed := true }
def SpaceFillsUptoSaid : Prop := spaceFillsUptoRow.holds Tryz.pinned (OpenSpec.upto spaceFillsSpec)

end Rows
end Go.Proofs.YtndfdgdahinkpaaGreat
