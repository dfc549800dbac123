/- More of what the walk's simplifier asks of block numbers. Conditions: none. -/
import Derived.Test.YtndfdgdahinkpaaKit
namespace Go.Proofs.Ytndfdgdahinkpaa
theorem yy {a b : Nat} (h : a < b) : a ≤ b ∧ a < b + 1 ∧ a < b + 1 + 1 ∧ a < b + 1 + 1 + 1 ∧ a < b + 1 + 1 + 1 + 1 ∧ a < b + 1 + 1 + 1 + 1 + 1 ∧ a < b + 1 + 1 + 1 + 1 + 1 + 1 ∧ a < b + 1 + 1 + 1 + 1 + 1 + 1 + 1 :=
  ⟨by omega, by omega, by omega, by omega, by omega, by omega, by omega, by omega⟩
/-- A call goes through if it does in every world of which a few facts hold. -/
theorem forget {P : Program} {f : FuncId} {args : Array Value} {W : World} {Q : Ending → World → Prop} (S : World → Prop) (hS : S W) (h : ∀ W, S W → Calls P f args W Q) : Calls P f args W Q := h W hS
/-- A piece of code goes through if it does in every world of which a few facts hold. -/
theorem forgetW {P : Program} {c : Code} {Q : Exit → Act → World → Prop} {a : Act} {W : World} (S : World → Prop) (hS : S W) (h : ∀ W, S W → c.wp P Q a W) : c.wp P Q a W := h W hS
end Go.Proofs.Ytndfdgdahinkpaa
