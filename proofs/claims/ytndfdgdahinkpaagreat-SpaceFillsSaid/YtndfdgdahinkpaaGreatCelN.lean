/- The moves of all arguments: the reference's Move and Moves: their walks. Whether two lists of cells are the same: its walk; the walk of the law SpaceCells. Conditions: none. -/
import Derived.Test.YtndfdgdahinkpaaGreatCelK
namespace Go.Proofs.YtndfdgdahinkpaaGreat
open Go.RowKit Go.Lib
set_option linter.unusedVariables false
end Go.Proofs.YtndfdgdahinkpaaGreat
namespace Go.Proofs.YtndfdgdahinkpaaGreat
open Go.RowKit Go.Lib
set_option linter.unusedVariables false
theorem sz_rw (W : World) : (sizeOf (Tryz.prog.elem 45)).run Tryz.prog W = .ok 1 W := by kernel_rfl
theorem un_rw : Tryz.prog.underlying 45 = some (.slice (Tryz.prog.elem 45)) := by kernel_rfl
end Go.Proofs.YtndfdgdahinkpaaGreat
