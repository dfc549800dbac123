/- The walks of the reference's CellOf. -/
import Derived.Test.YtndfdgdahinkpaaSpaceH
namespace Go.Proofs.Ytndfdgdahinkpaa
open Go.RowKit
end Go.Proofs.Ytndfdgdahinkpaa
