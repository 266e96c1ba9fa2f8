/- Part Dc.Bridge2 of a proof: lemmas. -/
import Derived.Test.YtejhbimlekcllaaDoorDcBridge
/-! Structs among the arguments of a law. -/
namespace Go.Dc
open Go.ChangeShapes Go.WideShapes Go.RowKit
variable {P : Program}

end Go.Dc
