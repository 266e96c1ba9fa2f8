/- Part P27.Awake of a proof that a law of the program returns true: general lemmas, no condition. -/
import Derived.Test.YtlhfddobimfcbaaLAW27F
namespace Go.Dc
theorem awake_plain : law27_awake_m = some true := law27_awake_f_le (k_ := 100) _ (by decide +kernel)
end Go.Dc
