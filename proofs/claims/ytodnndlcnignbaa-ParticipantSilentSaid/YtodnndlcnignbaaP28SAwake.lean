/- Part P28S.Awake of a proof that a law of the program returns true: general lemmas, no condition. -/
import Derived.Test.YtodnndlcnignbaaLAW28SF
namespace Go.Dc
theorem awake_plain : law28_awake_m = some true := law28_awake_f_le (k_ := 100) _ (by decide +kernel)
end Go.Dc
