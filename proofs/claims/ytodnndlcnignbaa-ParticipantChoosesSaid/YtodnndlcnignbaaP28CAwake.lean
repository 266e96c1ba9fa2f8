/- Part P28C.Awake of a proof: lemmas. -/
import Derived.Test.YtodnndlcnignbaaLAW28CF
namespace Go.Dc
theorem awake_plain : law28_awake_m = some true := law28_awake_f_le (k_ := 100) _ (by decide +kernel)
end Go.Dc
