/- Part P23C.Awake of a proof: lemmas. -/
import Derived.Test.YtkcaadcoagimdaaDoorLAW23CF
namespace Go.Dc
theorem awake_plain : law23_awake_m = some true := law23_awake_f_le (k_ := 100) _ (by decide +kernel)
end Go.Dc
