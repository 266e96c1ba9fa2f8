/- Part P29.Awake of a proof: lemmas. -/
import Derived.Test.YtnbclhmodbmdhaaLAW29F
namespace Go.Dc
theorem awake_plain : law29_awake_m = some true := law29_awake_f_le (k_ := 100) _ (by decide +kernel)
end Go.Dc
