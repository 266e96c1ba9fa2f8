/- Part P38S.Awake of a proof: lemmas. -/
import Derived.Test.YtcpkdjlfgfikcaaDoorLAW38SF
namespace Go.Dc
set_option maxRecDepth 100000 in
theorem awake_plain : law38_awake_m = some true := law38_awake_f_le (k_ := 100) _ (by decide +kernel)
end Go.Dc
