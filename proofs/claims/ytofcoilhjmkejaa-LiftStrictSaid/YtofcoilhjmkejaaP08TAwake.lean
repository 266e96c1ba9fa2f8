/- Part P08T.Awake of a proof: lemmas. -/
import Derived.Test.YtofcoilhjmkejaaLAW08TF
namespace Go.Dc
set_option maxRecDepth 100000 in
theorem awake_plain : law08_awake_m = some true := law08_awake_f_le (k_ := 100) _ (by decide +kernel)
end Go.Dc
