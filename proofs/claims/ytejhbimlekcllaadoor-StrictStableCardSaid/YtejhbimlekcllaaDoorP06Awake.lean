/- Part P06.Awake of a proof: lemmas. -/
import Derived.Test.YtejhbimlekcllaaDoorLAW06DF
set_option linter.unusedVariables false
set_option maxRecDepth 100000
/-! The examples of the chapter hold. -/
namespace Go.Dc
theorem awake_plain : law06_awake_m = some true := law06_awake_f_le (k_ := 60) _ (by decide +kernel)
end Go.Dc
