/- known(): a closed run. -/
import Derived.Test.YtannfoaobeoafaaDoorOrdBase
set_option linter.unusedVariables false
set_option linter.unusedSimpArgs false
namespace Go.Rae.Order
set_option maxRecDepth 1000000

theorem known_runs : runIs (acall pu bodies ext 100000 60 1 [] H.empty) (.b true) = true := by decide +kernel
theorem call_known (h : H) (k : V → H → Prop) : callK pu CL 1 [] h k = k (.b true) h := callK_pure (runs_closed known_runs) rfl rfl h k

end Go.Rae.Order
