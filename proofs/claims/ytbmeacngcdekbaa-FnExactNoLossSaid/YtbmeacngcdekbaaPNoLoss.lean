/- The plain law of NoLoss: both functions return the same loss. -/
import Derived.Test.YtbmeacngcdekbaaDefs
namespace Go.Gx.F
open Go.Gx

theorem laws_FnExactNoLoss_true : laws_FnExactNoLoss = some true := rfl

end Go.Gx.F
