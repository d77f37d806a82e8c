/- Plain laws: sets of levels as bits of integers. -/
import Derived.Test.YtnmimeojimfogaaGreatDoorTPTb2

namespace Go.Gx.F

open Go.Gx

set_option linter.all false

end Go.Gx.F
