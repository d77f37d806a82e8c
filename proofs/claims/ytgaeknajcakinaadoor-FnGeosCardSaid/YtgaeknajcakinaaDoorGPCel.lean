/- Plain laws: the cell of a record. -/
import Derived.Test.YtgaeknajcakinaaDoorGPTb2
namespace Go.Gx.F
open Go.Gx
set_option linter.all false

def pickV (l V : List Int) : List Int := V.map fun v => (l[v.toNat]?).getD 0

end Go.Gx.F
