/- Plain laws: FnAudits. -/
import Derived.Test.YtpjcfmpfiadkgaaFPAun

namespace Go.Gx.F

open Go.Gx

set_option linter.all false

set_option maxRecDepth 10000

section

variable {n m : Nat} {x p : List (List Int)} {t : impl_Transport}

/-! lists of cells -/

def pRow (q : Nat → Bool) (i : Nat) : Nat → List (List Int)
  | 0 => []
  | j + 1 => pRow q i j ++ cond (q j) [[(i : Int), (j : Int)]] []

def pAll (m : Nat) (q : Nat → Nat → Bool) : Nat → List (List Int)
  | 0 => []
  | i + 1 => pAll m q i ++ pRow (q i) i m

def is1 (p : List (List Int)) : Nat → Nat → Bool := fun i j => mt p i j == 1

/-! what is published -/

def pub (x p : List (List Int)) : Nat → Nat → Int := fun i j => if mt p i j = 1 then -1 else mt x i j

end

end Go.Gx.F
