/- Plain laws: lists that are marked, and held. -/
import Derived.Test.YtdbgmkfniichdaaEPArith
namespace Go.Gx.F
open Go.Gx
set_option linter.all false

theorem bne_self {a : Int} : (a != a) = false := by simp

theorem ok2 (n : Nat) : decide (1 + 2 * (n : Int) < 0) = false := by simp; omega

theorem ok1 (n : Nat) : decide (1 + (n : Int) < 0) = false := by simp; omega
end Go.Gx.F
