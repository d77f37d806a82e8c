/- The arithmetic of valid fractions on both sides. -/
import Derived.Test.YtdbgmkfniichdaaFPLoss
namespace Go.Gx.F
open Go.Gx
set_option linter.all false

theorem pp (a b : Int) (ha : a.natAbs ≤ 1000000000) (hb : b.natAbs ≤ 1000000000) : (a * b).natAbs ≤ 1000000000000000000 := prod_bound ha hb

theorem bools2 (p q : Prop) [Decidable p] [Decidable q] {α : Type} (x y : Option α) :
    ((cond (!decide p) (some true) (some !decide q) : Option Bool).bind fun t => cond t x y) = if p ∧ q then y else x := by
  by_cases hp : p <;> by_cases hq : q <;> simp [hp, hq]

/-! what has failed is handed on -/

/-! powers -/

end Go.Gx.F
