/- Losses and variances: what the functions of both sides return. -/
import Derived.Test.YtdbgmkfniichdaaFPFrac
namespace Go.Gx.F
open Go.Gx
set_option linter.all false

theorem and4 {a b c d : Prop} [Decidable a] [Decidable b] [Decidable c] [Decidable d] {p : Prop} [Decidable p] (h : p ↔ (a ∧ b ∧ c ∧ d)) :
    ((cond (decide a) ((some (decide b)).bind fun t => cond t (cond (decide c) (some (decide d)) (some false)) (some false)) (some false) : Option Bool).bind fun t => some t) = some (decide p) := by
  by_cases ha : a <;> by_cases hb : b <;> by_cases hc : c <;> by_cases hd : d <;> simp [h, ha, hb, hc, hd]

/-! within a budget -/

/-! variances -/

theorem and3 {a b c : Prop} [Decidable a] [Decidable b] [Decidable c] {p : Prop} [Decidable p] (h : p ↔ (a ∧ b ∧ c)) :
    ((cond (decide a) (cond (decide b) (some (decide c)) (some false)) (some false) : Option Bool).bind fun t => some t) = some (decide p) := by
  by_cases ha : a <;> by_cases hb : b <;> by_cases hc : c <;> simp [h, ha, hb, hc]

/-! a fraction divided by two times another one -/

end Go.Gx.F
