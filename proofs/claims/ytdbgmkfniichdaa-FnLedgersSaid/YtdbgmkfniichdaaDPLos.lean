/- Plain laws: uses that are counted can be composed. -/
import Derived.Test.YtdbgmkfniichdaaDPBack
namespace Go.Gx.F
open Go.Gx
set_option linter.all false

theorem compL_snoc {x : impl_Loss} : ∀ (L : List impl_Loss) (s z : impl_Loss), compL L s = (z, true) → (comp z x).2 = true → compL (L ++ [x]) s = ((comp z x).1, true)
  | [], s, z, h, hc => by
    simp only [compL, Prod.mk.injEq, and_true] at h
    subst h
    simp [compL, hc]
  | y :: L, s, z, h, hc => by
    simp only [compL, List.cons_append] at h ⊢
    by_cases hy : (comp s y).2 = true
    · rw [if_pos hy] at h ⊢
      exact compL_snoc L _ z h hc
    · rw [if_neg hy] at h
      cases h

/-- whether a loss is within another one -/
theorem impl_IsWithin_eq (b x : impl_Loss) : impl_IsWithin b x = some (if GoodL b ∧ GoodL x then (within b x, true) else (false, false)) := by
  unfold impl_IsWithin
  simp only [impl_IsLoss_eq, Option.bind_some]
  by_cases hb : GoodL b
  · by_cases hx : GoodL x
    · simp [hb, hx, impl_isWithin_eq hb hx]
    · simp [hb, hx]
  · simp [hb]
end Go.Gx.F
