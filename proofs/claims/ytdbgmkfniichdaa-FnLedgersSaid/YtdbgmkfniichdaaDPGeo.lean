/- Geometric noise: chances and ratios on both sides. -/
import Derived.Test.YtdbgmkfniichdaaDPArith
namespace Go.Gx.F
open Go.Gx
set_option linter.all false

def Ratio (a : impl_Frac) : Prop := Good a ∧ 0 < a.Num ∧ a.Num < a.Den

instance (a : impl_Frac) : Decidable (Ratio a) := by unfold Ratio; infer_instance

/-- the tests of a number on both sides -/

theorem bnd_l (p : Prop) [Decidable p] (k lo hi : Int) {α : Type} (x y : Option α) :
    ((cond (!decide p) (some true) (cond (decide (k < lo)) (some true) (some (decide (hi < k)))) : Option Bool).bind fun t => cond t x y) = if p ∧ lo ≤ k ∧ k ≤ hi then y else x := by
  by_cases hp : p
  · by_cases h1 : k < lo
    · simp [hp, h1, show ¬ lo ≤ k by omega]
    · by_cases h2 : hi < k
      · simp [hp, h1, h2, show ¬ k ≤ hi by omega]
      · simp [hp, h1, h2, show k ≤ hi by omega, show lo ≤ k by omega]
  · simp [hp]

theorem inv_good {a : impl_Frac} (h : Ratio a) : Good ⟨a.Den, a.Num⟩ := by
  obtain ⟨hg, h1, h2⟩ := h
  have hn := good_num hg
  have hd := hg.1
  have hd2 := hg.2.1
  refine ⟨by simp; omega, by simp; omega, by simp; omega, by simp; omega, ?_⟩
  have := hg.2.2.2.2
  simp only
  rw [Int.gcd_comm]
  exact this

theorem less_good {a : impl_Frac} (h : Ratio a) : Good ⟨a.Den - a.Num, a.Den⟩ := by
  obtain ⟨hg, h1, h2⟩ := h
  have hn := good_num hg
  have hd := hg.1
  have hd2 := hg.2.1
  refine ⟨by simp; omega, by simp; omega, by simp; omega, by simp; omega, ?_⟩
  have := hg.2.2.2.2
  simp only
  have e : Int.gcd (a.Den - a.Num) a.Den = Int.gcd a.Num a.Den := by
    rw [Int.gcd_comm (a.Den - a.Num), Int.gcd_comm a.Num]
    rw [show a.Den - a.Num = -a.Num + 1 * a.Den by omega, Int.gcd_add_mul_right_right, Int.gcd_neg]
  rw [e]
  exact this

end Go.Gx.F
