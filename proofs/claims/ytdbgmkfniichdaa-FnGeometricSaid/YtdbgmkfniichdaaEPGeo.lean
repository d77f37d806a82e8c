/- Geometric noise: chances and ratios on both sides. -/
import Derived.Test.YtdbgmkfniichdaaEPArith
namespace Go.Gx.F
open Go.Gx
set_option linter.all false

def Ratio (a : impl_Frac) : Prop := Good a ∧ 0 < a.Num ∧ a.Num < a.Den

instance (a : impl_Frac) : Decidable (Ratio a) := by unfold Ratio; infer_instance

theorem impl_isRatio_eq (a : impl_Frac) : impl_isRatio a = some (decide (Ratio a)) := by
  unfold impl_isRatio
  rw [impl_IsFrac_eq]
  exact and3 Iff.rfl

theorem spec_zRatio_eq (a : impl_Frac) : spec_zRatio a = some (decide (Ratio a)) := by
  unfold spec_zRatio
  rw [spec_fGood_eq]
  exact and3 Iff.rfl

/-- the tests of a number on both sides -/

theorem bnd_l (p : Prop) [Decidable p] (k lo hi : Int) {α : Type} (x y : Option α) :
    ((cond (!decide p) (some true) (cond (decide (k < lo)) (some true) (some (decide (hi < k)))) : Option Bool).bind fun t => cond t x y) = if p ∧ lo ≤ k ∧ k ≤ hi then y else x := by
  by_cases hp : p
  · by_cases h1 : k < lo
    · simp [hp, h1, show ¬ lo ≤ k by omega]
    · by_cases h2 : hi < k
      · simp [hp, h1, h2, show ¬ k ≤ hi by omega]
      · simp [hp, h1, h2, show k ≤ hi by omega, show lo ≤ k by omega]
  · simp [hp]

theorem inv_good {a : impl_Frac} (h : Ratio a) : Good ⟨a.Den, a.Num⟩ := by
  obtain ⟨hg, h1, h2⟩ := h
  have hn := good_num hg
  have hd := hg.1
  have hd2 := hg.2.1
  refine ⟨by simp; omega, by simp; omega, by simp; omega, by simp; omega, ?_⟩
  have := hg.2.2.2.2
  simp only
  rw [Int.gcd_comm]
  exact this

theorem less_good {a : impl_Frac} (h : Ratio a) : Good ⟨a.Den - a.Num, a.Den⟩ := by
  obtain ⟨hg, h1, h2⟩ := h
  have hn := good_num hg
  have hd := hg.1
  have hd2 := hg.2.1
  refine ⟨by simp; omega, by simp; omega, by simp; omega, by simp; omega, ?_⟩
  have := hg.2.2.2.2
  simp only
  have e : Int.gcd (a.Den - a.Num) a.Den = Int.gcd a.Num a.Den := by
    rw [Int.gcd_comm (a.Den - a.Num), Int.gcd_comm a.Num]
    rw [show a.Den - a.Num = -a.Num + 1 * a.Den by omega, Int.gcd_add_mul_right_right, Int.gcd_neg]
  rw [e]
  exact this

theorem one_div {a : impl_Frac} (h : Ratio a) : spec_fDiv ⟨1, 1⟩ a = some (⟨a.Den, a.Num⟩, true) := by
  rw [spec_fDiv_eq good_one h.1]
  unfold fdiv
  rw [if_neg (by have := h.2.1; omega)]
  simp only [Int.one_mul]
  rw [mk_self (f := ⟨a.Den, a.Num⟩) (inv_good h)]

theorem one_sub {a : impl_Frac} (h : Ratio a) : spec_fSub ⟨1, 1⟩ a = some (⟨a.Den - a.Num, a.Den⟩, true) := by
  rw [spec_fSub_eq good_one h.1]
  unfold fsub
  simp only [Int.one_mul, Int.mul_one]
  rw [mk_self (f := ⟨a.Den - a.Num, a.Den⟩) (less_good h)]

theorem impl_lessOne_eq {a : impl_Frac} (h : Ratio a) : impl_lessOne a = some ⟨a.Den - a.Num, a.Den⟩ := by
  unfold impl_lessOne
  have hn := good_num h.1
  have hd := good_den h.1
  rw [w64_in (by omega) (by omega)]

end Go.Gx.F
