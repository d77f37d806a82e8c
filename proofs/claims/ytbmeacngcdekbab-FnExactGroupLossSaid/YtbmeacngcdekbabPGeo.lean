/- Geometric noise: chances and ratios on both sides. -/
import Derived.Test.YtbmeacngcdekbabPArith
namespace Go.Gx.F
open Go.Gx
set_option linter.all false

def Ratio (a : impl_Frac) : Prop := Good a ∧ 0 < a.Num ∧ a.Num < a.Den
instance (a : impl_Frac) : Decidable (Ratio a) := by unfold Ratio; infer_instance

theorem impl_isRatio_eq (a : impl_Frac) : impl_isRatio a = some (decide (Ratio a)) := by
  unfold impl_isRatio
  rw [impl_IsFrac_eq]
  exact and3 Iff.rfl

theorem spec_zRatio_eq (a : impl_Frac) : spec_zRatio a = some (decide (Ratio a)) := by
  unfold spec_zRatio
  rw [spec_fGood_eq]
  exact and3 Iff.rfl

/-- the tests of a number on both sides -/
theorem bnd_l (p : Prop) [Decidable p] (k lo hi : Int) {α : Type} (x y : Option α) :
    ((cond (!decide p) (some true) (cond (decide (k < lo)) (some true) (some (decide (hi < k)))) : Option Bool).bind fun t => cond t x y) = if p ∧ lo ≤ k ∧ k ≤ hi then y else x := by
  by_cases hp : p
  · by_cases h1 : k < lo
    · simp [hp, h1, show ¬ lo ≤ k by omega]
    · by_cases h2 : hi < k
      · simp [hp, h1, h2, show ¬ k ≤ hi by omega]
      · simp [hp, h1, h2, show k ≤ hi by omega, show lo ≤ k by omega]
  · simp [hp]

theorem inv_good {a : impl_Frac} (h : Ratio a) : Good ⟨a.Den, a.Num⟩ := by
  obtain ⟨hg, h1, h2⟩ := h
  have hn := good_num hg
  have hd := hg.1
  have hd2 := hg.2.1
  refine ⟨by simp; omega, by simp; omega, by simp; omega, by simp; omega, ?_⟩
  have := hg.2.2.2.2
  simp only
  rw [Int.gcd_comm]
  exact this

theorem less_good {a : impl_Frac} (h : Ratio a) : Good ⟨a.Den - a.Num, a.Den⟩ := by
  obtain ⟨hg, h1, h2⟩ := h
  have hn := good_num hg
  have hd := hg.1
  have hd2 := hg.2.1
  refine ⟨by simp; omega, by simp; omega, by simp; omega, by simp; omega, ?_⟩
  have := hg.2.2.2.2
  simp only
  have e : Int.gcd (a.Den - a.Num) a.Den = Int.gcd a.Num a.Den := by
    rw [Int.gcd_comm (a.Den - a.Num), Int.gcd_comm a.Num]
    rw [show a.Den - a.Num = -a.Num + 1 * a.Den by omega, Int.gcd_add_mul_right_right, Int.gcd_neg]
  rw [e]
  exact this

theorem one_div {a : impl_Frac} (h : Ratio a) : spec_fDiv ⟨1, 1⟩ a = some (⟨a.Den, a.Num⟩, true) := by
  rw [spec_fDiv_eq good_one h.1]
  unfold fdiv
  rw [if_neg (by have := h.2.1; omega)]
  simp only [Int.one_mul]
  rw [mk_self (f := ⟨a.Den, a.Num⟩) (inv_good h)]

theorem one_sub {a : impl_Frac} (h : Ratio a) : spec_fSub ⟨1, 1⟩ a = some (⟨a.Den - a.Num, a.Den⟩, true) := by
  rw [spec_fSub_eq good_one h.1]
  unfold fsub
  simp only [Int.one_mul, Int.mul_one]
  rw [mk_self (f := ⟨a.Den - a.Num, a.Den⟩) (less_good h)]

theorem impl_lessOne_eq {a : impl_Frac} (h : Ratio a) : impl_lessOne a = some ⟨a.Den - a.Num, a.Den⟩ := by
  unfold impl_lessOne
  have hn := good_num h.1
  have hd := good_den h.1
  rw [w64_in (by omega) (by omega)]

theorem laws_FnExactGeoRatio_true (a : laws_Frac) (k : Int) (o1 : Rng.ok a) (o2 : Rng.ok k) : laws_FnExactGeoRatio a k = some true := by
  unfold laws_FnExactGeoRatio spec_GeoRatio impl_GeoRatio
  obtain ⟨A, hA⟩ : ∃ A, laws_toFrac a = some A := ⟨_, rfl⟩
  simp only [hA, Option.bind_some, spec_zRatio_eq, impl_isRatio_eq, spec_l1In_eq, bools2, bnd_l]
  by_cases hc : Ratio A ∧ 0 ≤ k ∧ k ≤ 30
  · obtain ⟨hr, h0, h1⟩ := hc
    simp only [hr, h0, h1, and_self, if_true, spec_fInt, Option.bind_some, one_div hr, spec_fPow_eq (inv_good hr) (show k ≤ 60 by omega), impl_PowFrac_eq (inv_good hr) h0 (show k ≤ 60 by omega)]
    simp [laws_eqFrac_self]
  · simp only [hc, if_false, Option.bind_some]
    simp [laws_eqFrac_self]

theorem laws_FnExactVarianceOf_true (a : laws_Frac) (o1 : Rng.ok a) : laws_FnExactVarianceOf a = some true := by
  unfold laws_FnExactVarianceOf spec_VarianceOf impl_VarianceOf
  obtain ⟨A, hA⟩ : ∃ A, laws_toFrac a = some A := ⟨_, rfl⟩
  simp only [hA, Option.bind_some, spec_zRatio_eq, impl_isRatio_eq]
  by_cases hr : Ratio A
  · have h2 : Good ⟨2, 1⟩ := by decide
    have hl := less_good hr
    simp only [hr, decide_true, Bool.not_true, cond_false, spec_fInt, Option.bind_some, spec_fMul_eq hr.1 h2, impl_MulFrac_eq h2 hr.1, fmul_comm ⟨2, 1⟩ A, one_sub hr, impl_lessOne_eq hr,
      spec_fPow_eq hl (show (2 : Int) ≤ 60 by decide), impl_PowFrac_eq hl (show (0 : Int) ≤ 2 by decide) (show (2 : Int) ≤ 60 by decide)]
    rcases h3 : (fmul A ⟨2, 1⟩).2 with _ | _
    · simp [laws_eqFrac_self]
    · rcases h4 : (pwI ⟨A.Den - A.Num, A.Den⟩ ⟨1, 1⟩ (Int.toNat 2)).2 with _ | _
      · simp [laws_eqFrac_self]
      · have g1 := fmul_good hr.1 h2 h3
        have g2 := pwI_good hl _ _ good_one h4
        simp only [Bool.not_true, cond_false, Option.bind_some, spec_fDiv_eq g1 g2, impl_DivFrac_eq g1 g2]
        simp [laws_eqFrac_self]
  · simp [hr, laws_eqFrac_self]

theorem laws_FnExactGeoTail_true (a : laws_Frac) (k : Int) (o1 : Rng.ok a) (o2 : Rng.ok k) : laws_FnExactGeoTail a k = some true := by
  unfold laws_FnExactGeoTail spec_GeoTail impl_GeoTail
  obtain ⟨A, hA⟩ : ∃ A, laws_toFrac a = some A := ⟨_, rfl⟩
  simp only [hA, Option.bind_some, spec_zRatio_eq, impl_isRatio_eq, spec_l1In_eq, bools2, bnd_l]
  by_cases hc : Ratio A ∧ 0 ≤ k ∧ k ≤ 60
  · obtain ⟨hr, h0, h1⟩ := hc
    simp only [hr, h0, h1, and_self, if_true, Option.bind_some, spec_zTail, impl_geoTail, impl_moreOne, spec_fInt, spec_fPow_eq hr.1 h1, impl_PowFrac_eq hr.1 h0 h1, spec_fAdd_eq good_one hr.1, impl_AddFrac_eq good_one hr.1]
    rcases h3 : (pwI A ⟨1, 1⟩ k.toNat).2 with _ | _
    · simp [laws_eqFrac_self]
    · rcases h4 : (fadd ⟨1, 1⟩ A).2 with _ | _
      · simp [laws_eqFrac_self]
      · have g1 := pwI_good hr.1 _ _ good_one h3
        have g2 := fadd_good good_one hr.1 h4
        simp only [Bool.not_true, cond_false, Option.bind_some, spec_fDiv_eq g1 g2, impl_DivFrac_eq g1 g2]
        simp [laws_eqFrac_self]
  · simp only [hc, if_false, Option.bind_some]
    simp [laws_eqFrac_self]

theorem laws_FnExactGroupLoss_true (a : laws_Loss) (k : Int) (o1 : Rng.ok a) (o2 : Rng.ok k) : laws_FnExactGroupLoss a k = some true := by
  unfold laws_FnExactGroupLoss spec_GroupLoss impl_GroupLoss
  obtain ⟨A, hA⟩ : ∃ A, laws_toLoss a = some A := ⟨_, rfl⟩
  simp only [hA, Option.bind_some, spec_pGood_eq, impl_IsLoss_eq, spec_l1In_eq, bools2, bnd_l]
  by_cases hc : GoodL A ∧ 0 ≤ k ∧ k ≤ 20
  · obtain ⟨hg, h0, h1⟩ := hc
    have hk := prod_bound (a := k) (b := k) (A := 20) (B := 20) (by omega) (by omega)
    have hki : Good ⟨k * k, 1⟩ := good_int (by omega) (by omega)
    rw [w64_in (n := k * k) (by omega) (by omega)]
    simp only [hg, h0, h1, and_self, if_true, Option.bind_some, spec_fInt, spec_fPow_eq hg.1 (show k ≤ 60 by omega), impl_PowFrac_eq hg.1 h0 (show k ≤ 60 by omega), spec_fMul_eq hg.2.1 hki, impl_MulFrac_eq hki hg.2.1, fmul_comm ⟨k * k, 1⟩ A.Rho]
    rcases h3 : (pwI A.Ratio ⟨1, 1⟩ k.toNat).2 with _ | _
    · simp [laws_eqLoss_self]
    · rcases h4 : (fmul A.Rho ⟨k * k, 1⟩).2 with _ | _
      · simp [laws_eqLoss_self]
      · simp [laws_eqLoss_self]
  · simp only [hc, if_false, Option.bind_some]
    simp [laws_eqLoss_self]

end Go.Gx.F
