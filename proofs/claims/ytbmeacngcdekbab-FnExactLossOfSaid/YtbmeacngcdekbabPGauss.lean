/- LogRatio and its kin. -/
import Derived.Test.YtbmeacngcdekbabPLoss
namespace Go.Gx.F
open Go.Gx
set_option linter.all false

theorem laws_FnExactLossOf_true (a : laws_Frac) (k : Int) (o1 : Rng.ok a) (o2 : Rng.ok k) : laws_FnExactLossOf a k = some true := by
  unfold laws_FnExactLossOf spec_LossOf impl_LossOf
  obtain ⟨A, hA⟩ : ∃ A, laws_toFrac a = some A := ⟨_, rfl⟩
  simp only [hA, Option.bind_some, spec_ySigma_eq, impl_isSigma2_eq, spec_l1In_eq]
  by_cases hs : Sig A
  · by_cases h1 : k < 0
    · have : ¬ (0 ≤ k ∧ k ≤ 1000) := by omega
      simp [hs, h1, this, laws_eqFrac_self]
    · by_cases h2 : 1000 < k
      · have : ¬ (0 ≤ k ∧ k ≤ 1000) := by omega
        simp [hs, h1, h2, this, laws_eqFrac_self]
      · have h3 : 0 ≤ k ∧ k ≤ 1000 := by omega
        have hg := hs.1
        have hpos := hs.2.1
        have hk := prod_bound (a := k) (b := k) (A := 1000) (B := 1000) (by omega) (by omega)
        have hb := prod_bound (a := k * k) (b := A.Den) (A := 1000000) (B := 1000000000) (by omega) (good_den hg)
        have hnum := good_num hg
        simp only [hs, h1, h2, h3, decide_true, decide_false, Bool.not_true, cond_true, cond_false, Option.bind_some, and_self]
        rw [w64_in (n := k * k) (by omega) (by omega), w64_in (n := k * k * A.Den) (by omega) (by omega), w64_in (n := 2 * A.Num) (by omega) (by omega)]
        rw [spec_fMake_eq (by omega) (by omega) (by omega), impl_quotient_eq (by simp only; omega) (by simp) (by simp) hg hpos]
        simp [laws_eqFrac_self]
  · simp [hs, laws_eqFrac_self]

end Go.Gx.F
