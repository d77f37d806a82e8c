/- LogRatio and its kin. -/
import Derived.Test.YtbmeacngcdekbaaPLoss
namespace Go.Gx.F
open Go.Gx
set_option linter.all false

theorem laws_FnExactLogRatio_true (a : laws_Frac) (i j : Int) (o1 : Rng.ok a) (o2 : Rng.ok i) (o3 : Rng.ok j) : laws_FnExactLogRatio a i j = some true := by
  unfold laws_FnExactLogRatio spec_LogRatio impl_LogRatio
  obtain ⟨A, hA⟩ : ∃ A, laws_toFrac a = some A := ⟨_, rfl⟩
  simp only [hA, Option.bind_some, spec_ySigma_eq, impl_isSigma2_eq, spec_l1In_eq]
  by_cases hs : Sig A
  · by_cases h : (-10000 ≤ i ∧ i ≤ 10000) ∧ (-10000 ≤ j ∧ j ≤ 10000)
    · have h1 : ¬ 10000 < max i j := by omega
      have h2 : ¬ min i j < -10000 := by omega
      obtain ⟨hi, hj⟩ := h
      have bi := prod_bound (a := i) (b := i) (A := 10000) (B := 10000) (by omega) (by omega)
      have bj := prod_bound (a := j) (b := j) (A := 10000) (B := 10000) (by omega) (by omega)
      have hg := hs.1
      have hb := prod_bound (a := j * j - i * i) (b := A.Den) (A := 200000000) (B := 1000000000) (by omega) (good_den hg)
      have hnum := good_num hg
      have hpos := hs.2.1
      simp only [hs, hi, hj, h1, h2, decide_true, decide_false, Bool.not_true, cond_true, cond_false, Option.bind_some, and_self]
      rw [w64_in (n := i * i) (by omega) (by omega), w64_in (n := j * j) (by omega) (by omega), w64_in (n := j * j - i * i) (by omega) (by omega),
        w64_in (n := (j * j - i * i) * A.Den) (by omega) (by omega), w64_in (n := 2 * A.Num) (by omega) (by omega)]
      rw [spec_fMake_eq (by omega) (by omega) (by omega), impl_quotient_eq (by simp only; omega) (by simp) (by simp) hg hpos]
      simp [laws_eqFrac_self]
    · have e : (cond (decide (10000 < max i j)) (some true) (some (decide (min i j < -10000))) : Option Bool) = some true := by
        by_cases h1 : 10000 < max i j
        · simp [h1]
        · simp only [h1, decide_false, cond_false]
          congr 1
          rw [decide_eq_true_iff]
          omega
      have e2 : (cond (!decide (-10000 ≤ i ∧ i ≤ 10000)) (some true) (some !decide (-10000 ≤ j ∧ j ≤ 10000)) : Option Bool) = some true := by
        by_cases h1 : -10000 ≤ i ∧ i ≤ 10000
        · have : ¬ (-10000 ≤ j ∧ j ≤ 10000) := fun h2 => h ⟨h1, h2⟩
          simp [h1, this]
        · simp [h1]
      simp only [hs, decide_true, Bool.not_true, cond_false, Option.bind_some, e, e2, cond_true]
      simp [laws_eqFrac_self]
  · simp [hs, laws_eqFrac_self]

end Go.Gx.F
