/- The plain functions that the walks come to. -/
import Derived.Test.YtkgmphgbmjbfhaaGx
namespace Go.Gx.F
open Go.Gx
set_option linter.all false

structure impl_Frac where
  Num : Int
  Den : Int

instance : Rep impl_Frac where
  wd := 2
  rd m cs x := cs = [(.int .i64 x.Num), (.int .i64 x.Den)]
  mono _ h := h
  len h := by subst h; rfl
  one h := by subst h; rfl

instance : Flat impl_Frac := ⟨fun h => h⟩

instance : Rng impl_Frac := ⟨fun x => Rng.ok x.Num ∧ Rng.ok x.Den⟩

structure laws_Frac where
  Num : Int
  Den : Int

instance : Rep laws_Frac where
  wd := 2
  rd m cs x := cs = [(.int .i64 x.Num), (.int .i64 x.Den)]
  mono _ h := h
  len h := by subst h; rfl
  one h := by subst h; rfl

instance : Flat laws_Frac := ⟨fun h => h⟩

instance : Rng laws_Frac := ⟨fun x => Rng.ok x.Num ∧ Rng.ok x.Den⟩

structure impl_Loss where
  Ratio : impl_Frac
  Rho : impl_Frac

instance : Rep impl_Loss where
  wd := 4
  rd m cs x := cs = [(.int .i64 x.Ratio.Num), (.int .i64 x.Ratio.Den), (.int .i64 x.Rho.Num), (.int .i64 x.Rho.Den)]
  mono _ h := h
  len h := by subst h; rfl
  one h := by subst h; rfl

instance : Flat impl_Loss := ⟨fun h => h⟩

instance : Rng impl_Loss := ⟨fun x => Rng.ok x.Ratio ∧ Rng.ok x.Rho⟩

structure laws_Loss where
  Ratio : laws_Frac
  Rho : laws_Frac

instance : Rep laws_Loss where
  wd := 4
  rd m cs x := cs = [(.int .i64 x.Ratio.Num), (.int .i64 x.Ratio.Den), (.int .i64 x.Rho.Num), (.int .i64 x.Rho.Den)]
  mono _ h := h
  len h := by subst h; rfl
  one h := by subst h; rfl

instance : Flat laws_Loss := ⟨fun h => h⟩

instance : Rng laws_Loss := ⟨fun x => Rng.ok x.Ratio ∧ Rng.ok x.Rho⟩

noncomputable def laws_toFrac (p_a : laws_Frac) : Option (impl_Frac) :=
  some (impl_Frac.mk p_a.Num p_a.Den)

noncomputable def laws_toLoss (p_a : laws_Loss) : Option (impl_Loss) :=
  ((laws_toFrac p_a.Ratio).bind fun t_4 => ((laws_toFrac p_a.Rho).bind fun t_5 => some (impl_Loss.mk t_4 t_5)))

noncomputable def spec_l1In (p_n : Int) (p_lo : Int) (p_hi : Int) : Option (Bool) :=
  (((cond (decide (p_lo ≤ p_n)) (some (decide (p_n ≤ p_hi))) (some false)) : Option (Bool)).bind fun t_1 => some t_1)

noncomputable def spec_l1Most (p_a : Int) (p_b : Int) : Option (Int) :=
  (cond (decide (p_b < p_a)) (some p_a) (some p_b))

noncomputable def spec_l1Abs (p_n : Int) : Option (Int) :=
  ((spec_l1Most p_n (w64 (-p_n))).bind fun t_1 => some t_1)

noncomputable def spec_fGcd_l1  : Int × Int → Option (Stp (Int × Int) (Int))
  | (a_1, b_2) => (cond (b_2 != 0) ((goRem a_1 b_2).bind fun t_3 => some (.next (b_2, t_3))) (some (.done a_1)))

noncomputable def spec_fGcd (p_a : Int) (p_b : Int) : Option (Int) :=
  ((loopC (spec_fGcd_l1) (p_a, p_b)).bind fun a_4 => ((spec_l1Abs a_4).bind fun t_5 => some t_5))

noncomputable def spec_fGood (p_f : impl_Frac) : Option (Bool) :=
  ((((spec_l1In p_f.Den 1 1000000000).bind fun t_2 => (cond t_2 ((spec_l1In p_f.Num (-1000000000) 1000000000).bind fun t_3 => (cond t_3 ((spec_fGcd p_f.Num p_f.Den).bind fun t_4 => some (t_4 == 1)) (some false))) (some false))) : Option (Bool)).bind fun t_5 => some t_5)

noncomputable def spec_pGood (p_x : impl_Loss) : Option (Bool) :=
  ((((spec_fGood p_x.Ratio).bind fun t_2 => (cond t_2 ((spec_fGood p_x.Rho).bind fun t_3 => (cond t_3 (cond (decide (p_x.Ratio.Den ≤ p_x.Ratio.Num)) (some (decide (0 ≤ p_x.Rho.Num))) (some false)) (some false))) (some false))) : Option (Bool)).bind fun t_4 => some t_4)

noncomputable def spec_fInt (p_n : Int) : Option (impl_Frac) :=
  some (impl_Frac.mk p_n 1)

noncomputable def spec_pNone  : Option (impl_Loss) :=
  ((spec_fInt 1).bind fun t_2 => ((spec_fInt 0).bind fun t_3 => some (impl_Loss.mk t_2 t_3)))

noncomputable def spec_fMake (p_n : Int) (p_d : Int) : Option (impl_Frac × Bool) :=
  (cond (p_d == 0) (some ((impl_Frac.mk 0 0), false)) ((spec_fGcd p_n p_d).bind fun t_2 => (((cond (decide (p_d < 0)) (some (w64 (-t_2))) (some t_2)) : Option (Int)).bind fun g_3 => ((goQuo .i64 p_n g_3).bind fun t_4 => ((goQuo .i64 p_d g_3).bind fun t_5 => ((spec_fGood (impl_Frac.mk t_4 t_5)).bind fun t_7 => (cond (!t_7) (some ((impl_Frac.mk 0 0), false)) (some ((impl_Frac.mk t_4 t_5), true)))))))))

noncomputable def spec_fMul (p_a : impl_Frac) (p_b : impl_Frac) : Option (impl_Frac × Bool) :=
  ((spec_fMake (w64 (p_a.Num * p_b.Num)) (w64 (p_a.Den * p_b.Den))).bind fun t_4 => some (t_4.1, t_4.2))

noncomputable def spec_fAdd (p_a : impl_Frac) (p_b : impl_Frac) : Option (impl_Frac × Bool) :=
  ((spec_fMake (w64 ((w64 (p_a.Num * p_b.Den)) + (w64 (p_b.Num * p_a.Den)))) (w64 (p_a.Den * p_b.Den))).bind fun t_4 => some (t_4.1, t_4.2))

noncomputable def spec_pTwo (p_a : impl_Loss) (p_b : impl_Loss) : Option (impl_Loss × Bool) :=
  ((spec_fMul p_a.Ratio p_b.Ratio).bind fun t_4 => ((spec_fAdd p_a.Rho p_b.Rho).bind fun t_6 => (((cond (!t_4.2) (some true) (some (!t_6.2))) : Option (Bool)).bind fun t_8 => (cond t_8 (some ((impl_Loss.mk (impl_Frac.mk 0 0) (impl_Frac.mk 0 0)), false)) (some ((impl_Loss.mk t_4.1 t_6.1), true))))))

noncomputable def spec_l1Sign (p_n : Int) : Option (Int) :=
  (cond (decide (p_n < 0)) (some (-1)) (cond (decide (0 < p_n)) (some 1) (some 0)))

noncomputable def spec_fCmp (p_a : impl_Frac) (p_b : impl_Frac) : Option (Int) :=
  ((spec_l1Sign (w64 ((w64 (p_a.Num * p_b.Den)) - (w64 (p_b.Num * p_a.Den))))).bind fun t_3 => some t_3)

noncomputable def spec_pWithin (p_budget : impl_Loss) (p_x : impl_Loss) : Option (Bool) :=
  ((((spec_fCmp p_x.Ratio p_budget.Ratio).bind fun t_3 => (cond (decide (t_3 ≤ 0)) ((spec_fCmp p_x.Rho p_budget.Rho).bind fun t_4 => some (decide (t_4 ≤ 0))) (some false))) : Option (Bool)).bind fun t_5 => some t_5)

noncomputable def spec_CountUses_l1 (p_budget : impl_Loss) (p_x : impl_Loss) : Int × Int × impl_Loss → Option (Stp (Int × Int × impl_Loss) (Int))
  | (best_8, k_9, sum_10) => (cond (decide (k_9 ≤ 60)) ((spec_pTwo sum_10 p_x).bind fun t_11 => (cond (!t_11.2) (some (.done best_8)) ((spec_pWithin p_budget t_11.1).bind fun t_13 => (((cond t_13 (some k_9) (some best_8)) : Option (Int)).bind fun best_14 => some (.next (best_14, (w64 (k_9 + 1)), t_11.1)))))) (some (.done best_8)))

noncomputable def spec_CountUses (p_budget : impl_Loss) (p_x : impl_Loss) : Option (Int × Bool) :=
  ((((spec_pGood p_budget).bind fun t_3 => (cond (!t_3) (some true) ((spec_pGood p_x).bind fun t_4 => some (!t_4)))) : Option (Bool)).bind fun t_5 => (cond t_5 (some (0, false)) ((spec_pNone).bind fun t_6 => ((loopC (spec_CountUses_l1 p_budget p_x) (0, 1, t_6)).bind fun best_15 => some (best_15, true)))))

noncomputable def impl_gcdOf_l1  : Int × Int → Option (Stp (Int × Int) (Int))
  | (a_3, b_4) => (cond (b_4 != 0) ((goRem a_3 b_4).bind fun t_5 => some (.next (b_4, t_5))) (some (.done a_3)))

noncomputable def impl_gcdOf (p_a : Int) (p_b : Int) : Option (Int) :=
  (((cond (decide (p_a < 0)) (some (w64 (-p_a))) (some p_a)) : Option (Int)).bind fun a_1 => (((cond (decide (p_b < 0)) (some (w64 (-p_b))) (some p_b)) : Option (Int)).bind fun b_2 => ((loopC (impl_gcdOf_l1) (a_1, b_2)).bind fun a_6 => some a_6)))

noncomputable def impl_IsFrac (p_f : impl_Frac) : Option (Bool) :=
  (((cond (decide (1 ≤ p_f.Den)) (cond (decide (p_f.Den ≤ 1000000000)) (cond (decide ((-1000000000) ≤ p_f.Num)) (cond (decide (p_f.Num ≤ 1000000000)) ((impl_gcdOf p_f.Num p_f.Den).bind fun t_2 => some (t_2 == 1)) (some false)) (some false)) (some false)) (some false)) : Option (Bool)).bind fun t_3 => some t_3)

noncomputable def impl_IsLoss (p_x : impl_Loss) : Option (Bool) :=
  ((((impl_IsFrac p_x.Ratio).bind fun t_2 => (cond t_2 ((impl_IsFrac p_x.Rho).bind fun t_3 => (cond t_3 (cond (decide (p_x.Ratio.Den ≤ p_x.Ratio.Num)) (some (decide (0 ≤ p_x.Rho.Num))) (some false)) (some false))) (some false))) : Option (Bool)).bind fun t_4 => some t_4)

noncomputable def impl_NoLoss  : Option (impl_Loss) :=
  some (impl_Loss.mk (impl_Frac.mk 1 1) (impl_Frac.mk 0 1))

noncomputable def impl_reduced (p_n : Int) (p_d : Int) : Option (impl_Frac × Bool) :=
  ((impl_gcdOf p_n p_d).bind fun t_2 => ((goQuo .i64 p_n t_2).bind fun t_3 => ((goQuo .i64 p_d t_2).bind fun t_4 => (((cond (decide (t_4 < 0)) (some ((w64 (-t_3)), (w64 (-t_4)))) (some (t_3, t_4))) : Option (Int × Int)).bind fun (n_5, d_6) => (((cond (decide (1000000000 < n_5)) (some true) (cond (decide (n_5 < (-1000000000))) (some true) (some (decide (1000000000 < d_6))))) : Option (Bool)).bind fun t_7 => (cond t_7 (some ((impl_Frac.mk 0 0), false)) (some ((impl_Frac.mk n_5 d_6), true))))))))

noncomputable def impl_MulFrac (p_a : impl_Frac) (p_b : impl_Frac) : Option (impl_Frac × Bool) :=
  ((((impl_IsFrac p_a).bind fun t_4 => (cond (!t_4) (some true) ((impl_IsFrac p_b).bind fun t_5 => some (!t_5)))) : Option (Bool)).bind fun t_6 => (cond t_6 (some ((impl_Frac.mk 0 0), false)) ((impl_reduced (w64 (p_a.Num * p_b.Num)) (w64 (p_a.Den * p_b.Den))).bind fun t_7 => some (t_7.1, t_7.2))))

noncomputable def impl_AddFrac (p_a : impl_Frac) (p_b : impl_Frac) : Option (impl_Frac × Bool) :=
  ((((impl_IsFrac p_a).bind fun t_4 => (cond (!t_4) (some true) ((impl_IsFrac p_b).bind fun t_5 => some (!t_5)))) : Option (Bool)).bind fun t_6 => (cond t_6 (some ((impl_Frac.mk 0 0), false)) ((impl_reduced (w64 ((w64 (p_a.Num * p_b.Den)) + (w64 (p_b.Num * p_a.Den)))) (w64 (p_a.Den * p_b.Den))).bind fun t_7 => some (t_7.1, t_7.2))))

noncomputable def impl_composed (p_a : impl_Loss) (p_b : impl_Loss) : Option (impl_Loss × Bool) :=
  ((impl_MulFrac p_a.Ratio p_b.Ratio).bind fun t_4 => (cond (!t_4.2) (some ((impl_Loss.mk (impl_Frac.mk 0 0) (impl_Frac.mk 0 0)), false)) ((impl_AddFrac p_a.Rho p_b.Rho).bind fun t_6 => (cond (!t_6.2) (some ((impl_Loss.mk (impl_Frac.mk 0 0) (impl_Frac.mk 0 0)), false)) (some ((impl_Loss.mk t_4.1 t_6.1), true))))))

noncomputable def impl_cmpFrac (p_a : impl_Frac) (p_b : impl_Frac) : Option (Int) :=
  (cond (decide ((w64 (p_a.Num * p_b.Den)) < (w64 (p_b.Num * p_a.Den)))) (some (-1)) (cond (decide ((w64 (p_b.Num * p_a.Den)) < (w64 (p_a.Num * p_b.Den)))) (some 1) (some 0)))

noncomputable def impl_isWithin (p_budget : impl_Loss) (p_x : impl_Loss) : Option (Bool) :=
  ((((impl_cmpFrac p_x.Ratio p_budget.Ratio).bind fun t_3 => (cond (decide (t_3 ≤ 0)) ((impl_cmpFrac p_x.Rho p_budget.Rho).bind fun t_4 => some (decide (t_4 ≤ 0))) (some false))) : Option (Bool)).bind fun t_5 => some t_5)

noncomputable def impl_usesFrom_l1 (p_budget : impl_Loss) (p_x : impl_Loss) (p_most : Int) : Int × impl_Loss → Option (Stp (Int × impl_Loss) ((Unit) ⊕ (Int)))
  | (t_4, start_5) => (cond (decide (t_4 < p_most)) ((impl_composed start_5 p_x).bind fun t_6 => (((cond (!t_6.2) (some true) ((impl_isWithin p_budget t_6.1).bind fun t_8 => some (!t_8))) : Option (Bool)).bind fun t_9 => (cond t_9 (some (.done (.inr t_4))) (some (.next ((w64 (t_4 + 1)), t_6.1)))))) (some (.done (.inl ()))))

noncomputable def impl_usesFrom (p_budget : impl_Loss) (p_start : impl_Loss) (p_x : impl_Loss) (p_most : Int) : Option (Int) :=
  ((loopC (impl_usesFrom_l1 p_budget p_x p_most) (0, p_start)).bind fun | .inl () => some p_most | .inr o => some o)

noncomputable def impl_CountUses (p_budget : impl_Loss) (p_x : impl_Loss) : Option (Int × Bool) :=
  ((((impl_IsLoss p_budget).bind fun t_3 => (cond (!t_3) (some true) ((impl_IsLoss p_x).bind fun t_4 => some (!t_4)))) : Option (Bool)).bind fun t_5 => (cond t_5 (some (0, false)) ((impl_NoLoss).bind fun t_7 => ((impl_usesFrom p_budget t_7 p_x 60).bind fun t_8 => some (t_8, true)))))

noncomputable def laws_FnExactCountUses (p_aBudget : laws_Loss) (p_aX : laws_Loss) : Option (Bool) :=
  ((laws_toLoss p_aBudget).bind fun t_4 => ((laws_toLoss p_aX).bind fun t_5 => ((spec_CountUses t_4 t_5).bind fun t_6 => ((laws_toLoss p_aBudget).bind fun t_8 => ((laws_toLoss p_aX).bind fun t_9 => ((impl_CountUses t_8 t_9).bind fun t_10 => (((cond (t_10.1 != t_6.1) (some true) (some (t_10.2 != t_6.2))) : Option (Bool)).bind fun t_11 => (cond t_11 (some false) (some true)))))))))

noncomputable def spec_ySigma (p_s : impl_Frac) : Option (Bool) :=
  ((((spec_fGood p_s).bind fun t_2 => (cond t_2 (cond (decide (0 < p_s.Num)) ((spec_fInt 10000).bind fun t_3 => ((spec_fCmp p_s t_3).bind fun t_4 => some (decide (t_4 ≤ 0)))) (some false)) (some false))) : Option (Bool)).bind fun t_5 => some t_5)

noncomputable def spec_yScale_l1 (p_s : impl_Frac) (t_2 : Int) : Option (Stp (Int) (Int)) :=
  ((spec_fInt (w64 ((w64 (t_2 + 1)) * (w64 (t_2 + 1))))).bind fun t_4 => ((spec_fCmp t_4 p_s).bind fun t_5 => (cond (decide (t_5 ≤ 0)) (some (.next (w64 (t_2 + 1)))) (some (.done t_2)))))

noncomputable def spec_yScale (p_s : impl_Frac) : Option (Int) :=
  ((loopC (spec_yScale_l1 p_s) 0).bind fun t_6 => some (w64 (t_6 + 1)))

noncomputable def spec_fDiv (p_a : impl_Frac) (p_b : impl_Frac) : Option (impl_Frac × Bool) :=
  (cond (p_b.Num == 0) (some ((impl_Frac.mk 0 0), false)) ((spec_fMake (w64 (p_a.Num * p_b.Den)) (w64 (p_a.Den * p_b.Num))).bind fun t_4 => some (t_4.1, t_4.2)))

noncomputable def spec_fSub (p_a : impl_Frac) (p_b : impl_Frac) : Option (impl_Frac × Bool) :=
  ((spec_fMake (w64 ((w64 (p_a.Num * p_b.Den)) - (w64 (p_b.Num * p_a.Den)))) (w64 (p_a.Den * p_b.Den))).bind fun t_4 => some (t_4.1, t_4.2))

noncomputable def spec_yAccept (p_s : impl_Frac) (p_y : Int) : Option (impl_Frac × Bool) :=
  ((((spec_yScale p_s).bind fun t_4 => ((spec_fInt t_4).bind fun t_5 => ((spec_fDiv p_s t_5).bind fun t_6 => some (t_6.2, t_6.1)))) : Option (Bool × impl_Frac)).bind fun (one_8, shift_9) => (cond (!one_8) (some ((impl_Frac.mk 0 0), false)) ((((spec_l1Abs p_y).bind fun t_12 => ((spec_fInt t_12).bind fun t_13 => ((spec_fSub t_13 shift_9).bind fun t_14 => some (t_14.2, t_14.1)))) : Option (Bool × impl_Frac)).bind fun (two_16, d_17) => ((spec_fMul d_17 d_17).bind fun t_18 => (((cond (!two_16) (some true) (some (!t_18.2))) : Option (Bool)).bind fun t_20 => (cond t_20 (some ((impl_Frac.mk 0 0), false)) ((((spec_fInt 2).bind fun t_22 => ((spec_fMul p_s t_22).bind fun t_23 => some (t_23.2, t_23.1))) : Option (Bool × impl_Frac)).bind fun (four_25, twice_26) => (cond (!four_25) (some ((impl_Frac.mk 0 0), false)) ((spec_fDiv t_18.1 twice_26).bind fun t_27 => some (t_27.1, t_27.2))))))))))

noncomputable def spec_AcceptExponent (p_sigma2 : impl_Frac) (p_y : Int) : Option (impl_Frac × Bool) :=
  ((((spec_ySigma p_sigma2).bind fun t_3 => (cond (!t_3) (some true) ((spec_l1In p_y (-1000000000) 1000000000).bind fun t_4 => some (!t_4)))) : Option (Bool)).bind fun t_5 => (cond t_5 (some ((impl_Frac.mk 0 0), false)) ((spec_yAccept p_sigma2 p_y).bind fun t_6 => some (t_6.1, t_6.2))))

noncomputable def impl_isSigma2 (p_sigma2 : impl_Frac) : Option (Bool) :=
  ((((impl_IsFrac p_sigma2).bind fun t_2 => (cond t_2 (cond (decide (0 < p_sigma2.Num)) (some (decide (p_sigma2.Num ≤ (w64 (10000 * p_sigma2.Den))))) (some false)) (some false))) : Option (Bool)).bind fun t_3 => some t_3)

noncomputable def impl_scaleFor_l1 (p_sigma2 : impl_Frac) (t_2 : Int) : Option (Stp (Int) (Int)) :=
  (cond (decide ((w64 ((w64 (t_2 * t_2)) * p_sigma2.Den)) ≤ p_sigma2.Num)) (some (.next (w64 (t_2 + 1)))) (some (.done t_2)))

noncomputable def impl_scaleFor (p_sigma2 : impl_Frac) : Option (Int) :=
  ((loopC (impl_scaleFor_l1 p_sigma2) 1).bind fun t_3 => some t_3)

noncomputable def impl_DivFrac (p_a : impl_Frac) (p_b : impl_Frac) : Option (impl_Frac × Bool) :=
  ((((impl_IsFrac p_a).bind fun t_4 => (cond (!t_4) (some true) ((impl_IsFrac p_b).bind fun t_5 => (cond (!t_5) (some true) (some (p_b.Num == 0)))))) : Option (Bool)).bind fun t_6 => (cond t_6 (some ((impl_Frac.mk 0 0), false)) ((impl_reduced (w64 (p_a.Num * p_b.Den)) (w64 (p_a.Den * p_b.Num))).bind fun t_7 => some (t_7.1, t_7.2))))

noncomputable def impl_SubFrac (p_a : impl_Frac) (p_b : impl_Frac) : Option (impl_Frac × Bool) :=
  ((((impl_IsFrac p_a).bind fun t_4 => (cond (!t_4) (some true) ((impl_IsFrac p_b).bind fun t_5 => some (!t_5)))) : Option (Bool)).bind fun t_6 => (cond t_6 (some ((impl_Frac.mk 0 0), false)) ((impl_reduced (w64 ((w64 (p_a.Num * p_b.Den)) - (w64 (p_b.Num * p_a.Den)))) (w64 (p_a.Den * p_b.Den))).bind fun t_7 => some (t_7.1, t_7.2))))

noncomputable def impl_quotient (p_a : impl_Frac) (p_b : impl_Frac) : Option (impl_Frac × Bool) :=
  ((impl_gcdOf p_a.Num p_b.Num).bind fun t_4 => ((impl_gcdOf p_a.Den p_b.Den).bind fun t_5 => ((goQuo .i64 p_a.Num t_4).bind fun t_6 => ((goQuo .i64 p_b.Den t_5).bind fun t_7 => ((goQuo .i64 p_a.Den t_5).bind fun t_8 => ((goQuo .i64 p_b.Num t_4).bind fun t_9 => ((impl_reduced (w64 (t_6 * t_7)) (w64 ((w64 (2 * t_8)) * t_9))).bind fun t_10 => some (t_10.1, t_10.2))))))))

noncomputable def impl_acceptExponent (p_sigma2 : impl_Frac) (p_y : Int) : Option (impl_Frac × Bool) :=
  ((impl_scaleFor p_sigma2).bind fun t_3 => ((impl_DivFrac p_sigma2 (impl_Frac.mk t_3 1)).bind fun t_4 => (cond (!t_4.2) (some ((impl_Frac.mk 0 0), false)) ((impl_SubFrac (impl_Frac.mk (max p_y (w64 (-p_y))) 1) t_4.1).bind fun t_6 => (cond (!t_6.2) (some ((impl_Frac.mk 0 0), false)) ((impl_MulFrac t_6.1 t_6.1).bind fun t_8 => (cond (!t_8.2) (some ((impl_Frac.mk 0 0), false)) ((impl_quotient t_8.1 p_sigma2).bind fun t_10 => some (t_10.1, t_10.2)))))))))

noncomputable def impl_AcceptExponent (p_sigma2 : impl_Frac) (p_y : Int) : Option (impl_Frac × Bool) :=
  ((((impl_isSigma2 p_sigma2).bind fun t_3 => (cond (!t_3) (some true) (cond (decide (p_y < (-1000000000))) (some true) (some (decide (1000000000 < p_y)))))) : Option (Bool)).bind fun t_4 => (cond t_4 (some ((impl_Frac.mk 0 0), false)) ((impl_acceptExponent p_sigma2 p_y).bind fun t_5 => some (t_5.1, t_5.2))))

noncomputable def laws_eqFrac (p_a : impl_Frac) (p_b : impl_Frac) : Option (Bool) :=
  (cond (p_a.Num != p_b.Num) (some false) (cond (p_a.Den != p_b.Den) (some false) (some true)))

noncomputable def laws_FnExactAcceptExponent (p_aSigma2 : laws_Frac) (p_aY : Int) : Option (Bool) :=
  ((laws_toFrac p_aSigma2).bind fun t_2 => ((spec_AcceptExponent t_2 p_aY).bind fun t_3 => ((laws_toFrac p_aSigma2).bind fun t_5 => ((impl_AcceptExponent t_5 p_aY).bind fun t_6 => ((((laws_eqFrac t_6.1 t_3.1).bind fun t_8 => (cond (!t_8) (some true) (some (t_6.2 != t_3.2)))) : Option (Bool)).bind fun t_9 => (cond t_9 (some false) (some true)))))))

end Go.Gx.F
