/- The plain functions that the walks come to. -/
import Derived.Test.YtkgmphgbmjbfhaaGx
namespace Go.Gx.F
open Go.Gx
set_option linter.all false

structure impl_Frac where
  Num : Int
  Den : Int

instance : Rep impl_Frac where
  wd := 2
  rd m cs x := cs = [(.int .i64 x.Num), (.int .i64 x.Den)]
  mono _ h := h
  len h := by subst h; rfl
  one h := by subst h; rfl

instance : Flat impl_Frac := ⟨fun h => h⟩

instance : Rng impl_Frac := ⟨fun x => Rng.ok x.Num ∧ Rng.ok x.Den⟩

structure laws_Frac where
  Num : Int
  Den : Int

instance : Rep laws_Frac where
  wd := 2
  rd m cs x := cs = [(.int .i64 x.Num), (.int .i64 x.Den)]
  mono _ h := h
  len h := by subst h; rfl
  one h := by subst h; rfl

instance : Flat laws_Frac := ⟨fun h => h⟩

instance : Rng laws_Frac := ⟨fun x => Rng.ok x.Num ∧ Rng.ok x.Den⟩

structure impl_Loss where
  Ratio : impl_Frac
  Rho : impl_Frac

instance : Rep impl_Loss where
  wd := 4
  rd m cs x := cs = [(.int .i64 x.Ratio.Num), (.int .i64 x.Ratio.Den), (.int .i64 x.Rho.Num), (.int .i64 x.Rho.Den)]
  mono _ h := h
  len h := by subst h; rfl
  one h := by subst h; rfl

instance : Flat impl_Loss := ⟨fun h => h⟩

instance : Rng impl_Loss := ⟨fun x => Rng.ok x.Ratio ∧ Rng.ok x.Rho⟩

structure laws_Loss where
  Ratio : laws_Frac
  Rho : laws_Frac

instance : Rep laws_Loss where
  wd := 4
  rd m cs x := cs = [(.int .i64 x.Ratio.Num), (.int .i64 x.Ratio.Den), (.int .i64 x.Rho.Num), (.int .i64 x.Rho.Den)]
  mono _ h := h
  len h := by subst h; rfl
  one h := by subst h; rfl

instance : Flat laws_Loss := ⟨fun h => h⟩

instance : Rng laws_Loss := ⟨fun x => Rng.ok x.Ratio ∧ Rng.ok x.Rho⟩

noncomputable def laws_toFrac (p_a : laws_Frac) : Option (impl_Frac) :=
  some (impl_Frac.mk p_a.Num p_a.Den)

noncomputable def laws_toLoss (p_a : laws_Loss) : Option (impl_Loss) :=
  ((laws_toFrac p_a.Ratio).bind fun t_4 => ((laws_toFrac p_a.Rho).bind fun t_5 => some (impl_Loss.mk t_4 t_5)))

noncomputable def spec_l1In (p_n : Int) (p_lo : Int) (p_hi : Int) : Option (Bool) :=
  (((cond (decide (p_lo ≤ p_n)) (some (decide (p_n ≤ p_hi))) (some false)) : Option (Bool)).bind fun t_1 => some t_1)

noncomputable def spec_l1Most (p_a : Int) (p_b : Int) : Option (Int) :=
  (cond (decide (p_b < p_a)) (some p_a) (some p_b))

noncomputable def spec_l1Abs (p_n : Int) : Option (Int) :=
  ((spec_l1Most p_n (w64 (-p_n))).bind fun t_1 => some t_1)

noncomputable def spec_fGcd_l1  : Int × Int → Option (Stp (Int × Int) (Int))
  | (a_1, b_2) => (cond (b_2 != 0) ((goRem a_1 b_2).bind fun t_3 => some (.next (b_2, t_3))) (some (.done a_1)))

noncomputable def spec_fGcd (p_a : Int) (p_b : Int) : Option (Int) :=
  ((loopC (spec_fGcd_l1) (p_a, p_b)).bind fun a_4 => ((spec_l1Abs a_4).bind fun t_5 => some t_5))

noncomputable def spec_fGood (p_f : impl_Frac) : Option (Bool) :=
  ((((spec_l1In p_f.Den 1 1000000000).bind fun t_2 => (cond t_2 ((spec_l1In p_f.Num (-1000000000) 1000000000).bind fun t_3 => (cond t_3 ((spec_fGcd p_f.Num p_f.Den).bind fun t_4 => some (t_4 == 1)) (some false))) (some false))) : Option (Bool)).bind fun t_5 => some t_5)

noncomputable def spec_pGood (p_x : impl_Loss) : Option (Bool) :=
  ((((spec_fGood p_x.Ratio).bind fun t_2 => (cond t_2 ((spec_fGood p_x.Rho).bind fun t_3 => (cond t_3 (cond (decide (p_x.Ratio.Den ≤ p_x.Ratio.Num)) (some (decide (0 ≤ p_x.Rho.Num))) (some false)) (some false))) (some false))) : Option (Bool)).bind fun t_4 => some t_4)

noncomputable def spec_l1Sign (p_n : Int) : Option (Int) :=
  (cond (decide (p_n < 0)) (some (-1)) (cond (decide (0 < p_n)) (some 1) (some 0)))

noncomputable def spec_fCmp (p_a : impl_Frac) (p_b : impl_Frac) : Option (Int) :=
  ((spec_l1Sign (w64 ((w64 (p_a.Num * p_b.Den)) - (w64 (p_b.Num * p_a.Den))))).bind fun t_3 => some t_3)

noncomputable def spec_pWithin (p_budget : impl_Loss) (p_x : impl_Loss) : Option (Bool) :=
  ((((spec_fCmp p_x.Ratio p_budget.Ratio).bind fun t_3 => (cond (decide (t_3 ≤ 0)) ((spec_fCmp p_x.Rho p_budget.Rho).bind fun t_4 => some (decide (t_4 ≤ 0))) (some false))) : Option (Bool)).bind fun t_5 => some t_5)

noncomputable def spec_fMake (p_n : Int) (p_d : Int) : Option (impl_Frac × Bool) :=
  (cond (p_d == 0) (some ((impl_Frac.mk 0 0), false)) ((spec_fGcd p_n p_d).bind fun t_2 => (((cond (decide (p_d < 0)) (some (w64 (-t_2))) (some t_2)) : Option (Int)).bind fun g_3 => ((goQuo .i64 p_n g_3).bind fun t_4 => ((goQuo .i64 p_d g_3).bind fun t_5 => ((spec_fGood (impl_Frac.mk t_4 t_5)).bind fun t_7 => (cond (!t_7) (some ((impl_Frac.mk 0 0), false)) (some ((impl_Frac.mk t_4 t_5), true)))))))))

noncomputable def spec_fDiv (p_a : impl_Frac) (p_b : impl_Frac) : Option (impl_Frac × Bool) :=
  (cond (p_b.Num == 0) (some ((impl_Frac.mk 0 0), false)) ((spec_fMake (w64 (p_a.Num * p_b.Den)) (w64 (p_a.Den * p_b.Num))).bind fun t_4 => some (t_4.1, t_4.2)))

noncomputable def spec_fSub (p_a : impl_Frac) (p_b : impl_Frac) : Option (impl_Frac × Bool) :=
  ((spec_fMake (w64 ((w64 (p_a.Num * p_b.Den)) - (w64 (p_b.Num * p_a.Den)))) (w64 (p_a.Den * p_b.Den))).bind fun t_4 => some (t_4.1, t_4.2))

noncomputable def spec_RemainingLoss (p_budget : impl_Loss) (p_x : impl_Loss) : Option (impl_Loss × Bool) :=
  ((((spec_pGood p_budget).bind fun t_4 => (cond (!t_4) (some true) ((spec_pGood p_x).bind fun t_5 => (cond (!t_5) (some true) ((spec_pWithin p_budget p_x).bind fun t_6 => some (!t_6)))))) : Option (Bool)).bind fun t_7 => (cond t_7 (some ((impl_Loss.mk (impl_Frac.mk 0 0) (impl_Frac.mk 0 0)), false)) ((spec_fDiv p_budget.Ratio p_x.Ratio).bind fun t_8 => ((spec_fSub p_budget.Rho p_x.Rho).bind fun t_10 => (((cond (!t_8.2) (some true) (some (!t_10.2))) : Option (Bool)).bind fun t_12 => (cond t_12 (some ((impl_Loss.mk (impl_Frac.mk 0 0) (impl_Frac.mk 0 0)), false)) (some ((impl_Loss.mk t_8.1 t_10.1), true))))))))

noncomputable def impl_gcdOf_l1  : Int × Int → Option (Stp (Int × Int) (Int))
  | (a_3, b_4) => (cond (b_4 != 0) ((goRem a_3 b_4).bind fun t_5 => some (.next (b_4, t_5))) (some (.done a_3)))

noncomputable def impl_gcdOf (p_a : Int) (p_b : Int) : Option (Int) :=
  (((cond (decide (p_a < 0)) (some (w64 (-p_a))) (some p_a)) : Option (Int)).bind fun a_1 => (((cond (decide (p_b < 0)) (some (w64 (-p_b))) (some p_b)) : Option (Int)).bind fun b_2 => ((loopC (impl_gcdOf_l1) (a_1, b_2)).bind fun a_6 => some a_6)))

noncomputable def impl_IsFrac (p_f : impl_Frac) : Option (Bool) :=
  (((cond (decide (1 ≤ p_f.Den)) (cond (decide (p_f.Den ≤ 1000000000)) (cond (decide ((-1000000000) ≤ p_f.Num)) (cond (decide (p_f.Num ≤ 1000000000)) ((impl_gcdOf p_f.Num p_f.Den).bind fun t_2 => some (t_2 == 1)) (some false)) (some false)) (some false)) (some false)) : Option (Bool)).bind fun t_3 => some t_3)

noncomputable def impl_IsLoss (p_x : impl_Loss) : Option (Bool) :=
  ((((impl_IsFrac p_x.Ratio).bind fun t_2 => (cond t_2 ((impl_IsFrac p_x.Rho).bind fun t_3 => (cond t_3 (cond (decide (p_x.Ratio.Den ≤ p_x.Ratio.Num)) (some (decide (0 ≤ p_x.Rho.Num))) (some false)) (some false))) (some false))) : Option (Bool)).bind fun t_4 => some t_4)

noncomputable def impl_cmpFrac (p_a : impl_Frac) (p_b : impl_Frac) : Option (Int) :=
  (cond (decide ((w64 (p_a.Num * p_b.Den)) < (w64 (p_b.Num * p_a.Den)))) (some (-1)) (cond (decide ((w64 (p_b.Num * p_a.Den)) < (w64 (p_a.Num * p_b.Den)))) (some 1) (some 0)))

noncomputable def impl_isWithin (p_budget : impl_Loss) (p_x : impl_Loss) : Option (Bool) :=
  ((((impl_cmpFrac p_x.Ratio p_budget.Ratio).bind fun t_3 => (cond (decide (t_3 ≤ 0)) ((impl_cmpFrac p_x.Rho p_budget.Rho).bind fun t_4 => some (decide (t_4 ≤ 0))) (some false))) : Option (Bool)).bind fun t_5 => some t_5)

noncomputable def impl_reduced (p_n : Int) (p_d : Int) : Option (impl_Frac × Bool) :=
  ((impl_gcdOf p_n p_d).bind fun t_2 => ((goQuo .i64 p_n t_2).bind fun t_3 => ((goQuo .i64 p_d t_2).bind fun t_4 => (((cond (decide (t_4 < 0)) (some ((w64 (-t_3)), (w64 (-t_4)))) (some (t_3, t_4))) : Option (Int × Int)).bind fun (n_5, d_6) => (((cond (decide (1000000000 < n_5)) (some true) (cond (decide (n_5 < (-1000000000))) (some true) (some (decide (1000000000 < d_6))))) : Option (Bool)).bind fun t_7 => (cond t_7 (some ((impl_Frac.mk 0 0), false)) (some ((impl_Frac.mk n_5 d_6), true))))))))

noncomputable def impl_DivFrac (p_a : impl_Frac) (p_b : impl_Frac) : Option (impl_Frac × Bool) :=
  ((((impl_IsFrac p_a).bind fun t_4 => (cond (!t_4) (some true) ((impl_IsFrac p_b).bind fun t_5 => (cond (!t_5) (some true) (some (p_b.Num == 0)))))) : Option (Bool)).bind fun t_6 => (cond t_6 (some ((impl_Frac.mk 0 0), false)) ((impl_reduced (w64 (p_a.Num * p_b.Den)) (w64 (p_a.Den * p_b.Num))).bind fun t_7 => some (t_7.1, t_7.2))))

noncomputable def impl_SubFrac (p_a : impl_Frac) (p_b : impl_Frac) : Option (impl_Frac × Bool) :=
  ((((impl_IsFrac p_a).bind fun t_4 => (cond (!t_4) (some true) ((impl_IsFrac p_b).bind fun t_5 => some (!t_5)))) : Option (Bool)).bind fun t_6 => (cond t_6 (some ((impl_Frac.mk 0 0), false)) ((impl_reduced (w64 ((w64 (p_a.Num * p_b.Den)) - (w64 (p_b.Num * p_a.Den)))) (w64 (p_a.Den * p_b.Den))).bind fun t_7 => some (t_7.1, t_7.2))))

noncomputable def impl_RemainingLoss (p_budget : impl_Loss) (p_x : impl_Loss) : Option (impl_Loss × Bool) :=
  ((((impl_IsLoss p_budget).bind fun t_4 => (cond (!t_4) (some true) ((impl_IsLoss p_x).bind fun t_5 => (cond (!t_5) (some true) ((impl_isWithin p_budget p_x).bind fun t_6 => some (!t_6)))))) : Option (Bool)).bind fun t_7 => (cond t_7 (some ((impl_Loss.mk (impl_Frac.mk 0 0) (impl_Frac.mk 0 0)), false)) ((impl_DivFrac p_budget.Ratio p_x.Ratio).bind fun t_8 => (cond (!t_8.2) (some ((impl_Loss.mk (impl_Frac.mk 0 0) (impl_Frac.mk 0 0)), false)) ((impl_SubFrac p_budget.Rho p_x.Rho).bind fun t_10 => (cond (!t_10.2) (some ((impl_Loss.mk (impl_Frac.mk 0 0) (impl_Frac.mk 0 0)), false)) (some ((impl_Loss.mk t_8.1 t_10.1), true))))))))

noncomputable def laws_eqFrac (p_a : impl_Frac) (p_b : impl_Frac) : Option (Bool) :=
  (cond (p_a.Num != p_b.Num) (some false) (cond (p_a.Den != p_b.Den) (some false) (some true)))

noncomputable def laws_eqLoss (p_a : impl_Loss) (p_b : impl_Loss) : Option (Bool) :=
  ((laws_eqFrac p_a.Ratio p_b.Ratio).bind fun t_3 => (cond (!t_3) (some false) ((laws_eqFrac p_a.Rho p_b.Rho).bind fun t_4 => (cond (!t_4) (some false) (some true)))))

noncomputable def laws_FnExactRemainingLoss (p_aBudget : laws_Loss) (p_aX : laws_Loss) : Option (Bool) :=
  ((((laws_toLoss p_aBudget).bind fun t_5 => ((laws_toLoss p_aX).bind fun t_6 => ((spec_RemainingLoss t_5 t_6).bind fun t_7 => some (t_7.2, t_7.1)))) : Option (Bool × impl_Loss)).bind fun (w1_9, w0_10) => ((((laws_toLoss p_aBudget).bind fun t_13 => ((laws_toLoss p_aX).bind fun t_14 => ((impl_RemainingLoss t_13 t_14).bind fun t_15 => some (t_15.2, t_15.1)))) : Option (Bool × impl_Loss)).bind fun (g1_17, g0_18) => ((((laws_eqLoss g0_18 w0_10).bind fun t_19 => (cond (!t_19) (some true) (some (g1_17 != w1_9)))) : Option (Bool)).bind fun t_20 => (cond t_20 (some false) (some true)))))

noncomputable def spec_zRatio (p_a : impl_Frac) : Option (Bool) :=
  ((((spec_fGood p_a).bind fun t_2 => (cond t_2 (cond (decide (0 < p_a.Num)) (some (decide (p_a.Num < p_a.Den))) (some false)) (some false))) : Option (Bool)).bind fun t_3 => some t_3)

noncomputable def spec_fInt (p_n : Int) : Option (impl_Frac) :=
  some (impl_Frac.mk p_n 1)

noncomputable def spec_fAdd (p_a : impl_Frac) (p_b : impl_Frac) : Option (impl_Frac × Bool) :=
  ((spec_fMake (w64 ((w64 (p_a.Num * p_b.Den)) + (w64 (p_b.Num * p_a.Den)))) (w64 (p_a.Den * p_b.Den))).bind fun t_4 => some (t_4.1, t_4.2))

noncomputable def spec_zBase (p_a : impl_Frac) : Option (impl_Frac × Bool) :=
  ((((spec_fInt 1).bind fun t_5 => ((spec_fSub t_5 p_a).bind fun t_6 => some (t_6.2, t_6.1))) : Option (Bool × impl_Frac)).bind fun (one_8, x_9) => ((((spec_fInt 1).bind fun t_12 => ((spec_fAdd t_12 p_a).bind fun t_13 => some (t_13.2, t_13.1))) : Option (Bool × impl_Frac)).bind fun (two_15, y_16) => (((cond (!one_8) (some true) (some (!two_15))) : Option (Bool)).bind fun t_17 => (cond t_17 (some ((impl_Frac.mk 0 0), false)) ((spec_fDiv x_9 y_16).bind fun t_18 => some (t_18.1, t_18.2))))))

noncomputable def spec_fMul (p_a : impl_Frac) (p_b : impl_Frac) : Option (impl_Frac × Bool) :=
  ((spec_fMake (w64 (p_a.Num * p_b.Num)) (w64 (p_a.Den * p_b.Den))).bind fun t_4 => some (t_4.1, t_4.2))

noncomputable def spec_fPow_l1 (p_f : impl_Frac) : Int × impl_Frac → Option (Stp (Int × impl_Frac) ((impl_Frac) ⊕ (impl_Frac × Bool)))
  | (k_5, out_6) => (cond (decide (0 < k_5)) ((spec_fMul out_6 p_f).bind fun t_7 => (cond (!t_7.2) (some (.done (.inr ((impl_Frac.mk 0 0), false)))) (some (.next ((w64 (k_5 - 1)), t_7.1))))) (some (.done (.inl out_6))))

noncomputable def spec_fPow (p_f : impl_Frac) (p_k : Int) : Option (impl_Frac × Bool) :=
  ((spec_fInt 1).bind fun t_3 => ((loopC (spec_fPow_l1 p_f) (p_k, t_3)).bind fun | .inl out_9 => some (out_9, true) | .inr o => some o))

noncomputable def spec_zMass (p_a : impl_Frac) (p_k : Int) : Option (impl_Frac × Bool) :=
  ((spec_zBase p_a).bind fun t_3 => ((((spec_l1Abs p_k).bind fun t_6 => ((spec_fPow p_a t_6).bind fun t_7 => some (t_7.2, t_7.1))) : Option (Bool × impl_Frac)).bind fun (two_9, y_10) => (((cond (!t_3.2) (some true) (some (!two_9))) : Option (Bool)).bind fun t_11 => (cond t_11 (some ((impl_Frac.mk 0 0), false)) ((spec_fMul t_3.1 y_10).bind fun t_12 => some (t_12.1, t_12.2))))))

noncomputable def spec_GeoMass (p_a : impl_Frac) (p_k : Int) : Option (impl_Frac × Bool) :=
  ((((spec_zRatio p_a).bind fun t_3 => (cond (!t_3) (some true) ((spec_l1In p_k (-60) 60).bind fun t_4 => some (!t_4)))) : Option (Bool)).bind fun t_5 => (cond t_5 (some ((impl_Frac.mk 0 0), false)) ((spec_zMass p_a p_k).bind fun t_6 => some (t_6.1, t_6.2))))

noncomputable def impl_isRatio (p_a : impl_Frac) : Option (Bool) :=
  ((((impl_IsFrac p_a).bind fun t_2 => (cond t_2 (cond (decide (0 < p_a.Num)) (some (decide (p_a.Num < p_a.Den))) (some false)) (some false))) : Option (Bool)).bind fun t_3 => some t_3)

noncomputable def impl_AddFrac (p_a : impl_Frac) (p_b : impl_Frac) : Option (impl_Frac × Bool) :=
  ((((impl_IsFrac p_a).bind fun t_4 => (cond (!t_4) (some true) ((impl_IsFrac p_b).bind fun t_5 => some (!t_5)))) : Option (Bool)).bind fun t_6 => (cond t_6 (some ((impl_Frac.mk 0 0), false)) ((impl_reduced (w64 ((w64 (p_a.Num * p_b.Den)) + (w64 (p_b.Num * p_a.Den)))) (w64 (p_a.Den * p_b.Den))).bind fun t_7 => some (t_7.1, t_7.2))))

noncomputable def impl_moreOne (p_a : impl_Frac) : Option (impl_Frac × Bool) :=
  ((impl_AddFrac (impl_Frac.mk 1 1) p_a).bind fun t_3 => some (t_3.1, t_3.2))

noncomputable def impl_lessOne (p_a : impl_Frac) : Option (impl_Frac) :=
  some (impl_Frac.mk (w64 (p_a.Den - p_a.Num)) p_a.Den)

noncomputable def impl_MulFrac (p_a : impl_Frac) (p_b : impl_Frac) : Option (impl_Frac × Bool) :=
  ((((impl_IsFrac p_a).bind fun t_4 => (cond (!t_4) (some true) ((impl_IsFrac p_b).bind fun t_5 => some (!t_5)))) : Option (Bool)).bind fun t_6 => (cond t_6 (some ((impl_Frac.mk 0 0), false)) ((impl_reduced (w64 (p_a.Num * p_b.Num)) (w64 (p_a.Den * p_b.Den))).bind fun t_7 => some (t_7.1, t_7.2))))

noncomputable def impl_PowFrac_l1 (p_f : impl_Frac) (p_k : Int) : Int × impl_Frac → Option (Stp (Int × impl_Frac) ((impl_Frac) ⊕ (impl_Frac × Bool)))
  | (t_6, p_7) => (cond (decide (t_6 < p_k)) ((impl_MulFrac p_7 p_f).bind fun t_8 => (cond (!t_8.2) (some (.done (.inr ((impl_Frac.mk 0 0), false)))) (some (.next ((w64 (t_6 + 1)), t_8.1))))) (some (.done (.inl p_7))))

noncomputable def impl_PowFrac (p_f : impl_Frac) (p_k : Int) : Option (impl_Frac × Bool) :=
  ((((impl_IsFrac p_f).bind fun t_3 => (cond (!t_3) (some true) (cond (decide (p_k < 0)) (some true) (some (decide (60 < p_k)))))) : Option (Bool)).bind fun t_4 => (cond t_4 (some ((impl_Frac.mk 0 0), false)) ((loopC (impl_PowFrac_l1 p_f p_k) (0, (impl_Frac.mk 1 1))).bind fun | .inl p_10 => some (p_10, true) | .inr o => some o)))

noncomputable def impl_geoMass (p_a : impl_Frac) (p_k : Int) : Option (impl_Frac × Bool) :=
  ((impl_moreOne p_a).bind fun t_3 => (cond (!t_3.2) (some ((impl_Frac.mk 0 0), false)) ((((impl_lessOne p_a).bind fun t_7 => ((impl_DivFrac t_7 t_3.1).bind fun t_8 => some (t_8.2, t_8.1))) : Option (Bool × impl_Frac)).bind fun (ok_10, c_11) => (cond (!ok_10) (some ((impl_Frac.mk 0 0), false)) ((impl_PowFrac p_a p_k).bind fun t_12 => (cond (!t_12.2) (some ((impl_Frac.mk 0 0), false)) ((impl_MulFrac c_11 t_12.1).bind fun t_14 => some (t_14.1, t_14.2))))))))

noncomputable def impl_GeoMass (p_a : impl_Frac) (p_k : Int) : Option (impl_Frac × Bool) :=
  ((((impl_isRatio p_a).bind fun t_3 => (cond (!t_3) (some true) (cond (decide (p_k < (-60))) (some true) (some (decide (60 < p_k)))))) : Option (Bool)).bind fun t_4 => (cond t_4 (some ((impl_Frac.mk 0 0), false)) ((impl_geoMass p_a (max p_k (w64 (-p_k)))).bind fun t_5 => some (t_5.1, t_5.2))))

noncomputable def laws_FnExactGeoMass (p_aA : laws_Frac) (p_aK : Int) : Option (Bool) :=
  ((laws_toFrac p_aA).bind fun t_2 => ((spec_GeoMass t_2 p_aK).bind fun t_3 => ((laws_toFrac p_aA).bind fun t_5 => ((impl_GeoMass t_5 p_aK).bind fun t_6 => ((((laws_eqFrac t_6.1 t_3.1).bind fun t_8 => (cond (!t_8) (some true) (some (t_6.2 != t_3.2)))) : Option (Bool)).bind fun t_9 => (cond t_9 (some false) (some true)))))))

noncomputable def spec_zTail (p_a : impl_Frac) (p_k : Int) : Option (impl_Frac × Bool) :=
  ((spec_fPow p_a p_k).bind fun t_3 => ((((spec_fInt 1).bind fun t_7 => ((spec_fAdd t_7 p_a).bind fun t_8 => some (t_8.2, t_8.1))) : Option (Bool × impl_Frac)).bind fun (two_10, y_11) => (((cond (!t_3.2) (some true) (some (!two_10))) : Option (Bool)).bind fun t_12 => (cond t_12 (some ((impl_Frac.mk 0 0), false)) ((spec_fDiv t_3.1 y_11).bind fun t_13 => some (t_13.1, t_13.2))))))

noncomputable def spec_LeastRadius_l1 (p_a : impl_Frac) (p_delta : impl_Frac) (k_6 : Int) : Option (Stp (Int) ((Unit) ⊕ (Int × Bool))) :=
  (cond (decide (k_6 < 60)) ((spec_zTail p_a (w64 (k_6 + 1))).bind fun t_7 => ((((spec_fInt 2).bind fun t_10 => ((spec_fMul t_7.1 t_10).bind fun t_11 => some (t_11.2, t_11.1))) : Option (Bool × impl_Frac)).bind fun (two_13, y_14) => (((cond (!t_7.2) (some true) (some (!two_13))) : Option (Bool)).bind fun t_15 => (cond t_15 (some (.done (.inr (0, false)))) ((spec_fCmp y_14 p_delta).bind fun t_16 => (cond (decide (t_16 ≤ 0)) (some (.done (.inr (k_6, true)))) (some (.next (w64 (k_6 + 1)))))))))) (some (.done (.inl ()))))

noncomputable def spec_LeastRadius (p_a : impl_Frac) (p_delta : impl_Frac) : Option (Int × Bool) :=
  ((((spec_zRatio p_a).bind fun t_3 => (cond (!t_3) (some true) ((spec_fGood p_delta).bind fun t_4 => some (!t_4)))) : Option (Bool)).bind fun t_5 => (cond t_5 (some (0, false)) ((loopC (spec_LeastRadius_l1 p_a p_delta) 0).bind fun | .inl () => some (0, false) | .inr o => some o)))

noncomputable def impl_geoTail (p_a : impl_Frac) (p_k : Int) : Option (impl_Frac × Bool) :=
  ((impl_PowFrac p_a p_k).bind fun t_3 => (cond (!t_3.2) (some ((impl_Frac.mk 0 0), false)) ((impl_moreOne p_a).bind fun t_5 => (cond (!t_5.2) (some ((impl_Frac.mk 0 0), false)) ((impl_DivFrac t_3.1 t_5.1).bind fun t_7 => some (t_7.1, t_7.2))))))

noncomputable def impl_LeastRadius_l1 (p_a : impl_Frac) (p_delta : impl_Frac) (t_6 : Int) : Option (Stp (Int) ((Unit) ⊕ (Int × Bool))) :=
  (cond (decide (t_6 < 60)) ((impl_geoTail p_a (w64 (t_6 + 1))).bind fun t_7 => (cond (!t_7.2) (some (.done (.inr (0, false)))) ((impl_MulFrac (impl_Frac.mk 2 1) t_7.1).bind fun t_9 => (cond (!t_9.2) (some (.done (.inr (0, false)))) ((impl_cmpFrac t_9.1 p_delta).bind fun t_11 => (cond (decide (t_11 ≤ 0)) (some (.done (.inr (t_6, true)))) (some (.next (w64 (t_6 + 1)))))))))) (some (.done (.inl ()))))

noncomputable def impl_LeastRadius (p_a : impl_Frac) (p_delta : impl_Frac) : Option (Int × Bool) :=
  ((((impl_isRatio p_a).bind fun t_3 => (cond (!t_3) (some true) ((impl_IsFrac p_delta).bind fun t_4 => some (!t_4)))) : Option (Bool)).bind fun t_5 => (cond t_5 (some (0, false)) ((loopC (impl_LeastRadius_l1 p_a p_delta) 0).bind fun | .inl () => some (0, false) | .inr o => some o)))

noncomputable def laws_FnExactLeastRadius (p_aA : laws_Frac) (p_aDelta : laws_Frac) : Option (Bool) :=
  ((laws_toFrac p_aA).bind fun t_4 => ((laws_toFrac p_aDelta).bind fun t_5 => ((spec_LeastRadius t_4 t_5).bind fun t_6 => ((laws_toFrac p_aA).bind fun t_8 => ((laws_toFrac p_aDelta).bind fun t_9 => ((impl_LeastRadius t_8 t_9).bind fun t_10 => (((cond (t_10.1 != t_6.1) (some true) (some (t_10.2 != t_6.2))) : Option (Bool)).bind fun t_11 => (cond t_11 (some false) (some true)))))))))

end Go.Gx.F
