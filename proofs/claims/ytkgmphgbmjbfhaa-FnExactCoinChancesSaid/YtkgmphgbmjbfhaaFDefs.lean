/- The plain functions that the walks come to. -/
import Derived.Test.YtkgmphgbmjbfhaaGx
namespace Go.Gx.F
open Go.Gx
set_option linter.all false

structure impl_Frac where
  Num : Int
  Den : Int

instance : Rep impl_Frac where
  wd := 2
  rd m cs x := cs = [(.int .i64 x.Num), (.int .i64 x.Den)]
  mono _ h := h
  len h := by subst h; rfl
  one h := by subst h; rfl

instance : Flat impl_Frac := ⟨fun h => h⟩

instance : Rng impl_Frac := ⟨fun x => Rng.ok x.Num ∧ Rng.ok x.Den⟩

structure laws_Frac where
  Num : Int
  Den : Int

instance : Rep laws_Frac where
  wd := 2
  rd m cs x := cs = [(.int .i64 x.Num), (.int .i64 x.Den)]
  mono _ h := h
  len h := by subst h; rfl
  one h := by subst h; rfl

instance : Flat laws_Frac := ⟨fun h => h⟩

instance : Rng laws_Frac := ⟨fun x => Rng.ok x.Num ∧ Rng.ok x.Den⟩

noncomputable def laws_toFrac (p_a : laws_Frac) : Option (impl_Frac) :=
  some (impl_Frac.mk p_a.Num p_a.Den)

noncomputable def spec_l1In (p_n : Int) (p_lo : Int) (p_hi : Int) : Option (Bool) :=
  (((cond (decide (p_lo ≤ p_n)) (some (decide (p_n ≤ p_hi))) (some false)) : Option (Bool)).bind fun t_1 => some t_1)

noncomputable def spec_l1Most (p_a : Int) (p_b : Int) : Option (Int) :=
  (cond (decide (p_b < p_a)) (some p_a) (some p_b))

noncomputable def spec_l1Abs (p_n : Int) : Option (Int) :=
  ((spec_l1Most p_n (w64 (-p_n))).bind fun t_1 => some t_1)

noncomputable def spec_fGcd_l1  : Int × Int → Option (Stp (Int × Int) (Int))
  | (a_1, b_2) => (cond (b_2 != 0) ((goRem a_1 b_2).bind fun t_3 => some (.next (b_2, t_3))) (some (.done a_1)))

noncomputable def spec_fGcd (p_a : Int) (p_b : Int) : Option (Int) :=
  ((loopC (spec_fGcd_l1) (p_a, p_b)).bind fun a_4 => ((spec_l1Abs a_4).bind fun t_5 => some t_5))

noncomputable def spec_fGood (p_f : impl_Frac) : Option (Bool) :=
  ((((spec_l1In p_f.Den 1 1000000000).bind fun t_2 => (cond t_2 ((spec_l1In p_f.Num (-1000000000) 1000000000).bind fun t_3 => (cond t_3 ((spec_fGcd p_f.Num p_f.Den).bind fun t_4 => some (t_4 == 1)) (some false))) (some false))) : Option (Bool)).bind fun t_5 => some t_5)

noncomputable def spec_fInt (p_n : Int) : Option (impl_Frac) :=
  some (impl_Frac.mk p_n 1)

noncomputable def spec_l1Sign (p_n : Int) : Option (Int) :=
  (cond (decide (p_n < 0)) (some (-1)) (cond (decide (0 < p_n)) (some 1) (some 0)))

noncomputable def spec_fCmp (p_a : impl_Frac) (p_b : impl_Frac) : Option (Int) :=
  ((spec_l1Sign (w64 ((w64 (p_a.Num * p_b.Den)) - (w64 (p_b.Num * p_a.Den))))).bind fun t_3 => some t_3)

noncomputable def spec_kUnit (p_p : impl_Frac) (p_most : Int) : Option (Bool) :=
  ((((spec_fGood p_p).bind fun t_2 => (cond t_2 (cond (decide (0 ≤ p_p.Num)) ((spec_fInt p_most).bind fun t_3 => ((spec_fCmp p_p t_3).bind fun t_4 => some (decide (t_4 ≤ 0)))) (some false)) (some false))) : Option (Bool)).bind fun t_5 => some t_5)

noncomputable def spec_fMake (p_n : Int) (p_d : Int) : Option (impl_Frac × Bool) :=
  (cond (p_d == 0) (some ((impl_Frac.mk 0 0), false)) ((spec_fGcd p_n p_d).bind fun t_2 => (((cond (decide (p_d < 0)) (some (w64 (-t_2))) (some t_2)) : Option (Int)).bind fun g_3 => ((goQuo .i64 p_n g_3).bind fun t_4 => ((goQuo .i64 p_d g_3).bind fun t_5 => ((spec_fGood (impl_Frac.mk t_4 t_5)).bind fun t_7 => (cond (!t_7) (some ((impl_Frac.mk 0 0), false)) (some ((impl_Frac.mk t_4 t_5), true)))))))))

noncomputable def spec_fSub (p_a : impl_Frac) (p_b : impl_Frac) : Option (impl_Frac × Bool) :=
  ((spec_fMake (w64 ((w64 (p_a.Num * p_b.Den)) - (w64 (p_b.Num * p_a.Den)))) (w64 (p_a.Den * p_b.Den))).bind fun t_4 => some (t_4.1, t_4.2))

noncomputable def spec_fMul (p_a : impl_Frac) (p_b : impl_Frac) : Option (impl_Frac × Bool) :=
  ((spec_fMake (w64 (p_a.Num * p_b.Num)) (w64 (p_a.Den * p_b.Den))).bind fun t_4 => some (t_4.1, t_4.2))

noncomputable def spec_fPow_l1 (p_f : impl_Frac) : Int × impl_Frac → Option (Stp (Int × impl_Frac) ((impl_Frac) ⊕ (impl_Frac × Bool)))
  | (k_5, out_6) => (cond (decide (0 < k_5)) ((spec_fMul out_6 p_f).bind fun t_7 => (cond (!t_7.2) (some (.done (.inr ((impl_Frac.mk 0 0), false)))) (some (.next ((w64 (k_5 - 1)), t_7.1))))) (some (.done (.inl out_6))))

noncomputable def spec_fPow (p_f : impl_Frac) (p_k : Int) : Option (impl_Frac × Bool) :=
  ((spec_fInt 1).bind fun t_3 => ((loopC (spec_fPow_l1 p_f) (p_k, t_3)).bind fun | .inl out_9 => some (out_9, true) | .inr o => some o))

noncomputable def spec_kChoose_l1 (p_n : Int) (p_k : Int) : Int × Int → Option (Stp (Int × Int) (Int))
  | (out_1, i_2) => (cond (decide (i_2 ≤ p_k)) ((goQuo .i64 (w64 (out_1 * (w64 ((w64 (p_n - p_k)) + i_2)))) i_2).bind fun t_3 => some (.next (t_3, (w64 (i_2 + 1))))) (some (.done out_1)))

noncomputable def spec_kChoose (p_n : Int) (p_k : Int) : Option (Int) :=
  ((loopC (spec_kChoose_l1 p_n p_k) (1, 1)).bind fun out_4 => some out_4)

noncomputable def spec_CoinChances_l1 (p_p : impl_Frac) (p_n : Int) (rest_10 : impl_Frac) : (List impl_Frac) × Int → Option (Stp ((List impl_Frac) × Int) (((List impl_Frac)) ⊕ ((List impl_Frac) × Bool)))
  | (out_11, i_13) => (cond (decide (i_13 ≤ p_n)) ((spec_fPow p_p i_13).bind fun t_14 => ((spec_fPow rest_10 (w64 (p_n - i_13))).bind fun t_16 => (((cond (!t_14.2) (some true) (some (!t_16.2))) : Option (Bool)).bind fun t_18 => (cond t_18 (some (.done (.inr (([] : List impl_Frac), false)))) ((spec_fMul t_14.1 t_16.1).bind fun t_19 => ((((spec_kChoose p_n i_13).bind fun t_22 => ((spec_fInt t_22).bind fun t_23 => ((spec_fMul t_19.1 t_23).bind fun t_24 => some (t_24.2, t_24.1)))) : Option (Bool × impl_Frac)).bind fun (four_26, y_27) => (((cond (!t_19.2) (some true) (some (!four_26))) : Option (Bool)).bind fun t_28 => (cond t_28 (some (.done (.inr (([] : List impl_Frac), false)))) ((goApp 16 out_11 ([y_27] : List impl_Frac)).bind fun l_30 => some (.next (l_30, (w64 (i_13 + 1))))))))))))) (some (.done (.inl out_11))))

noncomputable def spec_CoinChances (p_p : impl_Frac) (p_n : Int) : Option ((List impl_Frac) × Bool) :=
  ((((spec_kUnit p_p 1).bind fun t_2 => (cond (!t_2) (some true) ((spec_l1In p_n 0 8).bind fun t_3 => some (!t_3)))) : Option (Bool)).bind fun t_4 => (cond t_4 (some (([] : List impl_Frac), false)) ((((spec_fInt 1).bind fun t_7 => ((spec_fSub t_7 p_p).bind fun t_8 => some t_8.1)) : Option (impl_Frac)).bind fun rest_10 => ((loopC (spec_CoinChances_l1 p_p p_n rest_10) (([] : List impl_Frac), 0)).bind fun | .inl out_32 => some (out_32, true) | .inr o => some o))))

noncomputable def impl_gcdOf_l1  : Int × Int → Option (Stp (Int × Int) (Int))
  | (a_3, b_4) => (cond (b_4 != 0) ((goRem a_3 b_4).bind fun t_5 => some (.next (b_4, t_5))) (some (.done a_3)))

noncomputable def impl_gcdOf (p_a : Int) (p_b : Int) : Option (Int) :=
  (((cond (decide (p_a < 0)) (some (w64 (-p_a))) (some p_a)) : Option (Int)).bind fun a_1 => (((cond (decide (p_b < 0)) (some (w64 (-p_b))) (some p_b)) : Option (Int)).bind fun b_2 => ((loopC (impl_gcdOf_l1) (a_1, b_2)).bind fun a_6 => some a_6)))

noncomputable def impl_IsFrac (p_f : impl_Frac) : Option (Bool) :=
  (((cond (decide (1 ≤ p_f.Den)) (cond (decide (p_f.Den ≤ 1000000000)) (cond (decide ((-1000000000) ≤ p_f.Num)) (cond (decide (p_f.Num ≤ 1000000000)) ((impl_gcdOf p_f.Num p_f.Den).bind fun t_2 => some (t_2 == 1)) (some false)) (some false)) (some false)) (some false)) : Option (Bool)).bind fun t_3 => some t_3)

noncomputable def impl_isChance (p_p : impl_Frac) : Option (Bool) :=
  ((((impl_IsFrac p_p).bind fun t_2 => (cond t_2 (cond (decide (0 ≤ p_p.Num)) (some (decide (p_p.Num ≤ p_p.Den))) (some false)) (some false))) : Option (Bool)).bind fun t_3 => some t_3)

noncomputable def impl_reduced (p_n : Int) (p_d : Int) : Option (impl_Frac × Bool) :=
  ((impl_gcdOf p_n p_d).bind fun t_2 => ((goQuo .i64 p_n t_2).bind fun t_3 => ((goQuo .i64 p_d t_2).bind fun t_4 => (((cond (decide (t_4 < 0)) (some ((w64 (-t_3)), (w64 (-t_4)))) (some (t_3, t_4))) : Option (Int × Int)).bind fun (n_5, d_6) => (((cond (decide (1000000000 < n_5)) (some true) (cond (decide (n_5 < (-1000000000))) (some true) (some (decide (1000000000 < d_6))))) : Option (Bool)).bind fun t_7 => (cond t_7 (some ((impl_Frac.mk 0 0), false)) (some ((impl_Frac.mk n_5 d_6), true))))))))

noncomputable def impl_MulFrac (p_a : impl_Frac) (p_b : impl_Frac) : Option (impl_Frac × Bool) :=
  ((((impl_IsFrac p_a).bind fun t_4 => (cond (!t_4) (some true) ((impl_IsFrac p_b).bind fun t_5 => some (!t_5)))) : Option (Bool)).bind fun t_6 => (cond t_6 (some ((impl_Frac.mk 0 0), false)) ((impl_reduced (w64 (p_a.Num * p_b.Num)) (w64 (p_a.Den * p_b.Den))).bind fun t_7 => some (t_7.1, t_7.2))))

noncomputable def impl_PowFrac_l1 (p_f : impl_Frac) (p_k : Int) : Int × impl_Frac → Option (Stp (Int × impl_Frac) ((impl_Frac) ⊕ (impl_Frac × Bool)))
  | (t_6, p_7) => (cond (decide (t_6 < p_k)) ((impl_MulFrac p_7 p_f).bind fun t_8 => (cond (!t_8.2) (some (.done (.inr ((impl_Frac.mk 0 0), false)))) (some (.next ((w64 (t_6 + 1)), t_8.1))))) (some (.done (.inl p_7))))

noncomputable def impl_PowFrac (p_f : impl_Frac) (p_k : Int) : Option (impl_Frac × Bool) :=
  ((((impl_IsFrac p_f).bind fun t_3 => (cond (!t_3) (some true) (cond (decide (p_k < 0)) (some true) (some (decide (60 < p_k)))))) : Option (Bool)).bind fun t_4 => (cond t_4 (some ((impl_Frac.mk 0 0), false)) ((loopC (impl_PowFrac_l1 p_f p_k) (0, (impl_Frac.mk 1 1))).bind fun | .inl p_10 => some (p_10, true) | .inr o => some o)))

noncomputable def impl_CoinChances_l1 (p_p : impl_Frac) (p_n : Int) (l_5 : List impl_Frac) : (List impl_Frac) × Int × Int → Option (Stp ((List impl_Frac) × Int × Int) (((List impl_Frac)) ⊕ ((List impl_Frac) × Bool)))
  | (out_7, ways_9, t_10) => (cond (decide (t_10 < (goLen l_5))) ((impl_PowFrac p_p t_10).bind fun t_11 => (cond (!t_11.2) (some (.done (.inr (([] : List impl_Frac), false)))) ((impl_PowFrac (impl_Frac.mk (w64 (p_p.Den - p_p.Num)) p_p.Den) (w64 (p_n - t_10))).bind fun t_13 => (cond (!t_13.2) (some (.done (.inr (([] : List impl_Frac), false)))) ((impl_MulFrac t_11.1 t_13.1).bind fun t_15 => (cond (!t_15.2) (some (.done (.inr (([] : List impl_Frac), false)))) ((impl_MulFrac (impl_Frac.mk ways_9 1) t_15.1).bind fun t_17 => ((goAt out_7 t_10).bind fun e_18 => (cond (!t_17.2) (some (.done (.inr (([] : List impl_Frac), false)))) ((goQuo .i64 (w64 (ways_9 * (w64 (p_n - t_10)))) (w64 (t_10 + 1))).bind fun t_21 => some (.next (goSet out_7 t_10 t_17.1, t_21, (w64 (t_10 + 1)))))))))))))) (some (.done (.inl out_7))))

noncomputable def impl_CoinChances (p_p : impl_Frac) (p_n : Int) : Option ((List impl_Frac) × Bool) :=
  ((((impl_isChance p_p).bind fun t_2 => (cond (!t_2) (some true) (cond (decide (p_n < 0)) (some true) (some (decide (8 < p_n)))))) : Option (Bool)).bind fun t_3 => (cond t_3 (some (([] : List impl_Frac), false)) ((goMake 16 (w64 (p_n + 1)) ((impl_Frac.mk 0 0) : impl_Frac)).bind fun l_5 => ((loopC (impl_CoinChances_l1 p_p p_n l_5) (l_5, 1, 0)).bind fun | .inl out_22 => some (out_22, true) | .inr o => some o))))

noncomputable def laws_eqFrac (p_a : impl_Frac) (p_b : impl_Frac) : Option (Bool) :=
  (cond (p_a.Num != p_b.Num) (some false) (cond (p_a.Den != p_b.Den) (some false) (some true)))

noncomputable def laws_eqFracS_l1 (p_a : List impl_Frac) (p_b : List impl_Frac) (i_3 : Int) : Option (Stp (Int) ((Unit) ⊕ (Bool))) :=
  (cond (decide (i_3 < (goLen p_a))) ((goAt p_a i_3).bind fun e_4 => ((goAt p_b i_3).bind fun e_6 => ((laws_eqFrac e_4 e_6).bind fun t_8 => (cond (!t_8) (some (.done (.inr false))) (some (.next (w64 (i_3 + 1)))))))) (some (.done (.inl ()))))

noncomputable def laws_eqFracS (p_a : List impl_Frac) (p_b : List impl_Frac) : Option (Bool) :=
  (cond ((goLen p_a) != (goLen p_b)) (some false) ((loopC (laws_eqFracS_l1 p_a p_b) 0).bind fun | .inl () => some true | .inr o => some o))

noncomputable def laws_markFracS_l1  : (List impl_Frac) × Int × Int → Option (Stp ((List impl_Frac) × Int × Int) ((List impl_Frac) × Int))
  | (a_2, k_4, i_5) => (cond (decide (i_5 < (goLen a_2))) ((goAt a_2 i_5).bind fun e_6 => ((goAt (goSet a_2 i_5 (impl_Frac.mk k_4 e_6.Den)) i_5).bind fun e_9 => some (.next (goSet (goSet a_2 i_5 (impl_Frac.mk k_4 e_6.Den)) i_5 (impl_Frac.mk e_9.Num (w64 (k_4 + 1))), (w64 ((w64 (k_4 + 1)) + 1)), (w64 (i_5 + 1)))))) (some (.done (a_2, k_4))))

noncomputable def laws_markFracS (p_a : List impl_Frac) (p_k : Int) : Option (Int × (List impl_Frac)) :=
  ((loopC (laws_markFracS_l1) (p_a, p_k, 0)).bind fun (a_12, k_14) => some (k_14, a_12))

noncomputable def laws_heldFracS_l1 (p_a : List impl_Frac) : Int × Int → Option (Stp (Int × Int) ((Int) ⊕ (Int)))
  | (k_2, i_3) => (cond (decide (i_3 < (goLen p_a))) ((goAt p_a i_3).bind fun e_4 => (cond (e_4.Num != k_2) (some (.done (.inr (-1)))) ((goAt p_a i_3).bind fun e_6 => (cond (e_6.Den != (w64 (k_2 + 1))) (some (.done (.inr (-1)))) (some (.next ((w64 ((w64 (k_2 + 1)) + 1)), (w64 (i_3 + 1))))))))) (some (.done (.inl k_2))))

noncomputable def laws_heldFracS (p_a : List impl_Frac) (p_k : Int) : Option (Int) :=
  ((loopC (laws_heldFracS_l1 p_a) (p_k, 0)).bind fun | .inl k_8 => some k_8 | .inr o => some o)

noncomputable def laws_FnExactCoinChances (p_aP : laws_Frac) (p_aN : Int) : Option (Bool) :=
  ((laws_toFrac p_aP).bind fun t_2 => ((spec_CoinChances t_2 p_aN).bind fun t_3 => ((laws_toFrac p_aP).bind fun t_6 => ((impl_CoinChances t_6 p_aN).bind fun t_7 => ((((laws_eqFracS t_7.1 t_3.1).bind fun t_10 => (cond (!t_10) (some true) (some (t_7.2 != t_3.2)))) : Option (Bool)).bind fun t_12 => (cond t_12 (some false) ((laws_markFracS t_7.1 1).bind fun t_14 => ((laws_heldFracS t_14.2 1).bind fun t_16 => (cond (decide (t_16 < 0)) (some false) (cond (t_16 != t_14.1) (some false) ((laws_toFrac p_aP).bind fun t_18 => ((impl_CoinChances t_18 p_aN).bind fun t_19 => ((((laws_eqFracS t_19.1 t_3.1).bind fun t_22 => (cond (!t_22) (some true) (some (t_19.2 != t_3.2)))) : Option (Bool)).bind fun t_24 => (cond t_24 (some false) ((laws_heldFracS t_14.2 1).bind fun t_25 => (cond (decide (t_25 < 0)) (some false) (cond (t_25 != t_14.1) (some false) (some true))))))))))))))))))

end Go.Gx.F
