/- The plain functions that the walks come to. -/
import Derived.Test.YtkgmphgbmjbfhaaGx
namespace Go.Gx.F
open Go.Gx
set_option linter.all false

structure impl_Frac where
  Num : Int
  Den : Int

instance : Rep impl_Frac where
  wd := 2
  rd m cs x := cs = [(.int .i64 x.Num), (.int .i64 x.Den)]
  mono _ h := h
  len h := by subst h; rfl
  one h := by subst h; rfl

instance : Flat impl_Frac := ⟨fun h => h⟩

instance : Rng impl_Frac := ⟨fun x => Rng.ok x.Num ∧ Rng.ok x.Den⟩

structure laws_Frac where
  Num : Int
  Den : Int

instance : Rep laws_Frac where
  wd := 2
  rd m cs x := cs = [(.int .i64 x.Num), (.int .i64 x.Den)]
  mono _ h := h
  len h := by subst h; rfl
  one h := by subst h; rfl

instance : Flat laws_Frac := ⟨fun h => h⟩

instance : Rng laws_Frac := ⟨fun x => Rng.ok x.Num ∧ Rng.ok x.Den⟩

noncomputable def laws_toFrac (p_a : laws_Frac) : Option (impl_Frac) :=
  some (impl_Frac.mk p_a.Num p_a.Den)

noncomputable def laws_toIntS_l1 (p_a : List Int) : (List Int) × Int → Option (Stp ((List Int) × Int) ((List Int)))
  | (out_4, i_6) => (cond (decide (i_6 < (goLen p_a))) ((goAt p_a i_6).bind fun e_7 => ((goAt out_4 i_6).bind fun e_9 => some (.next (goSet out_4 i_6 e_7, (w64 (i_6 + 1)))))) (some (.done out_4)))

noncomputable def laws_toIntS (p_a : List Int) : Option ((List Int)) :=
  ((goMake 8 (goLen p_a) (0 : Int)).bind fun l_2 => ((loopC (laws_toIntS_l1 p_a) (l_2, 0)).bind fun out_12 => some out_12))

noncomputable def spec_l1In (p_n : Int) (p_lo : Int) (p_hi : Int) : Option (Bool) :=
  (((cond (decide (p_lo ≤ p_n)) (some (decide (p_n ≤ p_hi))) (some false)) : Option (Bool)).bind fun t_1 => some t_1)

noncomputable def spec_l1Most (p_a : Int) (p_b : Int) : Option (Int) :=
  (cond (decide (p_b < p_a)) (some p_a) (some p_b))

noncomputable def spec_l1Abs (p_n : Int) : Option (Int) :=
  ((spec_l1Most p_n (w64 (-p_n))).bind fun t_1 => some t_1)

noncomputable def spec_fGcd_l1  : Int × Int → Option (Stp (Int × Int) (Int))
  | (a_1, b_2) => (cond (b_2 != 0) ((goRem a_1 b_2).bind fun t_3 => some (.next (b_2, t_3))) (some (.done a_1)))

noncomputable def spec_fGcd (p_a : Int) (p_b : Int) : Option (Int) :=
  ((loopC (spec_fGcd_l1) (p_a, p_b)).bind fun a_4 => ((spec_l1Abs a_4).bind fun t_5 => some t_5))

noncomputable def spec_fGood (p_f : impl_Frac) : Option (Bool) :=
  ((((spec_l1In p_f.Den 1 1000000000).bind fun t_2 => (cond t_2 ((spec_l1In p_f.Num (-1000000000) 1000000000).bind fun t_3 => (cond t_3 ((spec_fGcd p_f.Num p_f.Den).bind fun t_4 => some (t_4 == 1)) (some false))) (some false))) : Option (Bool)).bind fun t_5 => some t_5)

noncomputable def spec_l1All_l1 (p_l : List Int) (p_lo : Int) (p_hi : Int) (t_2 : Int) : Option (Stp (Int) ((Unit) ⊕ (Bool))) :=
  (cond (decide (t_2 < (goLen p_l))) ((goAt p_l t_2).bind fun e_3 => ((spec_l1In e_3 p_lo p_hi).bind fun t_5 => (cond (!t_5) (some (.done (.inr false))) (some (.next (w64 (t_2 + 1))))))) (some (.done (.inl ()))))

noncomputable def spec_l1All (p_l : List Int) (p_lo : Int) (p_hi : Int) : Option (Bool) :=
  ((loopC (spec_l1All_l1 p_l p_lo p_hi) 0).bind fun | .inl () => some true | .inr o => some o)

noncomputable def spec_fMake (p_n : Int) (p_d : Int) : Option (impl_Frac × Bool) :=
  (cond (p_d == 0) (some ((impl_Frac.mk 0 0), false)) ((spec_fGcd p_n p_d).bind fun t_2 => (((cond (decide (p_d < 0)) (some (w64 (-t_2))) (some t_2)) : Option (Int)).bind fun g_3 => ((goQuo .i64 p_n g_3).bind fun t_4 => ((goQuo .i64 p_d g_3).bind fun t_5 => ((spec_fGood (impl_Frac.mk t_4 t_5)).bind fun t_7 => (cond (!t_7) (some ((impl_Frac.mk 0 0), false)) (some ((impl_Frac.mk t_4 t_5), true)))))))))

noncomputable def spec_fMul (p_a : impl_Frac) (p_b : impl_Frac) : Option (impl_Frac × Bool) :=
  ((spec_fMake (w64 (p_a.Num * p_b.Num)) (w64 (p_a.Den * p_b.Den))).bind fun t_4 => some (t_4.1, t_4.2))

noncomputable def spec_SplitRho_l1 (p_weights : List Int) : Int × Int → Option (Stp (Int × Int) (Int))
  | (sum_7, t_8) => (cond (decide (t_8 < (goLen p_weights))) ((goAt p_weights t_8).bind fun e_9 => some (.next ((w64 (sum_7 + e_9)), (w64 (t_8 + 1))))) (some (.done sum_7)))

noncomputable def spec_SplitRho_l2 (p_rho : impl_Frac) (p_weights : List Int) (sum_11 : Int) : (List impl_Frac) × Int → Option (Stp ((List impl_Frac) × Int) (((List impl_Frac)) ⊕ ((List impl_Frac) × Bool)))
  | (out_12, t_14) => (cond (decide (t_14 < (goLen p_weights))) ((goAt p_weights t_14).bind fun e_15 => ((spec_fMake e_15 sum_11).bind fun t_17 => ((spec_fMul p_rho t_17.1).bind fun t_19 => (((cond (!t_17.2) (some true) (some (!t_19.2))) : Option (Bool)).bind fun t_21 => (cond t_21 (some (.done (.inr (([] : List impl_Frac), false)))) ((goApp 16 out_12 ([t_19.1] : List impl_Frac)).bind fun l_23 => some (.next (l_23, (w64 (t_14 + 1)))))))))) (some (.done (.inl out_12))))

noncomputable def spec_SplitRho (p_rho : impl_Frac) (p_weights : List Int) : Option ((List impl_Frac) × Bool) :=
  ((((spec_fGood p_rho).bind fun t_3 => (cond (!t_3) (some true) (cond (decide (p_rho.Num < 0)) (some true) ((spec_l1In (goLen p_weights) 1 30).bind fun t_4 => (cond (!t_4) (some true) ((spec_l1All p_weights 1 1000).bind fun t_5 => some (!t_5))))))) : Option (Bool)).bind fun t_6 => (cond t_6 (some (([] : List impl_Frac), false)) ((loopC (spec_SplitRho_l1 p_weights) (0, 0)).bind fun sum_11 => ((loopC (spec_SplitRho_l2 p_rho p_weights sum_11) (([] : List impl_Frac), 0)).bind fun | .inl out_25 => some (out_25, true) | .inr o => some o))))

noncomputable def impl_gcdOf_l1  : Int × Int → Option (Stp (Int × Int) (Int))
  | (a_3, b_4) => (cond (b_4 != 0) ((goRem a_3 b_4).bind fun t_5 => some (.next (b_4, t_5))) (some (.done a_3)))

noncomputable def impl_gcdOf (p_a : Int) (p_b : Int) : Option (Int) :=
  (((cond (decide (p_a < 0)) (some (w64 (-p_a))) (some p_a)) : Option (Int)).bind fun a_1 => (((cond (decide (p_b < 0)) (some (w64 (-p_b))) (some p_b)) : Option (Int)).bind fun b_2 => ((loopC (impl_gcdOf_l1) (a_1, b_2)).bind fun a_6 => some a_6)))

noncomputable def impl_IsFrac (p_f : impl_Frac) : Option (Bool) :=
  (((cond (decide (1 ≤ p_f.Den)) (cond (decide (p_f.Den ≤ 1000000000)) (cond (decide ((-1000000000) ≤ p_f.Num)) (cond (decide (p_f.Num ≤ 1000000000)) ((impl_gcdOf p_f.Num p_f.Den).bind fun t_2 => some (t_2 == 1)) (some false)) (some false)) (some false)) (some false)) : Option (Bool)).bind fun t_3 => some t_3)

noncomputable def impl_total_l1 (p_l : List Int) : Int × Int → Option (Stp (Int × Int) (Int))
  | (sum_2, t_3) => (cond (decide (t_3 < (goLen p_l))) ((goAt p_l t_3).bind fun e_4 => some (.next ((w64 (sum_2 + e_4)), (w64 (t_3 + 1))))) (some (.done sum_2)))

noncomputable def impl_total (p_l : List Int) : Option (Int) :=
  ((loopC (impl_total_l1 p_l) (0, 0)).bind fun sum_6 => some sum_6)

noncomputable def impl_reduced (p_n : Int) (p_d : Int) : Option (impl_Frac × Bool) :=
  ((impl_gcdOf p_n p_d).bind fun t_2 => ((goQuo .i64 p_n t_2).bind fun t_3 => ((goQuo .i64 p_d t_2).bind fun t_4 => (((cond (decide (t_4 < 0)) (some ((w64 (-t_3)), (w64 (-t_4)))) (some (t_3, t_4))) : Option (Int × Int)).bind fun (n_5, d_6) => (((cond (decide (1000000000 < n_5)) (some true) (cond (decide (n_5 < (-1000000000))) (some true) (some (decide (1000000000 < d_6))))) : Option (Bool)).bind fun t_7 => (cond t_7 (some ((impl_Frac.mk 0 0), false)) (some ((impl_Frac.mk n_5 d_6), true))))))))

noncomputable def impl_MulFrac (p_a : impl_Frac) (p_b : impl_Frac) : Option (impl_Frac × Bool) :=
  ((((impl_IsFrac p_a).bind fun t_4 => (cond (!t_4) (some true) ((impl_IsFrac p_b).bind fun t_5 => some (!t_5)))) : Option (Bool)).bind fun t_6 => (cond t_6 (some ((impl_Frac.mk 0 0), false)) ((impl_reduced (w64 (p_a.Num * p_b.Num)) (w64 (p_a.Den * p_b.Den))).bind fun t_7 => some (t_7.1, t_7.2))))

noncomputable def impl_SplitRho_l1 (p_weights : List Int) (t_5 : Int) : Option (Stp (Int) ((Unit) ⊕ ((List impl_Frac) × Bool))) :=
  (cond (decide (t_5 < (goLen p_weights))) ((goAt p_weights t_5).bind fun e_6 => (((cond (decide (e_6 < 1)) (some true) (some (decide (1000 < e_6)))) : Option (Bool)).bind fun t_8 => (cond t_8 (some (.done (.inr (([] : List impl_Frac), false)))) (some (.next (w64 (t_5 + 1))))))) (some (.done (.inl ()))))

noncomputable def impl_SplitRho_l2 (p_rho : impl_Frac) (p_weights : List Int) (t_9 : Int) : (List impl_Frac) × Int → Option (Stp ((List impl_Frac) × Int) (((List impl_Frac)) ⊕ ((List impl_Frac) × Bool)))
  | (out_12, t_14) => (cond (decide (t_14 < (goLen p_weights))) ((goAt p_weights t_14).bind fun e_15 => ((impl_reduced e_15 t_9).bind fun t_17 => (cond (!t_17.2) (some (.done (.inr (([] : List impl_Frac), false)))) ((impl_MulFrac t_17.1 p_rho).bind fun t_19 => ((goAt out_12 t_14).bind fun e_20 => (cond (!t_19.2) (some (.done (.inr (([] : List impl_Frac), false)))) (some (.next (goSet out_12 t_14 t_19.1, (w64 (t_14 + 1))))))))))) (some (.done (.inl out_12))))

noncomputable def impl_SplitRho (p_rho : impl_Frac) (p_weights : List Int) : Option ((List impl_Frac) × Bool) :=
  ((((impl_IsFrac p_rho).bind fun t_3 => (cond (!t_3) (some true) (cond (decide (p_rho.Num < 0)) (some true) (cond (decide ((goLen p_weights) < 1)) (some true) (some (decide (30 < (goLen p_weights)))))))) : Option (Bool)).bind fun t_4 => (cond t_4 (some (([] : List impl_Frac), false)) ((loopC (impl_SplitRho_l1 p_weights) 0).bind fun | .inl () => ((impl_total p_weights).bind fun t_9 => ((goMake 16 (goLen p_weights) ((impl_Frac.mk 0 0) : impl_Frac)).bind fun l_10 => ((loopC (impl_SplitRho_l2 p_rho p_weights t_9) (l_10, 0)).bind fun | .inl out_23 => some (out_23, true) | .inr o => some o))) | .inr o => some o)))

noncomputable def laws_eqFrac (p_a : impl_Frac) (p_b : impl_Frac) : Option (Bool) :=
  (cond (p_a.Num != p_b.Num) (some false) (cond (p_a.Den != p_b.Den) (some false) (some true)))

noncomputable def laws_eqFracS_l1 (p_a : List impl_Frac) (p_b : List impl_Frac) (i_3 : Int) : Option (Stp (Int) ((Unit) ⊕ (Bool))) :=
  (cond (decide (i_3 < (goLen p_a))) ((goAt p_a i_3).bind fun e_4 => ((goAt p_b i_3).bind fun e_6 => ((laws_eqFrac e_4 e_6).bind fun t_8 => (cond (!t_8) (some (.done (.inr false))) (some (.next (w64 (i_3 + 1)))))))) (some (.done (.inl ()))))

noncomputable def laws_eqFracS (p_a : List impl_Frac) (p_b : List impl_Frac) : Option (Bool) :=
  (cond ((goLen p_a) != (goLen p_b)) (some false) ((loopC (laws_eqFracS_l1 p_a p_b) 0).bind fun | .inl () => some true | .inr o => some o))

noncomputable def laws_eqIntS_l1 (p_a : List Int) (p_b : List Int) (i_3 : Int) : Option (Stp (Int) ((Unit) ⊕ (Bool))) :=
  (cond (decide (i_3 < (goLen p_a))) ((goAt p_a i_3).bind fun e_4 => ((goAt p_b i_3).bind fun e_6 => (cond (e_4 != e_6) (some (.done (.inr false))) (some (.next (w64 (i_3 + 1))))))) (some (.done (.inl ()))))

noncomputable def laws_eqIntS (p_a : List Int) (p_b : List Int) : Option (Bool) :=
  (cond ((goLen p_a) != (goLen p_b)) (some false) ((loopC (laws_eqIntS_l1 p_a p_b) 0).bind fun | .inl () => some true | .inr o => some o))

noncomputable def laws_markIntS_l1  : (List Int) × Int × Int → Option (Stp ((List Int) × Int × Int) ((List Int) × Int))
  | (a_2, k_4, i_5) => (cond (decide (i_5 < (goLen a_2))) ((goAt a_2 i_5).bind fun e_6 => some (.next (goSet a_2 i_5 k_4, (w64 (k_4 + 1)), (w64 (i_5 + 1))))) (some (.done (a_2, k_4))))

noncomputable def laws_markIntS (p_a : List Int) (p_k : Int) : Option (Int × (List Int)) :=
  ((loopC (laws_markIntS_l1) (p_a, p_k, 0)).bind fun (a_9, k_11) => some (k_11, a_9))

noncomputable def laws_markFracS_l1  : (List impl_Frac) × Int × Int → Option (Stp ((List impl_Frac) × Int × Int) ((List impl_Frac) × Int))
  | (a_2, k_4, i_5) => (cond (decide (i_5 < (goLen a_2))) ((goAt a_2 i_5).bind fun e_6 => ((goAt (goSet a_2 i_5 (impl_Frac.mk k_4 e_6.Den)) i_5).bind fun e_9 => some (.next (goSet (goSet a_2 i_5 (impl_Frac.mk k_4 e_6.Den)) i_5 (impl_Frac.mk e_9.Num (w64 (k_4 + 1))), (w64 ((w64 (k_4 + 1)) + 1)), (w64 (i_5 + 1)))))) (some (.done (a_2, k_4))))

noncomputable def laws_markFracS (p_a : List impl_Frac) (p_k : Int) : Option (Int × (List impl_Frac)) :=
  ((loopC (laws_markFracS_l1) (p_a, p_k, 0)).bind fun (a_12, k_14) => some (k_14, a_12))

noncomputable def laws_heldFracS_l1 (p_a : List impl_Frac) : Int × Int → Option (Stp (Int × Int) ((Int) ⊕ (Int)))
  | (k_2, i_3) => (cond (decide (i_3 < (goLen p_a))) ((goAt p_a i_3).bind fun e_4 => (cond (e_4.Num != k_2) (some (.done (.inr (-1)))) ((goAt p_a i_3).bind fun e_6 => (cond (e_6.Den != (w64 (k_2 + 1))) (some (.done (.inr (-1)))) (some (.next ((w64 ((w64 (k_2 + 1)) + 1)), (w64 (i_3 + 1))))))))) (some (.done (.inl k_2))))

noncomputable def laws_heldFracS (p_a : List impl_Frac) (p_k : Int) : Option (Int) :=
  ((loopC (laws_heldFracS_l1 p_a) (p_k, 0)).bind fun | .inl k_8 => some k_8 | .inr o => some o)

noncomputable def laws_FnExactSplitRho (p_aRho : laws_Frac) (p_aWeights : List Int) : Option (Bool) :=
  (cond (decide (1048576 < (goLen p_aWeights))) (some true) ((laws_toFrac p_aRho).bind fun t_3 => ((laws_toIntS p_aWeights).bind fun t_4 => ((spec_SplitRho t_3 t_4).bind fun t_7 => ((laws_toIntS p_aWeights).bind fun t_11 => ((laws_toFrac p_aRho).bind fun t_14 => ((impl_SplitRho t_14 t_11).bind fun t_15 => ((((laws_eqFracS t_15.1 t_7.1).bind fun t_19 => (cond (!t_19) (some true) (some (t_15.2 != t_7.2)))) : Option (Bool)).bind fun t_21 => (cond t_21 (some false) ((laws_toIntS p_aWeights).bind fun t_22 => ((laws_eqIntS t_11 t_22).bind fun t_25 => (cond (!t_25) (some false) ((laws_markIntS t_11 1).bind fun t_28 => (((cond (decide (t_28.1 < 0)) (some true) ((laws_eqFracS t_15.1 t_7.1).bind fun t_30 => (cond (!t_30) (some true) (some (t_15.2 != t_7.2))))) : Option (Bool)).bind fun t_32 => (cond t_32 (some false) ((laws_markFracS t_15.1 1).bind fun t_34 => ((laws_heldFracS t_34.2 1).bind fun t_36 => (cond (decide (t_36 < 0)) (some false) (cond (t_36 != t_34.1) (some false) ((laws_toFrac p_aRho).bind fun t_38 => ((laws_toIntS p_aWeights).bind fun t_39 => ((impl_SplitRho t_38 t_39).bind fun t_42 => ((((laws_eqFracS t_42.1 t_7.1).bind fun t_46 => (cond (!t_46) (some true) (some (t_42.2 != t_7.2)))) : Option (Bool)).bind fun t_48 => (cond t_48 (some false) ((laws_heldFracS t_34.2 1).bind fun t_49 => (cond (decide (t_49 < 0)) (some false) (cond (t_49 != t_34.1) (some false) (some true))))))))))))))))))))))))))))

end Go.Gx.F
