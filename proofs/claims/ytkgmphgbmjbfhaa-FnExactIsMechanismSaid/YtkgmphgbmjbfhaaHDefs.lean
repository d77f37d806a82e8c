/- The plain functions that the walks come to. -/
import Derived.Test.YtkgmphgbmjbfhaaGx
namespace Go.Gx.F
open Go.Gx
set_option linter.all false

structure laws_Frac where
  Num : Int
  Den : Int

instance : Rep laws_Frac where
  wd := 2
  rd m cs x := cs = [(.int .i64 x.Num), (.int .i64 x.Den)]
  mono _ h := h
  len h := by subst h; rfl
  one h := by subst h; rfl

instance : Flat laws_Frac := ⟨fun h => h⟩

instance : Rng laws_Frac := ⟨fun x => Rng.ok x.Num ∧ Rng.ok x.Den⟩

structure laws_Mechanism where
  Rows : List (List laws_Frac)

instance : Rep laws_Mechanism where
  wd := 1
  rd m cs x := ∃ s1 : Sl, cs = [s1.v] ∧ Rd m s1 x.Rows
  mono hm h := by
    obtain ⟨s1, rfl, h1⟩ := h
    exact ⟨s1, rfl, h1.mono hm⟩
  len h := by obtain ⟨s1, rfl, _⟩ := h; rfl
  one h := by obtain ⟨s1, rfl, _⟩ := h; rfl

instance : Rng laws_Mechanism := ⟨fun x => Rng.ok x.Rows⟩

structure impl_Frac where
  Num : Int
  Den : Int

instance : Rep impl_Frac where
  wd := 2
  rd m cs x := cs = [(.int .i64 x.Num), (.int .i64 x.Den)]
  mono _ h := h
  len h := by subst h; rfl
  one h := by subst h; rfl

instance : Flat impl_Frac := ⟨fun h => h⟩

instance : Rng impl_Frac := ⟨fun x => Rng.ok x.Num ∧ Rng.ok x.Den⟩

structure impl_Mechanism where
  Rows : List (List impl_Frac)

instance : Rep impl_Mechanism where
  wd := 1
  rd m cs x := ∃ s1 : Sl, cs = [s1.v] ∧ Rd m s1 x.Rows
  mono hm h := by
    obtain ⟨s1, rfl, h1⟩ := h
    exact ⟨s1, rfl, h1.mono hm⟩
  len h := by obtain ⟨s1, rfl, _⟩ := h; rfl
  one h := by obtain ⟨s1, rfl, _⟩ := h; rfl

instance : Rng impl_Mechanism := ⟨fun x => Rng.ok x.Rows⟩

noncomputable def laws_szFracS (p_a : List laws_Frac) (p_left : Int) : Option (Int) :=
  (cond (decide ((w64 (p_left - (goLen p_a))) < 0)) (some (-1)) (some (w64 (p_left - (goLen p_a)))))

noncomputable def laws_szFracSS_l1 (p_a : List (List laws_Frac)) : Int × Int → Option (Stp (Int × Int) ((Int) ⊕ (Int)))
  | (left_2, i_3) => (cond (decide (i_3 < (goLen p_a))) ((goAt p_a i_3).bind fun e_4 => ((laws_szFracS e_4 left_2).bind fun t_7 => (cond (decide (t_7 < 0)) (some (.done (.inr (-1)))) (some (.next (t_7, (w64 (i_3 + 1)))))))) (some (.done (.inl left_2))))

noncomputable def laws_szFracSS (p_a : List (List laws_Frac)) (p_left : Int) : Option (Int) :=
  (cond (decide ((w64 (p_left - (goLen p_a))) < 0)) (some (-1)) ((loopC (laws_szFracSS_l1 p_a) ((w64 (p_left - (goLen p_a))), 0)).bind fun | .inl left_8 => some left_8 | .inr o => some o))

noncomputable def laws_szMechanism (p_a : laws_Mechanism) (p_left : Int) : Option (Int) :=
  ((laws_szFracSS p_a.Rows p_left).bind fun t_3 => (cond (decide (t_3 < 0)) (some (-1)) (some t_3)))

noncomputable def laws_toFrac (p_a : laws_Frac) : Option (impl_Frac) :=
  some (impl_Frac.mk p_a.Num p_a.Den)

noncomputable def laws_toFracS_l1 (p_a : List laws_Frac) : (List impl_Frac) × Int → Option (Stp ((List impl_Frac) × Int) ((List impl_Frac)))
  | (out_4, i_6) => (cond (decide (i_6 < (goLen p_a))) ((goAt p_a i_6).bind fun e_7 => ((laws_toFrac e_7).bind fun t_9 => ((goAt out_4 i_6).bind fun e_10 => some (.next (goSet out_4 i_6 t_9, (w64 (i_6 + 1))))))) (some (.done out_4)))

noncomputable def laws_toFracS (p_a : List laws_Frac) : Option ((List impl_Frac)) :=
  ((goMake 16 (goLen p_a) ((impl_Frac.mk 0 0) : impl_Frac)).bind fun l_2 => ((loopC (laws_toFracS_l1 p_a) (l_2, 0)).bind fun out_13 => some out_13))

noncomputable def laws_toFracSS_l1 (p_a : List (List laws_Frac)) : (List (List impl_Frac)) × Int → Option (Stp ((List (List impl_Frac)) × Int) ((List (List impl_Frac))))
  | (out_4, i_6) => (cond (decide (i_6 < (goLen p_a))) ((goAt p_a i_6).bind fun e_8 => ((laws_toFracS e_8).bind fun t_11 => ((goAt out_4 i_6).bind fun e_14 => some (.next (goSet out_4 i_6 t_11, (w64 (i_6 + 1))))))) (some (.done out_4)))

noncomputable def laws_toFracSS (p_a : List (List laws_Frac)) : Option ((List (List impl_Frac))) :=
  ((goMake 24 (goLen p_a) (([] : List impl_Frac) : List impl_Frac)).bind fun l_2 => ((loopC (laws_toFracSS_l1 p_a) (l_2, 0)).bind fun out_19 => some out_19))

noncomputable def laws_toMechanism (p_a : laws_Mechanism) : Option (impl_Mechanism) :=
  ((laws_toFracSS p_a.Rows).bind fun t_5 => some (impl_Mechanism.mk t_5))

noncomputable def spec_l1In (p_n : Int) (p_lo : Int) (p_hi : Int) : Option (Bool) :=
  (((cond (decide (p_lo ≤ p_n)) (some (decide (p_n ≤ p_hi))) (some false)) : Option (Bool)).bind fun t_1 => some t_1)

noncomputable def spec_l1Most (p_a : Int) (p_b : Int) : Option (Int) :=
  (cond (decide (p_b < p_a)) (some p_a) (some p_b))

noncomputable def spec_l1Abs (p_n : Int) : Option (Int) :=
  ((spec_l1Most p_n (w64 (-p_n))).bind fun t_1 => some t_1)

noncomputable def spec_fGcd_l1  : Int × Int → Option (Stp (Int × Int) (Int))
  | (a_1, b_2) => (cond (b_2 != 0) ((goRem a_1 b_2).bind fun t_3 => some (.next (b_2, t_3))) (some (.done a_1)))

noncomputable def spec_fGcd (p_a : Int) (p_b : Int) : Option (Int) :=
  ((loopC (spec_fGcd_l1) (p_a, p_b)).bind fun a_4 => ((spec_l1Abs a_4).bind fun t_5 => some t_5))

noncomputable def spec_fGood (p_f : impl_Frac) : Option (Bool) :=
  ((((spec_l1In p_f.Den 1 1000000000).bind fun t_2 => (cond t_2 ((spec_l1In p_f.Num (-1000000000) 1000000000).bind fun t_3 => (cond t_3 ((spec_fGcd p_f.Num p_f.Den).bind fun t_4 => some (t_4 == 1)) (some false))) (some false))) : Option (Bool)).bind fun t_5 => some t_5)

noncomputable def spec_fInt (p_n : Int) : Option (impl_Frac) :=
  some (impl_Frac.mk p_n 1)

noncomputable def spec_fMake (p_n : Int) (p_d : Int) : Option (impl_Frac × Bool) :=
  (cond (p_d == 0) (some ((impl_Frac.mk 0 0), false)) ((spec_fGcd p_n p_d).bind fun t_2 => (((cond (decide (p_d < 0)) (some (w64 (-t_2))) (some t_2)) : Option (Int)).bind fun g_3 => ((goQuo .i64 p_n g_3).bind fun t_4 => ((goQuo .i64 p_d g_3).bind fun t_5 => ((spec_fGood (impl_Frac.mk t_4 t_5)).bind fun t_7 => (cond (!t_7) (some ((impl_Frac.mk 0 0), false)) (some ((impl_Frac.mk t_4 t_5), true)))))))))

noncomputable def spec_fAdd (p_a : impl_Frac) (p_b : impl_Frac) : Option (impl_Frac × Bool) :=
  ((spec_fMake (w64 ((w64 (p_a.Num * p_b.Den)) + (w64 (p_b.Num * p_a.Den)))) (w64 (p_a.Den * p_b.Den))).bind fun t_4 => some (t_4.1, t_4.2))

noncomputable def spec_fSum_l1 (p_l : List impl_Frac) : Int × impl_Frac → Option (Stp (Int × impl_Frac) ((impl_Frac) ⊕ (impl_Frac × Bool)))
  | (t_5, out_6) => (cond (decide (t_5 < (goLen p_l))) ((goAt p_l t_5).bind fun e_7 => ((spec_fAdd out_6 e_7).bind fun t_10 => (cond (!t_10.2) (some (.done (.inr ((impl_Frac.mk 0 0), false)))) (some (.next ((w64 (t_5 + 1)), t_10.1)))))) (some (.done (.inl out_6))))

noncomputable def spec_fSum (p_l : List impl_Frac) : Option (impl_Frac × Bool) :=
  ((spec_fInt 0).bind fun t_3 => ((loopC (spec_fSum_l1 p_l) (0, t_3)).bind fun | .inl out_12 => some (out_12, true) | .inr o => some o))

noncomputable def spec_mSum (p_l : List impl_Frac) : Option (impl_Frac × Bool) :=
  ((spec_fSum p_l).bind fun t_3 => some (t_3.1, t_3.2))

noncomputable def spec_mRow_l1 (p_l : List impl_Frac) (t_2 : Int) : Option (Stp (Int) ((Unit) ⊕ (Bool))) :=
  (cond (decide (t_2 < (goLen p_l))) ((goAt p_l t_2).bind fun e_3 => ((((spec_fGood e_3).bind fun t_6 => (cond (!t_6) (some true) (some (decide (e_3.Num < 0))))) : Option (Bool)).bind fun t_7 => (cond t_7 (some (.done (.inr false))) (some (.next (w64 (t_2 + 1))))))) (some (.done (.inl ()))))

noncomputable def spec_mRow (p_l : List impl_Frac) : Option (Bool) :=
  ((loopC (spec_mRow_l1 p_l) 0).bind fun | .inl () => ((spec_mSum p_l).bind fun t_8 => (((cond t_8.2 ((spec_fInt 1).bind fun t_10 => some ((t_8.1.Num == t_10.Num) && ((t_8.1.Den == t_10.Den) && true))) (some false)) : Option (Bool)).bind fun t_11 => some t_11)) | .inr o => some o)

noncomputable def spec_mGood_l1 (p_m : impl_Mechanism) (t_9 : Int) : Option (Stp (Int) ((Unit) ⊕ (Bool))) :=
  (cond (decide (t_9 < (goLen p_m.Rows))) ((goAt p_m.Rows t_9).bind fun e_10 => ((((goAt p_m.Rows 0).bind fun e_13 => (cond ((goLen e_10) != (goLen e_13)) (some true) ((spec_mRow e_10).bind fun t_16 => some (!t_16)))) : Option (Bool)).bind fun t_17 => (cond t_17 (some (.done (.inr false))) (some (.next (w64 (t_9 + 1))))))) (some (.done (.inl ()))))

noncomputable def spec_mGood (p_m : impl_Mechanism) : Option (Bool) :=
  ((((spec_l1In (goLen p_m.Rows) 1 8).bind fun t_3 => (cond (!t_3) (some true) ((goAt p_m.Rows 0).bind fun e_4 => ((spec_l1In (goLen e_4) 1 24).bind fun t_7 => some (!t_7))))) : Option (Bool)).bind fun t_8 => (cond t_8 (some false) ((loopC (spec_mGood_l1 p_m) 0).bind fun | .inl () => some true | .inr o => some o)))

noncomputable def spec_IsMechanism (p_m : impl_Mechanism) : Option (Bool) :=
  ((spec_mGood p_m).bind fun t_3 => some t_3)

noncomputable def impl_gcdOf_l1  : Int × Int → Option (Stp (Int × Int) (Int))
  | (a_3, b_4) => (cond (b_4 != 0) ((goRem a_3 b_4).bind fun t_5 => some (.next (b_4, t_5))) (some (.done a_3)))

noncomputable def impl_gcdOf (p_a : Int) (p_b : Int) : Option (Int) :=
  (((cond (decide (p_a < 0)) (some (w64 (-p_a))) (some p_a)) : Option (Int)).bind fun a_1 => (((cond (decide (p_b < 0)) (some (w64 (-p_b))) (some p_b)) : Option (Int)).bind fun b_2 => ((loopC (impl_gcdOf_l1) (a_1, b_2)).bind fun a_6 => some a_6)))

noncomputable def impl_IsFrac (p_f : impl_Frac) : Option (Bool) :=
  (((cond (decide (1 ≤ p_f.Den)) (cond (decide (p_f.Den ≤ 1000000000)) (cond (decide ((-1000000000) ≤ p_f.Num)) (cond (decide (p_f.Num ≤ 1000000000)) ((impl_gcdOf p_f.Num p_f.Den).bind fun t_2 => some (t_2 == 1)) (some false)) (some false)) (some false)) (some false)) : Option (Bool)).bind fun t_3 => some t_3)

noncomputable def impl_reduced (p_n : Int) (p_d : Int) : Option (impl_Frac × Bool) :=
  ((impl_gcdOf p_n p_d).bind fun t_2 => ((goQuo .i64 p_n t_2).bind fun t_3 => ((goQuo .i64 p_d t_2).bind fun t_4 => (((cond (decide (t_4 < 0)) (some ((w64 (-t_3)), (w64 (-t_4)))) (some (t_3, t_4))) : Option (Int × Int)).bind fun (n_5, d_6) => (((cond (decide (1000000000 < n_5)) (some true) (cond (decide (n_5 < (-1000000000))) (some true) (some (decide (1000000000 < d_6))))) : Option (Bool)).bind fun t_7 => (cond t_7 (some ((impl_Frac.mk 0 0), false)) (some ((impl_Frac.mk n_5 d_6), true))))))))

noncomputable def impl_AddFrac (p_a : impl_Frac) (p_b : impl_Frac) : Option (impl_Frac × Bool) :=
  ((((impl_IsFrac p_a).bind fun t_4 => (cond (!t_4) (some true) ((impl_IsFrac p_b).bind fun t_5 => some (!t_5)))) : Option (Bool)).bind fun t_6 => (cond t_6 (some ((impl_Frac.mk 0 0), false)) ((impl_reduced (w64 ((w64 (p_a.Num * p_b.Den)) + (w64 (p_b.Num * p_a.Den)))) (w64 (p_a.Den * p_b.Den))).bind fun t_7 => some (t_7.1, t_7.2))))

noncomputable def impl_isDistribution_l1 (p_l : List impl_Frac) : Int × impl_Frac → Option (Stp (Int × impl_Frac) ((impl_Frac) ⊕ (Bool)))
  | (t_3, sum_4) => (cond (decide (t_3 < (goLen p_l))) ((goAt p_l t_3).bind fun e_5 => ((((impl_IsFrac e_5).bind fun t_8 => (cond (!t_8) (some true) (some (decide (e_5.Num < 0))))) : Option (Bool)).bind fun t_9 => (cond t_9 (some (.done (.inr false))) ((impl_AddFrac sum_4 e_5).bind fun t_10 => (cond (!t_10.2) (some (.done (.inr false))) (some (.next ((w64 (t_3 + 1)), t_10.1)))))))) (some (.done (.inl sum_4))))

noncomputable def impl_isDistribution (p_l : List impl_Frac) : Option (Bool) :=
  ((loopC (impl_isDistribution_l1 p_l) (0, (impl_Frac.mk 0 1))).bind fun | .inl sum_12 => some ((sum_12.Num == 1) && ((sum_12.Den == 1) && true)) | .inr o => some o)

noncomputable def impl_IsMechanism_l1 (p_m : impl_Mechanism) (t_10 : Int) : Option (Stp (Int) ((Unit) ⊕ (Bool))) :=
  (cond (decide (t_10 < (goLen p_m.Rows))) ((goAt p_m.Rows t_10).bind fun e_11 => ((((goAt p_m.Rows 0).bind fun e_14 => (cond ((goLen e_11) != (goLen e_14)) (some true) ((impl_isDistribution e_11).bind fun t_17 => some (!t_17)))) : Option (Bool)).bind fun t_18 => (cond t_18 (some (.done (.inr false))) (some (.next (w64 (t_10 + 1))))))) (some (.done (.inl ()))))

noncomputable def impl_IsMechanism (p_m : impl_Mechanism) : Option (Bool) :=
  (((cond (decide ((goLen p_m.Rows) < 1)) (some true) (cond (decide (8 < (goLen p_m.Rows))) (some true) ((goAt p_m.Rows 0).bind fun e_3 => (cond (decide ((goLen e_3) < 1)) (some true) ((goAt p_m.Rows 0).bind fun e_6 => some (decide (24 < (goLen e_6)))))))) : Option (Bool)).bind fun t_9 => (cond t_9 (some false) ((loopC (impl_IsMechanism_l1 p_m) 0).bind fun | .inl () => some true | .inr o => some o)))

noncomputable def laws_eqFrac (p_a : impl_Frac) (p_b : impl_Frac) : Option (Bool) :=
  (cond (p_a.Num != p_b.Num) (some false) (cond (p_a.Den != p_b.Den) (some false) (some true)))

noncomputable def laws_eqFracS_l1 (p_a : List impl_Frac) (p_b : List impl_Frac) (i_3 : Int) : Option (Stp (Int) ((Unit) ⊕ (Bool))) :=
  (cond (decide (i_3 < (goLen p_a))) ((goAt p_a i_3).bind fun e_4 => ((goAt p_b i_3).bind fun e_6 => ((laws_eqFrac e_4 e_6).bind fun t_8 => (cond (!t_8) (some (.done (.inr false))) (some (.next (w64 (i_3 + 1)))))))) (some (.done (.inl ()))))

noncomputable def laws_eqFracS (p_a : List impl_Frac) (p_b : List impl_Frac) : Option (Bool) :=
  (cond ((goLen p_a) != (goLen p_b)) (some false) ((loopC (laws_eqFracS_l1 p_a p_b) 0).bind fun | .inl () => some true | .inr o => some o))

noncomputable def laws_eqFracSS_l1 (p_a : List (List impl_Frac)) (p_b : List (List impl_Frac)) (i_3 : Int) : Option (Stp (Int) ((Unit) ⊕ (Bool))) :=
  (cond (decide (i_3 < (goLen p_a))) ((goAt p_a i_3).bind fun e_4 => ((goAt p_b i_3).bind fun e_7 => ((laws_eqFracS e_4 e_7).bind fun t_10 => (cond (!t_10) (some (.done (.inr false))) (some (.next (w64 (i_3 + 1)))))))) (some (.done (.inl ()))))

noncomputable def laws_eqFracSS (p_a : List (List impl_Frac)) (p_b : List (List impl_Frac)) : Option (Bool) :=
  (cond ((goLen p_a) != (goLen p_b)) (some false) ((loopC (laws_eqFracSS_l1 p_a p_b) 0).bind fun | .inl () => some true | .inr o => some o))

noncomputable def laws_eqMechanism (p_a : impl_Mechanism) (p_b : impl_Mechanism) : Option (Bool) :=
  ((laws_eqFracSS p_a.Rows p_b.Rows).bind fun t_5 => (cond (!t_5) (some false) (some true)))

noncomputable def laws_FnExactIsMechanism (p_aM : laws_Mechanism) : Option (Bool) :=
  ((laws_szMechanism p_aM 1048576).bind fun t_3 => (cond (decide (t_3 < 0)) (some true) ((laws_toMechanism p_aM).bind fun t_4 => ((spec_IsMechanism t_4).bind fun t_7 => ((laws_toMechanism p_aM).bind fun t_9 => ((impl_IsMechanism t_9).bind fun t_13 => (cond (t_13 != t_7) (some false) ((laws_toMechanism p_aM).bind fun t_15 => ((laws_eqMechanism t_9 t_15).bind fun t_18 => (cond (!t_18) (some false) (some true)))))))))))

noncomputable def spec_mInput (p_m : impl_Mechanism) (p_i : Int) (p_k : Int) : Option (Bool) :=
  ((((spec_mGood p_m).bind fun t_3 => (cond t_3 ((spec_l1In p_i 0 (w64 ((goLen p_m.Rows) - 1))).bind fun t_4 => (cond t_4 ((spec_l1In p_k 0 (w64 ((goLen p_m.Rows) - 1))).bind fun t_5 => some t_5) (some false))) (some false))) : Option (Bool)).bind fun t_6 => some t_6)

noncomputable def spec_fMul (p_a : impl_Frac) (p_b : impl_Frac) : Option (impl_Frac × Bool) :=
  ((spec_fMake (w64 (p_a.Num * p_b.Num)) (w64 (p_a.Den * p_b.Den))).bind fun t_4 => some (t_4.1, t_4.2))

noncomputable def spec_ExpectedOutput_l1 (e_7 : List impl_Frac) : Int × impl_Frac → Option (Stp (Int × impl_Frac) ((impl_Frac) ⊕ (impl_Frac × Bool)))
  | (t_10, sum_11) => (cond (decide (t_10 < (goLen e_7))) ((goAt e_7 t_10).bind fun e_12 => ((((spec_fInt t_10).bind fun t_16 => ((spec_fMul e_12 t_16).bind fun t_17 => some (t_17.2, t_17.1))) : Option (Bool × impl_Frac)).bind fun (one_19, x_20) => (cond (!one_19) (some (.done (.inr ((impl_Frac.mk 0 0), false)))) ((spec_fAdd sum_11 x_20).bind fun t_21 => (cond (!t_21.2) (some (.done (.inr ((impl_Frac.mk 0 0), false)))) (some (.next ((w64 (t_10 + 1)), t_21.1)))))))) (some (.done (.inl sum_11))))

noncomputable def spec_ExpectedOutput (p_m : impl_Mechanism) (p_i : Int) : Option (impl_Frac × Bool) :=
  ((spec_mInput p_m p_i p_i).bind fun t_4 => (cond (!t_4) (some ((impl_Frac.mk 0 0), false)) ((spec_fInt 0).bind fun t_5 => ((goAt p_m.Rows p_i).bind fun e_7 => ((loopC (spec_ExpectedOutput_l1 e_7) (0, t_5)).bind fun | .inl sum_23 => some (sum_23, true) | .inr o => some o)))))

noncomputable def impl_isInput (p_m : impl_Mechanism) (p_i : Int) : Option (Bool) :=
  (((cond (decide (0 ≤ p_i)) (some (decide (p_i < (goLen p_m.Rows)))) (some false)) : Option (Bool)).bind fun t_3 => some t_3)

noncomputable def impl_MulFrac (p_a : impl_Frac) (p_b : impl_Frac) : Option (impl_Frac × Bool) :=
  ((((impl_IsFrac p_a).bind fun t_4 => (cond (!t_4) (some true) ((impl_IsFrac p_b).bind fun t_5 => some (!t_5)))) : Option (Bool)).bind fun t_6 => (cond t_6 (some ((impl_Frac.mk 0 0), false)) ((impl_reduced (w64 (p_a.Num * p_b.Num)) (w64 (p_a.Den * p_b.Den))).bind fun t_7 => some (t_7.1, t_7.2))))

noncomputable def impl_ExpectedOutput_l1 (e_8 : List impl_Frac) : Int × impl_Frac → Option (Stp (Int × impl_Frac) ((impl_Frac) ⊕ (impl_Frac × Bool)))
  | (t_11, sum_12) => (cond (decide (t_11 < (goLen e_8))) ((goAt e_8 t_11).bind fun e_13 => ((impl_MulFrac (impl_Frac.mk t_11 1) e_13).bind fun t_16 => (cond (!t_16.2) (some (.done (.inr ((impl_Frac.mk 0 0), false)))) ((impl_AddFrac sum_12 t_16.1).bind fun t_18 => (cond (!t_18.2) (some (.done (.inr ((impl_Frac.mk 0 0), false)))) (some (.next ((w64 (t_11 + 1)), t_18.1)))))))) (some (.done (.inl sum_12))))

noncomputable def impl_ExpectedOutput (p_m : impl_Mechanism) (p_i : Int) : Option (impl_Frac × Bool) :=
  ((((impl_IsMechanism p_m).bind fun t_4 => (cond (!t_4) (some true) ((impl_isInput p_m p_i).bind fun t_5 => some (!t_5)))) : Option (Bool)).bind fun t_6 => (cond t_6 (some ((impl_Frac.mk 0 0), false)) ((goAt p_m.Rows p_i).bind fun e_8 => ((loopC (impl_ExpectedOutput_l1 e_8) (0, (impl_Frac.mk 0 1))).bind fun | .inl sum_19 => some (sum_19, true) | .inr o => some o))))

noncomputable def laws_FnExactExpectedOutput (p_aM : laws_Mechanism) (p_aI : Int) : Option (Bool) :=
  ((laws_szMechanism p_aM 1048576).bind fun t_3 => (cond (decide (t_3 < 0)) (some true) ((laws_toMechanism p_aM).bind fun t_4 => ((spec_ExpectedOutput t_4 p_aI).bind fun t_7 => ((laws_toMechanism p_aM).bind fun t_10 => ((impl_ExpectedOutput t_10 p_aI).bind fun t_14 => ((((laws_eqFrac t_14.1 t_7.1).bind fun t_17 => (cond (!t_17) (some true) (some (t_14.2 != t_7.2)))) : Option (Bool)).bind fun t_18 => (cond t_18 (some false) ((laws_toMechanism p_aM).bind fun t_19 => ((laws_eqMechanism t_10 t_19).bind fun t_22 => (cond (!t_22) (some false) (some true))))))))))))

end Go.Gx.F
