/- The plain functions that the walks come to. -/
import Derived.Test.YtdbgmkfniichdaaGx
namespace Go.Gx.F
open Go.Gx
set_option linter.all false

structure spec_l1Cur where
  code : List (K .u8)
  at_ : Int
  seed : K .u64

instance : Rep spec_l1Cur where
  wd := 3
  rd m cs x := ∃ s1 : Sl, cs = [s1.v, (.int .i64 x.at_), (.int .u64 x.seed.v)] ∧ Rd m s1 x.code
  mono hm h := by
    obtain ⟨s1, rfl, h1⟩ := h
    exact ⟨s1, rfl, h1.mono hm⟩
  len h := by obtain ⟨s1, rfl, _⟩ := h; rfl
  one h := by obtain ⟨s1, rfl, _⟩ := h; rfl

instance : Rng spec_l1Cur := ⟨fun x => Rng.ok x.code ∧ Rng.ok x.at_ ∧ Rng.ok x.seed⟩

structure impl_Frac where
  Num : Int
  Den : Int

instance : Rep impl_Frac where
  wd := 2
  rd m cs x := cs = [(.int .i64 x.Num), (.int .i64 x.Den)]
  mono _ h := h
  len h := by subst h; rfl
  one h := by subst h; rfl

instance : Flat impl_Frac := ⟨fun h => h⟩

instance : Rng impl_Frac := ⟨fun x => Rng.ok x.Num ∧ Rng.ok x.Den⟩

structure impl_Loss where
  Ratio : impl_Frac
  Rho : impl_Frac

instance : Rep impl_Loss where
  wd := 4
  rd m cs x := cs = [(.int .i64 x.Ratio.Num), (.int .i64 x.Ratio.Den), (.int .i64 x.Rho.Num), (.int .i64 x.Rho.Den)]
  mono _ h := h
  len h := by subst h; rfl
  one h := by subst h; rfl

instance : Flat impl_Loss := ⟨fun h => h⟩

instance : Rng impl_Loss := ⟨fun x => Rng.ok x.Ratio ∧ Rng.ok x.Rho⟩

noncomputable def spec_l1Cur_next (p_c : spec_l1Cur) : Option (Int × spec_l1Cur) :=
  (((cond (decide (p_c.at_ < (goLen p_c.code))) ((goAt p_c.code p_c.at_).bind fun e_2 => some (w64 e_2.v)) (some 0)) : Option (Int)).bind fun b_4 => (cond (decide ((w64 (p_c.at_ + 1)) ≤ (goLen p_c.code))) (some (b_4, (spec_l1Cur.mk p_c.code (w64 (p_c.at_ + 1)) (⟨(IntKind.wrap .u64 ((IntKind.wrap .u64 ((IntKind.wrap .u64 (p_c.seed.v * 6364136223846793005)) + (IntKind.wrap .u64 b_4))) + 1442695040888963407))⟩ : K .u64)))) ((goShr .u64 (IntKind.wrap .u64 ((IntKind.wrap .u64 ((IntKind.wrap .u64 (p_c.seed.v * 6364136223846793005)) + (IntKind.wrap .u64 b_4))) + 1442695040888963407)) 40).bind fun t_5 => some ((w64 (goBits .and .u64 t_5 255)), (spec_l1Cur.mk p_c.code (w64 (p_c.at_ + 1)) (⟨(IntKind.wrap .u64 ((IntKind.wrap .u64 ((IntKind.wrap .u64 (p_c.seed.v * 6364136223846793005)) + (IntKind.wrap .u64 b_4))) + 1442695040888963407))⟩ : K .u64))))))

noncomputable def spec_l1Cur_pick (p_c : spec_l1Cur) (p_n : Int) : Option (Int × spec_l1Cur) :=
  (cond (decide (p_n ≤ 1)) (some (0, p_c)) ((spec_l1Cur_next p_c).bind fun t_3 => (((cond (decide (200 < p_n)) ((spec_l1Cur_next t_3.2).bind fun t_6 => some ((w64 ((w64 (t_3.1 * 256)) + t_6.1)), t_6.2)) (some (t_3.1, t_3.2))) : Option (Int × spec_l1Cur)).bind fun (x_8, p_c_9) => ((goRem x_8 p_n).bind fun t_11 => some (t_11, p_c_9)))))

noncomputable def spec_l1Most (p_a : Int) (p_b : Int) : Option (Int) :=
  (cond (decide (p_b < p_a)) (some p_a) (some p_b))

noncomputable def spec_l1Abs (p_n : Int) : Option (Int) :=
  ((spec_l1Most p_n (w64 (-p_n))).bind fun t_1 => some t_1)

noncomputable def spec_fGcd_l1  : Int × Int → Option (Stp (Int × Int) (Int))
  | (a_1, b_2) => (cond (b_2 != 0) ((goRem a_1 b_2).bind fun t_3 => some (.next (b_2, t_3))) (some (.done a_1)))

noncomputable def spec_fGcd (p_a : Int) (p_b : Int) : Option (Int) :=
  ((loopC (spec_fGcd_l1) (p_a, p_b)).bind fun a_4 => ((spec_l1Abs a_4).bind fun t_5 => some t_5))

noncomputable def spec_l1In (p_n : Int) (p_lo : Int) (p_hi : Int) : Option (Bool) :=
  (((cond (decide (p_lo ≤ p_n)) (some (decide (p_n ≤ p_hi))) (some false)) : Option (Bool)).bind fun t_1 => some t_1)

noncomputable def spec_fGood (p_f : impl_Frac) : Option (Bool) :=
  ((((spec_l1In p_f.Den 1 1000000000).bind fun t_2 => (cond t_2 ((spec_l1In p_f.Num (-1000000000) 1000000000).bind fun t_3 => (cond t_3 ((spec_fGcd p_f.Num p_f.Den).bind fun t_4 => some (t_4 == 1)) (some false))) (some false))) : Option (Bool)).bind fun t_5 => some t_5)

noncomputable def spec_fMake (p_n : Int) (p_d : Int) : Option (impl_Frac × Bool) :=
  (cond (p_d == 0) (some ((impl_Frac.mk 0 0), false)) ((spec_fGcd p_n p_d).bind fun t_2 => (((cond (decide (p_d < 0)) (some (w64 (-t_2))) (some t_2)) : Option (Int)).bind fun g_3 => ((goQuo .i64 p_n g_3).bind fun t_4 => ((goQuo .i64 p_d g_3).bind fun t_5 => ((spec_fGood (impl_Frac.mk t_4 t_5)).bind fun t_7 => (cond (!t_7) (some ((impl_Frac.mk 0 0), false)) (some ((impl_Frac.mk t_4 t_5), true)))))))))

noncomputable def spec_l1Cur_loss (p_c : spec_l1Cur) : Option (impl_Loss × spec_l1Cur) :=
  ((spec_l1Cur_pick p_c 6).bind fun t_4 => ((spec_l1Cur_pick t_4.2 4).bind fun t_7 => ((spec_fMake (w64 ((w64 (1 + t_4.1)) + t_7.1)) (w64 (1 + t_4.1))).bind fun t_9 => ((spec_l1Cur_pick t_7.2 5).bind fun t_12 => ((spec_l1Cur_pick t_12.2 8).bind fun t_15 => ((spec_fMake t_12.1 (w64 (1 + t_15.1))).bind fun t_17 => some ((impl_Loss.mk t_9.1 t_17.1), t_15.2)))))))

noncomputable def spec_l1Cur_among (p_c : spec_l1Cur) (p_list : List Int) : Option (Int × spec_l1Cur) :=
  ((spec_l1Cur_pick p_c (goLen p_list)).bind fun t_4 => ((goAt p_list t_4.1).bind fun e_6 => some (e_6, t_4.2)))

noncomputable def spec_l1Cur_frac (p_c : spec_l1Cur) : Option (impl_Frac × spec_l1Cur) :=
  ((spec_l1Cur_pick p_c 41).bind fun t_4 => ((spec_l1Cur_pick t_4.2 12).bind fun t_7 => ((spec_fMake (w64 (t_4.1 - 20)) (w64 (1 + t_7.1))).bind fun t_9 => some (t_9.1, t_7.2))))

noncomputable def spec_l1Cur_anyFrac (p_c : spec_l1Cur) : Option (impl_Frac × spec_l1Cur) :=
  ((spec_l1Cur_pick p_c 16).bind fun t_4 => (cond (t_4.1 == 0) ((spec_l1Cur_among t_4.2 ([1000000000, -1000000000, 999999999, 1000000001] : List Int)).bind fun t_26 => ((spec_l1Cur_among t_26.2 ([1, 7, 999999999, 999999937] : List Int)).bind fun t_31 => some ((impl_Frac.mk t_26.1 t_31.1), t_31.2))) (cond (t_4.1 == 1) ((spec_l1Cur_pick t_4.2 9).bind fun t_18 => ((spec_l1Cur_pick t_18.2 7).bind fun t_21 => some ((impl_Frac.mk (w64 (t_18.1 - 4)) (w64 (t_21.1 - 1))), t_21.2))) (cond (t_4.1 == 2) ((spec_l1Cur_pick t_4.2 3).bind fun t_10 => ((spec_l1Cur_among t_10.2 ([1000000000, 1000000001, 999999937] : List Int)).bind fun t_15 => some ((impl_Frac.mk t_10.1 t_15.1), t_15.2))) ((spec_l1Cur_frac t_4.2).bind fun t_7 => some (t_7.1, t_7.2))))))

noncomputable def spec_l1Cur_anyLoss (p_c : spec_l1Cur) : Option (impl_Loss × spec_l1Cur) :=
  ((spec_l1Cur_loss p_c).bind fun t_4 => ((spec_l1Cur_pick t_4.2 20).bind fun t_8 => (((cond (t_8.1 == 0) ((spec_l1Cur_anyFrac t_8.2).bind fun t_27 => some (t_27.2, (impl_Loss.mk t_27.1 t_4.1.Rho))) (((cond (t_8.1 == 1) ((spec_l1Cur_anyFrac t_8.2).bind fun t_20 => some (t_20.2, (impl_Loss.mk t_4.1.Ratio t_20.1))) (((cond (t_8.1 == 2) ((spec_l1Cur_among t_8.2 ([1, 999999937] : List Int)).bind fun t_13 => some (t_13.2, (impl_Loss.mk (impl_Frac.mk 1000000000 t_13.1) t_4.1.Rho))) (some (t_8.2, t_4.1))) : Option (spec_l1Cur × impl_Loss)).bind fun (p_c_15, x_17) => some (p_c_15, x_17))) : Option (spec_l1Cur × impl_Loss)).bind fun (p_c_22, x_24) => some (p_c_22, x_24))) : Option (spec_l1Cur × impl_Loss)).bind fun (p_c_29, x_31) => some (x_31, p_c_29))))

noncomputable def spec_DrawGroupLoss (p_code : List (K .u8)) : Option (impl_Loss × Int) :=
  ((spec_l1Cur_anyLoss (spec_l1Cur.mk p_code 0 (⟨0⟩ : K .u64))).bind fun t_5 => ((spec_l1Cur_among t_5.2 ([0, 1, 2, 3, 5, 20, 21, -1] : List Int)).bind fun t_10 => some (t_5.1, t_10.1)))

noncomputable def impl_gcdOf_l1  : Int × Int → Option (Stp (Int × Int) (Int))
  | (a_3, b_4) => (cond (b_4 != 0) ((goRem a_3 b_4).bind fun t_5 => some (.next (b_4, t_5))) (some (.done a_3)))

noncomputable def impl_gcdOf (p_a : Int) (p_b : Int) : Option (Int) :=
  (((cond (decide (p_a < 0)) (some (w64 (-p_a))) (some p_a)) : Option (Int)).bind fun a_1 => (((cond (decide (p_b < 0)) (some (w64 (-p_b))) (some p_b)) : Option (Int)).bind fun b_2 => ((loopC (impl_gcdOf_l1) (a_1, b_2)).bind fun a_6 => some a_6)))

noncomputable def impl_IsFrac (p_f : impl_Frac) : Option (Bool) :=
  (((cond (decide (1 ≤ p_f.Den)) (cond (decide (p_f.Den ≤ 1000000000)) (cond (decide ((-1000000000) ≤ p_f.Num)) (cond (decide (p_f.Num ≤ 1000000000)) ((impl_gcdOf p_f.Num p_f.Den).bind fun t_2 => some (t_2 == 1)) (some false)) (some false)) (some false)) (some false)) : Option (Bool)).bind fun t_3 => some t_3)

noncomputable def impl_IsLoss (p_x : impl_Loss) : Option (Bool) :=
  ((((impl_IsFrac p_x.Ratio).bind fun t_2 => (cond t_2 ((impl_IsFrac p_x.Rho).bind fun t_3 => (cond t_3 (cond (decide (p_x.Ratio.Den ≤ p_x.Ratio.Num)) (some (decide (0 ≤ p_x.Rho.Num))) (some false)) (some false))) (some false))) : Option (Bool)).bind fun t_4 => some t_4)

noncomputable def impl_reduced (p_n : Int) (p_d : Int) : Option (impl_Frac × Bool) :=
  ((impl_gcdOf p_n p_d).bind fun t_2 => ((goQuo .i64 p_n t_2).bind fun t_3 => ((goQuo .i64 p_d t_2).bind fun t_4 => (((cond (decide (t_4 < 0)) (some ((w64 (-t_3)), (w64 (-t_4)))) (some (t_3, t_4))) : Option (Int × Int)).bind fun (n_5, d_6) => (((cond (decide (1000000000 < n_5)) (some true) (cond (decide (n_5 < (-1000000000))) (some true) (some (decide (1000000000 < d_6))))) : Option (Bool)).bind fun t_7 => (cond t_7 (some ((impl_Frac.mk 0 0), false)) (some ((impl_Frac.mk n_5 d_6), true))))))))

noncomputable def impl_MulFrac (p_a : impl_Frac) (p_b : impl_Frac) : Option (impl_Frac × Bool) :=
  ((((impl_IsFrac p_a).bind fun t_4 => (cond (!t_4) (some true) ((impl_IsFrac p_b).bind fun t_5 => some (!t_5)))) : Option (Bool)).bind fun t_6 => (cond t_6 (some ((impl_Frac.mk 0 0), false)) ((impl_reduced (w64 (p_a.Num * p_b.Num)) (w64 (p_a.Den * p_b.Den))).bind fun t_7 => some (t_7.1, t_7.2))))

noncomputable def impl_PowFrac_l1 (p_f : impl_Frac) (p_k : Int) : Int × impl_Frac → Option (Stp (Int × impl_Frac) ((impl_Frac) ⊕ (impl_Frac × Bool)))
  | (t_6, p_7) => (cond (decide (t_6 < p_k)) ((impl_MulFrac p_7 p_f).bind fun t_8 => (cond (!t_8.2) (some (.done (.inr ((impl_Frac.mk 0 0), false)))) (some (.next ((w64 (t_6 + 1)), t_8.1))))) (some (.done (.inl p_7))))

noncomputable def impl_PowFrac (p_f : impl_Frac) (p_k : Int) : Option (impl_Frac × Bool) :=
  ((((impl_IsFrac p_f).bind fun t_3 => (cond (!t_3) (some true) (cond (decide (p_k < 0)) (some true) (some (decide (60 < p_k)))))) : Option (Bool)).bind fun t_4 => (cond t_4 (some ((impl_Frac.mk 0 0), false)) ((loopC (impl_PowFrac_l1 p_f p_k) (0, (impl_Frac.mk 1 1))).bind fun | .inl p_10 => some (p_10, true) | .inr o => some o)))

noncomputable def impl_GroupLoss (p_x : impl_Loss) (p_k : Int) : Option (impl_Loss × Bool) :=
  ((((impl_IsLoss p_x).bind fun t_3 => (cond (!t_3) (some true) (cond (decide (p_k < 0)) (some true) (some (decide (20 < p_k)))))) : Option (Bool)).bind fun t_4 => (cond t_4 (some ((impl_Loss.mk (impl_Frac.mk 0 0) (impl_Frac.mk 0 0)), false)) ((impl_PowFrac p_x.Ratio p_k).bind fun t_5 => (cond (!t_5.2) (some ((impl_Loss.mk (impl_Frac.mk 0 0) (impl_Frac.mk 0 0)), false)) ((impl_MulFrac (impl_Frac.mk (w64 (p_k * p_k)) 1) p_x.Rho).bind fun t_7 => (cond (!t_7.2) (some ((impl_Loss.mk (impl_Frac.mk 0 0) (impl_Frac.mk 0 0)), false)) (some ((impl_Loss.mk t_5.1 t_7.1), true))))))))

noncomputable def spec_pGood (p_x : impl_Loss) : Option (Bool) :=
  ((((spec_fGood p_x.Ratio).bind fun t_2 => (cond t_2 ((spec_fGood p_x.Rho).bind fun t_3 => (cond t_3 (cond (decide (p_x.Ratio.Den ≤ p_x.Ratio.Num)) (some (decide (0 ≤ p_x.Rho.Num))) (some false)) (some false))) (some false))) : Option (Bool)).bind fun t_4 => some t_4)

noncomputable def spec_fInt (p_n : Int) : Option (impl_Frac) :=
  some (impl_Frac.mk p_n 1)

noncomputable def spec_fMul (p_a : impl_Frac) (p_b : impl_Frac) : Option (impl_Frac × Bool) :=
  ((spec_fMake (w64 (p_a.Num * p_b.Num)) (w64 (p_a.Den * p_b.Den))).bind fun t_4 => some (t_4.1, t_4.2))

noncomputable def spec_fPow_l1 (p_f : impl_Frac) : Int × impl_Frac → Option (Stp (Int × impl_Frac) ((impl_Frac) ⊕ (impl_Frac × Bool)))
  | (k_5, out_6) => (cond (decide (0 < k_5)) ((spec_fMul out_6 p_f).bind fun t_7 => (cond (!t_7.2) (some (.done (.inr ((impl_Frac.mk 0 0), false)))) (some (.next ((w64 (k_5 - 1)), t_7.1))))) (some (.done (.inl out_6))))

noncomputable def spec_fPow (p_f : impl_Frac) (p_k : Int) : Option (impl_Frac × Bool) :=
  ((spec_fInt 1).bind fun t_3 => ((loopC (spec_fPow_l1 p_f) (p_k, t_3)).bind fun | .inl out_9 => some (out_9, true) | .inr o => some o))

noncomputable def spec_GroupLoss (p_x : impl_Loss) (p_k : Int) : Option (impl_Loss × Bool) :=
  ((((spec_pGood p_x).bind fun t_3 => (cond (!t_3) (some true) ((spec_l1In p_k 0 20).bind fun t_4 => some (!t_4)))) : Option (Bool)).bind fun t_5 => (cond t_5 (some ((impl_Loss.mk (impl_Frac.mk 0 0) (impl_Frac.mk 0 0)), false)) ((spec_fPow p_x.Ratio p_k).bind fun t_6 => ((((spec_fInt (w64 (p_k * p_k))).bind fun t_9 => ((spec_fMul p_x.Rho t_9).bind fun t_10 => some (t_10.2, t_10.1))) : Option (Bool × impl_Frac)).bind fun (two_12, s_13) => (((cond (!t_6.2) (some true) (some (!two_12))) : Option (Bool)).bind fun t_14 => (cond t_14 (some ((impl_Loss.mk (impl_Frac.mk 0 0) (impl_Frac.mk 0 0)), false)) (some ((impl_Loss.mk t_6.1 s_13), true))))))))

noncomputable def spec_pNone  : Option (impl_Loss) :=
  ((spec_fInt 1).bind fun t_2 => ((spec_fInt 0).bind fun t_3 => some (impl_Loss.mk t_2 t_3)))

noncomputable def spec_DrawComposeLosses_l1  : (List impl_Loss) × Int × spec_l1Cur → Option (Stp ((List impl_Loss) × Int × spec_l1Cur) ((List impl_Loss) × spec_l1Cur))
  | (l_6, k_8, t_9) => (cond (decide (0 < k_8)) ((spec_l1Cur_loss t_9).bind fun t_13 => ((goApp 32 l_6 ([t_13.1] : List impl_Loss)).bind fun l_16 => some (.next (l_16, (w64 (k_8 - 1)), t_13.2)))) (some (.done (l_6, t_9))))

noncomputable def spec_DrawComposeLosses_l2  : (List impl_Loss) × spec_l1Cur → Option (Stp ((List impl_Loss) × spec_l1Cur) ((List impl_Loss)))
  | (l_26, t_28) => ((spec_l1Cur_pick t_28 2).bind fun t_32 => (cond (decide ((goLen l_26) < (w64 (30 + t_32.1)))) ((spec_pNone).bind fun t_34 => ((goApp 32 l_26 ([t_34] : List impl_Loss)).bind fun l_36 => some (.next (l_36, t_32.2)))) (some (.done l_26))))

noncomputable def spec_DrawComposeLosses (p_code : List (K .u8)) : Option ((List impl_Loss)) :=
  ((spec_l1Cur_pick (spec_l1Cur.mk p_code 0 (⟨0⟩ : K .u64)) 6).bind fun t_4 => ((loopC (spec_DrawComposeLosses_l1) (([] : List impl_Loss), t_4.1, t_4.2)).bind fun (l_18, t_20) => ((spec_l1Cur_pick t_20 16).bind fun t_24 => (((cond (t_24.1 == 0) ((spec_l1Cur_anyLoss t_24.2).bind fun t_45 => ((goApp 32 l_18 ([t_45.1] : List impl_Loss)).bind fun l_48 => some l_48)) (((cond (t_24.1 == 1) ((loopC (spec_DrawComposeLosses_l2) (l_18, t_24.2)).bind fun l_38 => some l_38) (some l_18)) : Option ((List impl_Loss))).bind fun l_41 => some l_41)) : Option ((List impl_Loss))).bind fun l_50 => some l_50))))

noncomputable def spec_DrawParallelLoss (p_code : List (K .u8)) : Option ((List impl_Loss)) :=
  ((spec_DrawComposeLosses p_code).bind fun t_2 => some t_2)

noncomputable def impl_areLosses_l1 (p_l : List impl_Loss) (t_2 : Int) : Option (Stp (Int) ((Unit) ⊕ (Bool))) :=
  (cond (decide (t_2 < (goLen p_l))) ((goAt p_l t_2).bind fun e_3 => ((impl_IsLoss e_3).bind fun t_6 => (cond (!t_6) (some (.done (.inr false))) (some (.next (w64 (t_2 + 1))))))) (some (.done (.inl ()))))

noncomputable def impl_areLosses (p_l : List impl_Loss) : Option (Bool) :=
  (cond (decide (30 < (goLen p_l))) (some false) ((loopC (impl_areLosses_l1 p_l) 0).bind fun | .inl () => some true | .inr o => some o))

noncomputable def impl_NoLoss  : Option (impl_Loss) :=
  some (impl_Loss.mk (impl_Frac.mk 1 1) (impl_Frac.mk 0 1))

noncomputable def impl_cmpFrac (p_a : impl_Frac) (p_b : impl_Frac) : Option (Int) :=
  (cond (decide ((w64 (p_a.Num * p_b.Den)) < (w64 (p_b.Num * p_a.Den)))) (some (-1)) (cond (decide ((w64 (p_b.Num * p_a.Den)) < (w64 (p_a.Num * p_b.Den)))) (some 1) (some 0)))

noncomputable def impl_greatest (p_a : impl_Loss) (p_b : impl_Loss) : Option (impl_Loss) :=
  ((impl_cmpFrac p_b.Ratio p_a.Ratio).bind fun t_4 => (((cond (decide (0 < t_4)) (some (impl_Loss.mk p_b.Ratio p_a.Rho)) (some p_a)) : Option (impl_Loss)).bind fun a_5 => ((impl_cmpFrac p_b.Rho a_5.Rho).bind fun t_6 => (((cond (decide (0 < t_6)) (some (impl_Loss.mk a_5.Ratio p_b.Rho)) (some a_5)) : Option (impl_Loss)).bind fun a_7 => some a_7))))

noncomputable def impl_ParallelLoss_l1 (p_l : List impl_Loss) : Int × impl_Loss → Option (Stp (Int × impl_Loss) (impl_Loss))
  | (t_6, out_7) => (cond (decide (t_6 < (goLen p_l))) ((goAt p_l t_6).bind fun e_8 => ((impl_greatest out_7 e_8).bind fun t_11 => some (.next ((w64 (t_6 + 1)), t_11)))) (some (.done out_7)))

noncomputable def impl_ParallelLoss (p_l : List impl_Loss) : Option (impl_Loss × Bool) :=
  ((impl_areLosses p_l).bind fun t_3 => (cond (!t_3) (some ((impl_Loss.mk (impl_Frac.mk 0 0) (impl_Frac.mk 0 0)), false)) ((impl_NoLoss).bind fun t_4 => ((loopC (impl_ParallelLoss_l1 p_l) (0, t_4)).bind fun out_12 => some (out_12, true)))))

noncomputable def spec_pList_l1 (p_l : List impl_Loss) (t_2 : Int) : Option (Stp (Int) ((Unit) ⊕ (Bool))) :=
  (cond (decide (t_2 < (goLen p_l))) ((goAt p_l t_2).bind fun e_3 => ((spec_pGood e_3).bind fun t_6 => (cond (!t_6) (some (.done (.inr false))) (some (.next (w64 (t_2 + 1))))))) (some (.done (.inl ()))))

noncomputable def spec_pList (p_l : List impl_Loss) : Option (Bool) :=
  ((loopC (spec_pList_l1 p_l) 0).bind fun | .inl () => some (decide ((goLen p_l) ≤ 30)) | .inr o => some o)

noncomputable def spec_l1Sign (p_n : Int) : Option (Int) :=
  (cond (decide (p_n < 0)) (some (-1)) (cond (decide (0 < p_n)) (some 1) (some 0)))

noncomputable def spec_fCmp (p_a : impl_Frac) (p_b : impl_Frac) : Option (Int) :=
  ((spec_l1Sign (w64 ((w64 (p_a.Num * p_b.Den)) - (w64 (p_b.Num * p_a.Den))))).bind fun t_3 => some t_3)

noncomputable def spec_fGreater (p_a : impl_Frac) (p_b : impl_Frac) : Option (impl_Frac) :=
  ((spec_fCmp p_a p_b).bind fun t_4 => (cond (decide (t_4 < 0)) (some p_b) (some p_a)))

noncomputable def spec_pParallel_l1 (p_l : List impl_Loss) : Int × impl_Loss → Option (Stp (Int × impl_Loss) (impl_Loss))
  | (t_5, out_6) => (cond (decide (t_5 < (goLen p_l))) ((goAt p_l t_5).bind fun e_7 => ((spec_fGreater out_6.Ratio e_7.Ratio).bind fun t_14 => ((spec_fGreater out_6.Rho e_7.Rho).bind fun t_15 => some (.next ((w64 (t_5 + 1)), (impl_Loss.mk t_14 t_15)))))) (some (.done out_6)))

noncomputable def spec_pParallel (p_l : List impl_Loss) : Option (impl_Loss) :=
  ((spec_pNone).bind fun t_3 => ((loopC (spec_pParallel_l1 p_l) (0, t_3)).bind fun out_16 => some out_16))

noncomputable def spec_ParallelLoss (p_l : List impl_Loss) : Option (impl_Loss × Bool) :=
  ((spec_pList p_l).bind fun t_3 => (cond (!t_3) (some ((impl_Loss.mk (impl_Frac.mk 0 0) (impl_Frac.mk 0 0)), false)) ((spec_pParallel p_l).bind fun t_4 => some (t_4, true))))

noncomputable def spec_l1Cur_one (p_c : spec_l1Cur) (p_n : Int) : Option (Bool × spec_l1Cur) :=
  ((spec_l1Cur_pick p_c p_n).bind fun t_3 => some (t_3.1 == 0, t_3.2))

noncomputable def spec_DrawSplitRho_l1  : (List Int) × Int × spec_l1Cur → Option (Stp ((List Int) × Int × spec_l1Cur) ((List Int) × spec_l1Cur))
  | (w_7, k_9, t_10) => (cond (decide (0 < k_9)) ((spec_l1Cur_pick t_10 9).bind fun t_14 => ((goApp 8 w_7 ([(w64 (1 + t_14.1))] : List Int)).bind fun l_17 => some (.next (l_17, (w64 (k_9 - 1)), t_14.2)))) (some (.done (w_7, t_10))))

noncomputable def spec_DrawSplitRho (p_code : List (K .u8)) : Option (impl_Frac × (List Int)) :=
  ((spec_l1Cur_pick (spec_l1Cur.mk p_code 0 (⟨0⟩ : K .u64)) 5).bind fun t_5 => ((loopC (spec_DrawSplitRho_l1) (([] : List Int), t_5.1, t_5.2)).bind fun (w_19, t_21) => ((spec_l1Cur_one t_21 10).bind fun t_25 => (((cond t_25.1 ((spec_l1Cur_among t_25.2 ([0, 1000, 1001] : List Int)).bind fun t_30 => ((goApp 8 w_19 ([t_30.1] : List Int)).bind fun l_33 => some (l_33, t_30.2))) (some (w_19, t_25.2))) : Option ((List Int) × spec_l1Cur)).bind fun (w_35, t_37) => ((spec_l1Cur_anyFrac t_37).bind fun t_41 => (((cond (decide (t_41.1.Num < 0)) ((spec_l1Cur_one t_41.2 2).bind fun t_45 => some t_45.1) (some false)) : Option (Bool)).bind fun t_47 => (((cond t_47 (some (impl_Frac.mk (w64 (-t_41.1.Num)) t_41.1.Den)) (some t_41.1)) : Option (impl_Frac)).bind fun f_49 => some (f_49, w_35))))))))

noncomputable def impl_total_l1 (p_l : List Int) : Int × Int → Option (Stp (Int × Int) (Int))
  | (sum_2, t_3) => (cond (decide (t_3 < (goLen p_l))) ((goAt p_l t_3).bind fun e_4 => some (.next ((w64 (sum_2 + e_4)), (w64 (t_3 + 1))))) (some (.done sum_2)))

noncomputable def impl_total (p_l : List Int) : Option (Int) :=
  ((loopC (impl_total_l1 p_l) (0, 0)).bind fun sum_6 => some sum_6)

noncomputable def impl_SplitRho_l1 (p_weights : List Int) (t_5 : Int) : Option (Stp (Int) ((Unit) ⊕ ((List impl_Frac) × Bool))) :=
  (cond (decide (t_5 < (goLen p_weights))) ((goAt p_weights t_5).bind fun e_6 => (((cond (decide (e_6 < 1)) (some true) (some (decide (1000 < e_6)))) : Option (Bool)).bind fun t_8 => (cond t_8 (some (.done (.inr (([] : List impl_Frac), false)))) (some (.next (w64 (t_5 + 1))))))) (some (.done (.inl ()))))

noncomputable def impl_SplitRho_l2 (p_rho : impl_Frac) (p_weights : List Int) (t_9 : Int) : (List impl_Frac) × Int → Option (Stp ((List impl_Frac) × Int) (((List impl_Frac)) ⊕ ((List impl_Frac) × Bool)))
  | (out_12, t_14) => (cond (decide (t_14 < (goLen p_weights))) ((goAt p_weights t_14).bind fun e_15 => ((impl_reduced e_15 t_9).bind fun t_17 => (cond (!t_17.2) (some (.done (.inr (([] : List impl_Frac), false)))) ((impl_MulFrac t_17.1 p_rho).bind fun t_19 => ((goAt out_12 t_14).bind fun e_20 => (cond (!t_19.2) (some (.done (.inr (([] : List impl_Frac), false)))) (some (.next (goSet out_12 t_14 t_19.1, (w64 (t_14 + 1))))))))))) (some (.done (.inl out_12))))

noncomputable def impl_SplitRho (p_rho : impl_Frac) (p_weights : List Int) : Option ((List impl_Frac) × Bool) :=
  ((((impl_IsFrac p_rho).bind fun t_3 => (cond (!t_3) (some true) (cond (decide (p_rho.Num < 0)) (some true) (cond (decide ((goLen p_weights) < 1)) (some true) (some (decide (30 < (goLen p_weights)))))))) : Option (Bool)).bind fun t_4 => (cond t_4 (some (([] : List impl_Frac), false)) ((loopC (impl_SplitRho_l1 p_weights) 0).bind fun | .inl () => ((impl_total p_weights).bind fun t_9 => ((goMake 16 (goLen p_weights) ((impl_Frac.mk 0 0) : impl_Frac)).bind fun l_10 => ((loopC (impl_SplitRho_l2 p_rho p_weights t_9) (l_10, 0)).bind fun | .inl out_23 => some (out_23, true) | .inr o => some o))) | .inr o => some o)))

noncomputable def spec_l1All_l1 (p_l : List Int) (p_lo : Int) (p_hi : Int) (t_2 : Int) : Option (Stp (Int) ((Unit) ⊕ (Bool))) :=
  (cond (decide (t_2 < (goLen p_l))) ((goAt p_l t_2).bind fun e_3 => ((spec_l1In e_3 p_lo p_hi).bind fun t_5 => (cond (!t_5) (some (.done (.inr false))) (some (.next (w64 (t_2 + 1))))))) (some (.done (.inl ()))))

noncomputable def spec_l1All (p_l : List Int) (p_lo : Int) (p_hi : Int) : Option (Bool) :=
  ((loopC (spec_l1All_l1 p_l p_lo p_hi) 0).bind fun | .inl () => some true | .inr o => some o)

noncomputable def spec_SplitRho_l1 (p_weights : List Int) : Int × Int → Option (Stp (Int × Int) (Int))
  | (sum_7, t_8) => (cond (decide (t_8 < (goLen p_weights))) ((goAt p_weights t_8).bind fun e_9 => some (.next ((w64 (sum_7 + e_9)), (w64 (t_8 + 1))))) (some (.done sum_7)))

noncomputable def spec_SplitRho_l2 (p_rho : impl_Frac) (p_weights : List Int) (sum_11 : Int) : (List impl_Frac) × Int → Option (Stp ((List impl_Frac) × Int) (((List impl_Frac)) ⊕ ((List impl_Frac) × Bool)))
  | (out_12, t_14) => (cond (decide (t_14 < (goLen p_weights))) ((goAt p_weights t_14).bind fun e_15 => ((spec_fMake e_15 sum_11).bind fun t_17 => ((spec_fMul p_rho t_17.1).bind fun t_19 => (((cond (!t_17.2) (some true) (some (!t_19.2))) : Option (Bool)).bind fun t_21 => (cond t_21 (some (.done (.inr (([] : List impl_Frac), false)))) ((goApp 16 out_12 ([t_19.1] : List impl_Frac)).bind fun l_23 => some (.next (l_23, (w64 (t_14 + 1)))))))))) (some (.done (.inl out_12))))

noncomputable def spec_SplitRho (p_rho : impl_Frac) (p_weights : List Int) : Option ((List impl_Frac) × Bool) :=
  ((((spec_fGood p_rho).bind fun t_3 => (cond (!t_3) (some true) (cond (decide (p_rho.Num < 0)) (some true) ((spec_l1In (goLen p_weights) 1 30).bind fun t_4 => (cond (!t_4) (some true) ((spec_l1All p_weights 1 1000).bind fun t_5 => some (!t_5))))))) : Option (Bool)).bind fun t_6 => (cond t_6 (some (([] : List impl_Frac), false)) ((loopC (spec_SplitRho_l1 p_weights) (0, 0)).bind fun sum_11 => ((loopC (spec_SplitRho_l2 p_rho p_weights sum_11) (([] : List impl_Frac), 0)).bind fun | .inl out_25 => some (out_25, true) | .inr o => some o))))

noncomputable def laws_qFracs_l1 (p_a : List impl_Frac) (p_b : List impl_Frac) (t_3 : Int) : Option (Stp (Int) ((Unit) ⊕ (Bool))) :=
  (cond (decide (t_3 < (goLen p_a))) ((goAt p_a t_3).bind fun e_4 => ((goAt p_b t_3).bind fun e_6 => (cond (!((e_4.Num == e_6.Num) && ((e_4.Den == e_6.Den) && true))) (some (.done (.inr false))) (some (.next (w64 (t_3 + 1))))))) (some (.done (.inl ()))))

noncomputable def laws_qFracs (p_a : List impl_Frac) (p_b : List impl_Frac) : Option (Bool) :=
  (cond ((goLen p_a) != (goLen p_b)) (some false) ((loopC (laws_qFracs_l1 p_a p_b) 0).bind fun | .inl () => some true | .inr o => some o))

noncomputable def impl_isWithin (p_budget : impl_Loss) (p_x : impl_Loss) : Option (Bool) :=
  ((((impl_cmpFrac p_x.Ratio p_budget.Ratio).bind fun t_3 => (cond (decide (t_3 ≤ 0)) ((impl_cmpFrac p_x.Rho p_budget.Rho).bind fun t_4 => some (decide (t_4 ≤ 0))) (some false))) : Option (Bool)).bind fun t_5 => some t_5)

noncomputable def impl_IsWithin (p_budget : impl_Loss) (p_x : impl_Loss) : Option (Bool × Bool) :=
  ((((impl_IsLoss p_budget).bind fun t_3 => (cond (!t_3) (some true) ((impl_IsLoss p_x).bind fun t_4 => some (!t_4)))) : Option (Bool)).bind fun t_5 => (cond t_5 (some (false, false)) ((impl_isWithin p_budget p_x).bind fun t_6 => some (t_6, true))))

noncomputable def impl_AddFrac (p_a : impl_Frac) (p_b : impl_Frac) : Option (impl_Frac × Bool) :=
  ((((impl_IsFrac p_a).bind fun t_4 => (cond (!t_4) (some true) ((impl_IsFrac p_b).bind fun t_5 => some (!t_5)))) : Option (Bool)).bind fun t_6 => (cond t_6 (some ((impl_Frac.mk 0 0), false)) ((impl_reduced (w64 ((w64 (p_a.Num * p_b.Den)) + (w64 (p_b.Num * p_a.Den)))) (w64 (p_a.Den * p_b.Den))).bind fun t_7 => some (t_7.1, t_7.2))))

noncomputable def impl_SumFracs_l1 (p_l : List impl_Frac) : Int × impl_Frac → Option (Stp (Int × impl_Frac) ((impl_Frac) ⊕ (impl_Frac × Bool)))
  | (t_4, sum_5) => (cond (decide (t_4 < (goLen p_l))) ((goAt p_l t_4).bind fun e_6 => ((impl_AddFrac sum_5 e_6).bind fun t_9 => (cond (!t_9.2) (some (.done (.inr ((impl_Frac.mk 0 0), false)))) (some (.next ((w64 (t_4 + 1)), t_9.1)))))) (some (.done (.inl sum_5))))

noncomputable def impl_SumFracs (p_l : List impl_Frac) : Option (impl_Frac × Bool) :=
  (cond (decide (100 < (goLen p_l))) (some ((impl_Frac.mk 0 0), false)) ((loopC (impl_SumFracs_l1 p_l) (0, (impl_Frac.mk 0 1))).bind fun | .inl sum_11 => some (sum_11, true) | .inr o => some o))

noncomputable def impl_composed (p_a : impl_Loss) (p_b : impl_Loss) : Option (impl_Loss × Bool) :=
  ((impl_MulFrac p_a.Ratio p_b.Ratio).bind fun t_4 => (cond (!t_4.2) (some ((impl_Loss.mk (impl_Frac.mk 0 0) (impl_Frac.mk 0 0)), false)) ((impl_AddFrac p_a.Rho p_b.Rho).bind fun t_6 => (cond (!t_6.2) (some ((impl_Loss.mk (impl_Frac.mk 0 0) (impl_Frac.mk 0 0)), false)) (some ((impl_Loss.mk t_4.1 t_6.1), true))))))

noncomputable def impl_ComposeLosses_l1 (p_l : List impl_Loss) : Int × impl_Loss → Option (Stp (Int × impl_Loss) ((impl_Loss) ⊕ (impl_Loss × Bool)))
  | (t_6, sum_7) => (cond (decide (t_6 < (goLen p_l))) ((goAt p_l t_6).bind fun e_8 => ((impl_composed sum_7 e_8).bind fun t_11 => (cond (!t_11.2) (some (.done (.inr ((impl_Loss.mk (impl_Frac.mk 0 0) (impl_Frac.mk 0 0)), false)))) (some (.next ((w64 (t_6 + 1)), t_11.1)))))) (some (.done (.inl sum_7))))

noncomputable def impl_ComposeLosses (p_l : List impl_Loss) : Option (impl_Loss × Bool) :=
  ((impl_areLosses p_l).bind fun t_3 => (cond (!t_3) (some ((impl_Loss.mk (impl_Frac.mk 0 0) (impl_Frac.mk 0 0)), false)) ((impl_NoLoss).bind fun t_4 => ((loopC (impl_ComposeLosses_l1 p_l) (0, t_4)).bind fun | .inl sum_12 => some (sum_12, true) | .inr o => some o))))

noncomputable def laws_FnLossGroups_l1 (t_9 : List impl_Loss) (t_12 : impl_Loss × Bool) (t_33 : Int) : Option (Stp (Int) ((Unit) ⊕ (Bool))) :=
  (cond (decide (t_33 < (goLen t_9))) ((goAt t_9 t_33).bind fun e_34 => ((impl_IsWithin t_12.1 e_34).bind fun t_37 => (((cond t_12.2 (cond (!t_37.2) (some true) (some (!t_37.1))) (some false)) : Option (Bool)).bind fun t_38 => (cond t_38 (some (.done (.inr false))) (some (.next (w64 (t_33 + 1)))))))) (some (.done (.inl ()))))

noncomputable def laws_FnLossGroups (p_code : List (K .u8)) (p_more : List (K .u8)) : Option (Bool) :=
  (cond (decide (1048576 < (w64 ((goLen p_code) + (goLen p_more))))) (some true) ((spec_DrawGroupLoss p_code).bind fun t_3 => ((impl_GroupLoss t_3.1 t_3.2).bind fun t_5 => ((spec_GroupLoss t_3.1 t_3.2).bind fun t_7 => ((spec_DrawParallelLoss p_more).bind fun t_9 => ((impl_ParallelLoss t_9).bind fun t_12 => ((spec_ParallelLoss t_9).bind fun t_15 => ((spec_DrawSplitRho p_more).bind fun t_18 => ((impl_SplitRho t_18.1 t_18.2).bind fun t_22 => ((spec_SplitRho t_18.1 t_18.2).bind fun t_26 => (((cond (t_5.2 != t_7.2) (some true) (cond (!(((t_5.1.Ratio.Num == t_7.1.Ratio.Num) && ((t_5.1.Ratio.Den == t_7.1.Ratio.Den) && true)) && (((t_5.1.Rho.Num == t_7.1.Rho.Num) && ((t_5.1.Rho.Den == t_7.1.Rho.Den) && true)) && true))) (some true) (cond (t_12.2 != t_15.2) (some true) (cond (!(((t_12.1.Ratio.Num == t_15.1.Ratio.Num) && ((t_12.1.Ratio.Den == t_15.1.Ratio.Den) && true)) && (((t_12.1.Rho.Num == t_15.1.Rho.Num) && ((t_12.1.Rho.Den == t_15.1.Rho.Den) && true)) && true))) (some true) (cond (t_22.2 != t_26.2) (some true) ((laws_qFracs t_22.1 t_26.1).bind fun t_30 => some (!t_30))))))) : Option (Bool)).bind fun t_32 => (cond t_32 (some false) ((loopC (laws_FnLossGroups_l1 t_9 t_12) 0).bind fun | .inl () => (((cond t_22.2 ((impl_SumFracs t_22.1).bind fun t_39 => (((cond t_39.2 (some (!((t_39.1.Num == t_18.1.Num) && ((t_39.1.Den == t_18.1.Den) && true)))) (some false)) : Option (Bool)).bind fun t_42 => (cond t_42 (some (.inr false)) (some (.inl ()))))) (some (.inl ()))) : Option ((Unit) ⊕ (Bool))).bind fun | .inl () => (cond (!t_5.2) (some true) ((impl_GroupLoss t_3.1 2).bind fun t_43 => ((impl_ComposeLosses ([t_3.1, t_3.1] : List impl_Loss)).bind fun t_46 => ((impl_GroupLoss t_3.1 0).bind fun t_49 => (((cond t_49.2 ((impl_NoLoss).bind fun t_51 => (cond (((t_49.1.Ratio.Num == t_51.Ratio.Num) && ((t_49.1.Ratio.Den == t_51.Ratio.Den) && true)) && (((t_49.1.Rho.Num == t_51.Rho.Num) && ((t_49.1.Rho.Den == t_51.Rho.Den) && true)) && true)) (cond (!t_43.2) (some true) (cond (!t_46.2) (some true) (some ((t_43.1.Ratio.Num == t_46.1.Ratio.Num) && ((t_43.1.Ratio.Den == t_46.1.Ratio.Den) && true))))) (some false))) (some false)) : Option (Bool)).bind fun t_52 => some t_52))))) | .inr o => some o) | .inr o => some o)))))))))))))

end Go.Gx.F
