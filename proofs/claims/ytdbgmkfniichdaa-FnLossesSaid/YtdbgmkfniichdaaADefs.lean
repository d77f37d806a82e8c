/- The plain functions that the walks come to. -/
import Derived.Test.YtdbgmkfniichdaaGx
namespace Go.Gx.F
open Go.Gx
set_option linter.all false

structure spec_l1Cur where
  code : List (K .u8)
  at_ : Int
  seed : K .u64

instance : Rep spec_l1Cur where
  wd := 3
  rd m cs x := ∃ s1 : Sl, cs = [s1.v, (.int .i64 x.at_), (.int .u64 x.seed.v)] ∧ Rd m s1 x.code
  mono hm h := by
    obtain ⟨s1, rfl, h1⟩ := h
    exact ⟨s1, rfl, h1.mono hm⟩
  len h := by obtain ⟨s1, rfl, _⟩ := h; rfl
  one h := by obtain ⟨s1, rfl, _⟩ := h; rfl

instance : Rng spec_l1Cur := ⟨fun x => Rng.ok x.code ∧ Rng.ok x.at_ ∧ Rng.ok x.seed⟩

structure impl_Frac where
  Num : Int
  Den : Int

instance : Rep impl_Frac where
  wd := 2
  rd m cs x := cs = [(.int .i64 x.Num), (.int .i64 x.Den)]
  mono _ h := h
  len h := by subst h; rfl
  one h := by subst h; rfl

instance : Flat impl_Frac := ⟨fun h => h⟩

instance : Rng impl_Frac := ⟨fun x => Rng.ok x.Num ∧ Rng.ok x.Den⟩

structure impl_Loss where
  Ratio : impl_Frac
  Rho : impl_Frac

instance : Rep impl_Loss where
  wd := 4
  rd m cs x := cs = [(.int .i64 x.Ratio.Num), (.int .i64 x.Ratio.Den), (.int .i64 x.Rho.Num), (.int .i64 x.Rho.Den)]
  mono _ h := h
  len h := by subst h; rfl
  one h := by subst h; rfl

instance : Flat impl_Loss := ⟨fun h => h⟩

instance : Rng impl_Loss := ⟨fun x => Rng.ok x.Ratio ∧ Rng.ok x.Rho⟩

noncomputable def spec_l1Cur_next (p_c : spec_l1Cur) : Option (Int × spec_l1Cur) :=
  (((cond (decide (p_c.at_ < (goLen p_c.code))) ((goAt p_c.code p_c.at_).bind fun e_2 => some (w64 e_2.v)) (some 0)) : Option (Int)).bind fun b_4 => (cond (decide ((w64 (p_c.at_ + 1)) ≤ (goLen p_c.code))) (some (b_4, (spec_l1Cur.mk p_c.code (w64 (p_c.at_ + 1)) (⟨(IntKind.wrap .u64 ((IntKind.wrap .u64 ((IntKind.wrap .u64 (p_c.seed.v * 6364136223846793005)) + (IntKind.wrap .u64 b_4))) + 1442695040888963407))⟩ : K .u64)))) ((goShr .u64 (IntKind.wrap .u64 ((IntKind.wrap .u64 ((IntKind.wrap .u64 (p_c.seed.v * 6364136223846793005)) + (IntKind.wrap .u64 b_4))) + 1442695040888963407)) 40).bind fun t_5 => some ((w64 (goBits .and .u64 t_5 255)), (spec_l1Cur.mk p_c.code (w64 (p_c.at_ + 1)) (⟨(IntKind.wrap .u64 ((IntKind.wrap .u64 ((IntKind.wrap .u64 (p_c.seed.v * 6364136223846793005)) + (IntKind.wrap .u64 b_4))) + 1442695040888963407))⟩ : K .u64))))))

noncomputable def spec_l1Cur_pick (p_c : spec_l1Cur) (p_n : Int) : Option (Int × spec_l1Cur) :=
  (cond (decide (p_n ≤ 1)) (some (0, p_c)) ((spec_l1Cur_next p_c).bind fun t_3 => (((cond (decide (200 < p_n)) ((spec_l1Cur_next t_3.2).bind fun t_6 => some ((w64 ((w64 (t_3.1 * 256)) + t_6.1)), t_6.2)) (some (t_3.1, t_3.2))) : Option (Int × spec_l1Cur)).bind fun (x_8, p_c_9) => ((goRem x_8 p_n).bind fun t_11 => some (t_11, p_c_9)))))

noncomputable def spec_l1Cur_one (p_c : spec_l1Cur) (p_n : Int) : Option (Bool × spec_l1Cur) :=
  ((spec_l1Cur_pick p_c p_n).bind fun t_3 => some (t_3.1 == 0, t_3.2))

noncomputable def spec_l1Most (p_a : Int) (p_b : Int) : Option (Int) :=
  (cond (decide (p_b < p_a)) (some p_a) (some p_b))

noncomputable def spec_l1Abs (p_n : Int) : Option (Int) :=
  ((spec_l1Most p_n (w64 (-p_n))).bind fun t_1 => some t_1)

noncomputable def spec_fGcd_l1  : Int × Int → Option (Stp (Int × Int) (Int))
  | (a_1, b_2) => (cond (b_2 != 0) ((goRem a_1 b_2).bind fun t_3 => some (.next (b_2, t_3))) (some (.done a_1)))

noncomputable def spec_fGcd (p_a : Int) (p_b : Int) : Option (Int) :=
  ((loopC (spec_fGcd_l1) (p_a, p_b)).bind fun a_4 => ((spec_l1Abs a_4).bind fun t_5 => some t_5))

noncomputable def spec_l1In (p_n : Int) (p_lo : Int) (p_hi : Int) : Option (Bool) :=
  (((cond (decide (p_lo ≤ p_n)) (some (decide (p_n ≤ p_hi))) (some false)) : Option (Bool)).bind fun t_1 => some t_1)

noncomputable def spec_fGood (p_f : impl_Frac) : Option (Bool) :=
  ((((spec_l1In p_f.Den 1 1000000000).bind fun t_2 => (cond t_2 ((spec_l1In p_f.Num (-1000000000) 1000000000).bind fun t_3 => (cond t_3 ((spec_fGcd p_f.Num p_f.Den).bind fun t_4 => some (t_4 == 1)) (some false))) (some false))) : Option (Bool)).bind fun t_5 => some t_5)

noncomputable def spec_fMake (p_n : Int) (p_d : Int) : Option (impl_Frac × Bool) :=
  (cond (p_d == 0) (some ((impl_Frac.mk 0 0), false)) ((spec_fGcd p_n p_d).bind fun t_2 => (((cond (decide (p_d < 0)) (some (w64 (-t_2))) (some t_2)) : Option (Int)).bind fun g_3 => ((goQuo .i64 p_n g_3).bind fun t_4 => ((goQuo .i64 p_d g_3).bind fun t_5 => ((spec_fGood (impl_Frac.mk t_4 t_5)).bind fun t_7 => (cond (!t_7) (some ((impl_Frac.mk 0 0), false)) (some ((impl_Frac.mk t_4 t_5), true)))))))))

noncomputable def spec_l1Cur_loss (p_c : spec_l1Cur) : Option (impl_Loss × spec_l1Cur) :=
  ((spec_l1Cur_pick p_c 6).bind fun t_4 => ((spec_l1Cur_pick t_4.2 4).bind fun t_7 => ((spec_fMake (w64 ((w64 (1 + t_4.1)) + t_7.1)) (w64 (1 + t_4.1))).bind fun t_9 => ((spec_l1Cur_pick t_7.2 5).bind fun t_12 => ((spec_l1Cur_pick t_12.2 8).bind fun t_15 => ((spec_fMake t_12.1 (w64 (1 + t_15.1))).bind fun t_17 => some ((impl_Loss.mk t_9.1 t_17.1), t_15.2)))))))

noncomputable def spec_l1Cur_among (p_c : spec_l1Cur) (p_list : List Int) : Option (Int × spec_l1Cur) :=
  ((spec_l1Cur_pick p_c (goLen p_list)).bind fun t_4 => ((goAt p_list t_4.1).bind fun e_6 => some (e_6, t_4.2)))

noncomputable def spec_l1Cur_frac (p_c : spec_l1Cur) : Option (impl_Frac × spec_l1Cur) :=
  ((spec_l1Cur_pick p_c 41).bind fun t_4 => ((spec_l1Cur_pick t_4.2 12).bind fun t_7 => ((spec_fMake (w64 (t_4.1 - 20)) (w64 (1 + t_7.1))).bind fun t_9 => some (t_9.1, t_7.2))))

noncomputable def spec_l1Cur_anyFrac (p_c : spec_l1Cur) : Option (impl_Frac × spec_l1Cur) :=
  ((spec_l1Cur_pick p_c 16).bind fun t_4 => (cond (t_4.1 == 0) ((spec_l1Cur_among t_4.2 ([1000000000, -1000000000, 999999999, 1000000001] : List Int)).bind fun t_26 => ((spec_l1Cur_among t_26.2 ([1, 7, 999999999, 999999937] : List Int)).bind fun t_31 => some ((impl_Frac.mk t_26.1 t_31.1), t_31.2))) (cond (t_4.1 == 1) ((spec_l1Cur_pick t_4.2 9).bind fun t_18 => ((spec_l1Cur_pick t_18.2 7).bind fun t_21 => some ((impl_Frac.mk (w64 (t_18.1 - 4)) (w64 (t_21.1 - 1))), t_21.2))) (cond (t_4.1 == 2) ((spec_l1Cur_pick t_4.2 3).bind fun t_10 => ((spec_l1Cur_among t_10.2 ([1000000000, 1000000001, 999999937] : List Int)).bind fun t_15 => some ((impl_Frac.mk t_10.1 t_15.1), t_15.2))) ((spec_l1Cur_frac t_4.2).bind fun t_7 => some (t_7.1, t_7.2))))))

noncomputable def spec_l1Cur_anyLoss (p_c : spec_l1Cur) : Option (impl_Loss × spec_l1Cur) :=
  ((spec_l1Cur_loss p_c).bind fun t_4 => ((spec_l1Cur_pick t_4.2 20).bind fun t_8 => (((cond (t_8.1 == 0) ((spec_l1Cur_anyFrac t_8.2).bind fun t_27 => some (t_27.2, (impl_Loss.mk t_27.1 t_4.1.Rho))) (((cond (t_8.1 == 1) ((spec_l1Cur_anyFrac t_8.2).bind fun t_20 => some (t_20.2, (impl_Loss.mk t_4.1.Ratio t_20.1))) (((cond (t_8.1 == 2) ((spec_l1Cur_among t_8.2 ([1, 999999937] : List Int)).bind fun t_13 => some (t_13.2, (impl_Loss.mk (impl_Frac.mk 1000000000 t_13.1) t_4.1.Rho))) (some (t_8.2, t_4.1))) : Option (spec_l1Cur × impl_Loss)).bind fun (p_c_15, x_17) => some (p_c_15, x_17))) : Option (spec_l1Cur × impl_Loss)).bind fun (p_c_22, x_24) => some (p_c_22, x_24))) : Option (spec_l1Cur × impl_Loss)).bind fun (p_c_29, x_31) => some (x_31, p_c_29))))

noncomputable def spec_fInt (p_n : Int) : Option (impl_Frac) :=
  some (impl_Frac.mk p_n 1)

noncomputable def spec_l1Cur_budget (p_c : spec_l1Cur) : Option (impl_Loss × spec_l1Cur) :=
  ((spec_l1Cur_one p_c 8).bind fun t_4 => (cond t_4.1 ((spec_l1Cur_anyLoss t_4.2).bind fun t_19 => some (t_19.1, t_19.2)) ((spec_l1Cur_among t_4.2 ([1, 2, 4, 10, 100] : List Int)).bind fun t_9 => ((spec_fInt t_9.1).bind fun t_11 => ((spec_l1Cur_among t_9.2 ([0, 1, 2, 10] : List Int)).bind fun t_15 => ((spec_fInt t_15.1).bind fun t_17 => some ((impl_Loss.mk t_11 t_17), t_15.2)))))))

noncomputable def spec_DrawIsWithin (p_code : List (K .u8)) : Option (impl_Loss × impl_Loss) :=
  ((spec_l1Cur_budget (spec_l1Cur.mk p_code 0 (⟨0⟩ : K .u64))).bind fun t_6 => ((spec_l1Cur_anyLoss t_6.2).bind fun t_9 => some (t_6.1, t_9.1)))

noncomputable def spec_DrawRemainingLoss (p_code : List (K .u8)) : Option (impl_Loss × impl_Loss) :=
  ((spec_DrawIsWithin p_code).bind fun t_4 => some (t_4.1, t_4.2))

noncomputable def impl_gcdOf_l1  : Int × Int → Option (Stp (Int × Int) (Int))
  | (a_3, b_4) => (cond (b_4 != 0) ((goRem a_3 b_4).bind fun t_5 => some (.next (b_4, t_5))) (some (.done a_3)))

noncomputable def impl_gcdOf (p_a : Int) (p_b : Int) : Option (Int) :=
  (((cond (decide (p_a < 0)) (some (w64 (-p_a))) (some p_a)) : Option (Int)).bind fun a_1 => (((cond (decide (p_b < 0)) (some (w64 (-p_b))) (some p_b)) : Option (Int)).bind fun b_2 => ((loopC (impl_gcdOf_l1) (a_1, b_2)).bind fun a_6 => some a_6)))

noncomputable def impl_IsFrac (p_f : impl_Frac) : Option (Bool) :=
  (((cond (decide (1 ≤ p_f.Den)) (cond (decide (p_f.Den ≤ 1000000000)) (cond (decide ((-1000000000) ≤ p_f.Num)) (cond (decide (p_f.Num ≤ 1000000000)) ((impl_gcdOf p_f.Num p_f.Den).bind fun t_2 => some (t_2 == 1)) (some false)) (some false)) (some false)) (some false)) : Option (Bool)).bind fun t_3 => some t_3)

noncomputable def impl_IsLoss (p_x : impl_Loss) : Option (Bool) :=
  ((((impl_IsFrac p_x.Ratio).bind fun t_2 => (cond t_2 ((impl_IsFrac p_x.Rho).bind fun t_3 => (cond t_3 (cond (decide (p_x.Ratio.Den ≤ p_x.Ratio.Num)) (some (decide (0 ≤ p_x.Rho.Num))) (some false)) (some false))) (some false))) : Option (Bool)).bind fun t_4 => some t_4)

noncomputable def impl_cmpFrac (p_a : impl_Frac) (p_b : impl_Frac) : Option (Int) :=
  (cond (decide ((w64 (p_a.Num * p_b.Den)) < (w64 (p_b.Num * p_a.Den)))) (some (-1)) (cond (decide ((w64 (p_b.Num * p_a.Den)) < (w64 (p_a.Num * p_b.Den)))) (some 1) (some 0)))

noncomputable def impl_isWithin (p_budget : impl_Loss) (p_x : impl_Loss) : Option (Bool) :=
  ((((impl_cmpFrac p_x.Ratio p_budget.Ratio).bind fun t_3 => (cond (decide (t_3 ≤ 0)) ((impl_cmpFrac p_x.Rho p_budget.Rho).bind fun t_4 => some (decide (t_4 ≤ 0))) (some false))) : Option (Bool)).bind fun t_5 => some t_5)

noncomputable def impl_reduced (p_n : Int) (p_d : Int) : Option (impl_Frac × Bool) :=
  ((impl_gcdOf p_n p_d).bind fun t_2 => ((goQuo .i64 p_n t_2).bind fun t_3 => ((goQuo .i64 p_d t_2).bind fun t_4 => (((cond (decide (t_4 < 0)) (some ((w64 (-t_3)), (w64 (-t_4)))) (some (t_3, t_4))) : Option (Int × Int)).bind fun (n_5, d_6) => (((cond (decide (1000000000 < n_5)) (some true) (cond (decide (n_5 < (-1000000000))) (some true) (some (decide (1000000000 < d_6))))) : Option (Bool)).bind fun t_7 => (cond t_7 (some ((impl_Frac.mk 0 0), false)) (some ((impl_Frac.mk n_5 d_6), true))))))))

noncomputable def impl_DivFrac (p_a : impl_Frac) (p_b : impl_Frac) : Option (impl_Frac × Bool) :=
  ((((impl_IsFrac p_a).bind fun t_4 => (cond (!t_4) (some true) ((impl_IsFrac p_b).bind fun t_5 => (cond (!t_5) (some true) (some (p_b.Num == 0)))))) : Option (Bool)).bind fun t_6 => (cond t_6 (some ((impl_Frac.mk 0 0), false)) ((impl_reduced (w64 (p_a.Num * p_b.Den)) (w64 (p_a.Den * p_b.Num))).bind fun t_7 => some (t_7.1, t_7.2))))

noncomputable def impl_SubFrac (p_a : impl_Frac) (p_b : impl_Frac) : Option (impl_Frac × Bool) :=
  ((((impl_IsFrac p_a).bind fun t_4 => (cond (!t_4) (some true) ((impl_IsFrac p_b).bind fun t_5 => some (!t_5)))) : Option (Bool)).bind fun t_6 => (cond t_6 (some ((impl_Frac.mk 0 0), false)) ((impl_reduced (w64 ((w64 (p_a.Num * p_b.Den)) - (w64 (p_b.Num * p_a.Den)))) (w64 (p_a.Den * p_b.Den))).bind fun t_7 => some (t_7.1, t_7.2))))

noncomputable def impl_RemainingLoss (p_budget : impl_Loss) (p_x : impl_Loss) : Option (impl_Loss × Bool) :=
  ((((impl_IsLoss p_budget).bind fun t_4 => (cond (!t_4) (some true) ((impl_IsLoss p_x).bind fun t_5 => (cond (!t_5) (some true) ((impl_isWithin p_budget p_x).bind fun t_6 => some (!t_6)))))) : Option (Bool)).bind fun t_7 => (cond t_7 (some ((impl_Loss.mk (impl_Frac.mk 0 0) (impl_Frac.mk 0 0)), false)) ((impl_DivFrac p_budget.Ratio p_x.Ratio).bind fun t_8 => (cond (!t_8.2) (some ((impl_Loss.mk (impl_Frac.mk 0 0) (impl_Frac.mk 0 0)), false)) ((impl_SubFrac p_budget.Rho p_x.Rho).bind fun t_10 => (cond (!t_10.2) (some ((impl_Loss.mk (impl_Frac.mk 0 0) (impl_Frac.mk 0 0)), false)) (some ((impl_Loss.mk t_8.1 t_10.1), true))))))))

noncomputable def spec_pGood (p_x : impl_Loss) : Option (Bool) :=
  ((((spec_fGood p_x.Ratio).bind fun t_2 => (cond t_2 ((spec_fGood p_x.Rho).bind fun t_3 => (cond t_3 (cond (decide (p_x.Ratio.Den ≤ p_x.Ratio.Num)) (some (decide (0 ≤ p_x.Rho.Num))) (some false)) (some false))) (some false))) : Option (Bool)).bind fun t_4 => some t_4)

noncomputable def spec_l1Sign (p_n : Int) : Option (Int) :=
  (cond (decide (p_n < 0)) (some (-1)) (cond (decide (0 < p_n)) (some 1) (some 0)))

noncomputable def spec_fCmp (p_a : impl_Frac) (p_b : impl_Frac) : Option (Int) :=
  ((spec_l1Sign (w64 ((w64 (p_a.Num * p_b.Den)) - (w64 (p_b.Num * p_a.Den))))).bind fun t_3 => some t_3)

noncomputable def spec_pWithin (p_budget : impl_Loss) (p_x : impl_Loss) : Option (Bool) :=
  ((((spec_fCmp p_x.Ratio p_budget.Ratio).bind fun t_3 => (cond (decide (t_3 ≤ 0)) ((spec_fCmp p_x.Rho p_budget.Rho).bind fun t_4 => some (decide (t_4 ≤ 0))) (some false))) : Option (Bool)).bind fun t_5 => some t_5)

noncomputable def spec_fDiv (p_a : impl_Frac) (p_b : impl_Frac) : Option (impl_Frac × Bool) :=
  (cond (p_b.Num == 0) (some ((impl_Frac.mk 0 0), false)) ((spec_fMake (w64 (p_a.Num * p_b.Den)) (w64 (p_a.Den * p_b.Num))).bind fun t_4 => some (t_4.1, t_4.2)))

noncomputable def spec_fSub (p_a : impl_Frac) (p_b : impl_Frac) : Option (impl_Frac × Bool) :=
  ((spec_fMake (w64 ((w64 (p_a.Num * p_b.Den)) - (w64 (p_b.Num * p_a.Den)))) (w64 (p_a.Den * p_b.Den))).bind fun t_4 => some (t_4.1, t_4.2))

noncomputable def spec_RemainingLoss (p_budget : impl_Loss) (p_x : impl_Loss) : Option (impl_Loss × Bool) :=
  ((((spec_pGood p_budget).bind fun t_4 => (cond (!t_4) (some true) ((spec_pGood p_x).bind fun t_5 => (cond (!t_5) (some true) ((spec_pWithin p_budget p_x).bind fun t_6 => some (!t_6)))))) : Option (Bool)).bind fun t_7 => (cond t_7 (some ((impl_Loss.mk (impl_Frac.mk 0 0) (impl_Frac.mk 0 0)), false)) ((spec_fDiv p_budget.Ratio p_x.Ratio).bind fun t_8 => ((spec_fSub p_budget.Rho p_x.Rho).bind fun t_10 => (((cond (!t_8.2) (some true) (some (!t_10.2))) : Option (Bool)).bind fun t_12 => (cond t_12 (some ((impl_Loss.mk (impl_Frac.mk 0 0) (impl_Frac.mk 0 0)), false)) (some ((impl_Loss.mk t_8.1 t_10.1), true))))))))

noncomputable def spec_pNone  : Option (impl_Loss) :=
  ((spec_fInt 1).bind fun t_2 => ((spec_fInt 0).bind fun t_3 => some (impl_Loss.mk t_2 t_3)))

noncomputable def spec_DrawCountUses (p_code : List (K .u8)) : Option (impl_Loss × impl_Loss) :=
  ((spec_l1Cur_one (spec_l1Cur.mk p_code 0 (⟨0⟩ : K .u64)) 8).bind fun t_6 => (cond t_6.1 ((spec_l1Cur_budget t_6.2).bind fun t_15 => ((spec_pNone).bind fun t_17 => some (t_15.1, t_17))) ((spec_l1Cur_budget t_6.2).bind fun t_9 => ((spec_l1Cur_anyLoss t_9.2).bind fun t_12 => some (t_9.1, t_12.1)))))

noncomputable def impl_NoLoss  : Option (impl_Loss) :=
  some (impl_Loss.mk (impl_Frac.mk 1 1) (impl_Frac.mk 0 1))

noncomputable def impl_MulFrac (p_a : impl_Frac) (p_b : impl_Frac) : Option (impl_Frac × Bool) :=
  ((((impl_IsFrac p_a).bind fun t_4 => (cond (!t_4) (some true) ((impl_IsFrac p_b).bind fun t_5 => some (!t_5)))) : Option (Bool)).bind fun t_6 => (cond t_6 (some ((impl_Frac.mk 0 0), false)) ((impl_reduced (w64 (p_a.Num * p_b.Num)) (w64 (p_a.Den * p_b.Den))).bind fun t_7 => some (t_7.1, t_7.2))))

noncomputable def impl_AddFrac (p_a : impl_Frac) (p_b : impl_Frac) : Option (impl_Frac × Bool) :=
  ((((impl_IsFrac p_a).bind fun t_4 => (cond (!t_4) (some true) ((impl_IsFrac p_b).bind fun t_5 => some (!t_5)))) : Option (Bool)).bind fun t_6 => (cond t_6 (some ((impl_Frac.mk 0 0), false)) ((impl_reduced (w64 ((w64 (p_a.Num * p_b.Den)) + (w64 (p_b.Num * p_a.Den)))) (w64 (p_a.Den * p_b.Den))).bind fun t_7 => some (t_7.1, t_7.2))))

noncomputable def impl_composed (p_a : impl_Loss) (p_b : impl_Loss) : Option (impl_Loss × Bool) :=
  ((impl_MulFrac p_a.Ratio p_b.Ratio).bind fun t_4 => (cond (!t_4.2) (some ((impl_Loss.mk (impl_Frac.mk 0 0) (impl_Frac.mk 0 0)), false)) ((impl_AddFrac p_a.Rho p_b.Rho).bind fun t_6 => (cond (!t_6.2) (some ((impl_Loss.mk (impl_Frac.mk 0 0) (impl_Frac.mk 0 0)), false)) (some ((impl_Loss.mk t_4.1 t_6.1), true))))))

noncomputable def impl_usesFrom_l1 (p_budget : impl_Loss) (p_x : impl_Loss) (p_most : Int) : Int × impl_Loss → Option (Stp (Int × impl_Loss) ((Unit) ⊕ (Int)))
  | (t_4, start_5) => (cond (decide (t_4 < p_most)) ((impl_composed start_5 p_x).bind fun t_6 => (((cond (!t_6.2) (some true) ((impl_isWithin p_budget t_6.1).bind fun t_8 => some (!t_8))) : Option (Bool)).bind fun t_9 => (cond t_9 (some (.done (.inr t_4))) (some (.next ((w64 (t_4 + 1)), t_6.1)))))) (some (.done (.inl ()))))

noncomputable def impl_usesFrom (p_budget : impl_Loss) (p_start : impl_Loss) (p_x : impl_Loss) (p_most : Int) : Option (Int) :=
  ((loopC (impl_usesFrom_l1 p_budget p_x p_most) (0, p_start)).bind fun | .inl () => some p_most | .inr o => some o)

noncomputable def impl_CountUses (p_budget : impl_Loss) (p_x : impl_Loss) : Option (Int × Bool) :=
  ((((impl_IsLoss p_budget).bind fun t_3 => (cond (!t_3) (some true) ((impl_IsLoss p_x).bind fun t_4 => some (!t_4)))) : Option (Bool)).bind fun t_5 => (cond t_5 (some (0, false)) ((impl_NoLoss).bind fun t_7 => ((impl_usesFrom p_budget t_7 p_x 60).bind fun t_8 => some (t_8, true)))))

noncomputable def spec_fMul (p_a : impl_Frac) (p_b : impl_Frac) : Option (impl_Frac × Bool) :=
  ((spec_fMake (w64 (p_a.Num * p_b.Num)) (w64 (p_a.Den * p_b.Den))).bind fun t_4 => some (t_4.1, t_4.2))

noncomputable def spec_fAdd (p_a : impl_Frac) (p_b : impl_Frac) : Option (impl_Frac × Bool) :=
  ((spec_fMake (w64 ((w64 (p_a.Num * p_b.Den)) + (w64 (p_b.Num * p_a.Den)))) (w64 (p_a.Den * p_b.Den))).bind fun t_4 => some (t_4.1, t_4.2))

noncomputable def spec_pTwo (p_a : impl_Loss) (p_b : impl_Loss) : Option (impl_Loss × Bool) :=
  ((spec_fMul p_a.Ratio p_b.Ratio).bind fun t_4 => ((spec_fAdd p_a.Rho p_b.Rho).bind fun t_6 => (((cond (!t_4.2) (some true) (some (!t_6.2))) : Option (Bool)).bind fun t_8 => (cond t_8 (some ((impl_Loss.mk (impl_Frac.mk 0 0) (impl_Frac.mk 0 0)), false)) (some ((impl_Loss.mk t_4.1 t_6.1), true))))))

noncomputable def spec_CountUses_l1 (p_budget : impl_Loss) (p_x : impl_Loss) : Int × Int × impl_Loss → Option (Stp (Int × Int × impl_Loss) (Int))
  | (best_8, k_9, sum_10) => (cond (decide (k_9 ≤ 60)) ((spec_pTwo sum_10 p_x).bind fun t_11 => (cond (!t_11.2) (some (.done best_8)) ((spec_pWithin p_budget t_11.1).bind fun t_13 => (((cond t_13 (some k_9) (some best_8)) : Option (Int)).bind fun best_14 => some (.next (best_14, (w64 (k_9 + 1)), t_11.1)))))) (some (.done best_8)))

noncomputable def spec_CountUses (p_budget : impl_Loss) (p_x : impl_Loss) : Option (Int × Bool) :=
  ((((spec_pGood p_budget).bind fun t_3 => (cond (!t_3) (some true) ((spec_pGood p_x).bind fun t_4 => some (!t_4)))) : Option (Bool)).bind fun t_5 => (cond t_5 (some (0, false)) ((spec_pNone).bind fun t_6 => ((loopC (spec_CountUses_l1 p_budget p_x) (0, 1, t_6)).bind fun best_15 => some (best_15, true)))))

noncomputable def impl_areLosses_l1 (p_l : List impl_Loss) (t_2 : Int) : Option (Stp (Int) ((Unit) ⊕ (Bool))) :=
  (cond (decide (t_2 < (goLen p_l))) ((goAt p_l t_2).bind fun e_3 => ((impl_IsLoss e_3).bind fun t_6 => (cond (!t_6) (some (.done (.inr false))) (some (.next (w64 (t_2 + 1))))))) (some (.done (.inl ()))))

noncomputable def impl_areLosses (p_l : List impl_Loss) : Option (Bool) :=
  (cond (decide (30 < (goLen p_l))) (some false) ((loopC (impl_areLosses_l1 p_l) 0).bind fun | .inl () => some true | .inr o => some o))

noncomputable def impl_ComposeLosses_l1 (p_l : List impl_Loss) : Int × impl_Loss → Option (Stp (Int × impl_Loss) ((impl_Loss) ⊕ (impl_Loss × Bool)))
  | (t_6, sum_7) => (cond (decide (t_6 < (goLen p_l))) ((goAt p_l t_6).bind fun e_8 => ((impl_composed sum_7 e_8).bind fun t_11 => (cond (!t_11.2) (some (.done (.inr ((impl_Loss.mk (impl_Frac.mk 0 0) (impl_Frac.mk 0 0)), false)))) (some (.next ((w64 (t_6 + 1)), t_11.1)))))) (some (.done (.inl sum_7))))

noncomputable def impl_ComposeLosses (p_l : List impl_Loss) : Option (impl_Loss × Bool) :=
  ((impl_areLosses p_l).bind fun t_3 => (cond (!t_3) (some ((impl_Loss.mk (impl_Frac.mk 0 0) (impl_Frac.mk 0 0)), false)) ((impl_NoLoss).bind fun t_4 => ((loopC (impl_ComposeLosses_l1 p_l) (0, t_4)).bind fun | .inl sum_12 => some (sum_12, true) | .inr o => some o))))

noncomputable def impl_IsWithin (p_budget : impl_Loss) (p_x : impl_Loss) : Option (Bool × Bool) :=
  ((((impl_IsLoss p_budget).bind fun t_3 => (cond (!t_3) (some true) ((impl_IsLoss p_x).bind fun t_4 => some (!t_4)))) : Option (Bool)).bind fun t_5 => (cond t_5 (some (false, false)) ((impl_isWithin p_budget p_x).bind fun t_6 => some (t_6, true))))

noncomputable def laws_FnLosses_l1 (t_10 : impl_Loss × impl_Loss) (t_13 : Int × Bool) : (List impl_Loss) × Int → Option (Stp ((List impl_Loss) × Int) ((List impl_Loss)))
  | (l_17, i_19) => (cond (decide (i_19 < t_13.1)) ((goApp 32 l_17 ([t_10.2] : List impl_Loss)).bind fun l_21 => some (.next (l_21, (w64 (i_19 + 1))))) (some (.done l_17)))

noncomputable def laws_FnLosses (p_code : List (K .u8)) (p_more : List (K .u8)) : Option (Bool) :=
  (cond (decide (1048576 < (w64 ((goLen p_code) + (goLen p_more))))) (some true) ((spec_DrawRemainingLoss p_code).bind fun t_3 => ((impl_RemainingLoss t_3.1 t_3.2).bind fun t_6 => ((spec_RemainingLoss t_3.1 t_3.2).bind fun t_8 => ((spec_DrawCountUses p_more).bind fun t_10 => ((impl_CountUses t_10.1 t_10.2).bind fun t_13 => ((spec_CountUses t_10.1 t_10.2).bind fun t_14 => (((cond (t_6.2 != t_8.2) (some true) (cond (!(((t_6.1.Ratio.Num == t_8.1.Ratio.Num) && ((t_6.1.Ratio.Den == t_8.1.Ratio.Den) && true)) && (((t_6.1.Rho.Num == t_8.1.Rho.Num) && ((t_6.1.Rho.Den == t_8.1.Rho.Den) && true)) && true))) (some true) (cond (t_13.2 != t_14.2) (some true) (some (t_13.1 != t_14.1))))) : Option (Bool)).bind fun t_15 => (cond t_15 (some false) (((cond t_13.2 (cond (decide (0 < t_13.1)) (some (decide (t_13.1 ≤ 30))) (some false)) (some false)) : Option (Bool)).bind fun t_16 => (((cond t_16 ((loopC (laws_FnLosses_l1 t_10 t_13) (([] : List impl_Loss), 0)).bind fun l_23 => ((impl_ComposeLosses l_23).bind fun t_25 => ((impl_IsWithin t_10.1 t_25.1).bind fun t_28 => (((cond (!t_25.2) (some true) (cond (!t_28.2) (some true) (some (!t_28.1)))) : Option (Bool)).bind fun t_29 => (cond t_29 (some (.inr false)) (some (.inl ()))))))) (some (.inl ()))) : Option ((Unit) ⊕ (Bool))).bind fun | .inl () => (cond (!t_6.2) (some true) ((impl_ComposeLosses ([t_6.1, t_3.2] : List impl_Loss)).bind fun t_31 => ((((impl_IsLoss t_6.1).bind fun t_34 => (cond t_34 (cond (!t_31.2) (some true) (some (((t_31.1.Ratio.Num == t_3.1.Ratio.Num) && ((t_31.1.Ratio.Den == t_3.1.Ratio.Den) && true)) && (((t_31.1.Rho.Num == t_3.1.Rho.Num) && ((t_31.1.Rho.Den == t_3.1.Rho.Den) && true)) && true)))) (some false))) : Option (Bool)).bind fun t_35 => some t_35))) | .inr o => some o)))))))))))

end Go.Gx.F
