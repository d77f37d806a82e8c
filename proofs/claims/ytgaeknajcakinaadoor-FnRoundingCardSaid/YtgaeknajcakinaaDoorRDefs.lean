/- The plain functions that the walks come to. -/
import Derived.Lib.ItoaNum
import Derived.Test.YtgaeknajcakinaaDoorGy
namespace Go.Gx.F
open Go.Gx
set_option linter.all false

structure spec_l1Cur where
  code : List (K .u8)
  at_ : Int
  seed : K .u64

instance : Rep spec_l1Cur where
  wd := 3
  rd m cs x := ∃ s1 : Sl, cs = [s1.v, (.int .i64 x.at_), (.int .u64 x.seed.v)] ∧ Rd m s1 x.code
  mono hm h := by
    obtain ⟨s1, rfl, h1⟩ := h
    exact ⟨s1, rfl, h1.mono hm⟩
  len h := by obtain ⟨s1, rfl, _⟩ := h; rfl
  one h := by obtain ⟨s1, rfl, _⟩ := h; rfl

instance : Rng spec_l1Cur := ⟨fun x => Rng.ok x.code ∧ Rng.ok x.at_ ∧ Rng.ok x.seed⟩

structure impl_Frac where
  Num : Int
  Den : Int

instance : Rep impl_Frac where
  wd := 2
  rd m cs x := cs = [(.int .i64 x.Num), (.int .i64 x.Den)]
  mono _ h := h
  len h := by subst h; rfl
  one h := by subst h; rfl

instance : Flat impl_Frac := ⟨fun h => h⟩

instance : Rng impl_Frac := ⟨fun x => Rng.ok x.Num ∧ Rng.ok x.Den⟩

noncomputable def spec_l1Cur_next (p_c : spec_l1Cur) : Option (Int × spec_l1Cur) :=
  (((cond (decide (p_c.at_ < (goLen p_c.code))) ((goAt p_c.code p_c.at_).bind fun e_2 => some (w64 e_2.v)) (some 0)) : Option (Int)).bind fun b_4 => (cond (decide ((w64 (p_c.at_ + 1)) ≤ (goLen p_c.code))) (some (b_4, (spec_l1Cur.mk p_c.code (w64 (p_c.at_ + 1)) (⟨(IntKind.wrap .u64 ((IntKind.wrap .u64 ((IntKind.wrap .u64 (p_c.seed.v * 6364136223846793005)) + (IntKind.wrap .u64 b_4))) + 1442695040888963407))⟩ : K .u64)))) ((goShr .u64 (IntKind.wrap .u64 ((IntKind.wrap .u64 ((IntKind.wrap .u64 (p_c.seed.v * 6364136223846793005)) + (IntKind.wrap .u64 b_4))) + 1442695040888963407)) 40).bind fun t_5 => some ((w64 (goBits .and .u64 t_5 255)), (spec_l1Cur.mk p_c.code (w64 (p_c.at_ + 1)) (⟨(IntKind.wrap .u64 ((IntKind.wrap .u64 ((IntKind.wrap .u64 (p_c.seed.v * 6364136223846793005)) + (IntKind.wrap .u64 b_4))) + 1442695040888963407))⟩ : K .u64))))))

noncomputable def spec_l1Cur_pick (p_c : spec_l1Cur) (p_n : Int) : Option (Int × spec_l1Cur) :=
  (cond (decide (p_n ≤ 1)) (some (0, p_c)) ((spec_l1Cur_next p_c).bind fun t_3 => (((cond (decide (200 < p_n)) ((spec_l1Cur_next t_3.2).bind fun t_6 => some ((w64 ((w64 (t_3.1 * 256)) + t_6.1)), t_6.2)) (some (t_3.1, t_3.2))) : Option (Int × spec_l1Cur)).bind fun (x_8, p_c_9) => ((goRem x_8 p_n).bind fun t_11 => some (t_11, p_c_9)))))

noncomputable def spec_l1Cur_one (p_c : spec_l1Cur) (p_n : Int) : Option (Bool × spec_l1Cur) :=
  ((spec_l1Cur_pick p_c p_n).bind fun t_3 => some (t_3.1 == 0, t_3.2))

noncomputable def spec_l1Most (p_a : Int) (p_b : Int) : Option (Int) :=
  (cond (decide (p_b < p_a)) (some p_a) (some p_b))

noncomputable def spec_l1Abs (p_n : Int) : Option (Int) :=
  ((spec_l1Most p_n (w64 (-p_n))).bind fun t_1 => some t_1)

noncomputable def spec_fGcd_l1  : Int × Int → Option (Stp (Int × Int) (Int))
  | (a_1, b_2) => (cond (b_2 != 0) ((goRem a_1 b_2).bind fun t_3 => some (.next (b_2, t_3))) (some (.done a_1)))

noncomputable def spec_fGcd (p_a : Int) (p_b : Int) : Option (Int) :=
  ((loopC (spec_fGcd_l1) (p_a, p_b)).bind fun a_4 => ((spec_l1Abs a_4).bind fun t_5 => some t_5))

noncomputable def spec_l1In (p_n : Int) (p_lo : Int) (p_hi : Int) : Option (Bool) :=
  (((cond (decide (p_lo ≤ p_n)) (some (decide (p_n ≤ p_hi))) (some false)) : Option (Bool)).bind fun t_1 => some t_1)

noncomputable def spec_fGood (p_f : impl_Frac) : Option (Bool) :=
  ((((spec_l1In p_f.Den 1 1000000000).bind fun t_2 => (cond t_2 ((spec_l1In p_f.Num (-1000000000) 1000000000).bind fun t_3 => (cond t_3 ((spec_fGcd p_f.Num p_f.Den).bind fun t_4 => some (t_4 == 1)) (some false))) (some false))) : Option (Bool)).bind fun t_5 => some t_5)

noncomputable def spec_fMake (p_n : Int) (p_d : Int) : Option (impl_Frac × Bool) :=
  (cond (p_d == 0) (some ((impl_Frac.mk 0 0), false)) ((spec_fGcd p_n p_d).bind fun t_2 => (((cond (decide (p_d < 0)) (some (w64 (-t_2))) (some t_2)) : Option (Int)).bind fun g_3 => ((goQuo .i64 p_n g_3).bind fun t_4 => ((goQuo .i64 p_d g_3).bind fun t_5 => ((spec_fGood (impl_Frac.mk t_4 t_5)).bind fun t_7 => (cond (!t_7) (some ((impl_Frac.mk 0 0), false)) (some ((impl_Frac.mk t_4 t_5), true)))))))))

noncomputable def spec_l1Cur_among (p_c : spec_l1Cur) (p_list : List Int) : Option (Int × spec_l1Cur) :=
  ((spec_l1Cur_pick p_c (goLen p_list)).bind fun t_4 => ((goAt p_list t_4.1).bind fun e_6 => some (e_6, t_4.2)))

noncomputable def spec_l1Cur_frac (p_c : spec_l1Cur) : Option (impl_Frac × spec_l1Cur) :=
  ((spec_l1Cur_pick p_c 41).bind fun t_4 => ((spec_l1Cur_pick t_4.2 12).bind fun t_7 => ((spec_fMake (w64 (t_4.1 - 20)) (w64 (1 + t_7.1))).bind fun t_9 => some (t_9.1, t_7.2))))

noncomputable def spec_l1Cur_anyFrac (p_c : spec_l1Cur) : Option (impl_Frac × spec_l1Cur) :=
  ((spec_l1Cur_pick p_c 16).bind fun t_4 => (cond (t_4.1 == 0) ((spec_l1Cur_among t_4.2 ([1000000000, -1000000000, 999999999, 1000000001] : List Int)).bind fun t_24 => ((spec_l1Cur_among t_24.2 ([1, 7, 999999999, 999999937] : List Int)).bind fun t_28 => some ((impl_Frac.mk t_24.1 t_28.1), t_28.2))) (cond (t_4.1 == 1) ((spec_l1Cur_pick t_4.2 9).bind fun t_17 => ((spec_l1Cur_pick t_17.2 7).bind fun t_20 => some ((impl_Frac.mk (w64 (t_17.1 - 4)) (w64 (t_20.1 - 1))), t_20.2))) (cond (t_4.1 == 2) ((spec_l1Cur_pick t_4.2 3).bind fun t_10 => ((spec_l1Cur_among t_10.2 ([1000000000, 1000000001, 999999937] : List Int)).bind fun t_14 => some ((impl_Frac.mk t_10.1 t_14.1), t_14.2))) ((spec_l1Cur_frac t_4.2).bind fun t_7 => some (t_7.1, t_7.2))))))

noncomputable def spec_DrawRoundFrac (p_code : List (K .u8)) : Option (impl_Frac) :=
  ((spec_l1Cur_one (spec_l1Cur.mk p_code 0 (⟨0⟩ : K .u64)) 2).bind fun t_5 => (cond t_5.1 ((spec_l1Cur_pick t_5.2 20).bind fun t_11 => ((spec_fMake (w64 ((w64 (2 * t_11.1)) - 19)) 2).bind fun t_13 => some t_13.1)) ((spec_l1Cur_anyFrac t_5.2).bind fun t_8 => some t_8.1)))

noncomputable def impl_gcdOf_l1  : Int × Int → Option (Stp (Int × Int) (Int))
  | (a_3, b_4) => (cond (b_4 != 0) ((goRem a_3 b_4).bind fun t_5 => some (.next (b_4, t_5))) (some (.done a_3)))

noncomputable def impl_gcdOf (p_a : Int) (p_b : Int) : Option (Int) :=
  (((cond (decide (p_a < 0)) (some (w64 (-p_a))) (some p_a)) : Option (Int)).bind fun a_1 => (((cond (decide (p_b < 0)) (some (w64 (-p_b))) (some p_b)) : Option (Int)).bind fun b_2 => ((loopC (impl_gcdOf_l1) (a_1, b_2)).bind fun a_6 => some a_6)))

noncomputable def impl_IsFrac (p_f : impl_Frac) : Option (Bool) :=
  (((cond (decide (1 ≤ p_f.Den)) (cond (decide (p_f.Den ≤ 1000000000)) (cond (decide ((-1000000000) ≤ p_f.Num)) (cond (decide (p_f.Num ≤ 1000000000)) ((impl_gcdOf p_f.Num p_f.Den).bind fun t_2 => some (t_2 == 1)) (some false)) (some false)) (some false)) (some false)) : Option (Bool)).bind fun t_3 => some t_3)

noncomputable def impl_floorDiv (p_n : Int) (p_d : Int) : Option (Int) :=
  ((goQuo .i64 p_n p_d).bind fun t_1 => ((goRem p_n p_d).bind fun t_2 => (((cond (decide (t_2 < 0)) (some (w64 (t_1 - 1))) (some t_1)) : Option (Int)).bind fun q_3 => some q_3)))

noncomputable def impl_roundDiv (p_n : Int) (p_d : Int) : Option (Int) :=
  ((impl_floorDiv p_n p_d).bind fun t_1 => (((cond (decide (p_d < (w64 (2 * (w64 (p_n - (w64 (t_1 * p_d)))))))) (some true) (cond ((w64 (2 * (w64 (p_n - (w64 (t_1 * p_d)))))) == p_d) ((goRem t_1 2).bind fun t_2 => some (t_2 != 0)) (some false))) : Option (Bool)).bind fun t_3 => (((cond t_3 (some (w64 (t_1 + 1))) (some t_1)) : Option (Int)).bind fun q_4 => some q_4)))

noncomputable def impl_RoundFrac (p_f : impl_Frac) : Option (Int × Bool) :=
  ((impl_IsFrac p_f).bind fun t_2 => (cond (!t_2) (some (0, false)) ((impl_roundDiv p_f.Num p_f.Den).bind fun t_3 => some (t_3, true))))

noncomputable def spec_fFloor (p_f : impl_Frac) : Option (Int) :=
  (cond (p_f.Den == 0) (some 0) ((goQuo .i64 p_f.Num p_f.Den).bind fun t_2 => ((goRem p_f.Num p_f.Den).bind fun t_3 => (((cond (decide (t_3 < 0)) (some (w64 (t_2 - 1))) (some t_2)) : Option (Int)).bind fun q_4 => some q_4))))

noncomputable def spec_fRound (p_f : impl_Frac) : Option (Int) :=
  ((spec_fFloor p_f).bind fun t_2 => (((cond (decide (p_f.Den < (w64 (2 * (w64 (p_f.Num - (w64 (t_2 * p_f.Den)))))))) (some true) (cond ((w64 (2 * (w64 (p_f.Num - (w64 (t_2 * p_f.Den)))))) == p_f.Den) ((goRem t_2 2).bind fun t_3 => some (t_3 != 0)) (some false))) : Option (Bool)).bind fun t_4 => (((cond t_4 (some (w64 (t_2 + 1))) (some t_2)) : Option (Int)).bind fun q_5 => some q_5)))

noncomputable def spec_RoundFrac (p_f : impl_Frac) : Option (Int × Bool) :=
  ((spec_fGood p_f).bind fun t_2 => (cond (!t_2) (some (0, false)) ((spec_fRound p_f).bind fun t_3 => some (t_3, true))))

noncomputable def impl_FloorFrac (p_f : impl_Frac) : Option (Int × Bool) :=
  ((impl_IsFrac p_f).bind fun t_2 => (cond (!t_2) (some (0, false)) ((impl_floorDiv p_f.Num p_f.Den).bind fun t_3 => some (t_3, true))))

noncomputable def spec_FloorFrac (p_f : impl_Frac) : Option (Int × Bool) :=
  ((spec_fGood p_f).bind fun t_2 => (cond (!t_2) (some (0, false)) ((spec_fFloor p_f).bind fun t_3 => some (t_3, true))))

noncomputable def spec_DrawPowFrac (p_code : List (K .u8)) : Option (impl_Frac × Int) :=
  ((spec_l1Cur_anyFrac (spec_l1Cur.mk p_code 0 (⟨0⟩ : K .u64))).bind fun t_5 => ((spec_l1Cur_among t_5.2 ([0, 1, 2, 3, 5, 9, 30, 60, 61, -1] : List Int)).bind fun t_9 => some (t_5.1, t_9.1)))

noncomputable def impl_reduced (p_n : Int) (p_d : Int) : Option (impl_Frac × Bool) :=
  ((impl_gcdOf p_n p_d).bind fun t_2 => ((goQuo .i64 p_n t_2).bind fun t_3 => ((goQuo .i64 p_d t_2).bind fun t_4 => (((cond (decide (t_4 < 0)) (some ((w64 (-t_3)), (w64 (-t_4)))) (some (t_3, t_4))) : Option (Int × Int)).bind fun (n_5, d_6) => (((cond (decide (1000000000 < n_5)) (some true) (cond (decide (n_5 < (-1000000000))) (some true) (some (decide (1000000000 < d_6))))) : Option (Bool)).bind fun t_7 => (cond t_7 (some ((impl_Frac.mk 0 0), false)) (some ((impl_Frac.mk n_5 d_6), true))))))))

noncomputable def impl_MulFrac (p_a : impl_Frac) (p_b : impl_Frac) : Option (impl_Frac × Bool) :=
  ((((impl_IsFrac p_a).bind fun t_4 => (cond (!t_4) (some true) ((impl_IsFrac p_b).bind fun t_5 => some (!t_5)))) : Option (Bool)).bind fun t_6 => (cond t_6 (some ((impl_Frac.mk 0 0), false)) ((impl_reduced (w64 (p_a.Num * p_b.Num)) (w64 (p_a.Den * p_b.Den))).bind fun t_7 => some (t_7.1, t_7.2))))

noncomputable def impl_PowFrac_l1 (p_f : impl_Frac) (p_k : Int) : Int × impl_Frac → Option (Stp (Int × impl_Frac) ((impl_Frac) ⊕ (impl_Frac × Bool)))
  | (t_6, p_7) => (cond (decide (t_6 < p_k)) ((impl_MulFrac p_7 p_f).bind fun t_8 => (cond (!t_8.2) (some (.done (.inr ((impl_Frac.mk 0 0), false)))) (some (.next ((w64 (t_6 + 1)), t_8.1))))) (some (.done (.inl p_7))))

noncomputable def impl_PowFrac (p_f : impl_Frac) (p_k : Int) : Option (impl_Frac × Bool) :=
  ((((impl_IsFrac p_f).bind fun t_3 => (cond (!t_3) (some true) (cond (decide (p_k < 0)) (some true) (some (decide (60 < p_k)))))) : Option (Bool)).bind fun t_4 => (cond t_4 (some ((impl_Frac.mk 0 0), false)) ((loopC (impl_PowFrac_l1 p_f p_k) (0, (impl_Frac.mk 1 1))).bind fun | .inl p_10 => some (p_10, true) | .inr o => some o)))

noncomputable def spec_fInt (p_n : Int) : Option (impl_Frac) :=
  some (impl_Frac.mk p_n 1)

noncomputable def spec_fMul (p_a : impl_Frac) (p_b : impl_Frac) : Option (impl_Frac × Bool) :=
  ((spec_fMake (w64 (p_a.Num * p_b.Num)) (w64 (p_a.Den * p_b.Den))).bind fun t_4 => some (t_4.1, t_4.2))

noncomputable def spec_fPow_l1 (p_f : impl_Frac) : Int × impl_Frac → Option (Stp (Int × impl_Frac) ((impl_Frac) ⊕ (impl_Frac × Bool)))
  | (k_5, out_6) => (cond (decide (0 < k_5)) ((spec_fMul out_6 p_f).bind fun t_7 => (cond (!t_7.2) (some (.done (.inr ((impl_Frac.mk 0 0), false)))) (some (.next ((w64 (k_5 - 1)), t_7.1))))) (some (.done (.inl out_6))))

noncomputable def spec_fPow (p_f : impl_Frac) (p_k : Int) : Option (impl_Frac × Bool) :=
  ((spec_fInt 1).bind fun t_3 => ((loopC (spec_fPow_l1 p_f) (p_k, t_3)).bind fun | .inl out_9 => some (out_9, true) | .inr o => some o))

noncomputable def spec_PowFrac (p_f : impl_Frac) (p_k : Int) : Option (impl_Frac × Bool) :=
  ((((spec_fGood p_f).bind fun t_3 => (cond (!t_3) (some true) ((spec_l1In p_k 0 60).bind fun t_4 => some (!t_4)))) : Option (Bool)).bind fun t_5 => (cond t_5 (some ((impl_Frac.mk 0 0), false)) ((spec_fPow p_f p_k).bind fun t_6 => some (t_6.1, t_6.2))))

noncomputable def spec_DrawSumFracs_l1  : (List impl_Frac) × Int × spec_l1Cur → Option (Stp ((List impl_Frac) × Int × spec_l1Cur) ((List impl_Frac) × spec_l1Cur))
  | (l_6, k_8, t_9) => (cond (decide (0 < k_8)) ((spec_l1Cur_frac t_9).bind fun t_12 => ((goApp 16 l_6 ([t_12.1] : List impl_Frac)).bind fun l_15 => some (.next (l_15, (w64 (k_8 - 1)), t_12.2)))) (some (.done (l_6, t_9))))

noncomputable def spec_DrawSumFracs_l2  : (List impl_Frac) × spec_l1Cur → Option (Stp ((List impl_Frac) × spec_l1Cur) ((List impl_Frac)))
  | (l_24, t_26) => ((spec_l1Cur_pick t_26 2).bind fun t_29 => (cond (decide ((goLen l_24) < (w64 (100 + t_29.1)))) ((spec_fInt 1).bind fun t_31 => ((goApp 16 l_24 ([t_31] : List impl_Frac)).bind fun l_33 => some (.next (l_33, t_29.2)))) (some (.done l_24))))

noncomputable def spec_DrawSumFracs (p_code : List (K .u8)) : Option ((List impl_Frac)) :=
  ((spec_l1Cur_pick (spec_l1Cur.mk p_code 0 (⟨0⟩ : K .u64)) 6).bind fun t_4 => ((loopC (spec_DrawSumFracs_l1) (([] : List impl_Frac), t_4.1, t_4.2)).bind fun (l_17, t_19) => ((spec_l1Cur_pick t_19 20).bind fun t_22 => (((cond (t_22.1 == 0) ((spec_l1Cur_anyFrac t_22.2).bind fun t_40 => ((goApp 16 l_17 ([t_40.1] : List impl_Frac)).bind fun l_43 => some l_43)) (((cond (t_22.1 == 1) ((loopC (spec_DrawSumFracs_l2) (l_17, t_22.2)).bind fun l_35 => some l_35) (some l_17)) : Option ((List impl_Frac))).bind fun l_37 => some l_37)) : Option ((List impl_Frac))).bind fun l_45 => some l_45))))

noncomputable def impl_AddFrac (p_a : impl_Frac) (p_b : impl_Frac) : Option (impl_Frac × Bool) :=
  ((((impl_IsFrac p_a).bind fun t_4 => (cond (!t_4) (some true) ((impl_IsFrac p_b).bind fun t_5 => some (!t_5)))) : Option (Bool)).bind fun t_6 => (cond t_6 (some ((impl_Frac.mk 0 0), false)) ((impl_reduced (w64 ((w64 (p_a.Num * p_b.Den)) + (w64 (p_b.Num * p_a.Den)))) (w64 (p_a.Den * p_b.Den))).bind fun t_7 => some (t_7.1, t_7.2))))

noncomputable def impl_SumFracs_l1 (p_l : List impl_Frac) : Int × impl_Frac → Option (Stp (Int × impl_Frac) ((impl_Frac) ⊕ (impl_Frac × Bool)))
  | (t_4, sum_5) => (cond (decide (t_4 < (goLen p_l))) ((goAt p_l t_4).bind fun e_6 => ((impl_AddFrac sum_5 e_6).bind fun t_9 => (cond (!t_9.2) (some (.done (.inr ((impl_Frac.mk 0 0), false)))) (some (.next ((w64 (t_4 + 1)), t_9.1)))))) (some (.done (.inl sum_5))))

noncomputable def impl_SumFracs (p_l : List impl_Frac) : Option (impl_Frac × Bool) :=
  (cond (decide (100 < (goLen p_l))) (some ((impl_Frac.mk 0 0), false)) ((loopC (impl_SumFracs_l1 p_l) (0, (impl_Frac.mk 0 1))).bind fun | .inl sum_11 => some (sum_11, true) | .inr o => some o))

noncomputable def spec_fAdd (p_a : impl_Frac) (p_b : impl_Frac) : Option (impl_Frac × Bool) :=
  ((spec_fMake (w64 ((w64 (p_a.Num * p_b.Den)) + (w64 (p_b.Num * p_a.Den)))) (w64 (p_a.Den * p_b.Den))).bind fun t_4 => some (t_4.1, t_4.2))

noncomputable def spec_fSum_l1 (p_l : List impl_Frac) : Int × impl_Frac → Option (Stp (Int × impl_Frac) ((impl_Frac) ⊕ (impl_Frac × Bool)))
  | (t_5, out_6) => (cond (decide (t_5 < (goLen p_l))) ((goAt p_l t_5).bind fun e_7 => ((spec_fAdd out_6 e_7).bind fun t_10 => (cond (!t_10.2) (some (.done (.inr ((impl_Frac.mk 0 0), false)))) (some (.next ((w64 (t_5 + 1)), t_10.1)))))) (some (.done (.inl out_6))))

noncomputable def spec_fSum (p_l : List impl_Frac) : Option (impl_Frac × Bool) :=
  ((spec_fInt 0).bind fun t_3 => ((loopC (spec_fSum_l1 p_l) (0, t_3)).bind fun | .inl out_12 => some (out_12, true) | .inr o => some o))

noncomputable def spec_SumFracs_l1 (p_l : List impl_Frac) (t_3 : Int) : Option (Stp (Int) ((Unit) ⊕ (impl_Frac × Bool))) :=
  (cond (decide (t_3 < (goLen p_l))) ((goAt p_l t_3).bind fun e_4 => ((spec_fGood e_4).bind fun t_7 => (cond (!t_7) (some (.done (.inr ((impl_Frac.mk 0 0), false)))) (some (.next (w64 (t_3 + 1))))))) (some (.done (.inl ()))))

noncomputable def spec_SumFracs (p_l : List impl_Frac) : Option (impl_Frac × Bool) :=
  (cond (decide (100 < (goLen p_l))) (some ((impl_Frac.mk 0 0), false)) ((loopC (spec_SumFracs_l1 p_l) 0).bind fun | .inl () => ((spec_fSum p_l).bind fun t_8 => some (t_8.1, t_8.2)) | .inr o => some o))

noncomputable def internal_strconv_small (p_i : Int) : Option ((List UInt8)) :=
  (cond (decide (p_i < 10)) ((goSub ([48, 49, 50, 51, 52, 53, 54, 55, 56, 57, 97, 98, 99, 100, 101, 102, 103, 104, 105, 106, 107, 108, 109, 110, 111, 112, 113, 114, 115, 116, 117, 118, 119, 120, 121, 122] : List UInt8) p_i (w64 (p_i + 1))).bind fun t_2 => some t_2) ((goSub ([48, 48, 48, 49, 48, 50, 48, 51, 48, 52, 48, 53, 48, 54, 48, 55, 48, 56, 48, 57, 49, 48, 49, 49, 49, 50, 49, 51, 49, 52, 49, 53, 49, 54, 49, 55, 49, 56, 49, 57, 50, 48, 50, 49, 50, 50, 50, 51, 50, 52, 50, 53, 50, 54, 50, 55, 50, 56, 50, 57, 51, 48, 51, 49, 51, 50, 51, 51, 51, 52, 51, 53, 51, 54, 51, 55, 51, 56, 51, 57, 52, 48, 52, 49, 52, 50, 52, 51, 52, 52, 52, 53, 52, 54, 52, 55, 52, 56, 52, 57, 53, 48, 53, 49, 53, 50, 53, 51, 53, 52, 53, 53, 53, 54, 53, 55, 53, 56, 53, 57, 54, 48, 54, 49, 54, 50, 54, 51, 54, 52, 54, 53, 54, 54, 54, 55, 54, 56, 54, 57, 55, 48, 55, 49, 55, 50, 55, 51, 55, 52, 55, 53, 55, 54, 55, 55, 55, 56, 55, 57, 56, 48, 56, 49, 56, 50, 56, 51, 56, 52, 56, 53, 56, 54, 56, 55, 56, 56, 56, 57, 57, 48, 57, 49, 57, 50, 57, 51, 57, 52, 57, 53, 57, 54, 57, 55, 57, 56, 57, 57] : List UInt8) (w64 (p_i * 2)) (w64 ((w64 (p_i * 2)) + 2))).bind fun t_1 => some t_1))

noncomputable def math_bits_Len64 (p_x : K .u64) : Option (Int) :=
  (((cond (decide (4294967296 ≤ p_x.v)) ((goShr .u64 p_x.v 32).bind fun t_1 => some (t_1, 32)) (some (p_x.v, 0))) : Option (Int × Int)).bind fun (x_2, n_3) => (((cond (decide (65536 ≤ x_2)) ((goShr .u64 x_2 16).bind fun t_4 => some (t_4, (w64 (n_3 + 16)))) (some (x_2, n_3))) : Option (Int × Int)).bind fun (x_5, n_6) => (((cond (decide (256 ≤ x_5)) ((goShr .u64 x_5 8).bind fun t_7 => some (t_7, (w64 (n_6 + 8)))) (some (x_5, n_6))) : Option (Int × Int)).bind fun (x_8, n_9) => ((goStrAt ([0, 1, 2, 2, 3, 3, 3, 3, 4, 4, 4, 4, 4, 4, 4, 4, 5, 5, 5, 5, 5, 5, 5, 5, 5, 5, 5, 5, 5, 5, 5, 5, 6, 6, 6, 6, 6, 6, 6, 6, 6, 6, 6, 6, 6, 6, 6, 6, 6, 6, 6, 6, 6, 6, 6, 6, 6, 6, 6, 6, 6, 6, 6, 6, 7, 7, 7, 7, 7, 7, 7, 7, 7, 7, 7, 7, 7, 7, 7, 7, 7, 7, 7, 7, 7, 7, 7, 7, 7, 7, 7, 7, 7, 7, 7, 7, 7, 7, 7, 7, 7, 7, 7, 7, 7, 7, 7, 7, 7, 7, 7, 7, 7, 7, 7, 7, 7, 7, 7, 7, 7, 7, 7, 7, 7, 7, 7, 7, 8, 8, 8, 8, 8, 8, 8, 8, 8, 8, 8, 8, 8, 8, 8, 8, 8, 8, 8, 8, 8, 8, 8, 8, 8, 8, 8, 8, 8, 8, 8, 8, 8, 8, 8, 8, 8, 8, 8, 8, 8, 8, 8, 8, 8, 8, 8, 8, 8, 8, 8, 8, 8, 8, 8, 8, 8, 8, 8, 8, 8, 8, 8, 8, 8, 8, 8, 8, 8, 8, 8, 8, 8, 8, 8, 8, 8, 8, 8, 8, 8, 8, 8, 8, 8, 8, 8, 8, 8, 8, 8, 8, 8, 8, 8, 8, 8, 8, 8, 8, 8, 8, 8, 8, 8, 8, 8, 8, 8, 8, 8, 8, 8, 8, 8, 8, 8, 8, 8, 8, 8, 8, 8, 8, 8, 8, 8, 8] : List UInt8) (IntKind.wrap .u8 x_8)).bind fun t_10 => some (w64 (n_9 + (w64 t_10)))))))

noncomputable def internal_strconv_log10Pow2 (p_x : Int) : Option (Int) :=
  ((goShr .i64 (w64 (p_x * 78913)) 18).bind fun t_1 => some t_1)

noncomputable def internal_strconv_bool2_int (p_b : Bool) : Option (Int) :=
  (cond p_b (some 1) (some 0))

noncomputable def internal_strconv_formatBase10_l1  : (List (K .u8)) × Int × Int → Option (Stp ((List (K .u8)) × Int × Int) ((List (K .u8)) × Int × Int))
  | (a_2, u_4, nd_5) => (cond (decide (8 ≤ nd_5)) ((goRem u_4 100000000).bind fun t_6 => ((goQuo .u64 u_4 100000000).bind fun t_7 => ((goQuo .u32 (IntKind.wrap .u32 t_6) 10000).bind fun t_8 => ((goRem (IntKind.wrap .u32 t_6) 10000).bind fun t_9 => ((goQuo .u32 t_9 100).bind fun t_10 => ((goRem t_9 100).bind fun t_11 => ((goQuo .u32 t_8 100).bind fun t_12 => ((goRem t_8 100).bind fun t_13 => ((goStrAt ([48, 48, 48, 49, 48, 50, 48, 51, 48, 52, 48, 53, 48, 54, 48, 55, 48, 56, 48, 57, 49, 48, 49, 49, 49, 50, 49, 51, 49, 52, 49, 53, 49, 54, 49, 55, 49, 56, 49, 57, 50, 48, 50, 49, 50, 50, 50, 51, 50, 52, 50, 53, 50, 54, 50, 55, 50, 56, 50, 57, 51, 48, 51, 49, 51, 50, 51, 51, 51, 52, 51, 53, 51, 54, 51, 55, 51, 56, 51, 57, 52, 48, 52, 49, 52, 50, 52, 51, 52, 52, 52, 53, 52, 54, 52, 55, 52, 56, 52, 57, 53, 48, 53, 49, 53, 50, 53, 51, 53, 52, 53, 53, 53, 54, 53, 55, 53, 56, 53, 57, 54, 48, 54, 49, 54, 50, 54, 51, 54, 52, 54, 53, 54, 54, 54, 55, 54, 56, 54, 57, 55, 48, 55, 49, 55, 50, 55, 51, 55, 52, 55, 53, 55, 54, 55, 55, 55, 56, 55, 57, 56, 48, 56, 49, 56, 50, 56, 51, 56, 52, 56, 53, 56, 54, 56, 55, 56, 56, 56, 57, 57, 48, 57, 49, 57, 50, 57, 51, 57, 52, 57, 53, 57, 54, 57, 55, 57, 56, 57, 57] : List UInt8) (IntKind.wrap .u32 ((IntKind.wrap .u32 (t_11 * 2)) + 1))).bind fun t_14 => ((goStrAt ([48, 48, 48, 49, 48, 50, 48, 51, 48, 52, 48, 53, 48, 54, 48, 55, 48, 56, 48, 57, 49, 48, 49, 49, 49, 50, 49, 51, 49, 52, 49, 53, 49, 54, 49, 55, 49, 56, 49, 57, 50, 48, 50, 49, 50, 50, 50, 51, 50, 52, 50, 53, 50, 54, 50, 55, 50, 56, 50, 57, 51, 48, 51, 49, 51, 50, 51, 51, 51, 52, 51, 53, 51, 54, 51, 55, 51, 56, 51, 57, 52, 48, 52, 49, 52, 50, 52, 51, 52, 52, 52, 53, 52, 54, 52, 55, 52, 56, 52, 57, 53, 48, 53, 49, 53, 50, 53, 51, 53, 52, 53, 53, 53, 54, 53, 55, 53, 56, 53, 57, 54, 48, 54, 49, 54, 50, 54, 51, 54, 52, 54, 53, 54, 54, 54, 55, 54, 56, 54, 57, 55, 48, 55, 49, 55, 50, 55, 51, 55, 52, 55, 53, 55, 54, 55, 55, 55, 56, 55, 57, 56, 48, 56, 49, 56, 50, 56, 51, 56, 52, 56, 53, 56, 54, 56, 55, 56, 56, 56, 57, 57, 48, 57, 49, 57, 50, 57, 51, 57, 52, 57, 53, 57, 54, 57, 55, 57, 56, 57, 57] : List UInt8) (IntKind.wrap .u32 (t_11 * 2))).bind fun t_15 => ((goAt a_2 (w64 (nd_5 - 1))).bind fun e_16 => ((goAt (goSet a_2 (w64 (nd_5 - 1)) (⟨t_14⟩ : K .u8)) (w64 (nd_5 - 2))).bind fun e_19 => ((goStrAt ([48, 48, 48, 49, 48, 50, 48, 51, 48, 52, 48, 53, 48, 54, 48, 55, 48, 56, 48, 57, 49, 48, 49, 49, 49, 50, 49, 51, 49, 52, 49, 53, 49, 54, 49, 55, 49, 56, 49, 57, 50, 48, 50, 49, 50, 50, 50, 51, 50, 52, 50, 53, 50, 54, 50, 55, 50, 56, 50, 57, 51, 48, 51, 49, 51, 50, 51, 51, 51, 52, 51, 53, 51, 54, 51, 55, 51, 56, 51, 57, 52, 48, 52, 49, 52, 50, 52, 51, 52, 52, 52, 53, 52, 54, 52, 55, 52, 56, 52, 57, 53, 48, 53, 49, 53, 50, 53, 51, 53, 52, 53, 53, 53, 54, 53, 55, 53, 56, 53, 57, 54, 48, 54, 49, 54, 50, 54, 51, 54, 52, 54, 53, 54, 54, 54, 55, 54, 56, 54, 57, 55, 48, 55, 49, 55, 50, 55, 51, 55, 52, 55, 53, 55, 54, 55, 55, 55, 56, 55, 57, 56, 48, 56, 49, 56, 50, 56, 51, 56, 52, 56, 53, 56, 54, 56, 55, 56, 56, 56, 57, 57, 48, 57, 49, 57, 50, 57, 51, 57, 52, 57, 53, 57, 54, 57, 55, 57, 56, 57, 57] : List UInt8) (IntKind.wrap .u32 ((IntKind.wrap .u32 (t_10 * 2)) + 1))).bind fun t_22 => ((goStrAt ([48, 48, 48, 49, 48, 50, 48, 51, 48, 52, 48, 53, 48, 54, 48, 55, 48, 56, 48, 57, 49, 48, 49, 49, 49, 50, 49, 51, 49, 52, 49, 53, 49, 54, 49, 55, 49, 56, 49, 57, 50, 48, 50, 49, 50, 50, 50, 51, 50, 52, 50, 53, 50, 54, 50, 55, 50, 56, 50, 57, 51, 48, 51, 49, 51, 50, 51, 51, 51, 52, 51, 53, 51, 54, 51, 55, 51, 56, 51, 57, 52, 48, 52, 49, 52, 50, 52, 51, 52, 52, 52, 53, 52, 54, 52, 55, 52, 56, 52, 57, 53, 48, 53, 49, 53, 50, 53, 51, 53, 52, 53, 53, 53, 54, 53, 55, 53, 56, 53, 57, 54, 48, 54, 49, 54, 50, 54, 51, 54, 52, 54, 53, 54, 54, 54, 55, 54, 56, 54, 57, 55, 48, 55, 49, 55, 50, 55, 51, 55, 52, 55, 53, 55, 54, 55, 55, 55, 56, 55, 57, 56, 48, 56, 49, 56, 50, 56, 51, 56, 52, 56, 53, 56, 54, 56, 55, 56, 56, 56, 57, 57, 48, 57, 49, 57, 50, 57, 51, 57, 52, 57, 53, 57, 54, 57, 55, 57, 56, 57, 57] : List UInt8) (IntKind.wrap .u32 (t_10 * 2))).bind fun t_23 => ((goAt (goSet (goSet a_2 (w64 (nd_5 - 1)) (⟨t_14⟩ : K .u8)) (w64 (nd_5 - 2)) (⟨t_15⟩ : K .u8)) (w64 (nd_5 - 3))).bind fun e_24 => ((goAt (goSet (goSet (goSet a_2 (w64 (nd_5 - 1)) (⟨t_14⟩ : K .u8)) (w64 (nd_5 - 2)) (⟨t_15⟩ : K .u8)) (w64 (nd_5 - 3)) (⟨t_22⟩ : K .u8)) (w64 (nd_5 - 4))).bind fun e_27 => ((goStrAt ([48, 48, 48, 49, 48, 50, 48, 51, 48, 52, 48, 53, 48, 54, 48, 55, 48, 56, 48, 57, 49, 48, 49, 49, 49, 50, 49, 51, 49, 52, 49, 53, 49, 54, 49, 55, 49, 56, 49, 57, 50, 48, 50, 49, 50, 50, 50, 51, 50, 52, 50, 53, 50, 54, 50, 55, 50, 56, 50, 57, 51, 48, 51, 49, 51, 50, 51, 51, 51, 52, 51, 53, 51, 54, 51, 55, 51, 56, 51, 57, 52, 48, 52, 49, 52, 50, 52, 51, 52, 52, 52, 53, 52, 54, 52, 55, 52, 56, 52, 57, 53, 48, 53, 49, 53, 50, 53, 51, 53, 52, 53, 53, 53, 54, 53, 55, 53, 56, 53, 57, 54, 48, 54, 49, 54, 50, 54, 51, 54, 52, 54, 53, 54, 54, 54, 55, 54, 56, 54, 57, 55, 48, 55, 49, 55, 50, 55, 51, 55, 52, 55, 53, 55, 54, 55, 55, 55, 56, 55, 57, 56, 48, 56, 49, 56, 50, 56, 51, 56, 52, 56, 53, 56, 54, 56, 55, 56, 56, 56, 57, 57, 48, 57, 49, 57, 50, 57, 51, 57, 52, 57, 53, 57, 54, 57, 55, 57, 56, 57, 57] : List UInt8) (IntKind.wrap .u32 ((IntKind.wrap .u32 (t_13 * 2)) + 1))).bind fun t_30 => ((goStrAt ([48, 48, 48, 49, 48, 50, 48, 51, 48, 52, 48, 53, 48, 54, 48, 55, 48, 56, 48, 57, 49, 48, 49, 49, 49, 50, 49, 51, 49, 52, 49, 53, 49, 54, 49, 55, 49, 56, 49, 57, 50, 48, 50, 49, 50, 50, 50, 51, 50, 52, 50, 53, 50, 54, 50, 55, 50, 56, 50, 57, 51, 48, 51, 49, 51, 50, 51, 51, 51, 52, 51, 53, 51, 54, 51, 55, 51, 56, 51, 57, 52, 48, 52, 49, 52, 50, 52, 51, 52, 52, 52, 53, 52, 54, 52, 55, 52, 56, 52, 57, 53, 48, 53, 49, 53, 50, 53, 51, 53, 52, 53, 53, 53, 54, 53, 55, 53, 56, 53, 57, 54, 48, 54, 49, 54, 50, 54, 51, 54, 52, 54, 53, 54, 54, 54, 55, 54, 56, 54, 57, 55, 48, 55, 49, 55, 50, 55, 51, 55, 52, 55, 53, 55, 54, 55, 55, 55, 56, 55, 57, 56, 48, 56, 49, 56, 50, 56, 51, 56, 52, 56, 53, 56, 54, 56, 55, 56, 56, 56, 57, 57, 48, 57, 49, 57, 50, 57, 51, 57, 52, 57, 53, 57, 54, 57, 55, 57, 56, 57, 57] : List UInt8) (IntKind.wrap .u32 (t_13 * 2))).bind fun t_31 => ((goAt (goSet (goSet (goSet (goSet a_2 (w64 (nd_5 - 1)) (⟨t_14⟩ : K .u8)) (w64 (nd_5 - 2)) (⟨t_15⟩ : K .u8)) (w64 (nd_5 - 3)) (⟨t_22⟩ : K .u8)) (w64 (nd_5 - 4)) (⟨t_23⟩ : K .u8)) (w64 (nd_5 - 5))).bind fun e_32 => ((goAt (goSet (goSet (goSet (goSet (goSet a_2 (w64 (nd_5 - 1)) (⟨t_14⟩ : K .u8)) (w64 (nd_5 - 2)) (⟨t_15⟩ : K .u8)) (w64 (nd_5 - 3)) (⟨t_22⟩ : K .u8)) (w64 (nd_5 - 4)) (⟨t_23⟩ : K .u8)) (w64 (nd_5 - 5)) (⟨t_30⟩ : K .u8)) (w64 (nd_5 - 6))).bind fun e_35 => ((goStrAt ([48, 48, 48, 49, 48, 50, 48, 51, 48, 52, 48, 53, 48, 54, 48, 55, 48, 56, 48, 57, 49, 48, 49, 49, 49, 50, 49, 51, 49, 52, 49, 53, 49, 54, 49, 55, 49, 56, 49, 57, 50, 48, 50, 49, 50, 50, 50, 51, 50, 52, 50, 53, 50, 54, 50, 55, 50, 56, 50, 57, 51, 48, 51, 49, 51, 50, 51, 51, 51, 52, 51, 53, 51, 54, 51, 55, 51, 56, 51, 57, 52, 48, 52, 49, 52, 50, 52, 51, 52, 52, 52, 53, 52, 54, 52, 55, 52, 56, 52, 57, 53, 48, 53, 49, 53, 50, 53, 51, 53, 52, 53, 53, 53, 54, 53, 55, 53, 56, 53, 57, 54, 48, 54, 49, 54, 50, 54, 51, 54, 52, 54, 53, 54, 54, 54, 55, 54, 56, 54, 57, 55, 48, 55, 49, 55, 50, 55, 51, 55, 52, 55, 53, 55, 54, 55, 55, 55, 56, 55, 57, 56, 48, 56, 49, 56, 50, 56, 51, 56, 52, 56, 53, 56, 54, 56, 55, 56, 56, 56, 57, 57, 48, 57, 49, 57, 50, 57, 51, 57, 52, 57, 53, 57, 54, 57, 55, 57, 56, 57, 57] : List UInt8) (IntKind.wrap .u32 ((IntKind.wrap .u32 (t_12 * 2)) + 1))).bind fun t_38 => ((goStrAt ([48, 48, 48, 49, 48, 50, 48, 51, 48, 52, 48, 53, 48, 54, 48, 55, 48, 56, 48, 57, 49, 48, 49, 49, 49, 50, 49, 51, 49, 52, 49, 53, 49, 54, 49, 55, 49, 56, 49, 57, 50, 48, 50, 49, 50, 50, 50, 51, 50, 52, 50, 53, 50, 54, 50, 55, 50, 56, 50, 57, 51, 48, 51, 49, 51, 50, 51, 51, 51, 52, 51, 53, 51, 54, 51, 55, 51, 56, 51, 57, 52, 48, 52, 49, 52, 50, 52, 51, 52, 52, 52, 53, 52, 54, 52, 55, 52, 56, 52, 57, 53, 48, 53, 49, 53, 50, 53, 51, 53, 52, 53, 53, 53, 54, 53, 55, 53, 56, 53, 57, 54, 48, 54, 49, 54, 50, 54, 51, 54, 52, 54, 53, 54, 54, 54, 55, 54, 56, 54, 57, 55, 48, 55, 49, 55, 50, 55, 51, 55, 52, 55, 53, 55, 54, 55, 55, 55, 56, 55, 57, 56, 48, 56, 49, 56, 50, 56, 51, 56, 52, 56, 53, 56, 54, 56, 55, 56, 56, 56, 57, 57, 48, 57, 49, 57, 50, 57, 51, 57, 52, 57, 53, 57, 54, 57, 55, 57, 56, 57, 57] : List UInt8) (IntKind.wrap .u32 (t_12 * 2))).bind fun t_39 => ((goAt (goSet (goSet (goSet (goSet (goSet (goSet a_2 (w64 (nd_5 - 1)) (⟨t_14⟩ : K .u8)) (w64 (nd_5 - 2)) (⟨t_15⟩ : K .u8)) (w64 (nd_5 - 3)) (⟨t_22⟩ : K .u8)) (w64 (nd_5 - 4)) (⟨t_23⟩ : K .u8)) (w64 (nd_5 - 5)) (⟨t_30⟩ : K .u8)) (w64 (nd_5 - 6)) (⟨t_31⟩ : K .u8)) (w64 (nd_5 - 7))).bind fun e_40 => ((goAt (goSet (goSet (goSet (goSet (goSet (goSet (goSet a_2 (w64 (nd_5 - 1)) (⟨t_14⟩ : K .u8)) (w64 (nd_5 - 2)) (⟨t_15⟩ : K .u8)) (w64 (nd_5 - 3)) (⟨t_22⟩ : K .u8)) (w64 (nd_5 - 4)) (⟨t_23⟩ : K .u8)) (w64 (nd_5 - 5)) (⟨t_30⟩ : K .u8)) (w64 (nd_5 - 6)) (⟨t_31⟩ : K .u8)) (w64 (nd_5 - 7)) (⟨t_38⟩ : K .u8)) (w64 (nd_5 - 8))).bind fun e_43 => some (.next (goSet (goSet (goSet (goSet (goSet (goSet (goSet (goSet a_2 (w64 (nd_5 - 1)) (⟨t_14⟩ : K .u8)) (w64 (nd_5 - 2)) (⟨t_15⟩ : K .u8)) (w64 (nd_5 - 3)) (⟨t_22⟩ : K .u8)) (w64 (nd_5 - 4)) (⟨t_23⟩ : K .u8)) (w64 (nd_5 - 5)) (⟨t_30⟩ : K .u8)) (w64 (nd_5 - 6)) (⟨t_31⟩ : K .u8)) (w64 (nd_5 - 7)) (⟨t_38⟩ : K .u8)) (w64 (nd_5 - 8)) (⟨t_39⟩ : K .u8), t_7, (w64 (nd_5 - 8)))))))))))))))))))))))))))) (some (.done (a_2, u_4, nd_5))))

noncomputable def internal_strconv_formatBase10 (p_a : List (K .u8)) (p_u : K .u64) : Option ((List (K .u8))) :=
  ((loopC (internal_strconv_formatBase10_l1) (p_a, p_u.v, goLen p_a)).bind fun (a_46, u_48, nd_49) => (((cond (decide (4 ≤ nd_49)) ((goRem (IntKind.wrap .u32 u_48) 10000).bind fun t_50 => ((goQuo .u32 (IntKind.wrap .u32 u_48) 10000).bind fun t_51 => ((goQuo .u32 t_50 100).bind fun t_52 => ((goRem t_50 100).bind fun t_53 => ((goStrAt ([48, 48, 48, 49, 48, 50, 48, 51, 48, 52, 48, 53, 48, 54, 48, 55, 48, 56, 48, 57, 49, 48, 49, 49, 49, 50, 49, 51, 49, 52, 49, 53, 49, 54, 49, 55, 49, 56, 49, 57, 50, 48, 50, 49, 50, 50, 50, 51, 50, 52, 50, 53, 50, 54, 50, 55, 50, 56, 50, 57, 51, 48, 51, 49, 51, 50, 51, 51, 51, 52, 51, 53, 51, 54, 51, 55, 51, 56, 51, 57, 52, 48, 52, 49, 52, 50, 52, 51, 52, 52, 52, 53, 52, 54, 52, 55, 52, 56, 52, 57, 53, 48, 53, 49, 53, 50, 53, 51, 53, 52, 53, 53, 53, 54, 53, 55, 53, 56, 53, 57, 54, 48, 54, 49, 54, 50, 54, 51, 54, 52, 54, 53, 54, 54, 54, 55, 54, 56, 54, 57, 55, 48, 55, 49, 55, 50, 55, 51, 55, 52, 55, 53, 55, 54, 55, 55, 55, 56, 55, 57, 56, 48, 56, 49, 56, 50, 56, 51, 56, 52, 56, 53, 56, 54, 56, 55, 56, 56, 56, 57, 57, 48, 57, 49, 57, 50, 57, 51, 57, 52, 57, 53, 57, 54, 57, 55, 57, 56, 57, 57] : List UInt8) (IntKind.wrap .u32 ((IntKind.wrap .u32 (t_53 * 2)) + 1))).bind fun t_54 => ((goStrAt ([48, 48, 48, 49, 48, 50, 48, 51, 48, 52, 48, 53, 48, 54, 48, 55, 48, 56, 48, 57, 49, 48, 49, 49, 49, 50, 49, 51, 49, 52, 49, 53, 49, 54, 49, 55, 49, 56, 49, 57, 50, 48, 50, 49, 50, 50, 50, 51, 50, 52, 50, 53, 50, 54, 50, 55, 50, 56, 50, 57, 51, 48, 51, 49, 51, 50, 51, 51, 51, 52, 51, 53, 51, 54, 51, 55, 51, 56, 51, 57, 52, 48, 52, 49, 52, 50, 52, 51, 52, 52, 52, 53, 52, 54, 52, 55, 52, 56, 52, 57, 53, 48, 53, 49, 53, 50, 53, 51, 53, 52, 53, 53, 53, 54, 53, 55, 53, 56, 53, 57, 54, 48, 54, 49, 54, 50, 54, 51, 54, 52, 54, 53, 54, 54, 54, 55, 54, 56, 54, 57, 55, 48, 55, 49, 55, 50, 55, 51, 55, 52, 55, 53, 55, 54, 55, 55, 55, 56, 55, 57, 56, 48, 56, 49, 56, 50, 56, 51, 56, 52, 56, 53, 56, 54, 56, 55, 56, 56, 56, 57, 57, 48, 57, 49, 57, 50, 57, 51, 57, 52, 57, 53, 57, 54, 57, 55, 57, 56, 57, 57] : List UInt8) (IntKind.wrap .u32 (t_53 * 2))).bind fun t_55 => ((goAt a_46 (w64 (nd_49 - 1))).bind fun e_56 => ((goAt (goSet a_46 (w64 (nd_49 - 1)) (⟨t_54⟩ : K .u8)) (w64 (nd_49 - 2))).bind fun e_59 => ((goStrAt ([48, 48, 48, 49, 48, 50, 48, 51, 48, 52, 48, 53, 48, 54, 48, 55, 48, 56, 48, 57, 49, 48, 49, 49, 49, 50, 49, 51, 49, 52, 49, 53, 49, 54, 49, 55, 49, 56, 49, 57, 50, 48, 50, 49, 50, 50, 50, 51, 50, 52, 50, 53, 50, 54, 50, 55, 50, 56, 50, 57, 51, 48, 51, 49, 51, 50, 51, 51, 51, 52, 51, 53, 51, 54, 51, 55, 51, 56, 51, 57, 52, 48, 52, 49, 52, 50, 52, 51, 52, 52, 52, 53, 52, 54, 52, 55, 52, 56, 52, 57, 53, 48, 53, 49, 53, 50, 53, 51, 53, 52, 53, 53, 53, 54, 53, 55, 53, 56, 53, 57, 54, 48, 54, 49, 54, 50, 54, 51, 54, 52, 54, 53, 54, 54, 54, 55, 54, 56, 54, 57, 55, 48, 55, 49, 55, 50, 55, 51, 55, 52, 55, 53, 55, 54, 55, 55, 55, 56, 55, 57, 56, 48, 56, 49, 56, 50, 56, 51, 56, 52, 56, 53, 56, 54, 56, 55, 56, 56, 56, 57, 57, 48, 57, 49, 57, 50, 57, 51, 57, 52, 57, 53, 57, 54, 57, 55, 57, 56, 57, 57] : List UInt8) (IntKind.wrap .u32 ((IntKind.wrap .u32 (t_52 * 2)) + 1))).bind fun t_62 => ((goStrAt ([48, 48, 48, 49, 48, 50, 48, 51, 48, 52, 48, 53, 48, 54, 48, 55, 48, 56, 48, 57, 49, 48, 49, 49, 49, 50, 49, 51, 49, 52, 49, 53, 49, 54, 49, 55, 49, 56, 49, 57, 50, 48, 50, 49, 50, 50, 50, 51, 50, 52, 50, 53, 50, 54, 50, 55, 50, 56, 50, 57, 51, 48, 51, 49, 51, 50, 51, 51, 51, 52, 51, 53, 51, 54, 51, 55, 51, 56, 51, 57, 52, 48, 52, 49, 52, 50, 52, 51, 52, 52, 52, 53, 52, 54, 52, 55, 52, 56, 52, 57, 53, 48, 53, 49, 53, 50, 53, 51, 53, 52, 53, 53, 53, 54, 53, 55, 53, 56, 53, 57, 54, 48, 54, 49, 54, 50, 54, 51, 54, 52, 54, 53, 54, 54, 54, 55, 54, 56, 54, 57, 55, 48, 55, 49, 55, 50, 55, 51, 55, 52, 55, 53, 55, 54, 55, 55, 55, 56, 55, 57, 56, 48, 56, 49, 56, 50, 56, 51, 56, 52, 56, 53, 56, 54, 56, 55, 56, 56, 56, 57, 57, 48, 57, 49, 57, 50, 57, 51, 57, 52, 57, 53, 57, 54, 57, 55, 57, 56, 57, 57] : List UInt8) (IntKind.wrap .u32 (t_52 * 2))).bind fun t_63 => ((goAt (goSet (goSet a_46 (w64 (nd_49 - 1)) (⟨t_54⟩ : K .u8)) (w64 (nd_49 - 2)) (⟨t_55⟩ : K .u8)) (w64 (nd_49 - 3))).bind fun e_64 => ((goAt (goSet (goSet (goSet a_46 (w64 (nd_49 - 1)) (⟨t_54⟩ : K .u8)) (w64 (nd_49 - 2)) (⟨t_55⟩ : K .u8)) (w64 (nd_49 - 3)) (⟨t_62⟩ : K .u8)) (w64 (nd_49 - 4))).bind fun e_67 => some (goSet (goSet (goSet (goSet a_46 (w64 (nd_49 - 1)) (⟨t_54⟩ : K .u8)) (w64 (nd_49 - 2)) (⟨t_55⟩ : K .u8)) (w64 (nd_49 - 3)) (⟨t_62⟩ : K .u8)) (w64 (nd_49 - 4)) (⟨t_63⟩ : K .u8), (w64 (nd_49 - 4)), t_51))))))))))))) (some (a_46, nd_49, (IntKind.wrap .u32 u_48)))) : Option ((List (K .u8)) × Int × Int)).bind fun (a_70, nd_72, x_73) => (((cond (decide (2 ≤ nd_72)) ((goRem x_73 100).bind fun t_74 => ((goQuo .u32 x_73 100).bind fun t_75 => ((goStrAt ([48, 48, 48, 49, 48, 50, 48, 51, 48, 52, 48, 53, 48, 54, 48, 55, 48, 56, 48, 57, 49, 48, 49, 49, 49, 50, 49, 51, 49, 52, 49, 53, 49, 54, 49, 55, 49, 56, 49, 57, 50, 48, 50, 49, 50, 50, 50, 51, 50, 52, 50, 53, 50, 54, 50, 55, 50, 56, 50, 57, 51, 48, 51, 49, 51, 50, 51, 51, 51, 52, 51, 53, 51, 54, 51, 55, 51, 56, 51, 57, 52, 48, 52, 49, 52, 50, 52, 51, 52, 52, 52, 53, 52, 54, 52, 55, 52, 56, 52, 57, 53, 48, 53, 49, 53, 50, 53, 51, 53, 52, 53, 53, 53, 54, 53, 55, 53, 56, 53, 57, 54, 48, 54, 49, 54, 50, 54, 51, 54, 52, 54, 53, 54, 54, 54, 55, 54, 56, 54, 57, 55, 48, 55, 49, 55, 50, 55, 51, 55, 52, 55, 53, 55, 54, 55, 55, 55, 56, 55, 57, 56, 48, 56, 49, 56, 50, 56, 51, 56, 52, 56, 53, 56, 54, 56, 55, 56, 56, 56, 57, 57, 48, 57, 49, 57, 50, 57, 51, 57, 52, 57, 53, 57, 54, 57, 55, 57, 56, 57, 57] : List UInt8) (IntKind.wrap .u32 ((IntKind.wrap .u32 (t_74 * 2)) + 1))).bind fun t_76 => ((goStrAt ([48, 48, 48, 49, 48, 50, 48, 51, 48, 52, 48, 53, 48, 54, 48, 55, 48, 56, 48, 57, 49, 48, 49, 49, 49, 50, 49, 51, 49, 52, 49, 53, 49, 54, 49, 55, 49, 56, 49, 57, 50, 48, 50, 49, 50, 50, 50, 51, 50, 52, 50, 53, 50, 54, 50, 55, 50, 56, 50, 57, 51, 48, 51, 49, 51, 50, 51, 51, 51, 52, 51, 53, 51, 54, 51, 55, 51, 56, 51, 57, 52, 48, 52, 49, 52, 50, 52, 51, 52, 52, 52, 53, 52, 54, 52, 55, 52, 56, 52, 57, 53, 48, 53, 49, 53, 50, 53, 51, 53, 52, 53, 53, 53, 54, 53, 55, 53, 56, 53, 57, 54, 48, 54, 49, 54, 50, 54, 51, 54, 52, 54, 53, 54, 54, 54, 55, 54, 56, 54, 57, 55, 48, 55, 49, 55, 50, 55, 51, 55, 52, 55, 53, 55, 54, 55, 55, 55, 56, 55, 57, 56, 48, 56, 49, 56, 50, 56, 51, 56, 52, 56, 53, 56, 54, 56, 55, 56, 56, 56, 57, 57, 48, 57, 49, 57, 50, 57, 51, 57, 52, 57, 53, 57, 54, 57, 55, 57, 56, 57, 57] : List UInt8) (IntKind.wrap .u32 (t_74 * 2))).bind fun t_77 => ((goAt a_70 (w64 (nd_72 - 1))).bind fun e_78 => ((goAt (goSet a_70 (w64 (nd_72 - 1)) (⟨t_76⟩ : K .u8)) (w64 (nd_72 - 2))).bind fun e_81 => some (goSet (goSet a_70 (w64 (nd_72 - 1)) (⟨t_76⟩ : K .u8)) (w64 (nd_72 - 2)) (⟨t_77⟩ : K .u8), (w64 (nd_72 - 2)), t_75))))))) (some (a_70, nd_72, x_73))) : Option ((List (K .u8)) × Int × Int)).bind fun (a_84, nd_86, x_87) => (((cond (decide (0 < nd_86)) ((goAt a_84 0).bind fun e_88 => some (goSet a_84 0 (⟨(IntKind.wrap .u8 (IntKind.wrap .u32 (48 + x_87)))⟩ : K .u8))) (some a_84)) : Option ((List (K .u8)))).bind fun a_91 => some a_91))))

noncomputable def internal_strconv_isPowerOfTwo (p_x : Int) : Option (Bool) :=
  some ((goBits .and .i64 p_x (w64 (p_x - 1))) == 0)

noncomputable def strconv_Itoa (p_x : Int) : Option (List UInt8) :=
  cond (decide (-9223372036854775808 ≤ p_x ∧ p_x ≤ 9223372036854775807)) (some (Go.Lib.itoa p_x)) none

noncomputable def impl_FracText (p_f : impl_Frac) : Option ((List UInt8) × Bool) :=
  ((impl_IsFrac p_f).bind fun t_2 => (cond (!t_2) (some (([] : List UInt8), false)) ((strconv_Itoa p_f.Num).bind fun t_3 => (((cond (p_f.Den != 1) ((strconv_Itoa p_f.Den).bind fun t_4 => ((goCat ([47] : List UInt8) t_4).bind fun t_5 => ((goCat t_3 t_5).bind fun t_6 => some t_6))) (some t_3)) : Option ((List UInt8))).bind fun text_7 => some (text_7, true)))))

noncomputable def impl_readNatural_l1 (p_s : List UInt8) (p_most : Int) : Int × Int → Option (Stp (Int × Int) ((Int × Int) ⊕ (Int × (List UInt8) × Bool)))
  | (n_1, i_2) => (((cond (decide (i_2 < (goLen p_s))) ((goStrAt p_s i_2).bind fun t_3 => (cond (decide (48 ≤ t_3)) ((goStrAt p_s i_2).bind fun t_4 => some (decide (t_4 ≤ 57))) (some false))) (some false)) : Option (Bool)).bind fun t_5 => (cond t_5 (((cond (decide (0 < i_2)) (some (n_1 == 0)) (some false)) : Option (Bool)).bind fun t_6 => (cond t_6 (some (.done (.inr (0, ([] : List UInt8), false)))) ((goStrAt p_s i_2).bind fun t_7 => (cond (decide (p_most < (w64 ((w64 (n_1 * 10)) + (w64 (IntKind.wrap .u8 (t_7 - 48))))))) (some (.done (.inr (0, ([] : List UInt8), false)))) (some (.next ((w64 ((w64 (n_1 * 10)) + (w64 (IntKind.wrap .u8 (t_7 - 48))))), (w64 (i_2 + 1))))))))) (some (.done (.inl (n_1, i_2))))))

noncomputable def impl_readNatural (p_s : List UInt8) (p_most : Int) : Option (Int × (List UInt8) × Bool) :=
  ((loopC (impl_readNatural_l1 p_s p_most) (0, 0)).bind fun | .inl (n_8, i_9) => (cond (i_9 == 0) (some (0, ([] : List UInt8), false)) ((goSub p_s i_9 (goLen p_s)).bind fun t_10 => some (n_8, t_10, true))) | .inr o => some o)

noncomputable def impl_readInteger (p_s : List UInt8) (p_most : Int) : Option (Int × (List UInt8) × Bool) :=
  (((cond (decide (0 < (goLen p_s))) ((goStrAt p_s 0).bind fun t_1 => some (t_1 == 45)) (some false)) : Option (Bool)).bind fun minus_2 => (((cond minus_2 ((goSub p_s 1 (goLen p_s)).bind fun t_3 => some t_3) (some p_s)) : Option ((List UInt8))).bind fun s_4 => ((impl_readNatural s_4 p_most).bind fun t_5 => (((cond (!t_5.2.2) (some true) (cond minus_2 (some (t_5.1 == 0)) (some false))) : Option (Bool)).bind fun t_6 => (cond t_6 (some (0, ([] : List UInt8), false)) (((cond minus_2 (some (w64 (-t_5.1))) (some t_5.1)) : Option (Int)).bind fun n_7 => some (n_7, t_5.2.1, true)))))))

noncomputable def impl_readFrac (p_s : List UInt8) : Option (impl_Frac × (List UInt8) × Bool) :=
  ((impl_readInteger p_s 1000000000).bind fun t_2 => (cond (!t_2.2.2) (some ((impl_Frac.mk 0 0), ([] : List UInt8), false)) (((cond (decide (0 < (goLen t_2.2.1))) ((goStrAt t_2.2.1 0).bind fun t_3 => some (t_3 == 47)) (some false)) : Option (Bool)).bind fun t_4 => (((cond t_4 ((goSub t_2.2.1 1 (goLen t_2.2.1)).bind fun t_5 => ((impl_readNatural t_5 1000000000).bind fun t_6 => (((cond (!t_6.2.2) (some true) (some (decide (t_6.1 < 2)))) : Option (Bool)).bind fun t_7 => (cond t_7 (some (.inr ((impl_Frac.mk 0 0), ([] : List UInt8), false))) (some (.inl (t_6.2.1, t_6.1))))))) (some (.inl (t_2.2.1, 1)))) : Option (((List UInt8) × Int) ⊕ (impl_Frac × (List UInt8) × Bool))).bind fun | .inl (rest_8, d_9) => ((impl_IsFrac (impl_Frac.mk t_2.1 d_9)).bind fun t_11 => (cond (!t_11) (some ((impl_Frac.mk 0 0), ([] : List UInt8), false)) (some ((impl_Frac.mk t_2.1 d_9), rest_8, true)))) | .inr o => some o))))

noncomputable def impl_ParseFrac (p_s : List UInt8) : Option (impl_Frac × Bool) :=
  ((impl_readFrac p_s).bind fun t_2 => (((cond (!t_2.2.2) (some true) (some (t_2.2.1 != ([] : List UInt8)))) : Option (Bool)).bind fun t_4 => (cond t_4 (some ((impl_Frac.mk 0 0), false)) (some (t_2.1, true)))))

noncomputable def laws_FnRounding (p_code : List (K .u8)) (p_more : List (K .u8)) : Option (Bool) :=
  (cond (decide (1048576 < (w64 ((goLen p_code) + (goLen p_more))))) (some true) ((spec_DrawRoundFrac p_code).bind fun t_3 => ((impl_RoundFrac t_3).bind fun t_5 => ((spec_RoundFrac t_3).bind fun t_6 => ((impl_FloorFrac t_3).bind fun t_7 => ((spec_FloorFrac t_3).bind fun t_8 => ((spec_DrawPowFrac p_more).bind fun t_9 => ((impl_PowFrac t_9.1 t_9.2).bind fun t_11 => ((spec_PowFrac t_9.1 t_9.2).bind fun t_13 => ((spec_DrawSumFracs p_more).bind fun t_15 => ((impl_SumFracs t_15).bind fun t_18 => ((spec_SumFracs t_15).bind fun t_21 => (((cond (t_5.2 != t_6.2) (some true) (cond (t_5.1 != t_6.1) (some true) (cond (t_7.2 != t_8.2) (some true) (cond (t_7.1 != t_8.1) (some true) (cond (t_11.2 != t_13.2) (some true) (cond (!((t_11.1.Num == t_13.1.Num) && ((t_11.1.Den == t_13.1.Den) && true))) (some true) (cond (t_18.2 != t_21.2) (some true) (some (!((t_18.1.Num == t_21.1.Num) && ((t_18.1.Den == t_21.1.Den) && true))))))))))) : Option (Bool)).bind fun t_24 => (cond t_24 (some false) (cond (!t_5.2) (some true) ((impl_FracText t_3).bind fun t_25 => ((impl_ParseFrac t_25.1).bind fun t_26 => (((cond t_25.2 (cond t_26.2 (cond ((t_26.1.Num == t_3.Num) && ((t_26.1.Den == t_3.Den) && true)) (cond (t_5.1 == t_7.1) (some true) (some (t_5.1 == (w64 (t_7.1 + 1))))) (some false)) (some false)) (some false)) : Option (Bool)).bind fun t_28 => some t_28))))))))))))))))))

end Go.Gx.F
