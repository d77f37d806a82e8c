/- The plain functions that the walks come to. -/
import Derived.Test.YtdbgmkfniichdaaGx
namespace Go.Gx.F
open Go.Gx
set_option linter.all false

structure spec_l1Cur where
  code : List (K .u8)
  at_ : Int
  seed : K .u64

instance : Rep spec_l1Cur where
  wd := 3
  rd m cs x := ∃ s1 : Sl, cs = [s1.v, (.int .i64 x.at_), (.int .u64 x.seed.v)] ∧ Rd m s1 x.code
  mono hm h := by
    obtain ⟨s1, rfl, h1⟩ := h
    exact ⟨s1, rfl, h1.mono hm⟩
  len h := by obtain ⟨s1, rfl, _⟩ := h; rfl
  one h := by obtain ⟨s1, rfl, _⟩ := h; rfl

instance : Rng spec_l1Cur := ⟨fun x => Rng.ok x.code ∧ Rng.ok x.at_ ∧ Rng.ok x.seed⟩

structure impl_Frac where
  Num : Int
  Den : Int

instance : Rep impl_Frac where
  wd := 2
  rd m cs x := cs = [(.int .i64 x.Num), (.int .i64 x.Den)]
  mono _ h := h
  len h := by subst h; rfl
  one h := by subst h; rfl

instance : Flat impl_Frac := ⟨fun h => h⟩

instance : Rng impl_Frac := ⟨fun x => Rng.ok x.Num ∧ Rng.ok x.Den⟩

noncomputable def laws_big (p_code : List (K .u8)) (p_more : List (K .u8)) : Option (Bool) :=
  (((cond (decide (1048576 < (goLen p_code))) (some true) (some (decide ((w64 (1048576 - (goLen p_code))) < (goLen p_more))))) : Option (Bool)).bind fun t_3 => some t_3)

noncomputable def spec_l1Cur_next (p_c : spec_l1Cur) : Option (Int × spec_l1Cur) :=
  (((cond (decide (p_c.at_ < (goLen p_c.code))) ((goAt p_c.code p_c.at_).bind fun e_2 => some (w64 e_2.v)) (some 0)) : Option (Int)).bind fun b_4 => (cond (decide ((w64 (p_c.at_ + 1)) ≤ (goLen p_c.code))) (some (b_4, (spec_l1Cur.mk p_c.code (w64 (p_c.at_ + 1)) (⟨(IntKind.wrap .u64 ((IntKind.wrap .u64 ((IntKind.wrap .u64 (p_c.seed.v * 6364136223846793005)) + (IntKind.wrap .u64 b_4))) + 1442695040888963407))⟩ : K .u64)))) ((goShr .u64 (IntKind.wrap .u64 ((IntKind.wrap .u64 ((IntKind.wrap .u64 (p_c.seed.v * 6364136223846793005)) + (IntKind.wrap .u64 b_4))) + 1442695040888963407)) 40).bind fun t_5 => some ((w64 (goBits .and .u64 t_5 255)), (spec_l1Cur.mk p_c.code (w64 (p_c.at_ + 1)) (⟨(IntKind.wrap .u64 ((IntKind.wrap .u64 ((IntKind.wrap .u64 (p_c.seed.v * 6364136223846793005)) + (IntKind.wrap .u64 b_4))) + 1442695040888963407))⟩ : K .u64))))))

noncomputable def spec_l1Cur_pick (p_c : spec_l1Cur) (p_n : Int) : Option (Int × spec_l1Cur) :=
  (cond (decide (p_n ≤ 1)) (some (0, p_c)) ((spec_l1Cur_next p_c).bind fun t_3 => (((cond (decide (200 < p_n)) ((spec_l1Cur_next t_3.2).bind fun t_6 => some ((w64 ((w64 (t_3.1 * 256)) + t_6.1)), t_6.2)) (some (t_3.1, t_3.2))) : Option (Int × spec_l1Cur)).bind fun (x_8, p_c_9) => ((goRem x_8 p_n).bind fun t_11 => some (t_11, p_c_9)))))

noncomputable def spec_l1Cur_among (p_c : spec_l1Cur) (p_list : List Int) : Option (Int × spec_l1Cur) :=
  ((spec_l1Cur_pick p_c (goLen p_list)).bind fun t_4 => ((goAt p_list t_4.1).bind fun e_6 => some (e_6, t_4.2)))

noncomputable def spec_l1Cur_one (p_c : spec_l1Cur) (p_n : Int) : Option (Bool × spec_l1Cur) :=
  ((spec_l1Cur_pick p_c p_n).bind fun t_3 => some (t_3.1 == 0, t_3.2))

noncomputable def spec_l1Most (p_a : Int) (p_b : Int) : Option (Int) :=
  (cond (decide (p_b < p_a)) (some p_a) (some p_b))

noncomputable def spec_l1Abs (p_n : Int) : Option (Int) :=
  ((spec_l1Most p_n (w64 (-p_n))).bind fun t_1 => some t_1)

noncomputable def spec_fGcd_l1  : Int × Int → Option (Stp (Int × Int) (Int))
  | (a_1, b_2) => (cond (b_2 != 0) ((goRem a_1 b_2).bind fun t_3 => some (.next (b_2, t_3))) (some (.done a_1)))

noncomputable def spec_fGcd (p_a : Int) (p_b : Int) : Option (Int) :=
  ((loopC (spec_fGcd_l1) (p_a, p_b)).bind fun a_4 => ((spec_l1Abs a_4).bind fun t_5 => some t_5))

noncomputable def spec_l1In (p_n : Int) (p_lo : Int) (p_hi : Int) : Option (Bool) :=
  (((cond (decide (p_lo ≤ p_n)) (some (decide (p_n ≤ p_hi))) (some false)) : Option (Bool)).bind fun t_1 => some t_1)

noncomputable def spec_fGood (p_f : impl_Frac) : Option (Bool) :=
  ((((spec_l1In p_f.Den 1 1000000000).bind fun t_2 => (cond t_2 ((spec_l1In p_f.Num (-1000000000) 1000000000).bind fun t_3 => (cond t_3 ((spec_fGcd p_f.Num p_f.Den).bind fun t_4 => some (t_4 == 1)) (some false))) (some false))) : Option (Bool)).bind fun t_5 => some t_5)

noncomputable def spec_fMake (p_n : Int) (p_d : Int) : Option (impl_Frac × Bool) :=
  (cond (p_d == 0) (some ((impl_Frac.mk 0 0), false)) ((spec_fGcd p_n p_d).bind fun t_2 => (((cond (decide (p_d < 0)) (some (w64 (-t_2))) (some t_2)) : Option (Int)).bind fun g_3 => ((goQuo .i64 p_n g_3).bind fun t_4 => ((goQuo .i64 p_d g_3).bind fun t_5 => ((spec_fGood (impl_Frac.mk t_4 t_5)).bind fun t_7 => (cond (!t_7) (some ((impl_Frac.mk 0 0), false)) (some ((impl_Frac.mk t_4 t_5), true)))))))))

noncomputable def spec_l1Cur_frac (p_c : spec_l1Cur) : Option (impl_Frac × spec_l1Cur) :=
  ((spec_l1Cur_pick p_c 41).bind fun t_4 => ((spec_l1Cur_pick t_4.2 12).bind fun t_7 => ((spec_fMake (w64 (t_4.1 - 20)) (w64 (1 + t_7.1))).bind fun t_9 => some (t_9.1, t_7.2))))

noncomputable def spec_l1Cur_anyFrac (p_c : spec_l1Cur) : Option (impl_Frac × spec_l1Cur) :=
  ((spec_l1Cur_pick p_c 16).bind fun t_4 => (cond (t_4.1 == 0) ((spec_l1Cur_among t_4.2 ([1000000000, -1000000000, 999999999, 1000000001] : List Int)).bind fun t_26 => ((spec_l1Cur_among t_26.2 ([1, 7, 999999999, 999999937] : List Int)).bind fun t_31 => some ((impl_Frac.mk t_26.1 t_31.1), t_31.2))) (cond (t_4.1 == 1) ((spec_l1Cur_pick t_4.2 9).bind fun t_18 => ((spec_l1Cur_pick t_18.2 7).bind fun t_21 => some ((impl_Frac.mk (w64 (t_18.1 - 4)) (w64 (t_21.1 - 1))), t_21.2))) (cond (t_4.1 == 2) ((spec_l1Cur_pick t_4.2 3).bind fun t_10 => ((spec_l1Cur_among t_10.2 ([1000000000, 1000000001, 999999937] : List Int)).bind fun t_15 => some ((impl_Frac.mk t_10.1 t_15.1), t_15.2))) ((spec_l1Cur_frac t_4.2).bind fun t_7 => some (t_7.1, t_7.2))))))

noncomputable def spec_l1Cur_ratio (p_c : spec_l1Cur) : Option (impl_Frac × spec_l1Cur) :=
  ((spec_l1Cur_pick p_c 9).bind fun t_4 => ((spec_l1Cur_pick t_4.2 (w64 ((w64 (2 + t_4.1)) - 1))).bind fun t_7 => ((spec_fMake (w64 (1 + t_7.1)) (w64 (2 + t_4.1))).bind fun t_9 => some (t_9.1, t_7.2))))

noncomputable def spec_l1Cur_anyRatio (p_c : spec_l1Cur) : Option (impl_Frac × spec_l1Cur) :=
  ((spec_l1Cur_one p_c 16).bind fun t_4 => (cond t_4.1 ((spec_l1Cur_anyFrac t_4.2).bind fun t_10 => some (t_10.1, t_10.2)) ((spec_l1Cur_ratio t_4.2).bind fun t_7 => some (t_7.1, t_7.2))))

noncomputable def spec_DrawClampedMasses (p_code : List (K .u8)) : Option (impl_Frac × Int × Int × Int) :=
  ((spec_l1Cur_pick (spec_l1Cur.mk p_code 0 (⟨0⟩ : K .u64)) 5).bind fun t_5 => ((spec_l1Cur_among t_5.2 ([0, 1, 2, 3, 4, 5, 12, 13, -1] : List Int)).bind fun t_10 => ((spec_l1Cur_anyRatio t_10.2).bind fun t_13 => ((spec_l1Cur_pick t_13.2 5).bind fun t_16 => some (t_13.1, (w64 (t_5.1 - 2)), (w64 ((w64 (t_5.1 - 2)) + t_10.1)), (w64 ((w64 (t_5.1 - 2)) + t_16.1)))))))

noncomputable def impl_gcdOf_l1  : Int × Int → Option (Stp (Int × Int) (Int))
  | (a_3, b_4) => (cond (b_4 != 0) ((goRem a_3 b_4).bind fun t_5 => some (.next (b_4, t_5))) (some (.done a_3)))

noncomputable def impl_gcdOf (p_a : Int) (p_b : Int) : Option (Int) :=
  (((cond (decide (p_a < 0)) (some (w64 (-p_a))) (some p_a)) : Option (Int)).bind fun a_1 => (((cond (decide (p_b < 0)) (some (w64 (-p_b))) (some p_b)) : Option (Int)).bind fun b_2 => ((loopC (impl_gcdOf_l1) (a_1, b_2)).bind fun a_6 => some a_6)))

noncomputable def impl_IsFrac (p_f : impl_Frac) : Option (Bool) :=
  (((cond (decide (1 ≤ p_f.Den)) (cond (decide (p_f.Den ≤ 1000000000)) (cond (decide ((-1000000000) ≤ p_f.Num)) (cond (decide (p_f.Num ≤ 1000000000)) ((impl_gcdOf p_f.Num p_f.Den).bind fun t_2 => some (t_2 == 1)) (some false)) (some false)) (some false)) (some false)) : Option (Bool)).bind fun t_3 => some t_3)

noncomputable def impl_isRatio (p_a : impl_Frac) : Option (Bool) :=
  ((((impl_IsFrac p_a).bind fun t_2 => (cond t_2 (cond (decide (0 < p_a.Num)) (some (decide (p_a.Num < p_a.Den))) (some false)) (some false))) : Option (Bool)).bind fun t_3 => some t_3)

noncomputable def impl_isClamp (p_lo : Int) (p_hi : Int) : Option (Bool) :=
  (((cond (decide ((-1000000000) ≤ p_lo)) (cond (decide (p_lo ≤ p_hi)) (cond (decide (p_hi ≤ 1000000000)) (some (decide ((w64 (p_hi - p_lo)) ≤ 12))) (some false)) (some false)) (some false)) : Option (Bool)).bind fun t_1 => some t_1)

noncomputable def impl_reduced (p_n : Int) (p_d : Int) : Option (impl_Frac × Bool) :=
  ((impl_gcdOf p_n p_d).bind fun t_2 => ((goQuo .i64 p_n t_2).bind fun t_3 => ((goQuo .i64 p_d t_2).bind fun t_4 => (((cond (decide (t_4 < 0)) (some ((w64 (-t_3)), (w64 (-t_4)))) (some (t_3, t_4))) : Option (Int × Int)).bind fun (n_5, d_6) => (((cond (decide (1000000000 < n_5)) (some true) (cond (decide (n_5 < (-1000000000))) (some true) (some (decide (1000000000 < d_6))))) : Option (Bool)).bind fun t_7 => (cond t_7 (some ((impl_Frac.mk 0 0), false)) (some ((impl_Frac.mk n_5 d_6), true))))))))

noncomputable def impl_MulFrac (p_a : impl_Frac) (p_b : impl_Frac) : Option (impl_Frac × Bool) :=
  ((((impl_IsFrac p_a).bind fun t_4 => (cond (!t_4) (some true) ((impl_IsFrac p_b).bind fun t_5 => some (!t_5)))) : Option (Bool)).bind fun t_6 => (cond t_6 (some ((impl_Frac.mk 0 0), false)) ((impl_reduced (w64 (p_a.Num * p_b.Num)) (w64 (p_a.Den * p_b.Den))).bind fun t_7 => some (t_7.1, t_7.2))))

noncomputable def impl_PowFrac_l1 (p_f : impl_Frac) (p_k : Int) : Int × impl_Frac → Option (Stp (Int × impl_Frac) ((impl_Frac) ⊕ (impl_Frac × Bool)))
  | (t_6, p_7) => (cond (decide (t_6 < p_k)) ((impl_MulFrac p_7 p_f).bind fun t_8 => (cond (!t_8.2) (some (.done (.inr ((impl_Frac.mk 0 0), false)))) (some (.next ((w64 (t_6 + 1)), t_8.1))))) (some (.done (.inl p_7))))

noncomputable def impl_PowFrac (p_f : impl_Frac) (p_k : Int) : Option (impl_Frac × Bool) :=
  ((((impl_IsFrac p_f).bind fun t_3 => (cond (!t_3) (some true) (cond (decide (p_k < 0)) (some true) (some (decide (60 < p_k)))))) : Option (Bool)).bind fun t_4 => (cond t_4 (some ((impl_Frac.mk 0 0), false)) ((loopC (impl_PowFrac_l1 p_f p_k) (0, (impl_Frac.mk 1 1))).bind fun | .inl p_10 => some (p_10, true) | .inr o => some o)))

noncomputable def impl_AddFrac (p_a : impl_Frac) (p_b : impl_Frac) : Option (impl_Frac × Bool) :=
  ((((impl_IsFrac p_a).bind fun t_4 => (cond (!t_4) (some true) ((impl_IsFrac p_b).bind fun t_5 => some (!t_5)))) : Option (Bool)).bind fun t_6 => (cond t_6 (some ((impl_Frac.mk 0 0), false)) ((impl_reduced (w64 ((w64 (p_a.Num * p_b.Den)) + (w64 (p_b.Num * p_a.Den)))) (w64 (p_a.Den * p_b.Den))).bind fun t_7 => some (t_7.1, t_7.2))))

noncomputable def impl_moreOne (p_a : impl_Frac) : Option (impl_Frac × Bool) :=
  ((impl_AddFrac (impl_Frac.mk 1 1) p_a).bind fun t_3 => some (t_3.1, t_3.2))

noncomputable def impl_DivFrac (p_a : impl_Frac) (p_b : impl_Frac) : Option (impl_Frac × Bool) :=
  ((((impl_IsFrac p_a).bind fun t_4 => (cond (!t_4) (some true) ((impl_IsFrac p_b).bind fun t_5 => (cond (!t_5) (some true) (some (p_b.Num == 0)))))) : Option (Bool)).bind fun t_6 => (cond t_6 (some ((impl_Frac.mk 0 0), false)) ((impl_reduced (w64 (p_a.Num * p_b.Den)) (w64 (p_a.Den * p_b.Num))).bind fun t_7 => some (t_7.1, t_7.2))))

noncomputable def impl_geoTail (p_a : impl_Frac) (p_k : Int) : Option (impl_Frac × Bool) :=
  ((impl_PowFrac p_a p_k).bind fun t_3 => (cond (!t_3.2) (some ((impl_Frac.mk 0 0), false)) ((impl_moreOne p_a).bind fun t_5 => (cond (!t_5.2) (some ((impl_Frac.mk 0 0), false)) ((impl_DivFrac t_3.1 t_5.1).bind fun t_7 => some (t_7.1, t_7.2))))))

noncomputable def impl_lessOne (p_a : impl_Frac) : Option (impl_Frac) :=
  some (impl_Frac.mk (w64 (p_a.Den - p_a.Num)) p_a.Den)

noncomputable def impl_geoMass (p_a : impl_Frac) (p_k : Int) : Option (impl_Frac × Bool) :=
  ((impl_moreOne p_a).bind fun t_3 => (cond (!t_3.2) (some ((impl_Frac.mk 0 0), false)) ((((impl_lessOne p_a).bind fun t_7 => ((impl_DivFrac t_7 t_3.1).bind fun t_8 => some (t_8.2, t_8.1))) : Option (Bool × impl_Frac)).bind fun (ok_10, c_11) => (cond (!ok_10) (some ((impl_Frac.mk 0 0), false)) ((impl_PowFrac p_a p_k).bind fun t_12 => (cond (!t_12.2) (some ((impl_Frac.mk 0 0), false)) ((impl_MulFrac c_11 t_12.1).bind fun t_14 => some (t_14.1, t_14.2))))))))

noncomputable def impl_clampedMasses_l1 (p_a : impl_Frac) (p_lo : Int) (p_hi : Int) (p_x : Int) (l_2 : List impl_Frac) : (List impl_Frac) × Int → Option (Stp ((List impl_Frac) × Int) (((List impl_Frac)) ⊕ ((List impl_Frac) × Bool)))
  | (out_4, t_6) => (cond (decide (t_6 < (goLen l_2))) (((cond ((w64 (p_lo + t_6)) == p_lo) (some true) (some ((w64 (p_lo + t_6)) == p_hi))) : Option (Bool)).bind fun t_7 => (((cond t_7 ((impl_geoTail p_a (max (w64 (p_x - (w64 (p_lo + t_6)))) (w64 ((w64 (p_lo + t_6)) - p_x)))).bind fun t_12 => ((goAt out_4 t_6).bind fun e_13 => some (goSet out_4 t_6 t_12.1, t_12.2))) ((impl_geoMass p_a (max (w64 (p_x - (w64 (p_lo + t_6)))) (w64 ((w64 (p_lo + t_6)) - p_x)))).bind fun t_8 => ((goAt out_4 t_6).bind fun e_9 => some (goSet out_4 t_6 t_8.1, t_8.2)))) : Option ((List impl_Frac) × Bool)).bind fun (out_16, ok_18) => (cond (!ok_18) (some (.done (.inr (([] : List impl_Frac), false)))) (some (.next (out_16, (w64 (t_6 + 1)))))))) (some (.done (.inl out_4))))

noncomputable def impl_clampedMasses (p_a : impl_Frac) (p_lo : Int) (p_hi : Int) (p_x : Int) : Option ((List impl_Frac) × Bool) :=
  (cond (p_lo == p_hi) (some (([(impl_Frac.mk 1 1)] : List impl_Frac), true)) ((goMake 16 (w64 ((w64 (p_hi - p_lo)) + 1)) ((impl_Frac.mk 0 0) : impl_Frac)).bind fun l_2 => ((loopC (impl_clampedMasses_l1 p_a p_lo p_hi p_x l_2) (l_2, 0)).bind fun | .inl out_19 => some (out_19, true) | .inr o => some o)))

noncomputable def impl_ClampedMasses (p_a : impl_Frac) (p_lo : Int) (p_hi : Int) (p_x : Int) : Option ((List impl_Frac) × Bool) :=
  ((((impl_isRatio p_a).bind fun t_2 => (cond (!t_2) (some true) ((impl_isClamp p_lo p_hi).bind fun t_3 => (cond (!t_3) (some true) (cond (decide (p_x < p_lo)) (some true) (some (decide (p_hi < p_x)))))))) : Option (Bool)).bind fun t_4 => (cond t_4 (some (([] : List impl_Frac), false)) ((impl_clampedMasses p_a p_lo p_hi p_x).bind fun t_5 => some (t_5.1, t_5.2))))

noncomputable def spec_zRatio (p_a : impl_Frac) : Option (Bool) :=
  ((((spec_fGood p_a).bind fun t_2 => (cond t_2 (cond (decide (0 < p_a.Num)) (some (decide (p_a.Num < p_a.Den))) (some false)) (some false))) : Option (Bool)).bind fun t_3 => some t_3)

noncomputable def spec_zBounds (p_lo : Int) (p_hi : Int) : Option (Bool) :=
  ((((spec_l1In p_lo (-1000000000) 1000000000).bind fun t_1 => (cond t_1 ((spec_l1In p_hi p_lo 1000000000).bind fun t_2 => (cond t_2 (some (decide ((w64 (p_hi - p_lo)) ≤ 12))) (some false))) (some false))) : Option (Bool)).bind fun t_3 => some t_3)

noncomputable def spec_fInt (p_n : Int) : Option (impl_Frac) :=
  some (impl_Frac.mk p_n 1)

noncomputable def spec_fSub (p_a : impl_Frac) (p_b : impl_Frac) : Option (impl_Frac × Bool) :=
  ((spec_fMake (w64 ((w64 (p_a.Num * p_b.Den)) - (w64 (p_b.Num * p_a.Den)))) (w64 (p_a.Den * p_b.Den))).bind fun t_4 => some (t_4.1, t_4.2))

noncomputable def spec_fAdd (p_a : impl_Frac) (p_b : impl_Frac) : Option (impl_Frac × Bool) :=
  ((spec_fMake (w64 ((w64 (p_a.Num * p_b.Den)) + (w64 (p_b.Num * p_a.Den)))) (w64 (p_a.Den * p_b.Den))).bind fun t_4 => some (t_4.1, t_4.2))

noncomputable def spec_fDiv (p_a : impl_Frac) (p_b : impl_Frac) : Option (impl_Frac × Bool) :=
  (cond (p_b.Num == 0) (some ((impl_Frac.mk 0 0), false)) ((spec_fMake (w64 (p_a.Num * p_b.Den)) (w64 (p_a.Den * p_b.Num))).bind fun t_4 => some (t_4.1, t_4.2)))

noncomputable def spec_zBase (p_a : impl_Frac) : Option (impl_Frac × Bool) :=
  ((((spec_fInt 1).bind fun t_5 => ((spec_fSub t_5 p_a).bind fun t_6 => some (t_6.2, t_6.1))) : Option (Bool × impl_Frac)).bind fun (one_8, x_9) => ((((spec_fInt 1).bind fun t_12 => ((spec_fAdd t_12 p_a).bind fun t_13 => some (t_13.2, t_13.1))) : Option (Bool × impl_Frac)).bind fun (two_15, y_16) => (((cond (!one_8) (some true) (some (!two_15))) : Option (Bool)).bind fun t_17 => (cond t_17 (some ((impl_Frac.mk 0 0), false)) ((spec_fDiv x_9 y_16).bind fun t_18 => some (t_18.1, t_18.2))))))

noncomputable def spec_fMul (p_a : impl_Frac) (p_b : impl_Frac) : Option (impl_Frac × Bool) :=
  ((spec_fMake (w64 (p_a.Num * p_b.Num)) (w64 (p_a.Den * p_b.Den))).bind fun t_4 => some (t_4.1, t_4.2))

noncomputable def spec_fPow_l1 (p_f : impl_Frac) : Int × impl_Frac → Option (Stp (Int × impl_Frac) ((impl_Frac) ⊕ (impl_Frac × Bool)))
  | (k_5, out_6) => (cond (decide (0 < k_5)) ((spec_fMul out_6 p_f).bind fun t_7 => (cond (!t_7.2) (some (.done (.inr ((impl_Frac.mk 0 0), false)))) (some (.next ((w64 (k_5 - 1)), t_7.1))))) (some (.done (.inl out_6))))

noncomputable def spec_fPow (p_f : impl_Frac) (p_k : Int) : Option (impl_Frac × Bool) :=
  ((spec_fInt 1).bind fun t_3 => ((loopC (spec_fPow_l1 p_f) (p_k, t_3)).bind fun | .inl out_9 => some (out_9, true) | .inr o => some o))

noncomputable def spec_zMass (p_a : impl_Frac) (p_k : Int) : Option (impl_Frac × Bool) :=
  ((spec_zBase p_a).bind fun t_3 => ((((spec_l1Abs p_k).bind fun t_6 => ((spec_fPow p_a t_6).bind fun t_7 => some (t_7.2, t_7.1))) : Option (Bool × impl_Frac)).bind fun (two_9, y_10) => (((cond (!t_3.2) (some true) (some (!two_9))) : Option (Bool)).bind fun t_11 => (cond t_11 (some ((impl_Frac.mk 0 0), false)) ((spec_fMul t_3.1 y_10).bind fun t_12 => some (t_12.1, t_12.2))))))

noncomputable def spec_zTail (p_a : impl_Frac) (p_k : Int) : Option (impl_Frac × Bool) :=
  ((spec_fPow p_a p_k).bind fun t_3 => ((((spec_fInt 1).bind fun t_7 => ((spec_fAdd t_7 p_a).bind fun t_8 => some (t_8.2, t_8.1))) : Option (Bool × impl_Frac)).bind fun (two_10, y_11) => (((cond (!t_3.2) (some true) (some (!two_10))) : Option (Bool)).bind fun t_12 => (cond t_12 (some ((impl_Frac.mk 0 0), false)) ((spec_fDiv t_3.1 y_11).bind fun t_13 => some (t_13.1, t_13.2))))))

noncomputable def spec_zClamped_l1 (p_a : impl_Frac) (p_lo : Int) (p_hi : Int) (p_x : Int) : (List impl_Frac) × Int → Option (Stp ((List impl_Frac) × Int) (((List impl_Frac)) ⊕ ((List impl_Frac) × Bool)))
  | (out_2, y_4) => (cond (decide (y_4 ≤ p_hi)) ((spec_zMass p_a (w64 (y_4 - p_x))).bind fun t_5 => (((cond (y_4 == p_lo) ((spec_zTail p_a (w64 (p_x - p_lo))).bind fun t_7 => some (t_7.2, t_7.1)) (some (t_5.2, t_5.1))) : Option (Bool × impl_Frac)).bind fun (ok_8, m_9) => (((cond (y_4 == p_hi) ((spec_zTail p_a (w64 (p_hi - p_x))).bind fun t_10 => some (t_10.2, t_10.1)) (some (ok_8, m_9))) : Option (Bool × impl_Frac)).bind fun (ok_11, m_12) => (cond (!ok_11) (some (.done (.inr (([] : List impl_Frac), false)))) ((goApp 16 out_2 ([m_12] : List impl_Frac)).bind fun l_14 => some (.next (l_14, (w64 (y_4 + 1))))))))) (some (.done (.inl out_2))))

noncomputable def spec_zClamped (p_a : impl_Frac) (p_lo : Int) (p_hi : Int) (p_x : Int) : Option ((List impl_Frac) × Bool) :=
  (cond (p_lo == p_hi) ((spec_fInt 1).bind fun t_18 => some (([t_18] : List impl_Frac), true)) ((loopC (spec_zClamped_l1 p_a p_lo p_hi p_x) (([] : List impl_Frac), p_lo)).bind fun | .inl out_16 => some (out_16, true) | .inr o => some o))

noncomputable def spec_ClampedMasses (p_a : impl_Frac) (p_lo : Int) (p_hi : Int) (p_x : Int) : Option ((List impl_Frac) × Bool) :=
  ((((spec_zRatio p_a).bind fun t_2 => (cond (!t_2) (some true) ((spec_zBounds p_lo p_hi).bind fun t_3 => (cond (!t_3) (some true) ((spec_l1In p_x p_lo p_hi).bind fun t_4 => some (!t_4)))))) : Option (Bool)).bind fun t_5 => (cond t_5 (some (([] : List impl_Frac), false)) ((spec_zClamped p_a p_lo p_hi p_x).bind fun t_6 => some (t_6.1, t_6.2))))

noncomputable def laws_pSameFracs_l1 (p_a : List impl_Frac) (p_b : List impl_Frac) (t_3 : Int) : Option (Stp (Int) ((Unit) ⊕ (Bool))) :=
  (cond (decide (t_3 < (goLen p_a))) ((goAt p_a t_3).bind fun e_4 => ((goAt p_b t_3).bind fun e_6 => (cond (!((e_4.Num == e_6.Num) && ((e_4.Den == e_6.Den) && true))) (some (.done (.inr false))) (some (.next (w64 (t_3 + 1))))))) (some (.done (.inl ()))))

noncomputable def laws_pSameFracs (p_a : List impl_Frac) (p_b : List impl_Frac) : Option (Bool) :=
  (cond ((goLen p_a) != (goLen p_b)) (some false) ((loopC (laws_pSameFracs_l1 p_a p_b) 0).bind fun | .inl () => some true | .inr o => some o))

noncomputable def impl_SumFracs_l1 (p_l : List impl_Frac) : Int × impl_Frac → Option (Stp (Int × impl_Frac) ((impl_Frac) ⊕ (impl_Frac × Bool)))
  | (t_4, sum_5) => (cond (decide (t_4 < (goLen p_l))) ((goAt p_l t_4).bind fun e_6 => ((impl_AddFrac sum_5 e_6).bind fun t_9 => (cond (!t_9.2) (some (.done (.inr ((impl_Frac.mk 0 0), false)))) (some (.next ((w64 (t_4 + 1)), t_9.1)))))) (some (.done (.inl sum_5))))

noncomputable def impl_SumFracs (p_l : List impl_Frac) : Option (impl_Frac × Bool) :=
  (cond (decide (100 < (goLen p_l))) (some ((impl_Frac.mk 0 0), false)) ((loopC (impl_SumFracs_l1 p_l) (0, (impl_Frac.mk 0 1))).bind fun | .inl sum_11 => some (sum_11, true) | .inr o => some o))

noncomputable def impl_cmpFrac (p_a : impl_Frac) (p_b : impl_Frac) : Option (Int) :=
  (cond (decide ((w64 (p_a.Num * p_b.Den)) < (w64 (p_b.Num * p_a.Den)))) (some (-1)) (cond (decide ((w64 (p_b.Num * p_a.Den)) < (w64 (p_a.Num * p_b.Den)))) (some 1) (some 0)))

noncomputable def impl_WorstRatio_l3 (e_17 : impl_Frac) (e_19 : impl_Frac) (e_21 : impl_Frac) (e_23 : impl_Frac) : Int × impl_Frac → Option (Stp (Int × impl_Frac) ((impl_Frac) ⊕ (Stp (Int × impl_Frac) ((impl_Frac) ⊕ (Stp (Int × impl_Frac) ((impl_Frac) ⊕ (impl_Frac × Bool)))))))
  | (t_25, worst_26) => (cond (decide (t_25 < 2)) ((goAt ([(e_17, e_19), (e_21, e_23)] : List (impl_Frac × impl_Frac)) t_25).bind fun t_27 => ((impl_DivFrac t_27.1 t_27.2).bind fun t_29 => (cond (!t_29.2) (some (.done (.inr (.done (.inr (.done (.inr ((impl_Frac.mk 0 0), false)))))))) ((impl_cmpFrac t_29.1 worst_26).bind fun t_31 => (((cond (decide (0 < t_31)) (some t_29.1) (some worst_26)) : Option (impl_Frac)).bind fun worst_32 => some (.next ((w64 (t_25 + 1)), worst_32))))))) (some (.done (.inl worst_26))))

noncomputable def impl_WorstRatio_l2 (t_9 : (List impl_Frac) × Bool) (t_12 : (List impl_Frac) × Bool) : Int × impl_Frac → Option (Stp (Int × impl_Frac) ((impl_Frac) ⊕ (Stp (Int × impl_Frac) ((impl_Frac) ⊕ (impl_Frac × Bool)))))
  | (t_15, worst_16) => (cond (decide (t_15 < (goLen t_9.1))) ((goAt t_9.1 t_15).bind fun e_17 => ((goAt t_12.1 t_15).bind fun e_19 => ((goAt t_12.1 t_15).bind fun e_21 => ((goAt t_9.1 t_15).bind fun e_23 => ((loopC (impl_WorstRatio_l3 e_17 e_19 e_21 e_23) (0, worst_16)).bind fun | .inl worst_33 => some (.next ((w64 (t_15 + 1)), worst_33)) | .inr o => some o))))) (some (.done (.inl worst_16))))

noncomputable def impl_WorstRatio_l1 (p_a : impl_Frac) (p_lo : Int) (p_hi : Int) : Int × impl_Frac → Option (Stp (Int × impl_Frac) ((impl_Frac) ⊕ (impl_Frac × Bool)))
  | (x_7, worst_8) => (cond (decide (x_7 < p_hi)) ((impl_clampedMasses p_a p_lo p_hi x_7).bind fun t_9 => (cond (!t_9.2) (some (.done (.inr ((impl_Frac.mk 0 0), false)))) ((impl_clampedMasses p_a p_lo p_hi (w64 (x_7 + 1))).bind fun t_12 => (cond (!t_12.2) (some (.done (.inr ((impl_Frac.mk 0 0), false)))) ((loopC (impl_WorstRatio_l2 t_9 t_12) (0, worst_8)).bind fun | .inl worst_34 => some (.next ((w64 (x_7 + 1)), worst_34)) | .inr o => some o))))) (some (.done (.inl worst_8))))

noncomputable def impl_WorstRatio (p_a : impl_Frac) (p_lo : Int) (p_hi : Int) : Option (impl_Frac × Bool) :=
  ((((impl_isRatio p_a).bind fun t_3 => (cond (!t_3) (some true) ((impl_isClamp p_lo p_hi).bind fun t_4 => some (!t_4)))) : Option (Bool)).bind fun t_5 => (cond t_5 (some ((impl_Frac.mk 0 0), false)) ((loopC (impl_WorstRatio_l1 p_a p_lo p_hi) (p_lo, (impl_Frac.mk 1 1))).bind fun | .inl worst_35 => some (worst_35, true) | .inr o => some o)))

noncomputable def impl_GeoRatio (p_a : impl_Frac) (p_sensitivity : Int) : Option (impl_Frac × Bool) :=
  ((((impl_isRatio p_a).bind fun t_3 => (cond (!t_3) (some true) (cond (decide (p_sensitivity < 0)) (some true) (some (decide (30 < p_sensitivity)))))) : Option (Bool)).bind fun t_4 => (cond t_4 (some ((impl_Frac.mk 0 0), false)) ((impl_PowFrac (impl_Frac.mk p_a.Den p_a.Num) p_sensitivity).bind fun t_5 => some (t_5.1, t_5.2))))

noncomputable def impl_CompareFrac (p_a : impl_Frac) (p_b : impl_Frac) : Option (Int × Bool) :=
  ((((impl_IsFrac p_a).bind fun t_3 => (cond (!t_3) (some true) ((impl_IsFrac p_b).bind fun t_4 => some (!t_4)))) : Option (Bool)).bind fun t_5 => (cond t_5 (some (0, false)) ((impl_cmpFrac p_a p_b).bind fun t_6 => some (t_6, true))))

noncomputable def spec_DrawGeoMass (p_code : List (K .u8)) : Option (impl_Frac × Int) :=
  ((spec_l1Cur_anyRatio (spec_l1Cur.mk p_code 0 (⟨0⟩ : K .u64))).bind fun t_5 => ((spec_l1Cur_among t_5.2 ([0, 1, -1, 2, 3, -4, 8, 60, -61, 61] : List Int)).bind fun t_10 => some (t_5.1, t_10.1)))

noncomputable def impl_GeoMass (p_a : impl_Frac) (p_k : Int) : Option (impl_Frac × Bool) :=
  ((((impl_isRatio p_a).bind fun t_3 => (cond (!t_3) (some true) (cond (decide (p_k < (-60))) (some true) (some (decide (60 < p_k)))))) : Option (Bool)).bind fun t_4 => (cond t_4 (some ((impl_Frac.mk 0 0), false)) ((impl_geoMass p_a (max p_k (w64 (-p_k)))).bind fun t_5 => some (t_5.1, t_5.2))))

noncomputable def spec_GeoMass (p_a : impl_Frac) (p_k : Int) : Option (impl_Frac × Bool) :=
  ((((spec_zRatio p_a).bind fun t_3 => (cond (!t_3) (some true) ((spec_l1In p_k (-60) 60).bind fun t_4 => some (!t_4)))) : Option (Bool)).bind fun t_5 => (cond t_5 (some ((impl_Frac.mk 0 0), false)) ((spec_zMass p_a p_k).bind fun t_6 => some (t_6.1, t_6.2))))

noncomputable def spec_DrawLeastRadius (p_code : List (K .u8)) : Option (impl_Frac × impl_Frac) :=
  ((spec_l1Cur_anyRatio (spec_l1Cur.mk p_code 0 (⟨0⟩ : K .u64))).bind fun t_6 => ((spec_l1Cur_pick t_6.2 200).bind fun t_10 => ((spec_fMake 1 (w64 (1 + t_10.1))).bind fun t_12 => ((spec_l1Cur_one t_10.2 12).bind fun t_15 => (((cond t_15.1 ((spec_l1Cur_anyFrac t_15.2).bind fun t_18 => some t_18.1) (some t_12.1)) : Option (impl_Frac)).bind fun d_20 => some (t_6.1, d_20))))))

noncomputable def impl_LeastRadius_l1 (p_a : impl_Frac) (p_delta : impl_Frac) (t_6 : Int) : Option (Stp (Int) ((Unit) ⊕ (Int × Bool))) :=
  (cond (decide (t_6 < 60)) ((impl_geoTail p_a (w64 (t_6 + 1))).bind fun t_7 => (cond (!t_7.2) (some (.done (.inr (0, false)))) ((impl_MulFrac (impl_Frac.mk 2 1) t_7.1).bind fun t_9 => (cond (!t_9.2) (some (.done (.inr (0, false)))) ((impl_cmpFrac t_9.1 p_delta).bind fun t_11 => (cond (decide (t_11 ≤ 0)) (some (.done (.inr (t_6, true)))) (some (.next (w64 (t_6 + 1)))))))))) (some (.done (.inl ()))))

noncomputable def impl_LeastRadius (p_a : impl_Frac) (p_delta : impl_Frac) : Option (Int × Bool) :=
  ((((impl_isRatio p_a).bind fun t_3 => (cond (!t_3) (some true) ((impl_IsFrac p_delta).bind fun t_4 => some (!t_4)))) : Option (Bool)).bind fun t_5 => (cond t_5 (some (0, false)) ((loopC (impl_LeastRadius_l1 p_a p_delta) 0).bind fun | .inl () => some (0, false) | .inr o => some o)))

noncomputable def spec_l1Sign (p_n : Int) : Option (Int) :=
  (cond (decide (p_n < 0)) (some (-1)) (cond (decide (0 < p_n)) (some 1) (some 0)))

noncomputable def spec_fCmp (p_a : impl_Frac) (p_b : impl_Frac) : Option (Int) :=
  ((spec_l1Sign (w64 ((w64 (p_a.Num * p_b.Den)) - (w64 (p_b.Num * p_a.Den))))).bind fun t_3 => some t_3)

noncomputable def spec_LeastRadius_l1 (p_a : impl_Frac) (p_delta : impl_Frac) (k_6 : Int) : Option (Stp (Int) ((Unit) ⊕ (Int × Bool))) :=
  (cond (decide (k_6 < 60)) ((spec_zTail p_a (w64 (k_6 + 1))).bind fun t_7 => ((((spec_fInt 2).bind fun t_10 => ((spec_fMul t_7.1 t_10).bind fun t_11 => some (t_11.2, t_11.1))) : Option (Bool × impl_Frac)).bind fun (two_13, y_14) => (((cond (!t_7.2) (some true) (some (!two_13))) : Option (Bool)).bind fun t_15 => (cond t_15 (some (.done (.inr (0, false)))) ((spec_fCmp y_14 p_delta).bind fun t_16 => (cond (decide (t_16 ≤ 0)) (some (.done (.inr (k_6, true)))) (some (.next (w64 (k_6 + 1)))))))))) (some (.done (.inl ()))))

noncomputable def spec_LeastRadius (p_a : impl_Frac) (p_delta : impl_Frac) : Option (Int × Bool) :=
  ((((spec_zRatio p_a).bind fun t_3 => (cond (!t_3) (some true) ((spec_fGood p_delta).bind fun t_4 => some (!t_4)))) : Option (Bool)).bind fun t_5 => (cond t_5 (some (0, false)) ((loopC (spec_LeastRadius_l1 p_a p_delta) 0).bind fun | .inl () => some (0, false) | .inr o => some o)))

noncomputable def impl_VarianceOf (p_a : impl_Frac) : Option (impl_Frac × Bool) :=
  ((impl_isRatio p_a).bind fun t_3 => (cond (!t_3) (some ((impl_Frac.mk 0 0), false)) ((impl_MulFrac (impl_Frac.mk 2 1) p_a).bind fun t_4 => (cond (!t_4.2) (some ((impl_Frac.mk 0 0), false)) ((impl_lessOne p_a).bind fun t_6 => ((impl_PowFrac t_6 2).bind fun t_7 => (cond (!t_7.2) (some ((impl_Frac.mk 0 0), false)) ((impl_DivFrac t_4.1 t_7.1).bind fun t_9 => some (t_9.1, t_9.2)))))))))

noncomputable def spec_VarianceOf (p_a : impl_Frac) : Option (impl_Frac × Bool) :=
  ((spec_zRatio p_a).bind fun t_3 => (cond (!t_3) (some ((impl_Frac.mk 0 0), false)) ((((spec_fInt 2).bind fun t_5 => ((spec_fMul p_a t_5).bind fun t_6 => some (t_6.2, t_6.1))) : Option (Bool × impl_Frac)).bind fun (one_8, x_9) => ((((spec_fInt 1).bind fun t_12 => ((spec_fSub t_12 p_a).bind fun t_13 => some t_13.1)) : Option (impl_Frac)).bind fun d_15 => ((spec_fPow d_15 2).bind fun t_16 => (((cond (!one_8) (some true) (some (!t_16.2))) : Option (Bool)).bind fun t_18 => (cond t_18 (some ((impl_Frac.mk 0 0), false)) ((spec_fDiv x_9 t_16.1).bind fun t_19 => some (t_19.1, t_19.2)))))))))

noncomputable def laws_FnGeometric (p_code : List (K .u8)) (p_more : List (K .u8)) : Option (Bool) :=
  ((laws_big p_code p_more).bind fun t_3 => (cond t_3 (some true) ((spec_DrawClampedMasses p_code).bind fun t_4 => ((impl_ClampedMasses t_4.1 t_4.2.1 t_4.2.2.1 t_4.2.2.2).bind fun t_6 => ((spec_ClampedMasses t_4.1 t_4.2.1 t_4.2.2.1 t_4.2.2.2).bind fun t_9 => (((cond (t_6.2 != t_9.2) (some true) ((laws_pSameFracs t_6.1 t_9.1).bind fun t_12 => some (!t_12))) : Option (Bool)).bind fun t_14 => (cond t_14 (some false) (((cond t_6.2 ((impl_SumFracs t_6.1).bind fun t_15 => (((cond t_15.2 (some (!((t_15.1.Num == 1) && ((t_15.1.Den == 1) && true)))) (some false)) : Option (Bool)).bind fun t_18 => (cond t_18 (some (.inr false)) ((impl_WorstRatio t_4.1 t_4.2.1 t_4.2.2.1).bind fun t_19 => ((impl_GeoRatio t_4.1 1).bind fun t_21 => (((cond t_19.2 (some t_21.2) (some false)) : Option (Bool)).bind fun t_23 => (((cond t_23 ((impl_CompareFrac t_19.1 t_21.1).bind fun t_24 => (((cond (!t_24.2) (some true) (some (decide (0 < t_24.1)))) : Option (Bool)).bind fun t_25 => (cond t_25 (some (.inr (.inr false))) (some (.inl ()))))) (some (.inl ()))) : Option ((Unit) ⊕ ((Unit) ⊕ (Bool)))).bind fun | .inl () => some (.inl ()) | .inr o => some o))))))) (some (.inl ()))) : Option ((Unit) ⊕ (Bool))).bind fun | .inl () => ((spec_DrawGeoMass p_more).bind fun t_26 => ((impl_GeoMass t_26.1 t_26.2).bind fun t_28 => ((spec_GeoMass t_26.1 t_26.2).bind fun t_30 => ((impl_GeoMass t_26.1 (w64 (-t_26.2))).bind fun t_32 => (((cond (t_28.2 != t_30.2) (some true) (cond (!((t_28.1.Num == t_30.1.Num) && ((t_28.1.Den == t_30.1.Den) && true))) (some true) (cond (t_32.2 != t_28.2) (some true) (some (!((t_32.1.Num == t_28.1.Num) && ((t_32.1.Den == t_28.1.Den) && true))))))) : Option (Bool)).bind fun t_34 => (cond t_34 (some false) ((spec_DrawLeastRadius p_more).bind fun t_35 => ((impl_LeastRadius t_35.1 t_35.2).bind fun t_38 => ((spec_LeastRadius t_35.1 t_35.2).bind fun t_39 => (((cond (t_38.2 != t_39.2) (some true) (some (t_38.1 != t_39.1))) : Option (Bool)).bind fun t_40 => (cond t_40 (some false) ((impl_VarianceOf t_35.1).bind fun t_41 => ((spec_VarianceOf t_35.1).bind fun t_43 => (((cond (t_41.2 == t_43.2) (some ((t_41.1.Num == t_43.1.Num) && ((t_41.1.Den == t_43.1.Den) && true))) (some false)) : Option (Bool)).bind fun t_45 => some t_45)))))))))))))) | .inr o => some o))))))))

end Go.Gx.F
