/- The plain functions that the walks come to. -/
import Derived.Test.YtpjcfmpfiadkgaaGy
namespace Go.Gx.F
open Go.Gx
set_option linter.all false

structure spec_l1Cur where
  code : List (K .u8)
  at_ : Int
  seed : K .u64

instance : Rep spec_l1Cur where
  wd := 3
  rd m cs x := ∃ s1 : Sl, cs = [s1.v, (.int .i64 x.at_), (.int .u64 x.seed.v)] ∧ Rd m s1 x.code
  mono hm h := by
    obtain ⟨s1, rfl, h1⟩ := h
    exact ⟨s1, rfl, h1.mono hm⟩
  len h := by obtain ⟨s1, rfl, _⟩ := h; rfl
  one h := by obtain ⟨s1, rfl, _⟩ := h; rfl

instance : Rng spec_l1Cur := ⟨fun x => Rng.ok x.code ∧ Rng.ok x.at_ ∧ Rng.ok x.seed⟩

noncomputable def spec_l1Cur_next (p_c : spec_l1Cur) : Option (Int × spec_l1Cur) :=
  (((cond (decide (p_c.at_ < (goLen p_c.code))) ((goAt p_c.code p_c.at_).bind fun e_2 => some (w64 e_2.v)) (some 0)) : Option (Int)).bind fun b_4 => (cond (decide ((w64 (p_c.at_ + 1)) ≤ (goLen p_c.code))) (some (b_4, (spec_l1Cur.mk p_c.code (w64 (p_c.at_ + 1)) (⟨(IntKind.wrap .u64 ((IntKind.wrap .u64 ((IntKind.wrap .u64 (p_c.seed.v * 6364136223846793005)) + (IntKind.wrap .u64 b_4))) + 1442695040888963407))⟩ : K .u64)))) ((goShr .u64 (IntKind.wrap .u64 ((IntKind.wrap .u64 ((IntKind.wrap .u64 (p_c.seed.v * 6364136223846793005)) + (IntKind.wrap .u64 b_4))) + 1442695040888963407)) 40).bind fun t_5 => some ((w64 (goBits .and .u64 t_5 255)), (spec_l1Cur.mk p_c.code (w64 (p_c.at_ + 1)) (⟨(IntKind.wrap .u64 ((IntKind.wrap .u64 ((IntKind.wrap .u64 (p_c.seed.v * 6364136223846793005)) + (IntKind.wrap .u64 b_4))) + 1442695040888963407))⟩ : K .u64))))))

noncomputable def spec_l1Cur_pick (p_c : spec_l1Cur) (p_n : Int) : Option (Int × spec_l1Cur) :=
  (cond (decide (p_n ≤ 1)) (some (0, p_c)) ((spec_l1Cur_next p_c).bind fun t_3 => (((cond (decide (200 < p_n)) ((spec_l1Cur_next t_3.2).bind fun t_6 => some ((w64 ((w64 (t_3.1 * 256)) + t_6.1)), t_6.2)) (some (t_3.1, t_3.2))) : Option (Int × spec_l1Cur)).bind fun (x_8, p_c_9) => ((goRem x_8 p_n).bind fun t_11 => some (t_11, p_c_9)))))

noncomputable def spec_l1Cur_among (p_c : spec_l1Cur) (p_list : List Int) : Option (Int × spec_l1Cur) :=
  ((spec_l1Cur_pick p_c (goLen p_list)).bind fun t_4 => ((goAt p_list t_4.1).bind fun e_6 => some (e_6, t_4.2)))

noncomputable def spec_l1Cur_twoWay_l2 (t_6 : Int × spec_l1Cur) : (List Int) × Int × spec_l1Cur → Option (Stp ((List Int) × Int × spec_l1Cur) ((List Int) × spec_l1Cur))
  | (row_13, j_15, p_c_16) => (cond (decide (j_15 < (w64 (1 + t_6.1)))) ((spec_l1Cur_pick p_c_16 30).bind fun t_19 => ((spec_l1Cur_among t_19.2 ([0, 1, 2, 3, 5, 9, t_19.1] : List Int)).bind fun t_23 => ((goApp 8 row_13 ([t_23.1] : List Int)).bind fun l_26 => some (.next (l_26, (w64 (j_15 + 1)), t_23.2))))) (some (.done (row_13, p_c_16))))

noncomputable def spec_l1Cur_twoWay_l1 (t_3 : Int × spec_l1Cur) (t_6 : Int × spec_l1Cur) : (List (List Int)) × Int × spec_l1Cur → Option (Stp ((List (List Int)) × Int × spec_l1Cur) ((List (List Int)) × spec_l1Cur))
  | (out_8, i_10, p_c_11) => (cond (decide (i_10 < (w64 (1 + t_3.1)))) ((loopC (spec_l1Cur_twoWay_l2 t_6) (([] : List Int), 0, p_c_11)).bind fun (row_28, p_c_30) => ((goApp 24 out_8 ([row_28] : List (List Int))).bind fun l_33 => some (.next (l_33, (w64 (i_10 + 1)), p_c_30)))) (some (.done (out_8, p_c_11))))

noncomputable def spec_l1Cur_twoWay (p_c : spec_l1Cur) : Option ((List (List Int)) × spec_l1Cur) :=
  ((spec_l1Cur_pick p_c 4).bind fun t_3 => ((spec_l1Cur_pick t_3.2 4).bind fun t_6 => ((loopC (spec_l1Cur_twoWay_l1 t_3 t_6) (([] : List (List Int)), 0, t_6.2)).bind fun (out_35, p_c_37) => some (out_35, p_c_37))))

noncomputable def spec_l1Cur_anyTwoWay (p_c : spec_l1Cur) : Option ((List (List Int)) × spec_l1Cur) :=
  ((spec_l1Cur_twoWay p_c).bind fun t_3 => ((spec_l1Cur_pick t_3.2 24).bind fun t_7 => (((cond (t_7.1 == 0) ((((goAt t_3.1 0).bind fun e_25 => ((spec_l1Cur_among t_7.2 ([-1, 1000, 1001] : List Int)).bind fun t_30 => ((goAt e_25 0).bind fun e_32 => some (goSet t_3.1 0 (goSet e_25 0 t_30.1), t_30.2)))) : Option ((List (List Int)) × spec_l1Cur)).bind fun (x_35, p_c_37) => some (.inl (x_35, p_c_37))) (((cond (t_7.1 == 1) ((goAt t_3.1 0).bind fun e_14 => ((goApp 8 e_14 ([0] : List Int)).bind fun l_18 => ((goAt t_3.1 0).bind fun e_20 => some (.inl (goSet t_3.1 0 l_18))))) (cond (t_7.1 == 2) (some (.inr (.inr (([] : List (List Int)), t_7.2)))) (cond (t_7.1 == 3) ((spec_l1Cur_pick t_7.2 2).bind fun t_10 => ((goMake 24 (w64 (1 + t_10.1)) ([] : List Int)).bind fun l_12 => some (.inr (.inr (l_12, t_10.2))))) (some (.inl t_3.1))))) : Option (((List (List Int))) ⊕ (((List (List Int)) × spec_l1Cur) ⊕ ((List (List Int)) × spec_l1Cur)))).bind fun | .inl x_23 => some (.inl (x_23, t_7.2)) | .inr o => some o)) : Option (((List (List Int)) × spec_l1Cur) ⊕ ((List (List Int)) × spec_l1Cur))).bind fun | .inl (x_39, p_c_41) => some (x_39, p_c_41) | .inr o => some o)))

noncomputable def spec_DrawThresholdCells (p_code : List (K .u8)) : Option ((List (List Int)) × Int) :=
  ((spec_l1Cur_anyTwoWay (spec_l1Cur.mk p_code 0 (⟨0⟩ : K .u64))).bind fun t_4 => ((spec_l1Cur_among t_4.2 ([0, 1, 3, 5, 1001, 1002, -1] : List Int)).bind fun t_9 => some (t_4.1, t_9.1)))

noncomputable def impl_hasShape_l1 (p_x : List (List Int)) (p_cols : Int) (t_2 : Int) : Option (Stp (Int) ((Unit) ⊕ (Bool))) :=
  (cond (decide (t_2 < (goLen p_x))) ((goAt p_x t_2).bind fun e_3 => (cond ((goLen e_3) != p_cols) (some (.done (.inr false))) (some (.next (w64 (t_2 + 1)))))) (some (.done (.inl ()))))

noncomputable def impl_hasShape (p_x : List (List Int)) (p_rows : Int) (p_cols : Int) : Option (Bool) :=
  (cond ((goLen p_x) != p_rows) (some false) ((loopC (impl_hasShape_l1 p_x p_cols) 0).bind fun | .inl () => some true | .inr o => some o))

noncomputable def impl_isGrid_l2 (p_most : Int) (e_14 : List Int) (t_17 : Int) : Option (Stp (Int) ((Unit) ⊕ (Stp (Int) ((Unit) ⊕ (Bool))))) :=
  (cond (decide (t_17 < (goLen e_14))) ((goAt e_14 t_17).bind fun e_18 => (((cond (decide (e_18 < 0)) (some true) (some (decide (p_most < e_18)))) : Option (Bool)).bind fun t_20 => (cond t_20 (some (.done (.inr (.done (.inr false))))) (some (.next (w64 (t_17 + 1))))))) (some (.done (.inl ()))))

noncomputable def impl_isGrid_l1 (p_x : List (List Int)) (p_most : Int) (t_13 : Int) : Option (Stp (Int) ((Unit) ⊕ (Bool))) :=
  (cond (decide (t_13 < (goLen p_x))) ((goAt p_x t_13).bind fun e_14 => ((loopC (impl_isGrid_l2 p_most e_14) 0).bind fun | .inl () => some (.next (w64 (t_13 + 1))) | .inr o => some o)) (some (.done (.inl ()))))

noncomputable def impl_isGrid (p_x : List (List Int)) (p_most : Int) : Option (Bool) :=
  (((cond (decide ((goLen p_x) < 1)) (some true) (cond (decide (8 < (goLen p_x))) (some true) ((goAt p_x 0).bind fun e_2 => (cond (decide ((goLen e_2) < 1)) (some true) ((goAt p_x 0).bind fun e_5 => (cond (decide (8 < (goLen e_5))) (some true) ((goAt p_x 0).bind fun e_8 => ((impl_hasShape p_x (goLen p_x) (goLen e_8)).bind fun t_11 => some (!t_11))))))))) : Option (Bool)).bind fun t_12 => (cond t_12 (some false) ((loopC (impl_isGrid_l1 p_x p_most) 0).bind fun | .inl () => some true | .inr o => some o)))

noncomputable def impl_IsTwoWay (p_x : List (List Int)) : Option (Bool) :=
  ((impl_isGrid p_x 1000).bind fun t_2 => some t_2)

noncomputable def slices_Clone_int_int (p_s : List Int) : Option ((List Int)) :=
  ((goApp 8 ([] : List Int) p_s).bind fun l_3 => some l_3)

noncomputable def impl_copyMatrix_l1 (p_x : List (List Int)) : (List (List Int)) × Int → Option (Stp ((List (List Int)) × Int) ((List (List Int))))
  | (out_4, t_6) => (cond (decide (t_6 < (goLen p_x))) ((goAt p_x t_6).bind fun e_7 => ((slices_Clone_int_int e_7).bind fun t_10 => ((goAt out_4 t_6).bind fun e_13 => some (.next (goSet out_4 t_6 t_10, (w64 (t_6 + 1))))))) (some (.done out_4)))

noncomputable def impl_copyMatrix (p_x : List (List Int)) : Option ((List (List Int))) :=
  ((goMake 24 (goLen p_x) ([] : List Int)).bind fun l_2 => ((loopC (impl_copyMatrix_l1 p_x) (l_2, 0)).bind fun out_16 => some out_16))

noncomputable def impl_ThresholdCells_l2 (p_t : Int) (t_9 : Int) (e_10 : List Int) : (List (List Int)) × Int × (List Int) × (List Int) → Option (Stp ((List (List Int)) × Int × (List Int) × (List Int)) ((List (List Int))))
  | (p_12, t_14, row_15, t_17) => (cond (decide (t_14 < (goLen e_10))) ((goAt t_17 t_14).bind fun e_19 => ((goAt row_15 t_14).bind fun e_21 => (((cond (decide (0 < e_19)) (some (decide (e_19 < p_t))) (some false)) : Option (Bool)).bind fun t_24 => (((cond t_24 ((goAt (goSet row_15 t_14 0) t_14).bind fun e_25 => some (goSet (goSet p_12 t_9 (goSet row_15 t_14 0)) t_9 (goSet (goSet row_15 t_14 0) t_14 1), goSet (goSet row_15 t_14 0) t_14 1)) (some (goSet p_12 t_9 (goSet row_15 t_14 0), goSet row_15 t_14 0))) : Option ((List (List Int)) × (List Int))).bind fun (p_28, row_30) => some (.next (p_28, (w64 (t_14 + 1)), row_30, row_30)))))) (some (.done p_12)))

noncomputable def impl_ThresholdCells_l1 (p_t : Int) (t_4 : List (List Int)) : (List (List Int)) × Int → Option (Stp ((List (List Int)) × Int) ((List (List Int))))
  | (p_7, t_9) => (cond (decide (t_9 < (goLen t_4))) ((goAt p_7 t_9).bind fun e_10 => ((loopC (impl_ThresholdCells_l2 p_t t_9 e_10) (p_7, 0, e_10, e_10)).bind fun p_32 => some (.next (p_32, (w64 (t_9 + 1)))))) (some (.done p_7)))

noncomputable def impl_ThresholdCells (p_x : List (List Int)) (p_t : Int) : Option ((List (List Int)) × Bool) :=
  ((((impl_IsTwoWay p_x).bind fun t_2 => (cond (!t_2) (some true) (cond (decide (p_t < 0)) (some true) (some (decide (1001 < p_t)))))) : Option (Bool)).bind fun t_3 => (cond t_3 (some (([] : List (List Int)), false)) ((impl_copyMatrix p_x).bind fun t_4 => ((loopC (impl_ThresholdCells_l1 p_t t_4) (t_4, 0)).bind fun p_34 => some (p_34, true)))))

noncomputable def spec_l1In (p_n : Int) (p_lo : Int) (p_hi : Int) : Option (Bool) :=
  (((cond (decide (p_lo ≤ p_n)) (some (decide (p_n ≤ p_hi))) (some false)) : Option (Bool)).bind fun t_1 => some t_1)

noncomputable def spec_l1All_l1 (p_l : List Int) (p_lo : Int) (p_hi : Int) (t_2 : Int) : Option (Stp (Int) ((Unit) ⊕ (Bool))) :=
  (cond (decide (t_2 < (goLen p_l))) ((goAt p_l t_2).bind fun e_3 => ((spec_l1In e_3 p_lo p_hi).bind fun t_5 => (cond (!t_5) (some (.done (.inr false))) (some (.next (w64 (t_2 + 1))))))) (some (.done (.inl ()))))

noncomputable def spec_l1All (p_l : List Int) (p_lo : Int) (p_hi : Int) : Option (Bool) :=
  ((loopC (spec_l1All_l1 p_l p_lo p_hi) 0).bind fun | .inl () => some true | .inr o => some o)

noncomputable def spec_qForm_l1 (p_x : List (List Int)) (p_hi : Int) (t_8 : Int) : Option (Stp (Int) ((Unit) ⊕ (Bool))) :=
  (cond (decide (t_8 < (goLen p_x))) ((goAt p_x t_8).bind fun e_9 => ((((goAt p_x 0).bind fun e_12 => (cond ((goLen e_9) != (goLen e_12)) (some true) ((spec_l1All e_9 0 p_hi).bind fun t_15 => some (!t_15)))) : Option (Bool)).bind fun t_16 => (cond t_16 (some (.done (.inr false))) (some (.next (w64 (t_8 + 1))))))) (some (.done (.inl ()))))

noncomputable def spec_qForm (p_x : List (List Int)) (p_hi : Int) : Option (Bool) :=
  ((((spec_l1In (goLen p_x) 1 8).bind fun t_2 => (cond (!t_2) (some true) ((goAt p_x 0).bind fun e_3 => ((spec_l1In (goLen e_3) 1 8).bind fun t_6 => some (!t_6))))) : Option (Bool)).bind fun t_7 => (cond t_7 (some false) ((loopC (spec_qForm_l1 p_x p_hi) 0).bind fun | .inl () => some true | .inr o => some o)))

noncomputable def spec_qTable (p_x : List (List Int)) : Option (Bool) :=
  ((spec_qForm p_x 1000).bind fun t_2 => some t_2)

noncomputable def spec_ThresholdCells_l2 (p_t : Int) (e_9 : List Int) : (List Int) × Int → Option (Stp ((List Int) × Int) ((List Int)))
  | (p_12, t_14) => (cond (decide (t_14 < (goLen e_9))) ((goAt e_9 t_14).bind fun e_15 => (((cond (decide (0 < e_15)) (some (decide (e_15 < p_t))) (some false)) : Option (Bool)).bind fun t_17 => (((cond t_17 ((goApp 8 p_12 ([1] : List Int)).bind fun l_22 => some l_22) ((goApp 8 p_12 ([0] : List Int)).bind fun l_19 => some l_19)) : Option ((List Int))).bind fun p_24 => some (.next (p_24, (w64 (t_14 + 1))))))) (some (.done p_12)))

noncomputable def spec_ThresholdCells_l1 (p_x : List (List Int)) (p_t : Int) : (List (List Int)) × Int → Option (Stp ((List (List Int)) × Int) ((List (List Int))))
  | (out_5, t_7) => (cond (decide (t_7 < (goLen p_x))) ((goAt p_x t_7).bind fun e_9 => ((loopC (spec_ThresholdCells_l2 p_t e_9) (([] : List Int), 0)).bind fun p_26 => ((goApp 24 out_5 ([p_26] : List (List Int))).bind fun l_30 => some (.next (l_30, (w64 (t_7 + 1))))))) (some (.done out_5)))

noncomputable def spec_ThresholdCells (p_x : List (List Int)) (p_t : Int) : Option ((List (List Int)) × Bool) :=
  ((((spec_qTable p_x).bind fun t_2 => (cond (!t_2) (some true) ((spec_l1In p_t 0 1001).bind fun t_3 => some (!t_3)))) : Option (Bool)).bind fun t_4 => (cond t_4 (some (([] : List (List Int)), false)) ((loopC (spec_ThresholdCells_l1 p_x p_t) (([] : List (List Int)), 0)).bind fun out_32 => some (out_32, true))))

noncomputable def spec_l1Cur_amounts_l1  : (List Int) × Int × spec_l1Cur → Option (Stp ((List Int) × Int × spec_l1Cur) ((List Int) × spec_l1Cur))
  | (l_5, k_7, p_c_8) => (cond (decide (0 < k_7)) ((spec_l1Cur_pick p_c_8 100).bind fun t_11 => ((spec_l1Cur_among t_11.2 ([0, 1, 5, 10, 90, t_11.1] : List Int)).bind fun t_15 => ((goApp 8 l_5 ([t_15.1] : List Int)).bind fun l_18 => some (.next (l_18, (w64 (k_7 - 1)), t_15.2))))) (some (.done (l_5, p_c_8))))

noncomputable def spec_l1Cur_amounts_l2  : (List Int) × spec_l1Cur → Option (Stp ((List Int) × spec_l1Cur) ((List Int) × spec_l1Cur))
  | (l_27, p_c_29) => ((spec_l1Cur_pick p_c_29 2).bind fun t_32 => (cond (decide ((goLen l_27) < (w64 (40 + t_32.1)))) ((goApp 8 l_27 ([3] : List Int)).bind fun l_35 => some (.next (l_35, t_32.2))) (some (.done (l_27, t_32.2)))))

noncomputable def spec_l1Cur_amounts (p_c : spec_l1Cur) : Option ((List Int) × spec_l1Cur) :=
  ((spec_l1Cur_pick p_c 7).bind fun t_3 => ((loopC (spec_l1Cur_amounts_l1) (([] : List Int), t_3.1, t_3.2)).bind fun (l_20, p_c_22) => ((spec_l1Cur_pick p_c_22 20).bind fun t_25 => (((cond (t_25.1 == 0) ((spec_l1Cur_among t_25.2 ([-1, 1000000, 1000001] : List Int)).bind fun t_47 => ((goApp 8 l_20 ([t_47.1] : List Int)).bind fun l_50 => some (l_50, t_47.2))) (((cond (t_25.1 == 1) ((loopC (spec_l1Cur_amounts_l2) (l_20, t_25.2)).bind fun (l_37, p_c_39) => some (l_37, p_c_39)) (some (l_20, t_25.2))) : Option ((List Int) × spec_l1Cur)).bind fun (l_41, p_c_43) => some (l_41, p_c_43))) : Option ((List Int) × spec_l1Cur)).bind fun (l_52, p_c_54) => some (l_52, p_c_54)))))

noncomputable def spec_DrawIsDominated (p_code : List (K .u8)) : Option ((List Int) × Int × Int) :=
  ((spec_l1Cur_amounts (spec_l1Cur.mk p_code 0 (⟨0⟩ : K .u64))).bind fun t_4 => ((spec_l1Cur_among t_4.2 ([1, 2, 3, 10, 0, 11] : List Int)).bind fun t_9 => ((spec_l1Cur_among t_9.2 ([0, 50, 75, 85, 100, 101, -1] : List Int)).bind fun t_13 => some (t_4.1, t_9.1, t_13.1))))

noncomputable def math_bits_Len32 (p_x : K .u32) : Option (Int) :=
  (((cond (decide (65536 ≤ p_x.v)) ((goShr .u32 p_x.v 16).bind fun t_1 => some (t_1, 16)) (some (p_x.v, 0))) : Option (Int × Int)).bind fun (x_2, n_3) => (((cond (decide (256 ≤ x_2)) ((goShr .u32 x_2 8).bind fun t_4 => some (t_4, (w64 (n_3 + 8)))) (some (x_2, n_3))) : Option (Int × Int)).bind fun (x_5, n_6) => ((goStrAt ([0, 1, 2, 2, 3, 3, 3, 3, 4, 4, 4, 4, 4, 4, 4, 4, 5, 5, 5, 5, 5, 5, 5, 5, 5, 5, 5, 5, 5, 5, 5, 5, 6, 6, 6, 6, 6, 6, 6, 6, 6, 6, 6, 6, 6, 6, 6, 6, 6, 6, 6, 6, 6, 6, 6, 6, 6, 6, 6, 6, 6, 6, 6, 6, 7, 7, 7, 7, 7, 7, 7, 7, 7, 7, 7, 7, 7, 7, 7, 7, 7, 7, 7, 7, 7, 7, 7, 7, 7, 7, 7, 7, 7, 7, 7, 7, 7, 7, 7, 7, 7, 7, 7, 7, 7, 7, 7, 7, 7, 7, 7, 7, 7, 7, 7, 7, 7, 7, 7, 7, 7, 7, 7, 7, 7, 7, 7, 7, 8, 8, 8, 8, 8, 8, 8, 8, 8, 8, 8, 8, 8, 8, 8, 8, 8, 8, 8, 8, 8, 8, 8, 8, 8, 8, 8, 8, 8, 8, 8, 8, 8, 8, 8, 8, 8, 8, 8, 8, 8, 8, 8, 8, 8, 8, 8, 8, 8, 8, 8, 8, 8, 8, 8, 8, 8, 8, 8, 8, 8, 8, 8, 8, 8, 8, 8, 8, 8, 8, 8, 8, 8, 8, 8, 8, 8, 8, 8, 8, 8, 8, 8, 8, 8, 8, 8, 8, 8, 8, 8, 8, 8, 8, 8, 8, 8, 8, 8, 8, 8, 8, 8, 8, 8, 8, 8, 8, 8, 8, 8, 8, 8, 8, 8, 8, 8, 8, 8, 8, 8, 8, 8, 8, 8, 8, 8, 8] : List UInt8) (IntKind.wrap .u8 x_5)).bind fun t_7 => some (w64 (n_6 + (w64 t_7))))))

noncomputable def math_bits_Len64 (p_x : K .u64) : Option (Int) :=
  (((cond (decide (4294967296 ≤ p_x.v)) ((goShr .u64 p_x.v 32).bind fun t_1 => some (t_1, 32)) (some (p_x.v, 0))) : Option (Int × Int)).bind fun (x_2, n_3) => (((cond (decide (65536 ≤ x_2)) ((goShr .u64 x_2 16).bind fun t_4 => some (t_4, (w64 (n_3 + 16)))) (some (x_2, n_3))) : Option (Int × Int)).bind fun (x_5, n_6) => (((cond (decide (256 ≤ x_5)) ((goShr .u64 x_5 8).bind fun t_7 => some (t_7, (w64 (n_6 + 8)))) (some (x_5, n_6))) : Option (Int × Int)).bind fun (x_8, n_9) => ((goStrAt ([0, 1, 2, 2, 3, 3, 3, 3, 4, 4, 4, 4, 4, 4, 4, 4, 5, 5, 5, 5, 5, 5, 5, 5, 5, 5, 5, 5, 5, 5, 5, 5, 6, 6, 6, 6, 6, 6, 6, 6, 6, 6, 6, 6, 6, 6, 6, 6, 6, 6, 6, 6, 6, 6, 6, 6, 6, 6, 6, 6, 6, 6, 6, 6, 7, 7, 7, 7, 7, 7, 7, 7, 7, 7, 7, 7, 7, 7, 7, 7, 7, 7, 7, 7, 7, 7, 7, 7, 7, 7, 7, 7, 7, 7, 7, 7, 7, 7, 7, 7, 7, 7, 7, 7, 7, 7, 7, 7, 7, 7, 7, 7, 7, 7, 7, 7, 7, 7, 7, 7, 7, 7, 7, 7, 7, 7, 7, 7, 8, 8, 8, 8, 8, 8, 8, 8, 8, 8, 8, 8, 8, 8, 8, 8, 8, 8, 8, 8, 8, 8, 8, 8, 8, 8, 8, 8, 8, 8, 8, 8, 8, 8, 8, 8, 8, 8, 8, 8, 8, 8, 8, 8, 8, 8, 8, 8, 8, 8, 8, 8, 8, 8, 8, 8, 8, 8, 8, 8, 8, 8, 8, 8, 8, 8, 8, 8, 8, 8, 8, 8, 8, 8, 8, 8, 8, 8, 8, 8, 8, 8, 8, 8, 8, 8, 8, 8, 8, 8, 8, 8, 8, 8, 8, 8, 8, 8, 8, 8, 8, 8, 8, 8, 8, 8, 8, 8, 8, 8, 8, 8, 8, 8, 8, 8, 8, 8, 8, 8, 8, 8, 8, 8, 8, 8, 8, 8] : List UInt8) (IntKind.wrap .u8 x_8)).bind fun t_10 => some (w64 (n_9 + (w64 t_10)))))))

noncomputable def math_bits_Len (p_x : K .u64) : Option (Int) :=
  ((math_bits_Len64 p_x).bind fun t_1 => some t_1)

noncomputable def cmp_isNaN_int (p_x : Int) : Option (Bool) :=
  some (p_x != p_x)

noncomputable def cmp_Less_int (p_x : Int) (p_y : Int) : Option (Bool) :=
  ((((cmp_isNaN_int p_x).bind fun t_1 => (cond t_1 ((cmp_isNaN_int p_y).bind fun t_2 => (cond (!t_2) (some true) (some (decide (p_x < p_y))))) (some (decide (p_x < p_y))))) : Option (Bool)).bind fun t_3 => some t_3)

noncomputable def slices_insertionSortOrdered_int_l2 (p_a : Int) : (List Int) × Int → Option (Stp ((List Int) × Int) ((List Int)))
  | (data_5, j_7) => (((cond (decide (p_a < j_7)) ((goAt data_5 j_7).bind fun e_8 => ((goAt data_5 (w64 (j_7 - 1))).bind fun e_10 => ((cmp_Less_int e_8 e_10).bind fun t_12 => some t_12))) (some false)) : Option (Bool)).bind fun t_13 => (cond t_13 ((goAt data_5 (w64 (j_7 - 1))).bind fun e_14 => ((goAt data_5 j_7).bind fun e_16 => ((goAt data_5 j_7).bind fun e_18 => ((goAt (goSet data_5 j_7 e_14) (w64 (j_7 - 1))).bind fun e_21 => some (.next (goSet (goSet data_5 j_7 e_14) (w64 (j_7 - 1)) e_16, (w64 (j_7 - 1)))))))) (some (.done data_5))))

noncomputable def slices_insertionSortOrdered_int_l1 (p_a : Int) (p_b : Int) : (List Int) × Int → Option (Stp ((List Int) × Int) ((List Int)))
  | (data_2, i_4) => (cond (decide (i_4 < p_b)) ((loopC (slices_insertionSortOrdered_int_l2 p_a) (data_2, i_4)).bind fun data_24 => some (.next (data_24, (w64 (i_4 + 1))))) (some (.done data_2)))

noncomputable def slices_insertionSortOrdered_int (p_data : List Int) (p_a : Int) (p_b : Int) : Option ((List Int)) :=
  ((loopC (slices_insertionSortOrdered_int_l1 p_a p_b) (p_data, (w64 (p_a + 1)))).bind fun data_26 => some data_26)

noncomputable def slices_siftDownOrdered_int_l1 (p_hi : Int) (p_first : Int) : (List Int) × Int → Option (Stp ((List Int) × Int) (((List Int)) ⊕ ((List Int))))
  | (data_2, root_4) => (cond (decide (p_hi ≤ (w64 ((w64 (2 * root_4)) + 1)))) (some (.done (.inl data_2))) (((cond (decide ((w64 ((w64 ((w64 (2 * root_4)) + 1)) + 1)) < p_hi)) ((goAt data_2 (w64 (p_first + (w64 ((w64 (2 * root_4)) + 1))))).bind fun e_5 => ((goAt data_2 (w64 ((w64 (p_first + (w64 ((w64 (2 * root_4)) + 1)))) + 1))).bind fun e_7 => ((cmp_Less_int e_5 e_7).bind fun t_9 => some t_9))) (some false)) : Option (Bool)).bind fun t_10 => (((cond t_10 (some (w64 ((w64 ((w64 (2 * root_4)) + 1)) + 1))) (some (w64 ((w64 (2 * root_4)) + 1)))) : Option (Int)).bind fun child_11 => ((goAt data_2 (w64 (p_first + root_4))).bind fun e_12 => ((goAt data_2 (w64 (p_first + child_11))).bind fun e_14 => ((cmp_Less_int e_12 e_14).bind fun t_16 => (cond (!t_16) (some (.done (.inr data_2))) ((goAt data_2 (w64 (p_first + child_11))).bind fun e_17 => ((goAt data_2 (w64 (p_first + root_4))).bind fun e_19 => ((goAt data_2 (w64 (p_first + root_4))).bind fun e_21 => ((goAt (goSet data_2 (w64 (p_first + root_4)) e_17) (w64 (p_first + child_11))).bind fun e_24 => some (.next (goSet (goSet data_2 (w64 (p_first + root_4)) e_17) (w64 (p_first + child_11)) e_19, child_11)))))))))))))

noncomputable def slices_siftDownOrdered_int (p_data : List Int) (p_lo : Int) (p_hi : Int) (p_first : Int) : Option ((List Int)) :=
  ((loopC (slices_siftDownOrdered_int_l1 p_hi p_first) (p_data, p_lo)).bind fun | .inl data_27 => some data_27 | .inr o => some o)

noncomputable def slices_heapSortOrdered_int_l1 (p_a : Int) (p_b : Int) : (List Int) × Int → Option (Stp ((List Int) × Int) ((List Int)))
  | (data_3, i_5) => (cond (decide (0 ≤ i_5)) ((slices_siftDownOrdered_int data_3 i_5 (w64 (p_b - p_a)) p_a).bind fun t_7 => some (.next (t_7, (w64 (i_5 - 1))))) (some (.done data_3)))

noncomputable def slices_heapSortOrdered_int_l2 (p_a : Int) : (List Int) × Int → Option (Stp ((List Int) × Int) ((List Int)))
  | (data_11, i_13) => (cond (decide (0 ≤ i_13)) ((goAt data_11 (w64 (p_a + i_13))).bind fun e_14 => ((goAt data_11 p_a).bind fun e_16 => ((goAt data_11 p_a).bind fun e_18 => ((goAt (goSet data_11 p_a e_14) (w64 (p_a + i_13))).bind fun e_21 => ((slices_siftDownOrdered_int (goSet (goSet data_11 p_a e_14) (w64 (p_a + i_13)) e_16) 0 i_13 p_a).bind fun t_25 => some (.next (t_25, (w64 (i_13 - 1))))))))) (some (.done data_11)))

noncomputable def slices_heapSortOrdered_int (p_data : List Int) (p_a : Int) (p_b : Int) : Option ((List Int)) :=
  ((goQuo .i64 (w64 ((w64 (p_b - p_a)) - 1)) 2).bind fun t_2 => ((loopC (slices_heapSortOrdered_int_l1 p_a p_b) (p_data, t_2)).bind fun data_9 => ((loopC (slices_heapSortOrdered_int_l2 p_a) (data_9, (w64 ((w64 (p_b - p_a)) - 1)))).bind fun data_27 => some data_27)))

noncomputable def slices_nextPowerOfTwo (p_length : Int) : Option ((K .u64)) :=
  ((math_bits_Len (⟨(IntKind.wrap .u64 p_length)⟩ : K .u64)).bind fun t_1 => ((goShl .u64 1 t_1).bind fun t_2 => some (⟨t_2⟩ : K .u64)))

noncomputable def slices_reverseRangeOrdered_int_l1  : (List Int) × Int × Int → Option (Stp ((List Int) × Int × Int) ((List Int)))
  | (data_2, i_4, j_5) => (cond (decide (i_4 < j_5)) ((goAt data_2 j_5).bind fun e_6 => ((goAt data_2 i_4).bind fun e_8 => ((goAt data_2 i_4).bind fun e_10 => ((goAt (goSet data_2 i_4 e_6) j_5).bind fun e_13 => some (.next (goSet (goSet data_2 i_4 e_6) j_5 e_8, (w64 (i_4 + 1)), (w64 (j_5 - 1)))))))) (some (.done data_2)))

noncomputable def slices_reverseRangeOrdered_int (p_data : List Int) (p_a : Int) (p_b : Int) : Option ((List Int)) :=
  ((loopC (slices_reverseRangeOrdered_int_l1) (p_data, p_a, (w64 (p_b - 1)))).bind fun data_16 => some data_16)

noncomputable def slices_partialInsertionSortOrdered_int_l2 (p_b : Int) (data_2 : List Int) (i_6 : Int) : Option (Stp (Int) (Int)) :=
  (((cond (decide (i_6 < p_b)) ((goAt data_2 i_6).bind fun e_7 => ((goAt data_2 (w64 (i_6 - 1))).bind fun e_9 => ((cmp_Less_int e_7 e_9).bind fun t_11 => some (!t_11)))) (some false)) : Option (Bool)).bind fun t_12 => (cond t_12 (some (.next (w64 (i_6 + 1)))) (some (.done i_6))))

noncomputable def slices_partialInsertionSortOrdered_int_l3  : (List Int) × Int → Option (Stp ((List Int) × Int) ((List Int)))
  | (data_24, j_26) => (cond (decide (1 ≤ j_26)) ((goAt data_24 j_26).bind fun e_27 => ((goAt data_24 (w64 (j_26 - 1))).bind fun e_29 => ((cmp_Less_int e_27 e_29).bind fun t_31 => (cond (!t_31) (some (.done data_24)) ((goAt data_24 (w64 (j_26 - 1))).bind fun e_32 => ((goAt data_24 j_26).bind fun e_34 => ((goAt data_24 j_26).bind fun e_36 => ((goAt (goSet data_24 j_26 e_32) (w64 (j_26 - 1))).bind fun e_39 => some (.next (goSet (goSet data_24 j_26 e_32) (w64 (j_26 - 1)) e_34, (w64 (j_26 - 1)))))))))))) (some (.done data_24)))

noncomputable def slices_partialInsertionSortOrdered_int_l4 (p_b : Int) : (List Int) × Int → Option (Stp ((List Int) × Int) ((List Int)))
  | (data_46, j_48) => (cond (decide (j_48 < p_b)) ((goAt data_46 j_48).bind fun e_49 => ((goAt data_46 (w64 (j_48 - 1))).bind fun e_51 => ((cmp_Less_int e_49 e_51).bind fun t_53 => (cond (!t_53) (some (.done data_46)) ((goAt data_46 (w64 (j_48 - 1))).bind fun e_54 => ((goAt data_46 j_48).bind fun e_56 => ((goAt data_46 j_48).bind fun e_58 => ((goAt (goSet data_46 j_48 e_54) (w64 (j_48 - 1))).bind fun e_61 => some (.next (goSet (goSet data_46 j_48 e_54) (w64 (j_48 - 1)) e_56, (w64 (j_48 + 1)))))))))))) (some (.done data_46)))

noncomputable def slices_partialInsertionSortOrdered_int_l1 (p_a : Int) (p_b : Int) : (List Int) × Int × Int → Option (Stp ((List Int) × Int × Int) (((List Int)) ⊕ (Bool × (List Int))))
  | (data_2, i_4, j_5) => (cond (decide (j_5 < 5)) ((loopC (slices_partialInsertionSortOrdered_int_l2 p_b data_2) i_4).bind fun i_13 => (cond (i_13 == p_b) (some (.done (.inr (true, data_2)))) (cond (decide ((w64 (p_b - p_a)) < 50)) (some (.done (.inr (false, data_2)))) ((goAt data_2 (w64 (i_13 - 1))).bind fun e_14 => ((goAt data_2 i_13).bind fun e_16 => ((goAt data_2 i_13).bind fun e_18 => ((goAt (goSet data_2 i_13 e_14) (w64 (i_13 - 1))).bind fun e_21 => (((cond (decide (2 ≤ (w64 (i_13 - p_a)))) ((loopC (slices_partialInsertionSortOrdered_int_l3) (goSet (goSet data_2 i_13 e_14) (w64 (i_13 - 1)) e_16, (w64 (i_13 - 1)))).bind fun data_42 => some data_42) (some (goSet (goSet data_2 i_13 e_14) (w64 (i_13 - 1)) e_16))) : Option ((List Int))).bind fun data_44 => (((cond (decide (2 ≤ (w64 (p_b - i_13)))) ((loopC (slices_partialInsertionSortOrdered_int_l4 p_b) (data_44, (w64 (i_13 + 1)))).bind fun data_64 => some data_64) (some data_44)) : Option ((List Int))).bind fun data_66 => some (.next (data_66, i_13, (w64 (j_5 + 1))))))))))))) (some (.done (.inl data_2))))

noncomputable def slices_partialInsertionSortOrdered_int (p_data : List Int) (p_a : Int) (p_b : Int) : Option (Bool × (List Int)) :=
  ((loopC (slices_partialInsertionSortOrdered_int_l1 p_a p_b) (p_data, (w64 (p_a + 1)), 0)).bind fun | .inl data_68 => some (false, data_68) | .inr o => some o)

noncomputable def slices_partitionEqualOrdered_int_l2 (p_a : Int) (data_12 : List Int) (j_15 : Int) (i_16 : Int) : Option (Stp (Int) (Int)) :=
  (((cond (decide (i_16 ≤ j_15)) ((goAt data_12 p_a).bind fun e_17 => ((goAt data_12 i_16).bind fun e_19 => ((cmp_Less_int e_17 e_19).bind fun t_21 => some (!t_21)))) (some false)) : Option (Bool)).bind fun t_22 => (cond t_22 (some (.next (w64 (i_16 + 1)))) (some (.done i_16))))

noncomputable def slices_partitionEqualOrdered_int_l3 (p_a : Int) (data_12 : List Int) (i_23 : Int) (j_24 : Int) : Option (Stp (Int) (Int)) :=
  (((cond (decide (i_23 ≤ j_24)) ((goAt data_12 p_a).bind fun e_25 => ((goAt data_12 j_24).bind fun e_27 => ((cmp_Less_int e_25 e_27).bind fun t_29 => some t_29))) (some false)) : Option (Bool)).bind fun t_30 => (cond t_30 (some (.next (w64 (j_24 - 1)))) (some (.done j_24))))

noncomputable def slices_partitionEqualOrdered_int_l1 (p_a : Int) : (List Int) × Int × Int → Option (Stp ((List Int) × Int × Int) ((List Int) × Int))
  | (data_12, i_14, j_15) => ((loopC (slices_partitionEqualOrdered_int_l2 p_a data_12 j_15) i_14).bind fun i_23 => ((loopC (slices_partitionEqualOrdered_int_l3 p_a data_12 i_23) j_15).bind fun j_31 => (cond (decide (j_31 < i_23)) (some (.done (data_12, i_23))) ((goAt data_12 j_31).bind fun e_32 => ((goAt data_12 i_23).bind fun e_34 => ((goAt data_12 i_23).bind fun e_36 => ((goAt (goSet data_12 i_23 e_32) j_31).bind fun e_39 => some (.next (goSet (goSet data_12 i_23 e_32) j_31 e_34, (w64 (i_23 + 1)), (w64 (j_31 - 1)))))))))))

noncomputable def slices_partitionEqualOrdered_int (p_data : List Int) (p_a : Int) (p_b : Int) (p_pivot : Int) : Option (Int × (List Int)) :=
  ((goAt p_data p_pivot).bind fun e_2 => ((goAt p_data p_a).bind fun e_4 => ((goAt p_data p_a).bind fun e_6 => ((goAt (goSet p_data p_a e_2) p_pivot).bind fun e_9 => ((loopC (slices_partitionEqualOrdered_int_l1 p_a) (goSet (goSet p_data p_a e_2) p_pivot e_4, (w64 (p_a + 1)), (w64 (p_b - 1)))).bind fun (data_42, i_44) => some (i_44, data_42))))))

noncomputable def slices_partitionOrdered_int_l1 (p_data : List Int) (p_a : Int) (p_b : Int) (p_pivot : Int) (e_2 : Int) (e_4 : Int) (i_12 : Int) : Option (Stp (Int) (Int)) :=
  (((cond (decide (i_12 ≤ (w64 (p_b - 1)))) ((goAt (goSet (goSet p_data p_a e_2) p_pivot e_4) i_12).bind fun e_13 => ((goAt (goSet (goSet p_data p_a e_2) p_pivot e_4) p_a).bind fun e_15 => ((cmp_Less_int e_13 e_15).bind fun t_17 => some t_17))) (some false)) : Option (Bool)).bind fun t_18 => (cond t_18 (some (.next (w64 (i_12 + 1)))) (some (.done i_12))))

noncomputable def slices_partitionOrdered_int_l2 (p_data : List Int) (p_a : Int) (p_pivot : Int) (e_2 : Int) (e_4 : Int) (i_19 : Int) (j_20 : Int) : Option (Stp (Int) (Int)) :=
  (((cond (decide (i_19 ≤ j_20)) ((goAt (goSet (goSet p_data p_a e_2) p_pivot e_4) j_20).bind fun e_21 => ((goAt (goSet (goSet p_data p_a e_2) p_pivot e_4) p_a).bind fun e_23 => ((cmp_Less_int e_21 e_23).bind fun t_25 => some (!t_25)))) (some false)) : Option (Bool)).bind fun t_26 => (cond t_26 (some (.next (w64 (j_20 - 1)))) (some (.done j_20))))

noncomputable def slices_partitionOrdered_int_l4 (p_a : Int) (data_38 : List Int) (j_41 : Int) (i_42 : Int) : Option (Stp (Int) (Int)) :=
  (((cond (decide (i_42 ≤ j_41)) ((goAt data_38 i_42).bind fun e_43 => ((goAt data_38 p_a).bind fun e_45 => ((cmp_Less_int e_43 e_45).bind fun t_47 => some t_47))) (some false)) : Option (Bool)).bind fun t_48 => (cond t_48 (some (.next (w64 (i_42 + 1)))) (some (.done i_42))))

noncomputable def slices_partitionOrdered_int_l5 (p_a : Int) (data_38 : List Int) (i_49 : Int) (j_50 : Int) : Option (Stp (Int) (Int)) :=
  (((cond (decide (i_49 ≤ j_50)) ((goAt data_38 j_50).bind fun e_51 => ((goAt data_38 p_a).bind fun e_53 => ((cmp_Less_int e_51 e_53).bind fun t_55 => some (!t_55)))) (some false)) : Option (Bool)).bind fun t_56 => (cond t_56 (some (.next (w64 (j_50 - 1)))) (some (.done j_50))))

noncomputable def slices_partitionOrdered_int_l3 (p_a : Int) : (List Int) × Int × Int → Option (Stp ((List Int) × Int × Int) ((List Int) × Int))
  | (data_38, i_40, j_41) => ((loopC (slices_partitionOrdered_int_l4 p_a data_38 j_41) i_40).bind fun i_49 => ((loopC (slices_partitionOrdered_int_l5 p_a data_38 i_49) j_41).bind fun j_57 => (cond (decide (j_57 < i_49)) (some (.done (data_38, j_57))) ((goAt data_38 j_57).bind fun e_58 => ((goAt data_38 i_49).bind fun e_60 => ((goAt data_38 i_49).bind fun e_62 => ((goAt (goSet data_38 i_49 e_58) j_57).bind fun e_65 => some (.next (goSet (goSet data_38 i_49 e_58) j_57 e_60, (w64 (i_49 + 1)), (w64 (j_57 - 1)))))))))))

noncomputable def slices_partitionOrdered_int (p_data : List Int) (p_a : Int) (p_b : Int) (p_pivot : Int) : Option (Int × Bool × (List Int)) :=
  ((goAt p_data p_pivot).bind fun e_2 => ((goAt p_data p_a).bind fun e_4 => ((goAt p_data p_a).bind fun e_6 => ((goAt (goSet p_data p_a e_2) p_pivot).bind fun e_9 => ((loopC (slices_partitionOrdered_int_l1 p_data p_a p_b p_pivot e_2 e_4) (w64 (p_a + 1))).bind fun i_19 => ((loopC (slices_partitionOrdered_int_l2 p_data p_a p_pivot e_2 e_4 i_19) (w64 (p_b - 1))).bind fun j_27 => (cond (decide (j_27 < i_19)) ((goAt (goSet (goSet p_data p_a e_2) p_pivot e_4) p_a).bind fun e_81 => ((goAt (goSet (goSet p_data p_a e_2) p_pivot e_4) j_27).bind fun e_83 => ((goAt (goSet (goSet p_data p_a e_2) p_pivot e_4) j_27).bind fun e_85 => ((goAt (goSet (goSet (goSet p_data p_a e_2) p_pivot e_4) j_27 e_81) p_a).bind fun e_88 => some (j_27, true, goSet (goSet (goSet (goSet p_data p_a e_2) p_pivot e_4) j_27 e_81) p_a e_83))))) ((goAt (goSet (goSet p_data p_a e_2) p_pivot e_4) j_27).bind fun e_28 => ((goAt (goSet (goSet p_data p_a e_2) p_pivot e_4) i_19).bind fun e_30 => ((goAt (goSet (goSet p_data p_a e_2) p_pivot e_4) i_19).bind fun e_32 => ((goAt (goSet (goSet (goSet p_data p_a e_2) p_pivot e_4) i_19 e_28) j_27).bind fun e_35 => ((loopC (slices_partitionOrdered_int_l3 p_a) (goSet (goSet (goSet (goSet p_data p_a e_2) p_pivot e_4) i_19 e_28) j_27 e_30, (w64 (i_19 + 1)), (w64 (j_27 - 1)))).bind fun (data_68, j_70) => ((goAt data_68 p_a).bind fun e_71 => ((goAt data_68 j_70).bind fun e_73 => ((goAt data_68 j_70).bind fun e_75 => ((goAt (goSet data_68 j_70 e_71) p_a).bind fun e_78 => some (j_70, false, goSet (goSet data_68 j_70 e_71) p_a e_73)))))))))))))))))

noncomputable def slices_Reverse_int_int_l1  : (List Int) × Int × Int → Option (Stp ((List Int) × Int × Int) ((List Int)))
  | (s_2, i_4, j_5) => (cond (decide (i_4 < j_5)) ((goAt s_2 j_5).bind fun e_6 => ((goAt s_2 i_4).bind fun e_8 => ((goAt s_2 i_4).bind fun e_10 => ((goAt (goSet s_2 i_4 e_6) j_5).bind fun e_13 => some (.next (goSet (goSet s_2 i_4 e_6) j_5 e_8, (w64 (i_4 + 1)), (w64 (j_5 - 1)))))))) (some (.done s_2)))

noncomputable def slices_Reverse_int_int (p_s : List Int) : Option ((List Int)) :=
  ((loopC (slices_Reverse_int_int_l1) (p_s, 0, (w64 ((goLen p_s) - 1)))).bind fun s_16 => some s_16)

noncomputable def slices_Sort_int_int (p_x : List Int) : Option (List Int) :=
  cond (decide (p_x.length < 4611686018427387904)) (some (p_x.mergeSort fun x y => decide (x ≤ y))) none

noncomputable def impl_descending_l1 (p_amounts : List Int) (t_2 : Int) : Option (Stp (Int) ((Unit) ⊕ ((List Int) × Bool))) :=
  (cond (decide (t_2 < (goLen p_amounts))) ((goAt p_amounts t_2).bind fun e_3 => (((cond (decide (e_3 < 0)) (some true) (some (decide (1000000 < e_3)))) : Option (Bool)).bind fun t_5 => (cond t_5 (some (.done (.inr (([] : List Int), false)))) (some (.next (w64 (t_2 + 1))))))) (some (.done (.inl ()))))

noncomputable def impl_descending (p_amounts : List Int) : Option ((List Int) × Bool) :=
  (cond (decide (40 < (goLen p_amounts))) (some (([] : List Int), false)) ((loopC (impl_descending_l1 p_amounts) 0).bind fun | .inl () => ((slices_Clone_int_int p_amounts).bind fun t_6 => ((slices_Sort_int_int t_6).bind fun t_10 => ((slices_Reverse_int_int t_10).bind fun t_13 => some (t_13, true)))) | .inr o => some o))

noncomputable def impl_total_l1 (p_l : List Int) : Int × Int → Option (Stp (Int × Int) (Int))
  | (sum_2, t_3) => (cond (decide (t_3 < (goLen p_l))) ((goAt p_l t_3).bind fun e_4 => some (.next ((w64 (sum_2 + e_4)), (w64 (t_3 + 1))))) (some (.done sum_2)))

noncomputable def impl_total (p_l : List Int) : Option (Int) :=
  ((loopC (impl_total_l1 p_l) (0, 0)).bind fun sum_6 => some sum_6)

noncomputable def impl_IsDominated (p_amounts : List Int) (p_n : Int) (p_percent : Int) : Option (Bool × Bool) :=
  ((impl_descending p_amounts).bind fun t_2 => (((cond (!t_2.2) (some true) (cond (decide (p_n < 1)) (some true) (cond (decide (10 < p_n)) (some true) (cond (decide (p_percent < 0)) (some true) (some (decide (100 < p_percent))))))) : Option (Bool)).bind fun t_5 => (cond t_5 (some (false, false)) ((goSub t_2.1 0 (min p_n (goLen t_2.1))).bind fun l_6 => ((impl_total l_6).bind fun t_8 => ((impl_total t_2.1).bind fun t_10 => some (decide ((w64 (p_percent * t_10)) < (w64 (t_8 * 100))), true)))))))

noncomputable def spec_qAmounts (p_l : List Int) : Option (Bool) :=
  (((cond (decide ((goLen p_l) ≤ 40)) ((spec_l1All p_l 0 1000000).bind fun t_2 => some t_2) (some false)) : Option (Bool)).bind fun t_3 => some t_3)

noncomputable def spec_l1Own (p_l : List Int) : Option ((List Int)) :=
  ((goApp 8 ([] : List Int) p_l).bind fun l_3 => some l_3)

noncomputable def spec_qFalling_l2  : (List Int) × Int → Option (Stp ((List Int) × Int) ((List Int)))
  | (out_8, k_10) => (((cond (decide (0 < k_10)) ((goAt out_8 (w64 (k_10 - 1))).bind fun e_11 => ((goAt out_8 k_10).bind fun e_13 => some (decide (e_11 < e_13)))) (some false)) : Option (Bool)).bind fun t_15 => (cond t_15 ((goAt out_8 k_10).bind fun e_16 => ((goAt out_8 (w64 (k_10 - 1))).bind fun e_18 => ((goAt out_8 k_10).bind fun e_20 => ((goAt (goSet out_8 k_10 e_18) (w64 (k_10 - 1))).bind fun e_23 => some (.next (goSet (goSet out_8 k_10 e_18) (w64 (k_10 - 1)) e_16, (w64 (k_10 - 1)))))))) (some (.done out_8))))

noncomputable def spec_qFalling_l1 (t_2 : List Int) : (List Int) × Int → Option (Stp ((List Int) × Int) ((List Int)))
  | (out_5, t_7) => (cond (decide (t_7 < (goLen t_2))) ((loopC (spec_qFalling_l2) (out_5, t_7)).bind fun out_26 => some (.next (out_26, (w64 (t_7 + 1))))) (some (.done out_5)))

noncomputable def spec_qFalling (p_l : List Int) : Option ((List Int)) :=
  ((spec_l1Own p_l).bind fun t_2 => ((loopC (spec_qFalling_l1 t_2) (t_2, 0)).bind fun out_28 => some out_28))

noncomputable def spec_tSum_l1 (p_l : List Int) : Int × Int → Option (Stp (Int × Int) (Int))
  | (sum_2, t_3) => (cond (decide (t_3 < (goLen p_l))) ((goAt p_l t_3).bind fun e_4 => some (.next ((w64 (sum_2 + e_4)), (w64 (t_3 + 1))))) (some (.done sum_2)))

noncomputable def spec_tSum (p_l : List Int) : Option (Int) :=
  ((loopC (spec_tSum_l1 p_l) (0, 0)).bind fun sum_6 => some sum_6)

noncomputable def spec_IsDominated_l1 (p_n : Int) (t_6 : List Int) : Int × Int → Option (Stp (Int × Int) (Int))
  | (top_9, t_10) => (cond (decide (t_10 < (goLen t_6))) ((goAt t_6 t_10).bind fun e_11 => (((cond (decide (t_10 < p_n)) (some (w64 (top_9 + e_11))) (some top_9)) : Option (Int)).bind fun top_13 => some (.next (top_13, (w64 (t_10 + 1)))))) (some (.done top_9)))

noncomputable def spec_IsDominated (p_amounts : List Int) (p_n : Int) (p_percent : Int) : Option (Bool × Bool) :=
  ((((spec_qAmounts p_amounts).bind fun t_2 => (cond (!t_2) (some true) ((spec_l1In p_n 1 10).bind fun t_3 => (cond (!t_3) (some true) ((spec_l1In p_percent 0 100).bind fun t_4 => some (!t_4)))))) : Option (Bool)).bind fun t_5 => (cond t_5 (some (false, false)) ((spec_qFalling p_amounts).bind fun t_6 => ((loopC (spec_IsDominated_l1 p_n t_6) (0, 0)).bind fun top_14 => ((spec_tSum p_amounts).bind fun t_15 => some (decide ((w64 (p_percent * t_15)) < (w64 (100 * top_14))), true))))))

noncomputable def spec_DrawIsExposedShare (p_code : List (K .u8)) : Option ((List Int) × Int) :=
  ((spec_l1Cur_amounts (spec_l1Cur.mk p_code 0 (⟨0⟩ : K .u64))).bind fun t_4 => ((spec_l1Cur_among t_4.2 ([0, 10, 15, 50, 100, 101, -1] : List Int)).bind fun t_9 => some (t_4.1, t_9.1)))

noncomputable def impl_IsExposedShare (p_amounts : List Int) (p_percent : Int) : Option (Bool × Bool) :=
  ((impl_descending p_amounts).bind fun t_2 => (((cond (!t_2.2) (some true) (cond (decide (p_percent < 0)) (some true) (some (decide (100 < p_percent))))) : Option (Bool)).bind fun t_5 => (cond t_5 (some (false, false)) (cond ((goLen t_2.1) == 0) (some (false, true)) ((goSub t_2.1 (min 2 (goLen t_2.1)) (goLen t_2.1)).bind fun l_7 => ((goAt t_2.1 0).bind fun e_12 => ((impl_total l_7).bind fun t_16 => some (decide ((w64 (t_16 * 100)) < (w64 (p_percent * e_12))), true))))))))

noncomputable def spec_IsExposedShare_l1 (t_5 : List Int) : Int × Int → Option (Stp (Int × Int) (Int))
  | (rest_8, t_9) => (cond (decide (t_9 < (goLen t_5))) ((goAt t_5 t_9).bind fun e_10 => (((cond (decide (1 < t_9)) (some (w64 (rest_8 + e_10))) (some rest_8)) : Option (Int)).bind fun rest_12 => some (.next (rest_12, (w64 (t_9 + 1)))))) (some (.done rest_8)))

noncomputable def spec_IsExposedShare (p_amounts : List Int) (p_percent : Int) : Option (Bool × Bool) :=
  ((((spec_qAmounts p_amounts).bind fun t_2 => (cond (!t_2) (some true) ((spec_l1In p_percent 0 100).bind fun t_3 => some (!t_3)))) : Option (Bool)).bind fun t_4 => (cond t_4 (some (false, false)) ((spec_qFalling p_amounts).bind fun t_5 => (cond ((goLen t_5) == 0) (some (false, true)) ((loopC (spec_IsExposedShare_l1 t_5) (0, 0)).bind fun rest_13 => ((goAt t_5 0).bind fun e_14 => some (decide ((w64 (100 * rest_13)) < (w64 (p_percent * e_14))), true)))))))

noncomputable def spec_l1Cur_one (p_c : spec_l1Cur) (p_n : Int) : Option (Bool × spec_l1Cur) :=
  ((spec_l1Cur_pick p_c p_n).bind fun t_3 => some (t_3.1 == 0, t_3.2))

noncomputable def spec_l1Cur_pattern_l2 (l_11 : List Int) : (List Int) × Int × spec_l1Cur → Option (Stp ((List Int) × Int × spec_l1Cur) ((List Int) × spec_l1Cur))
  | (p_13, t_15, p_c_16) => (cond (decide (t_15 < (goLen l_11))) ((spec_l1Cur_one p_c_16 2).bind fun t_19 => (((cond t_19.1 ((goAt p_13 t_15).bind fun e_21 => some (goSet p_13 t_15 1)) (some p_13)) : Option ((List Int))).bind fun p_24 => some (.next (p_24, (w64 (t_15 + 1)), t_19.2)))) (some (.done (p_13, p_c_16))))

noncomputable def spec_l1Cur_pattern_l1 (p_x : List (List Int)) : (List (List Int)) × Int × spec_l1Cur → Option (Stp ((List (List Int)) × Int × spec_l1Cur) ((List (List Int)) × spec_l1Cur))
  | (out_3, t_5, p_c_6) => (cond (decide (t_5 < (goLen p_x))) ((goAt p_x t_5).bind fun e_8 => ((goMake 8 (goLen e_8) (0 : Int)).bind fun l_11 => ((loopC (spec_l1Cur_pattern_l2 l_11) (l_11, 0, p_c_6)).bind fun (p_26, p_c_28) => ((goApp 24 out_3 ([p_26] : List (List Int))).bind fun l_31 => some (.next (l_31, (w64 (t_5 + 1)), p_c_28)))))) (some (.done (out_3, p_c_6))))

noncomputable def spec_l1Cur_pattern (p_c : spec_l1Cur) (p_x : List (List Int)) : Option ((List (List Int)) × spec_l1Cur) :=
  ((loopC (spec_l1Cur_pattern_l1 p_x) (([] : List (List Int)), 0, p_c)).bind fun (out_33, p_c_35) => (((cond (decide (0 < (goLen out_33))) ((goAt out_33 0).bind fun e_37 => (cond (decide (0 < (goLen e_37))) ((spec_l1Cur_one p_c_35 24).bind fun t_40 => some (t_40.1, t_40.2)) (some (false, p_c_35)))) (some (false, p_c_35))) : Option (Bool × spec_l1Cur)).bind fun (t_42, p_c_43) => (((cond t_42 ((((goAt out_33 0).bind fun e_52 => ((spec_l1Cur_among p_c_43 ([2, -1] : List Int)).bind fun t_57 => ((goAt e_52 0).bind fun e_59 => some (goSet out_33 0 (goSet e_52 0 t_57.1), t_57.2)))) : Option ((List (List Int)) × spec_l1Cur)).bind fun (out_62, p_c_64) => some (.inl (out_62, p_c_64))) ((spec_l1Cur_one p_c_43 30).bind fun t_46 => (cond t_46.1 ((goApp 24 out_33 ([([0] : List Int)] : List (List Int))).bind fun l_50 => some (.inr (l_50, t_46.2))) (some (.inl (out_33, t_46.2)))))) : Option (((List (List Int)) × spec_l1Cur) ⊕ ((List (List Int)) × spec_l1Cur))).bind fun | .inl (out_66, p_c_68) => some (out_66, p_c_68) | .inr o => some o)))

noncomputable def spec_DrawJoinPatterns (p_code : List (K .u8)) : Option ((List (List Int)) × (List (List Int))) :=
  ((spec_l1Cur_twoWay (spec_l1Cur.mk p_code 0 (⟨0⟩ : K .u64))).bind fun t_4 => ((spec_l1Cur_one t_4.2 8).bind fun t_8 => (cond t_8.1 ((spec_l1Cur_pattern t_8.2 t_4.1).bind fun t_19 => ((spec_l1Cur_twoWay t_19.2).bind fun t_23 => ((spec_l1Cur_pattern t_23.2 t_23.1).bind fun t_27 => some (t_19.1, t_27.1)))) ((spec_l1Cur_pattern t_8.2 t_4.1).bind fun t_11 => ((spec_l1Cur_pattern t_11.2 t_4.1).bind fun t_15 => some (t_11.1, t_15.1))))))

noncomputable def impl_joinPatterns_l2 (t_8 : Int) (e_9 : List Int) : (List (List Int)) × Int → Option (Stp ((List (List Int)) × Int) ((List (List Int))))
  | (out_12, t_14) => (cond (decide (t_14 < (goLen e_9))) ((goAt e_9 t_14).bind fun e_15 => ((goAt out_12 t_8).bind fun e_17 => ((goAt e_17 t_14).bind fun e_19 => ((goAt e_17 t_14).bind fun e_21 => some (.next (goSet out_12 t_8 (goSet e_17 t_14 (goBits .or .i64 e_19 e_15)), (w64 (t_14 + 1)))))))) (some (.done out_12)))

noncomputable def impl_joinPatterns_l1 (p_b : List (List Int)) : (List (List Int)) × Int → Option (Stp ((List (List Int)) × Int) ((List (List Int))))
  | (out_6, t_8) => (cond (decide (t_8 < (goLen p_b))) ((goAt p_b t_8).bind fun e_9 => ((loopC (impl_joinPatterns_l2 t_8 e_9) (out_6, 0)).bind fun out_24 => some (.next (out_24, (w64 (t_8 + 1)))))) (some (.done out_6)))

noncomputable def impl_joinPatterns (p_a : List (List Int)) (p_b : List (List Int)) : Option ((List (List Int))) :=
  ((impl_copyMatrix p_a).bind fun t_3 => ((loopC (impl_joinPatterns_l1 p_b) (t_3, 0)).bind fun out_26 => some out_26))

noncomputable def impl_JoinPatterns (p_a : List (List Int)) (p_b : List (List Int)) : Option ((List (List Int)) × Bool) :=
  ((((impl_isGrid p_a 1).bind fun t_3 => (cond (!t_3) (some true) ((impl_isGrid p_b 1).bind fun t_4 => (cond (!t_4) (some true) ((goAt p_a 0).bind fun e_5 => ((impl_hasShape p_b (goLen p_a) (goLen e_5)).bind fun t_8 => some (!t_8))))))) : Option (Bool)).bind fun t_9 => (cond t_9 (some (([] : List (List Int)), false)) ((impl_joinPatterns p_a p_b).bind fun t_10 => some (t_10, true))))

noncomputable def spec_l1Most (p_a : Int) (p_b : Int) : Option (Int) :=
  (cond (decide (p_b < p_a)) (some p_a) (some p_b))

noncomputable def spec_JoinPatterns_l2 (p_b : List (List Int)) (t_14 : Int) (e_16 : List Int) : (List Int) × Int → Option (Stp ((List Int) × Int) ((List Int)))
  | (l_19, t_21) => (cond (decide (t_21 < (goLen e_16))) ((goAt e_16 t_21).bind fun e_22 => ((goAt p_b t_14).bind fun e_24 => ((goAt e_24 t_21).bind fun e_27 => ((spec_l1Most e_22 e_27).bind fun t_29 => ((goApp 8 l_19 ([t_29] : List Int)).bind fun l_31 => some (.next (l_31, (w64 (t_21 + 1))))))))) (some (.done l_19)))

noncomputable def spec_JoinPatterns_l1 (p_a : List (List Int)) (p_b : List (List Int)) : (List (List Int)) × Int → Option (Stp ((List (List Int)) × Int) ((List (List Int))))
  | (out_12, t_14) => (cond (decide (t_14 < (goLen p_a))) ((goAt p_a t_14).bind fun e_16 => ((loopC (spec_JoinPatterns_l2 p_b t_14 e_16) (([] : List Int), 0)).bind fun l_33 => ((goApp 24 out_12 ([l_33] : List (List Int))).bind fun l_37 => some (.next (l_37, (w64 (t_14 + 1))))))) (some (.done out_12)))

noncomputable def spec_JoinPatterns (p_a : List (List Int)) (p_b : List (List Int)) : Option ((List (List Int)) × Bool) :=
  ((((spec_qForm p_a 1).bind fun t_3 => (cond (!t_3) (some true) ((spec_qForm p_b 1).bind fun t_4 => (cond (!t_4) (some true) (cond ((goLen p_a) != (goLen p_b)) (some true) ((goAt p_a 0).bind fun e_5 => ((goAt p_b 0).bind fun e_8 => some ((goLen e_5) != (goLen e_8))))))))) : Option (Bool)).bind fun t_11 => (cond t_11 (some (([] : List (List Int)), false)) ((loopC (spec_JoinPatterns_l1 p_a p_b) (([] : List (List Int)), 0)).bind fun out_39 => some (out_39, true))))

noncomputable def laws_qInts_l1 (p_a : List Int) (p_b : List Int) (t_3 : Int) : Option (Stp (Int) ((Unit) ⊕ (Bool))) :=
  (cond (decide (t_3 < (goLen p_a))) ((goAt p_a t_3).bind fun e_4 => ((goAt p_b t_3).bind fun e_6 => (cond (e_4 != e_6) (some (.done (.inr false))) (some (.next (w64 (t_3 + 1))))))) (some (.done (.inl ()))))

noncomputable def laws_qInts (p_a : List Int) (p_b : List Int) : Option (Bool) :=
  (cond ((goLen p_a) != (goLen p_b)) (some false) ((loopC (laws_qInts_l1 p_a p_b) 0).bind fun | .inl () => some true | .inr o => some o))

noncomputable def laws_qLists_l1 (p_a : List (List Int)) (p_b : List (List Int)) (t_3 : Int) : Option (Stp (Int) ((Unit) ⊕ (Bool))) :=
  (cond (decide (t_3 < (goLen p_a))) ((goAt p_a t_3).bind fun e_4 => ((goAt p_b t_3).bind fun e_7 => ((laws_qInts e_4 e_7).bind fun t_10 => (cond (!t_10) (some (.done (.inr false))) (some (.next (w64 (t_3 + 1)))))))) (some (.done (.inl ()))))

noncomputable def laws_qLists (p_a : List (List Int)) (p_b : List (List Int)) : Option (Bool) :=
  (cond ((goLen p_a) != (goLen p_b)) (some false) ((loopC (laws_qLists_l1 p_a p_b) 0).bind fun | .inl () => some true | .inr o => some o))

noncomputable def impl_isPattern (p_x : List (List Int)) (p_p : List (List Int)) : Option (Bool) :=
  ((((impl_isGrid p_p 1).bind fun t_3 => (cond t_3 ((goAt p_x 0).bind fun e_4 => ((impl_hasShape p_p (goLen p_x) (goLen e_4)).bind fun t_7 => some t_7)) (some false))) : Option (Bool)).bind fun t_8 => some t_8)

noncomputable def impl_IsPattern (p_x : List (List Int)) (p_p : List (List Int)) : Option (Bool × Bool) :=
  ((impl_IsTwoWay p_x).bind fun t_3 => (cond (!t_3) (some (false, false)) ((impl_isPattern p_x p_p).bind fun t_4 => some (t_4, true))))

noncomputable def laws_FnSensitive (p_code : List (K .u8)) (p_more : List (K .u8)) : Option (Bool) :=
  (cond (decide (1048576 < (w64 ((goLen p_code) + (goLen p_more))))) (some true) ((spec_DrawThresholdCells p_code).bind fun t_3 => ((impl_ThresholdCells t_3.1 t_3.2).bind fun t_6 => ((spec_ThresholdCells t_3.1 t_3.2).bind fun t_11 => ((spec_DrawIsDominated p_more).bind fun t_14 => ((impl_IsDominated t_14.1 t_14.2.1 t_14.2.2).bind fun t_17 => ((spec_IsDominated t_14.1 t_14.2.1 t_14.2.2).bind fun t_19 => ((spec_DrawIsExposedShare p_more).bind fun t_21 => ((impl_IsExposedShare t_21.1 t_21.2).bind fun t_24 => ((spec_IsExposedShare t_21.1 t_21.2).bind fun t_26 => ((spec_DrawJoinPatterns p_code).bind fun t_28 => ((impl_JoinPatterns t_28.1 t_28.2).bind fun t_32 => ((spec_JoinPatterns t_28.1 t_28.2).bind fun t_38 => (((cond (t_6.2 != t_11.2) (some true) ((laws_qLists t_6.1 t_11.1).bind fun t_41 => (cond (!t_41) (some true) (cond (t_17.2 != t_19.2) (some true) (cond (t_17.1 != t_19.1) (some true) (cond (t_24.2 != t_26.2) (some true) (cond (t_24.1 != t_26.1) (some true) (cond (t_32.2 != t_38.2) (some true) ((laws_qLists t_32.1 t_38.1).bind fun t_43 => some (!t_43)))))))))) : Option (Bool)).bind fun t_45 => (cond t_45 (some false) (cond (!t_6.2) (some true) ((impl_IsPattern t_3.1 t_6.1).bind fun t_46 => ((impl_JoinPatterns t_6.1 t_6.1).bind fun t_48 => (((cond t_46.1 (cond t_46.2 (cond t_48.2 ((laws_qLists t_48.1 t_6.1).bind fun t_52 => (cond t_52 ((impl_IsTwoWay t_3.1).bind fun t_54 => some t_54) (some false))) (some false)) (some false)) (some false)) : Option (Bool)).bind fun t_55 => some t_55)))))))))))))))))))

end Go.Gx.F
