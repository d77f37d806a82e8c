/- The plain functions that the walks come to. -/
import Derived.Test.YtiikfhfnkppeeaaGx
namespace Go.Gx.F
open Go.Gx
set_option linter.all false

structure spec_l1Cur where
  code : List (K .u8)
  at_ : Int
  seed : K .u64

instance : Rep spec_l1Cur where
  wd := 3
  rd m cs x := ∃ s1 : Sl, cs = [s1.v, (.int .i64 x.at_), (.int .u64 x.seed.v)] ∧ Rd m s1 x.code
  mono hm h := by
    obtain ⟨s1, rfl, h1⟩ := h
    exact ⟨s1, rfl, h1.mono hm⟩
  len h := by obtain ⟨s1, rfl, _⟩ := h; rfl
  one h := by obtain ⟨s1, rfl, _⟩ := h; rfl

instance : Rng spec_l1Cur := ⟨fun x => Rng.ok x.code ∧ Rng.ok x.at_ ∧ Rng.ok x.seed⟩

structure impl_Cube where
  Sizes : List Int
  Cells : List Int

instance : Rep impl_Cube where
  wd := 2
  rd m cs x := ∃ s1 s2 : Sl, cs = [s1.v, s2.v] ∧ Rd m s1 x.Sizes ∧ Rd m s2 x.Cells
  mono hm h := by
    obtain ⟨s1, s2, rfl, h1, h2⟩ := h
    exact ⟨s1, s2, rfl, h1.mono hm, h2.mono hm⟩
  len h := by obtain ⟨s1, s2, rfl, _⟩ := h; rfl
  one h := by obtain ⟨s1, s2, rfl, _⟩ := h; rfl

instance : Rng impl_Cube := ⟨fun x => Rng.ok x.Sizes ∧ Rng.ok x.Cells⟩

noncomputable def spec_l1Cur_next (p_c : spec_l1Cur) : Option (Int × spec_l1Cur) :=
  (((cond (decide (p_c.at_ < (goLen p_c.code))) ((goAt p_c.code p_c.at_).bind fun e_2 => some (w64 e_2.v)) (some 0)) : Option (Int)).bind fun b_4 => (cond (decide ((w64 (p_c.at_ + 1)) ≤ (goLen p_c.code))) (some (b_4, (spec_l1Cur.mk p_c.code (w64 (p_c.at_ + 1)) (⟨(IntKind.wrap .u64 ((IntKind.wrap .u64 ((IntKind.wrap .u64 (p_c.seed.v * 6364136223846793005)) + (IntKind.wrap .u64 b_4))) + 1442695040888963407))⟩ : K .u64)))) ((goShr .u64 (IntKind.wrap .u64 ((IntKind.wrap .u64 ((IntKind.wrap .u64 (p_c.seed.v * 6364136223846793005)) + (IntKind.wrap .u64 b_4))) + 1442695040888963407)) 40).bind fun t_5 => some ((w64 (goBits .and .u64 t_5 255)), (spec_l1Cur.mk p_c.code (w64 (p_c.at_ + 1)) (⟨(IntKind.wrap .u64 ((IntKind.wrap .u64 ((IntKind.wrap .u64 (p_c.seed.v * 6364136223846793005)) + (IntKind.wrap .u64 b_4))) + 1442695040888963407))⟩ : K .u64))))))

noncomputable def spec_l1Cur_pick (p_c : spec_l1Cur) (p_n : Int) : Option (Int × spec_l1Cur) :=
  (cond (decide (p_n ≤ 1)) (some (0, p_c)) ((spec_l1Cur_next p_c).bind fun t_3 => (((cond (decide (200 < p_n)) ((spec_l1Cur_next t_3.2).bind fun t_6 => some ((w64 ((w64 (t_3.1 * 256)) + t_6.1)), t_6.2)) (some (t_3.1, t_3.2))) : Option (Int × spec_l1Cur)).bind fun (x_8, p_c_9) => ((goRem x_8 p_n).bind fun t_11 => some (t_11, p_c_9)))))

noncomputable def spec_l1Cur_among (p_c : spec_l1Cur) (p_list : List Int) : Option (Int × spec_l1Cur) :=
  ((spec_l1Cur_pick p_c (goLen p_list)).bind fun t_4 => ((goAt p_list t_4.1).bind fun e_6 => some (e_6, t_4.2)))

noncomputable def spec_l1Cur_sizes_l1  : (List Int) × Int × spec_l1Cur → Option (Stp ((List Int) × Int × spec_l1Cur) ((List Int) × spec_l1Cur))
  | (out_5, k_7, p_c_8) => (cond (decide (0 < k_7)) ((spec_l1Cur_pick p_c_8 4).bind fun t_11 => ((goApp 8 out_5 ([(w64 (1 + t_11.1))] : List Int)).bind fun l_14 => some (.next (l_14, (w64 (k_7 - 1)), t_11.2)))) (some (.done (out_5, p_c_8))))

noncomputable def spec_l1Cur_sizes (p_c : spec_l1Cur) : Option ((List Int) × spec_l1Cur) :=
  ((spec_l1Cur_pick p_c 4).bind fun t_3 => ((loopC (spec_l1Cur_sizes_l1) (([] : List Int), t_3.1, t_3.2)).bind fun (out_16, p_c_18) => ((spec_l1Cur_pick p_c_18 24).bind fun t_21 => (((cond (t_21.1 == 0) ((spec_l1Cur_among t_21.2 ([0, 30, 31] : List Int)).bind fun t_45 => ((goApp 8 out_16 ([t_45.1] : List Int)).bind fun l_48 => some (.inl (l_48, t_45.2)))) (cond (t_21.1 == 1) ((spec_l1Cur_pick t_21.2 3).bind fun t_38 => ((goSub ([2, 2, 2, 2, 2] : List Int) 0 (w64 (3 + t_38.1))).bind fun l_40 => some (.inr (l_40, t_38.2)))) (cond (t_21.1 == 2) (some (.inr (([11, 12, 13] : List Int), t_21.2))) (cond (t_21.1 == 3) ((spec_l1Cur_pick t_21.2 2).bind fun t_29 => ((goAt ([([24, 19, 3] : List Int), ([2, 22, 28] : List Int)] : List (List Int)) t_29.1).bind fun e_31 => some (.inr (e_31, t_29.2)))) (some (.inl (out_16, t_21.2))))))) : Option (((List Int) × spec_l1Cur) ⊕ ((List Int) × spec_l1Cur))).bind fun | .inl (out_50, p_c_52) => some (out_50, p_c_52) | .inr o => some o))))

noncomputable def spec_l1In (p_n : Int) (p_lo : Int) (p_hi : Int) : Option (Bool) :=
  (((cond (decide (p_lo ≤ p_n)) (some (decide (p_n ≤ p_hi))) (some false)) : Option (Bool)).bind fun t_1 => some t_1)

noncomputable def spec_l1All_l1 (p_l : List Int) (p_lo : Int) (p_hi : Int) (t_2 : Int) : Option (Stp (Int) ((Unit) ⊕ (Bool))) :=
  (cond (decide (t_2 < (goLen p_l))) ((goAt p_l t_2).bind fun e_3 => ((spec_l1In e_3 p_lo p_hi).bind fun t_5 => (cond (!t_5) (some (.done (.inr false))) (some (.next (w64 (t_2 + 1))))))) (some (.done (.inl ()))))

noncomputable def spec_l1All (p_l : List Int) (p_lo : Int) (p_hi : Int) : Option (Bool) :=
  ((loopC (spec_l1All_l1 p_l p_lo p_hi) 0).bind fun | .inl () => some true | .inr o => some o)

noncomputable def spec_cbCount_l1 (p_sizes : List Int) : Int × Int → Option (Stp (Int × Int) (Int))
  | (n_4, t_5) => (cond (decide (t_5 < (goLen p_sizes))) ((goAt p_sizes t_5).bind fun e_6 => some (.next ((w64 (n_4 * (w64 (e_6 + 1)))), (w64 (t_5 + 1))))) (some (.done n_4)))

noncomputable def spec_cbCount (p_sizes : List Int) : Option (Int) :=
  (((cond (decide (4 < (goLen p_sizes))) (some true) ((spec_l1All p_sizes 1 30).bind fun t_2 => some (!t_2))) : Option (Bool)).bind fun t_3 => (cond t_3 (some 0) ((loopC (spec_cbCount_l1 p_sizes) (1, 0)).bind fun n_8 => (cond (decide (2000 < n_8)) (some 0) (some n_8)))))

noncomputable def spec_cbIndices_l1 (p_sizes : List Int) : Int × (List Int) × Int → Option (Stp (Int × (List Int) × Int) ((List Int)))
  | (i_4, out_5, d_7) => (cond (decide (0 ≤ d_7)) ((goAt p_sizes d_7).bind fun e_8 => ((goRem i_4 (w64 (e_8 + 1))).bind fun t_10 => ((goAt out_5 d_7).bind fun e_11 => ((goAt p_sizes d_7).bind fun e_14 => ((goQuo .i64 i_4 (w64 (e_14 + 1))).bind fun t_16 => some (.next (t_16, goSet out_5 d_7 t_10, (w64 (d_7 - 1))))))))) (some (.done out_5)))

noncomputable def spec_cbIndices (p_sizes : List Int) (p_i : Int) : Option ((List Int)) :=
  ((goMake 8 (goLen p_sizes) (0 : Int)).bind fun l_2 => ((loopC (spec_cbIndices_l1 p_sizes) (p_i, l_2, (w64 ((goLen p_sizes) - 1)))).bind fun out_17 => some out_17))

noncomputable def spec_cbBase_l2 (p_sizes : List Int) (t_6 : List Int) : Bool × Int → Option (Stp (Bool × Int) (Bool))
  | (base_9, t_10) => (cond (decide (t_10 < (goLen t_6))) ((goAt t_6 t_10).bind fun e_11 => (((cond base_9 ((goAt p_sizes t_10).bind fun e_13 => some (decide (e_11 < e_13))) (some false)) : Option (Bool)).bind fun base_15 => some (.next (base_15, (w64 (t_10 + 1)))))) (some (.done base_9)))

noncomputable def spec_cbBase_l1 (p_sizes : List Int) : (List Int) × Int → Option (Stp ((List Int) × Int) ((List Int)))
  | (out_2, i_4) => ((spec_cbCount p_sizes).bind fun t_5 => (cond (decide (i_4 < t_5)) ((spec_cbIndices p_sizes i_4).bind fun t_6 => ((loopC (spec_cbBase_l2 p_sizes t_6) (true, 0)).bind fun base_16 => (((cond base_16 ((goApp 8 out_2 ([i_4] : List Int)).bind fun l_18 => some l_18) (some out_2)) : Option ((List Int))).bind fun out_20 => some (.next (out_20, (w64 (i_4 + 1))))))) (some (.done out_2))))

noncomputable def spec_cbBase (p_sizes : List Int) : Option ((List Int)) :=
  ((loopC (spec_cbBase_l1 p_sizes) (([] : List Int), 0)).bind fun out_22 => some out_22)

noncomputable def spec_l1Cur_one (p_c : spec_l1Cur) (p_n : Int) : Option (Bool × spec_l1Cur) :=
  ((spec_l1Cur_pick p_c p_n).bind fun t_3 => some (t_3.1 == 0, t_3.2))

noncomputable def spec_l1Cur_baseCells_l1 (t_3 : List Int) : (List Int) × Int × spec_l1Cur → Option (Stp ((List Int) × Int × spec_l1Cur) ((List Int) × spec_l1Cur))
  | (out_6, t_8, p_c_9) => (cond (decide (t_8 < (goLen t_3))) ((spec_l1Cur_pick p_c_9 12).bind fun t_12 => ((spec_l1Cur_one t_12.2 6).bind fun t_15 => (((cond t_15.1 ((spec_l1Cur_pick t_15.2 4).bind fun t_18 => some ((w64 (-t_18.1)), t_18.2)) (some (t_12.1, t_15.2))) : Option (Int × spec_l1Cur)).bind fun (x_20, p_c_21) => ((goApp 8 out_6 ([x_20] : List Int)).bind fun l_24 => some (.next (l_24, (w64 (t_8 + 1)), p_c_21)))))) (some (.done (out_6, p_c_9))))

noncomputable def spec_l1Cur_baseCells (p_c : spec_l1Cur) (p_sizes : List Int) : Option ((List Int) × spec_l1Cur) :=
  ((spec_cbBase p_sizes).bind fun t_3 => ((loopC (spec_l1Cur_baseCells_l1 t_3) (([] : List Int), 0, p_c)).bind fun (out_26, p_c_28) => some (out_26, p_c_28)))

noncomputable def spec_l1Own (p_l : List Int) : Option ((List Int)) :=
  ((goApp 8 ([] : List Int) p_l).bind fun l_3 => some l_3)

noncomputable def spec_cbAt_l1 (p_sizes : List Int) (p_index : List Int) : Int × Int → Option (Stp (Int × Int) (Int))
  | (n_3, t_4) => (cond (decide (t_4 < (goLen p_sizes))) ((goAt p_sizes t_4).bind fun e_5 => ((goAt p_index t_4).bind fun e_7 => some (.next ((w64 ((w64 (n_3 * (w64 (e_5 + 1)))) + e_7)), (w64 (t_4 + 1)))))) (some (.done n_3)))

noncomputable def spec_cbAt (p_sizes : List Int) (p_index : List Int) : Option (Int) :=
  ((loopC (spec_cbAt_l1 p_sizes p_index) (0, 0)).bind fun n_9 => some n_9)

noncomputable def spec_cbOf_l3 (p_sizes : List Int) (mask_23 : Int) (t_28 : List Int) : (List Int) × Int → Option (Stp ((List Int) × Int) ((List Int)))
  | (at_32, t_34) => (cond (decide (t_34 < (goLen t_28))) ((goShr .i64 mask_23 (IntKind.wrap .u64 t_34)).bind fun t_35 => (((cond ((goBits .and .i64 t_35 1) == 1) ((goAt p_sizes t_34).bind fun e_36 => ((goAt at_32 t_34).bind fun e_38 => some (goSet at_32 t_34 e_36))) (some at_32)) : Option ((List Int))).bind fun at_41 => some (.next (at_41, (w64 (t_34 + 1)))))) (some (.done at_32)))

noncomputable def spec_cbOf_l2 (p_sizes : List Int) (p_base : List Int) (t_14 : Int) (t_20 : List Int) : Int × impl_Cube → Option (Stp (Int × impl_Cube) (impl_Cube))
  | (mask_23, c_24) => ((goShl .i64 1 (IntKind.wrap .u64 (goLen p_sizes))).bind fun t_27 => (cond (decide (mask_23 < t_27)) ((spec_l1Own t_20).bind fun t_28 => ((loopC (spec_cbOf_l3 p_sizes mask_23 t_28) (t_28, 0)).bind fun at_43 => ((goAt p_base t_14).bind fun e_51 => ((spec_cbAt p_sizes at_43).bind fun t_55 => ((goAt c_24.Cells t_55).bind fun e_57 => ((goAt c_24.Cells t_55).bind fun e_59 => some (.next ((w64 (mask_23 + 1)), (impl_Cube.mk c_24.Sizes (goSet c_24.Cells t_55 (w64 (e_57 + e_51)))))))))))) (some (.done c_24))))

noncomputable def spec_cbOf_l1 (p_sizes : List Int) (p_base : List Int) (t_11 : List Int) : Int × impl_Cube → Option (Stp (Int × impl_Cube) (impl_Cube))
  | (t_14, c_15) => (cond (decide (t_14 < (goLen t_11))) ((goAt t_11 t_14).bind fun e_18 => ((spec_cbIndices p_sizes e_18).bind fun t_20 => ((loopC (spec_cbOf_l2 p_sizes p_base t_14 t_20) (0, c_15)).bind fun c_62 => some (.next ((w64 (t_14 + 1)), c_62))))) (some (.done c_15)))

noncomputable def spec_cbOf (p_sizes : List Int) (p_base : List Int) : Option (impl_Cube) :=
  ((spec_l1Own p_sizes).bind fun t_4 => ((spec_cbCount p_sizes).bind fun t_7 => ((goMake 8 t_7 (0 : Int)).bind fun l_8 => ((spec_cbBase p_sizes).bind fun t_11 => ((loopC (spec_cbOf_l1 p_sizes p_base t_11) (0, (impl_Cube.mk t_4 l_8))).bind fun c_65 => some c_65)))))

noncomputable def spec_l1Cur_cube (p_c : spec_l1Cur) : Option (impl_Cube × spec_l1Cur) :=
  ((spec_l1Cur_sizes p_c).bind fun t_4 => ((spec_cbCount t_4.1).bind fun t_7 => (cond (t_7 == 0) (some ((impl_Cube.mk t_4.1 ([1] : List Int)), t_4.2)) ((spec_l1Cur_baseCells t_4.2 t_4.1).bind fun t_9 => ((spec_cbOf t_4.1 t_9.1).bind fun t_12 => ((spec_l1Cur_pick t_9.2 16).bind fun t_19 => (((cond (t_19.1 == 0) ((spec_l1Cur_pick t_19.2 (goLen t_12.Cells)).bind fun t_48 => ((goAt t_12.Cells t_48.1).bind fun e_50 => ((goAt t_12.Cells t_48.1).bind fun e_52 => some (t_48.2, (impl_Cube.mk t_12.Sizes (goSet t_12.Cells t_48.1 (w64 (e_50 + 1)))))))) (((cond (t_19.1 == 1) ((goApp 8 t_12.Cells ([0] : List Int)).bind fun l_40 => some (t_19.2, (impl_Cube.mk t_12.Sizes l_40))) (((cond (t_19.1 == 2) ((((spec_l1Cur_among t_19.2 ([1000000, 1000001, -1000000] : List Int)).bind fun t_24 => ((goAt t_12.Cells 0).bind fun e_26 => some (t_24.2, (impl_Cube.mk t_12.Sizes (goSet t_12.Cells 0 t_24.1))))) : Option (spec_l1Cur × impl_Cube)).bind fun (p_c_29, x_31) => some (p_c_29, x_31)) (some (t_19.2, t_12))) : Option (spec_l1Cur × impl_Cube)).bind fun (p_c_34, x_36) => some (p_c_34, x_36))) : Option (spec_l1Cur × impl_Cube)).bind fun (p_c_42, x_44) => some (p_c_42, x_44))) : Option (spec_l1Cur × impl_Cube)).bind fun (p_c_55, x_57) => some (x_57, p_c_55))))))))

noncomputable def spec_DrawSliceOf (p_code : List (K .u8)) : Option (impl_Cube × Int × Int) :=
  ((spec_l1Cur_cube (spec_l1Cur.mk p_code 0 (⟨0⟩ : K .u64))).bind fun t_5 => ((spec_l1Cur_pick t_5.2 (w64 ((goLen t_5.1.Sizes) + 1))).bind fun t_11 => ((spec_l1Cur_pick t_11.2 8).bind fun t_14 => ((goQuo .i64 t_14.1 7).bind fun t_16 => ((spec_l1Cur_pick t_14.2 6).bind fun t_18 => ((spec_l1Cur_pick t_18.2 8).bind fun t_21 => ((goQuo .i64 t_21.1 7).bind fun t_23 => some (t_5.1, (w64 (t_11.1 - t_16)), (w64 (t_18.1 - t_23))))))))))

noncomputable def impl_cubeCells_l1 (p_sizes : List Int) : Int × Int → Option (Stp (Int × Int) ((Int) ⊕ (Int)))
  | (n_2, t_3) => (cond (decide (t_3 < (goLen p_sizes))) ((goAt p_sizes t_3).bind fun e_4 => (((cond (decide (e_4 < 1)) (some true) (some (decide (30 < e_4)))) : Option (Bool)).bind fun t_6 => (cond t_6 (some (.done (.inr 0))) (some (.next ((w64 (n_2 * (w64 (e_4 + 1)))), (w64 (t_3 + 1)))))))) (some (.done (.inl n_2))))

noncomputable def impl_cubeCells (p_sizes : List Int) : Option (Int) :=
  (cond (decide (4 < (goLen p_sizes))) (some 0) ((loopC (impl_cubeCells_l1 p_sizes) (1, 0)).bind fun | .inl n_7 => (cond (decide (2000 < n_7)) (some 0) (some n_7)) | .inr o => some o))

noncomputable def impl_areCubeValues_l1 (p_cells : List Int) (t_2 : Int) : Option (Stp (Int) ((Unit) ⊕ (Bool))) :=
  (cond (decide (t_2 < (goLen p_cells))) ((goAt p_cells t_2).bind fun e_3 => (((cond (decide (e_3 < (-1000000))) (some true) (some (decide (1000000 < e_3)))) : Option (Bool)).bind fun t_5 => (cond t_5 (some (.done (.inr false))) (some (.next (w64 (t_2 + 1))))))) (some (.done (.inl ()))))

noncomputable def impl_areCubeValues (p_cells : List Int) : Option (Bool) :=
  ((loopC (impl_areCubeValues_l1 p_cells) 0).bind fun | .inl () => some true | .inr o => some o)

noncomputable def impl_hasRightForm (p_c : impl_Cube) : Option (Bool) :=
  ((impl_cubeCells p_c.Sizes).bind fun t_4 => (((cond (decide (0 < t_4)) (cond ((goLen p_c.Cells) == t_4) ((impl_areCubeValues p_c.Cells).bind fun t_5 => some t_5) (some false)) (some false)) : Option (Bool)).bind fun t_6 => some t_6))

noncomputable def impl_strides_l1 (p_sizes : List Int) : (List Int) × Int × Int → Option (Stp ((List Int) × Int × Int) ((List Int)))
  | (out_4, n_6, d_7) => (cond (decide (0 ≤ d_7)) ((goAt out_4 d_7).bind fun e_8 => ((goAt p_sizes d_7).bind fun e_11 => some (.next (goSet out_4 d_7 n_6, (w64 (n_6 * (w64 (e_11 + 1)))), (w64 (d_7 - 1)))))) (some (.done out_4)))

noncomputable def impl_strides (p_sizes : List Int) : Option ((List Int)) :=
  ((goMake 8 (goLen p_sizes) (0 : Int)).bind fun l_2 => ((loopC (impl_strides_l1 p_sizes) (l_2, 1, (w64 ((goLen p_sizes) - 1)))).bind fun out_13 => some out_13))

noncomputable def impl_indexOf_l1 (t_4 : List Int) : Int × (List Int) × Int → Option (Stp (Int × (List Int) × Int) ((List Int)))
  | (i_7, out_8, t_10) => (cond (decide (t_10 < (goLen t_4))) ((goAt t_4 t_10).bind fun e_11 => ((goQuo .i64 i_7 e_11).bind fun t_13 => ((goAt out_8 t_10).bind fun e_14 => ((goRem i_7 e_11).bind fun t_17 => some (.next (t_17, goSet out_8 t_10 t_13, (w64 (t_10 + 1)))))))) (some (.done out_8)))

noncomputable def impl_indexOf (p_sizes : List Int) (p_i : Int) : Option ((List Int)) :=
  ((goMake 8 (goLen p_sizes) (0 : Int)).bind fun l_2 => ((impl_strides p_sizes).bind fun t_4 => ((loopC (impl_indexOf_l1 t_4) (p_i, l_2, 0)).bind fun out_18 => some out_18)))

noncomputable def impl_firstBreak_l3 (p_c : impl_Cube) (t_4 : List Int) (t_7 : Int) (t_13 : Int) (e_14 : Int) : Int × Int → Option (Stp (Int × Int) (Int))
  | (sum_18, k_19) => (cond (decide (k_19 ≤ e_14)) ((goAt t_4 t_13).bind fun e_20 => ((goAt p_c.Cells (w64 (t_7 - (w64 (k_19 * e_20))))).bind fun e_22 => some (.next ((w64 (sum_18 + e_22)), (w64 (k_19 + 1)))))) (some (.done sum_18)))

noncomputable def impl_firstBreak_l2 (p_c : impl_Cube) (t_4 : List Int) (t_7 : Int) (e_8 : Int) (t_10 : List Int) (t_13 : Int) : Option (Stp (Int) ((Unit) ⊕ (Stp (Int) ((Unit) ⊕ (Int))))) :=
  (cond (decide (t_13 < (goLen t_10))) ((((goAt t_10 t_13).bind fun e_14 => ((goAt p_c.Sizes t_13).bind fun e_16 => (cond (e_14 != e_16) (some (.inl ())) ((loopC (impl_firstBreak_l3 p_c t_4 t_7 t_13 e_14) (0, 1)).bind fun sum_24 => (cond (sum_24 != e_8) (some (.inr (.done (.inr (.done (.inr t_7)))))) (some (.inl ()))))))) : Option ((Unit) ⊕ (Stp (Int) ((Unit) ⊕ (Stp (Int) ((Unit) ⊕ (Int))))))).bind fun | .inl () => some (.next (w64 (t_13 + 1))) | .inr o => some o) (some (.done (.inl ()))))

noncomputable def impl_firstBreak_l1 (p_c : impl_Cube) (t_4 : List Int) (t_7 : Int) : Option (Stp (Int) ((Unit) ⊕ (Int))) :=
  (cond (decide (t_7 < (goLen p_c.Cells))) ((goAt p_c.Cells t_7).bind fun e_8 => ((impl_indexOf p_c.Sizes t_7).bind fun t_10 => ((loopC (impl_firstBreak_l2 p_c t_4 t_7 e_8 t_10) 0).bind fun | .inl () => some (.next (w64 (t_7 + 1))) | .inr o => some o))) (some (.done (.inl ()))))

noncomputable def impl_firstBreak (p_c : impl_Cube) : Option (Int) :=
  ((impl_strides p_c.Sizes).bind fun t_4 => ((loopC (impl_firstBreak_l1 p_c t_4) 0).bind fun | .inl () => some (goLen p_c.Cells) | .inr o => some o))

noncomputable def impl_IsCube (p_c : impl_Cube) : Option (Bool) :=
  ((((impl_hasRightForm p_c).bind fun t_4 => (cond t_4 ((impl_firstBreak p_c).bind fun t_8 => some (t_8 == (goLen p_c.Cells))) (some false))) : Option (Bool)).bind fun t_9 => some t_9)

noncomputable def slices_Clone_int_int (p_s : List Int) : Option ((List Int)) :=
  ((goApp 8 ([] : List Int) p_s).bind fun l_3 => some l_3)

noncomputable def impl_cellOf_l1 (p_index : List Int) (t_3 : List Int) : Int × Int → Option (Stp (Int × Int) (Int))
  | (i_6, t_7) => (cond (decide (t_7 < (goLen t_3))) ((goAt t_3 t_7).bind fun e_8 => ((goAt p_index t_7).bind fun e_10 => some (.next ((w64 (i_6 + (w64 (e_10 * e_8)))), (w64 (t_7 + 1)))))) (some (.done i_6)))

noncomputable def impl_cellOf (p_sizes : List Int) (p_index : List Int) : Option (Int) :=
  ((impl_strides p_sizes).bind fun t_3 => ((loopC (impl_cellOf_l1 p_index t_3) (0, 0)).bind fun i_12 => some i_12))

noncomputable def impl_taken_l1 (p_c : impl_Cube) (p_dims : List Int) : Int × impl_Cube → Option (Stp (Int × impl_Cube) (impl_Cube))
  | (t_8, out_9) => (cond (decide (t_8 < (goLen p_dims))) ((goAt p_dims t_8).bind fun e_12 => ((goAt p_c.Sizes e_12).bind fun e_14 => ((goApp 8 out_9.Sizes ([e_14] : List Int)).bind fun l_17 => some (.next ((w64 (t_8 + 1)), (impl_Cube.mk l_17 out_9.Cells)))))) (some (.done out_9)))

noncomputable def impl_taken_l3 (p_dims : List Int) (t_33 : List Int) : (List Int) × Int → Option (Stp ((List Int) × Int) ((List Int)))
  | (index_37, t_39) => (cond (decide (t_39 < (goLen t_33))) ((goAt t_33 t_39).bind fun e_40 => ((goAt p_dims t_39).bind fun e_42 => ((goAt index_37 e_42).bind fun e_44 => some (.next (goSet index_37 e_42 e_40, (w64 (t_39 + 1))))))) (some (.done index_37)))

noncomputable def impl_taken_l2 (p_c : impl_Cube) (p_dims : List Int) (p_fixed : List Int) (l_24 : List Int) : Int × impl_Cube → Option (Stp (Int × impl_Cube) (impl_Cube))
  | (t_26, out_27) => (cond (decide (t_26 < (goLen l_24))) ((slices_Clone_int_int p_fixed).bind fun t_30 => ((impl_indexOf out_27.Sizes t_26).bind fun t_33 => ((loopC (impl_taken_l3 p_dims t_33) (t_30, 0)).bind fun index_47 => ((impl_cellOf p_c.Sizes index_47).bind fun t_49 => ((goAt p_c.Cells t_49).bind fun e_51 => ((goAt out_27.Cells t_26).bind fun e_53 => some (.next ((w64 (t_26 + 1)), (impl_Cube.mk out_27.Sizes (goSet out_27.Cells t_26 e_51)))))))))) (some (.done out_27)))

noncomputable def impl_taken (p_c : impl_Cube) (p_dims : List Int) (p_fixed : List Int) : Option (impl_Cube) :=
  ((loopC (impl_taken_l1 p_c p_dims) (0, (impl_Cube.mk ([] : List Int) ([] : List Int)))).bind fun out_19 => ((impl_cubeCells out_19.Sizes).bind fun t_22 => ((goMake 8 t_22 (0 : Int)).bind fun l_24 => ((loopC (impl_taken_l2 p_c p_dims p_fixed l_24) (0, (impl_Cube.mk out_19.Sizes l_24))).bind fun out_56 => some out_56))))

noncomputable def impl_SliceOf_l1 (p_c : impl_Cube) (p_dim : Int) : (List Int) × Int → Option (Stp ((List Int) × Int) ((List Int)))
  | (dims_9, t_11) => (cond (decide (t_11 < (goLen p_c.Sizes))) (((cond (t_11 != p_dim) ((goApp 8 dims_9 ([t_11] : List Int)).bind fun l_13 => some l_13) (some dims_9)) : Option ((List Int))).bind fun dims_15 => some (.next (dims_15, (w64 (t_11 + 1))))) (some (.done dims_9)))

noncomputable def impl_SliceOf (p_c : impl_Cube) (p_dim : Int) (p_i : Int) : Option (impl_Cube × Bool) :=
  ((((impl_IsCube p_c).bind fun t_5 => (cond (!t_5) (some true) (cond (decide (p_dim < 0)) (some true) (cond (decide ((goLen p_c.Sizes) ≤ p_dim)) (some true) (cond (decide (p_i < 0)) (some true) ((goAt p_c.Sizes p_dim).bind fun e_6 => some (decide (e_6 < p_i)))))))) : Option (Bool)).bind fun t_8 => (cond t_8 (some ((impl_Cube.mk ([] : List Int) ([] : List Int)), false)) ((loopC (impl_SliceOf_l1 p_c p_dim) (([] : List Int), 0)).bind fun dims_17 => ((slices_Clone_int_int p_c.Sizes).bind fun t_19 => ((goAt t_19 p_dim).bind fun e_22 => ((impl_taken p_c dims_17 (goSet t_19 p_dim p_i)).bind fun t_25 => some (t_25, true)))))))

noncomputable def spec_cbForm (p_c : impl_Cube) : Option (Bool) :=
  ((spec_cbCount p_c.Sizes).bind fun t_4 => (((cond (decide (0 < t_4)) (cond ((goLen p_c.Cells) == t_4) ((spec_l1All p_c.Cells (-1000000) 1000000).bind fun t_5 => some t_5) (some false)) (some false)) : Option (Bool)).bind fun t_6 => some t_6))

noncomputable def spec_cbParts_l1 (p_sizes : List Int) (p_d : Int) : (List Int) × (List Int) × Int → Option (Stp ((List Int) × (List Int) × Int) ((List Int)))
  | (index_5, out_7, k_9) => ((goAt p_sizes p_d).bind fun e_10 => (cond (decide (k_9 < e_10)) ((goAt index_5 p_d).bind fun e_12 => ((spec_cbAt p_sizes (goSet index_5 p_d k_9)).bind fun t_15 => ((goApp 8 out_7 ([t_15] : List Int)).bind fun l_18 => some (.next (goSet index_5 p_d k_9, l_18, (w64 (k_9 + 1))))))) (some (.done out_7))))

noncomputable def spec_cbParts (p_sizes : List Int) (p_i : Int) (p_d : Int) : Option ((List Int)) :=
  ((spec_cbIndices p_sizes p_i).bind fun t_2 => ((loopC (spec_cbParts_l1 p_sizes p_d) (t_2, ([] : List Int), 0)).bind fun out_20 => some out_20))

noncomputable def spec_cbBroken_l2 (p_c : impl_Cube) (t_12 : List Int) : Int × Int → Option (Stp (Int × Int) (Int))
  | (sum_15, t_16) => (cond (decide (t_16 < (goLen t_12))) ((goAt t_12 t_16).bind fun e_17 => ((goAt p_c.Cells e_17).bind fun e_19 => some (.next ((w64 (sum_15 + e_19)), (w64 (t_16 + 1)))))) (some (.done sum_15)))

noncomputable def spec_cbBroken_l1 (p_c : impl_Cube) (p_i : Int) (t_4 : List Int) (t_7 : Int) : Option (Stp (Int) ((Unit) ⊕ (Bool))) :=
  (cond (decide (t_7 < (goLen t_4))) ((((goAt t_4 t_7).bind fun e_8 => ((goAt p_c.Sizes t_7).bind fun e_10 => (cond (e_8 != e_10) (some (.inl ())) ((spec_cbParts p_c.Sizes p_i t_7).bind fun t_12 => ((loopC (spec_cbBroken_l2 p_c t_12) (0, 0)).bind fun sum_21 => ((goAt p_c.Cells p_i).bind fun e_22 => (cond (sum_21 != e_22) (some (.inr (.done (.inr true)))) (some (.inl ()))))))))) : Option ((Unit) ⊕ (Stp (Int) ((Unit) ⊕ (Bool))))).bind fun | .inl () => some (.next (w64 (t_7 + 1))) | .inr o => some o) (some (.done (.inl ()))))

noncomputable def spec_cbBroken (p_c : impl_Cube) (p_i : Int) : Option (Bool) :=
  ((spec_cbIndices p_c.Sizes p_i).bind fun t_4 => ((loopC (spec_cbBroken_l1 p_c p_i t_4) 0).bind fun | .inl () => some false | .inr o => some o))

noncomputable def spec_cbFirst_l1 (p_c : impl_Cube) (t_4 : Int) : Option (Stp (Int) ((Unit) ⊕ (Int))) :=
  (cond (decide (t_4 < (goLen p_c.Cells))) ((spec_cbBroken p_c t_4).bind fun t_5 => (cond t_5 (some (.done (.inr t_4))) (some (.next (w64 (t_4 + 1)))))) (some (.done (.inl ()))))

noncomputable def spec_cbFirst (p_c : impl_Cube) : Option (Int) :=
  ((loopC (spec_cbFirst_l1 p_c) 0).bind fun | .inl () => some (goLen p_c.Cells) | .inr o => some o)

noncomputable def spec_cbGood (p_c : impl_Cube) : Option (Bool) :=
  ((((spec_cbForm p_c).bind fun t_4 => (cond t_4 ((spec_cbFirst p_c).bind fun t_8 => some (t_8 == (goLen p_c.Cells))) (some false))) : Option (Bool)).bind fun t_9 => some t_9)

noncomputable def spec_sPick_l1 (p_values : List Int) (p_vars : List Int) : (List Int) × Int → Option (Stp ((List Int) × Int) ((List Int)))
  | (out_3, t_5) => (cond (decide (t_5 < (goLen p_vars))) ((goAt p_vars t_5).bind fun e_6 => ((goAt p_values e_6).bind fun e_8 => ((goApp 8 out_3 ([e_8] : List Int)).bind fun l_11 => some (.next (l_11, (w64 (t_5 + 1))))))) (some (.done out_3)))

noncomputable def spec_sPick (p_values : List Int) (p_vars : List Int) : Option ((List Int)) :=
  ((loopC (spec_sPick_l1 p_values p_vars) (([] : List Int), 0)).bind fun out_13 => some out_13)

noncomputable def spec_cbFrom_l2 (p_dims : List Int) (t_20 : List Int) : (List Int) × Int → Option (Stp ((List Int) × Int) ((List Int)))
  | (at_24, t_26) => (cond (decide (t_26 < (goLen t_20))) ((goAt t_20 t_26).bind fun e_27 => ((goAt p_dims t_26).bind fun e_29 => ((goAt at_24 e_29).bind fun e_31 => some (.next (goSet at_24 e_29 e_27, (w64 (t_26 + 1))))))) (some (.done at_24)))

noncomputable def spec_cbFrom_l1 (p_c : impl_Cube) (p_dims : List Int) (p_fixed : List Int) : Int × impl_Cube → Option (Stp (Int × impl_Cube) (impl_Cube))
  | (i_11, out_12) => ((spec_cbCount out_12.Sizes).bind fun t_15 => (cond (decide (i_11 < t_15)) ((spec_l1Own p_fixed).bind fun t_17 => ((spec_cbIndices out_12.Sizes i_11).bind fun t_20 => ((loopC (spec_cbFrom_l2 p_dims t_20) (t_17, 0)).bind fun at_34 => ((((spec_cbAt p_c.Sizes at_34).bind fun t_36 => ((goAt p_c.Cells t_36).bind fun e_38 => ((goApp 8 out_12.Cells ([e_38] : List Int)).bind fun l_41 => some (impl_Cube.mk out_12.Sizes l_41)))) : Option (impl_Cube)).bind fun out_43 => some (.next ((w64 (i_11 + 1)), out_43)))))) (some (.done out_12))))

noncomputable def spec_cbFrom (p_c : impl_Cube) (p_dims : List Int) (p_fixed : List Int) : Option (impl_Cube) :=
  ((spec_sPick p_c.Sizes p_dims).bind fun t_7 => ((loopC (spec_cbFrom_l1 p_c p_dims p_fixed) (0, (impl_Cube.mk t_7 ([] : List Int)))).bind fun out_46 => some out_46))

noncomputable def spec_SliceOf_l1 (p_c : impl_Cube) (p_dim : Int) : (List Int) × Int → Option (Stp ((List Int) × Int) ((List Int)))
  | (dims_11, t_13) => (cond (decide (t_13 < (goLen p_c.Sizes))) (((cond (t_13 != p_dim) ((goApp 8 dims_11 ([t_13] : List Int)).bind fun l_15 => some l_15) (some dims_11)) : Option ((List Int))).bind fun dims_17 => some (.next (dims_17, (w64 (t_13 + 1))))) (some (.done dims_11)))

noncomputable def spec_SliceOf (p_c : impl_Cube) (p_dim : Int) (p_i : Int) : Option (impl_Cube × Bool) :=
  ((((spec_cbGood p_c).bind fun t_5 => (cond (!t_5) (some true) ((spec_l1In p_dim 0 (w64 ((goLen p_c.Sizes) - 1))).bind fun t_6 => (cond (!t_6) (some true) ((goAt p_c.Sizes p_dim).bind fun e_7 => ((spec_l1In p_i 0 e_7).bind fun t_9 => some (!t_9))))))) : Option (Bool)).bind fun t_10 => (cond t_10 (some ((impl_Cube.mk ([] : List Int) ([] : List Int)), false)) ((loopC (spec_SliceOf_l1 p_c p_dim) (([] : List Int), 0)).bind fun dims_19 => ((spec_l1Own p_c.Sizes).bind fun t_21 => ((goAt t_21 p_dim).bind fun e_24 => ((spec_cbFrom p_c dims_19 (goSet t_21 p_dim p_i)).bind fun t_27 => some (t_27, true)))))))

noncomputable def spec_l1Most (p_a : Int) (p_b : Int) : Option (Int) :=
  (cond (decide (p_b < p_a)) (some p_a) (some p_b))

noncomputable def spec_l1Least (p_a : Int) (p_b : Int) : Option (Int) :=
  (cond (decide (p_a < p_b)) (some p_a) (some p_b))

noncomputable def spec_DrawGroupCube_l1 (t_5 : impl_Cube × spec_l1Cur) (t_11 : Int × spec_l1Cur) (t_18 : Int × spec_l1Cur) : (List Int) × Int × spec_l1Cur → Option (Stp ((List Int) × Int × spec_l1Cur) ((List Int) × spec_l1Cur))
  | (groups_20, i_22, t_23) => ((goAt t_5.1.Sizes t_11.1).bind fun e_25 => (cond (decide (i_22 < e_25)) (((cond (decide (i_22 < (w64 (1 + t_18.1)))) ((goApp 8 groups_20 ([i_22] : List Int)).bind fun l_34 => some (l_34, t_23)) ((spec_l1Cur_pick t_23 (w64 (1 + t_18.1))).bind fun t_28 => ((goApp 8 groups_20 ([t_28.1] : List Int)).bind fun l_31 => some (l_31, t_28.2)))) : Option ((List Int) × spec_l1Cur)).bind fun (groups_36, t_38) => some (.next (groups_36, (w64 (i_22 + 1)), t_38))) (some (.done (groups_20, t_23)))))

noncomputable def spec_DrawGroupCube (p_code : List (K .u8)) : Option (impl_Cube × Int × (List Int)) :=
  ((spec_l1Cur_cube (spec_l1Cur.mk p_code 0 (⟨0⟩ : K .u64))).bind fun t_5 => ((spec_l1Cur_pick t_5.2 (w64 ((goLen t_5.1.Sizes) + 1))).bind fun t_11 => (((cond (decide (t_11.1 < (goLen t_5.1.Sizes))) ((goAt t_5.1.Sizes t_11.1).bind fun e_13 => ((spec_l1Most e_13 1).bind fun t_15 => ((spec_l1Least 3 t_15).bind fun t_16 => ((spec_l1Cur_pick t_11.2 t_16).bind fun t_18 => ((loopC (spec_DrawGroupCube_l1 t_5 t_11 t_18) (([] : List Int), 0, t_18.2)).bind fun (groups_40, t_42) => some (groups_40, t_42)))))) (some (([] : List Int), t_11.2))) : Option ((List Int) × spec_l1Cur)).bind fun (groups_44, t_46) => ((spec_l1Cur_one t_46 12).bind fun t_49 => (((cond t_49.1 ((spec_l1Cur_among t_49.2 ([0, -1, 7] : List Int)).bind fun t_53 => ((goApp 8 groups_44 ([t_53.1] : List Int)).bind fun l_56 => some l_56)) (some groups_44)) : Option ((List Int))).bind fun groups_58 => some (t_5.1, t_11.1, groups_58))))))

noncomputable def slices_Index_int_int_l1 (p_s : List Int) (p_v : Int) (t_2 : Int) : Option (Stp (Int) ((Unit) ⊕ (Int))) :=
  (cond (decide (t_2 < (goLen p_s))) ((goAt p_s t_2).bind fun e_3 => (cond (p_v == e_3) (some (.done (.inr t_2))) (some (.next (w64 (t_2 + 1)))))) (some (.done (.inl ()))))

noncomputable def slices_Index_int_int (p_s : List Int) (p_v : Int) : Option (Int) :=
  ((loopC (slices_Index_int_int_l1 p_s p_v) 0).bind fun | .inl () => some (-1) | .inr o => some o)

noncomputable def slices_Contains_int_int (p_s : List Int) (p_v : Int) : Option (Bool) :=
  ((slices_Index_int_int p_s p_v).bind fun t_2 => some (decide (0 ≤ t_2)))

noncomputable def impl_groupNumbers_l1 (p_groups : List Int) : Int × Int → Option (Stp (Int × Int) ((Int) ⊕ (Int)))
  | (n_2, t_3) => (cond (decide (t_3 < (goLen p_groups))) ((goAt p_groups t_3).bind fun e_4 => (((cond (decide (e_4 < 0)) (some true) (some (decide ((goLen p_groups) ≤ e_4)))) : Option (Bool)).bind fun t_6 => (cond t_6 (some (.done (.inr 0))) (some (.next (max n_2 (w64 (e_4 + 1)), (w64 (t_3 + 1)))))))) (some (.done (.inl n_2))))

noncomputable def impl_groupNumbers_l2 (p_groups : List Int) (n_7 : Int) (t_8 : Int) : Option (Stp (Int) ((Unit) ⊕ (Int))) :=
  (cond (decide (t_8 < n_7)) ((slices_Contains_int_int p_groups t_8).bind fun t_9 => (cond (!t_9) (some (.done (.inr 0))) (some (.next (w64 (t_8 + 1)))))) (some (.done (.inl ()))))

noncomputable def impl_groupNumbers (p_groups : List Int) : Option (Int) :=
  ((loopC (impl_groupNumbers_l1 p_groups) (0, 0)).bind fun | .inl n_7 => ((loopC (impl_groupNumbers_l2 p_groups n_7) 0).bind fun | .inl () => some n_7 | .inr o => some o) | .inr o => some o)

noncomputable def impl_GroupCube_l1 (p_c : impl_Cube) (p_dim : Int) (p_groups : List Int) (t_11 : List Int) (t_14 : Int) : Int × impl_Cube → Option (Stp (Int × impl_Cube) (impl_Cube))
  | (t_23, out_24) => (cond (decide (t_23 < (goLen p_c.Cells))) ((goAt p_c.Cells t_23).bind fun e_27 => ((impl_indexOf p_c.Sizes t_23).bind fun t_29 => ((goAt t_29 p_dim).bind fun e_32 => ((goAt p_c.Sizes p_dim).bind fun e_34 => (((cond (e_32 == e_34) ((goAt (goSet t_11 p_dim t_14) p_dim).bind fun e_43 => ((goAt t_29 p_dim).bind fun e_45 => some (goSet t_29 p_dim e_43))) ((goAt t_29 p_dim).bind fun e_36 => ((goAt p_groups e_36).bind fun e_38 => ((goAt t_29 p_dim).bind fun e_40 => some (goSet t_29 p_dim e_38))))) : Option ((List Int))).bind fun index_48 => ((impl_cellOf (goSet t_11 p_dim t_14) index_48).bind fun t_52 => ((goAt out_24.Cells t_52).bind fun e_54 => ((goAt out_24.Cells t_52).bind fun e_56 => some (.next ((w64 (t_23 + 1)), (impl_Cube.mk out_24.Sizes (goSet out_24.Cells t_52 (w64 (e_54 + e_27)))))))))))))) (some (.done out_24)))

noncomputable def impl_GroupCube (p_c : impl_Cube) (p_dim : Int) (p_groups : List Int) : Option (impl_Cube × Bool) :=
  ((((impl_IsCube p_c).bind fun t_6 => (cond (!t_6) (some true) (cond (decide (p_dim < 0)) (some true) (cond (decide ((goLen p_c.Sizes) ≤ p_dim)) (some true) ((goAt p_c.Sizes p_dim).bind fun e_7 => (cond ((goLen p_groups) != e_7) (some true) ((impl_groupNumbers p_groups).bind fun t_9 => some (t_9 == 0)))))))) : Option (Bool)).bind fun t_10 => (cond t_10 (some ((impl_Cube.mk ([] : List Int) ([] : List Int)), false)) ((slices_Clone_int_int p_c.Sizes).bind fun t_11 => ((impl_groupNumbers p_groups).bind fun t_14 => ((goAt t_11 p_dim).bind fun e_15 => ((impl_cubeCells (goSet t_11 p_dim t_14)).bind fun t_18 => ((goMake 8 t_18 (0 : Int)).bind fun l_20 => ((loopC (impl_GroupCube_l1 p_c p_dim p_groups t_11 t_14) (0, (impl_Cube.mk (goSet t_11 p_dim t_14) l_20))).bind fun out_59 => ((impl_areCubeValues out_59.Cells).bind fun t_62 => (cond (!t_62) (some ((impl_Cube.mk ([] : List Int) ([] : List Int)), false)) (some (out_59, true))))))))))))

noncomputable def spec_l1Put_l1 (p_l : List Int) (p_n : Int) (k_2 : Int) : Option (Stp (Int) (Int)) :=
  (((cond (decide (k_2 < (goLen p_l))) ((goAt p_l k_2).bind fun e_3 => some (decide (e_3 < p_n))) (some false)) : Option (Bool)).bind fun t_5 => (cond t_5 (some (.next (w64 (k_2 + 1)))) (some (.done k_2))))

noncomputable def spec_l1Put (p_l : List Int) (p_n : Int) : Option ((List Int)) :=
  ((loopC (spec_l1Put_l1 p_l p_n) 0).bind fun k_6 => (((cond (decide (k_6 < (goLen p_l))) ((goAt p_l k_6).bind fun e_7 => some (e_7 == p_n)) (some false)) : Option (Bool)).bind fun t_9 => (cond t_9 (some p_l) ((goSub p_l 0 k_6).bind fun l_11 => ((goApp 8 ([] : List Int) l_11).bind fun l_13 => ((goApp 8 l_13 ([p_n] : List Int)).bind fun l_16 => ((goSub p_l k_6 (goLen p_l)).bind fun l_18 => ((goApp 8 l_16 l_18).bind fun l_20 => some l_20))))))))

noncomputable def spec_cbGroups_l1 (p_groups : List Int) : (List Int) × Int → Option (Stp ((List Int) × Int) ((List Int)))
  | (met_2, t_4) => (cond (decide (t_4 < (goLen p_groups))) ((goAt p_groups t_4).bind fun e_6 => ((spec_l1Put met_2 e_6).bind fun t_8 => some (.next (t_8, (w64 (t_4 + 1)))))) (some (.done met_2)))

noncomputable def spec_cbGroups (p_groups : List Int) : Option (Int) :=
  ((loopC (spec_cbGroups_l1 p_groups) (([] : List Int), 0)).bind fun met_11 => (((cond ((goLen met_11) == 0) (some true) ((goAt met_11 0).bind fun e_14 => (cond (e_14 != 0) (some true) ((goAt met_11 (w64 ((goLen met_11) - 1))).bind fun e_16 => some (e_16 != (w64 ((goLen met_11) - 1))))))) : Option (Bool)).bind fun t_18 => (cond t_18 (some 0) (some (goLen met_11)))))

noncomputable def spec_cbIf (p_c : impl_Cube) : Option (impl_Cube × Bool) :=
  ((spec_cbGood p_c).bind fun t_5 => (cond (!t_5) (some ((impl_Cube.mk ([] : List Int) ([] : List Int)), false)) (some (p_c, true))))

noncomputable def spec_GroupCube_l1 (p_c : impl_Cube) (p_dim : Int) (p_groups : List Int) : Int × impl_Cube → Option (Stp (Int × impl_Cube) (impl_Cube))
  | (t_24, out_25) => (cond (decide (t_24 < (goLen p_c.Cells))) ((goAt p_c.Cells t_24).bind fun e_28 => ((spec_cbIndices p_c.Sizes t_24).bind fun t_30 => ((goAt t_30 p_dim).bind fun e_33 => ((goAt p_c.Sizes p_dim).bind fun e_35 => (((cond (e_33 == e_35) ((goAt out_25.Sizes p_dim).bind fun e_44 => ((goAt t_30 p_dim).bind fun e_46 => some (goSet t_30 p_dim e_44))) ((goAt t_30 p_dim).bind fun e_37 => ((goAt p_groups e_37).bind fun e_39 => ((goAt t_30 p_dim).bind fun e_41 => some (goSet t_30 p_dim e_39))))) : Option ((List Int))).bind fun at_49 => ((spec_cbAt out_25.Sizes at_49).bind fun t_53 => ((goAt out_25.Cells t_53).bind fun e_55 => ((goAt out_25.Cells t_53).bind fun e_57 => some (.next ((w64 (t_24 + 1)), (impl_Cube.mk out_25.Sizes (goSet out_25.Cells t_53 (w64 (e_55 + e_28)))))))))))))) (some (.done out_25)))

noncomputable def spec_GroupCube (p_c : impl_Cube) (p_dim : Int) (p_groups : List Int) : Option (impl_Cube × Bool) :=
  ((((spec_cbGood p_c).bind fun t_6 => (cond (!t_6) (some true) ((spec_l1In p_dim 0 (w64 ((goLen p_c.Sizes) - 1))).bind fun t_7 => (cond (!t_7) (some true) ((goAt p_c.Sizes p_dim).bind fun e_8 => (cond ((goLen p_groups) != e_8) (some true) ((spec_cbGroups p_groups).bind fun t_10 => some (t_10 == 0)))))))) : Option (Bool)).bind fun t_11 => (cond t_11 (some ((impl_Cube.mk ([] : List Int) ([] : List Int)), false)) ((spec_l1Own p_c.Sizes).bind fun t_12 => ((spec_cbGroups p_groups).bind fun t_16 => ((goAt t_12 p_dim).bind fun e_17 => ((spec_cbCount (goSet t_12 p_dim t_16)).bind fun t_20 => ((goMake 8 t_20 (0 : Int)).bind fun l_22 => ((loopC (spec_GroupCube_l1 p_c p_dim p_groups) (0, (impl_Cube.mk (goSet t_12 p_dim t_16) l_22))).bind fun out_60 => ((spec_cbIf out_60).bind fun t_65 => some (t_65.1, t_65.2))))))))))

noncomputable def laws_qInts_l1 (p_a : List Int) (p_b : List Int) (t_3 : Int) : Option (Stp (Int) ((Unit) ⊕ (Bool))) :=
  (cond (decide (t_3 < (goLen p_a))) ((goAt p_a t_3).bind fun e_4 => ((goAt p_b t_3).bind fun e_6 => (cond (e_4 != e_6) (some (.done (.inr false))) (some (.next (w64 (t_3 + 1))))))) (some (.done (.inl ()))))

noncomputable def laws_qInts (p_a : List Int) (p_b : List Int) : Option (Bool) :=
  (cond ((goLen p_a) != (goLen p_b)) (some false) ((loopC (laws_qInts_l1 p_a p_b) 0).bind fun | .inl () => some true | .inr o => some o))

noncomputable def slices_Equal_int_int_l1 (p_s1 : List Int) (p_s2 : List Int) (t_3 : Int) : Option (Stp (Int) ((Unit) ⊕ (Bool))) :=
  (cond (decide (t_3 < (goLen p_s1))) ((goAt p_s1 t_3).bind fun e_4 => ((goAt p_s2 t_3).bind fun e_6 => (cond (e_4 != e_6) (some (.done (.inr false))) (some (.next (w64 (t_3 + 1))))))) (some (.done (.inl ()))))

noncomputable def slices_Equal_int_int (p_s1 : List Int) (p_s2 : List Int) : Option (Bool) :=
  (cond ((goLen p_s1) != (goLen p_s2)) (some false) ((loopC (slices_Equal_int_int_l1 p_s1 p_s2) 0).bind fun | .inl () => some true | .inr o => some o))

noncomputable def impl_DifferenceOf_l1 (p_b : impl_Cube) : Int × impl_Cube → Option (Stp (Int × impl_Cube) (impl_Cube))
  | (t_31, out_32) => (cond (decide (t_31 < (goLen p_b.Cells))) ((goAt p_b.Cells t_31).bind fun e_35 => ((goAt out_32.Cells t_31).bind fun e_37 => ((goAt out_32.Cells t_31).bind fun e_39 => some (.next ((w64 (t_31 + 1)), (impl_Cube.mk out_32.Sizes (goSet out_32.Cells t_31 (w64 (e_37 - e_35))))))))) (some (.done out_32)))

noncomputable def impl_DifferenceOf (p_a : impl_Cube) (p_b : impl_Cube) : Option (impl_Cube × Bool) :=
  ((((impl_IsCube p_a).bind fun t_8 => (cond (!t_8) (some true) ((impl_IsCube p_b).bind fun t_9 => (cond (!t_9) (some true) ((slices_Equal_int_int p_a.Sizes p_b.Sizes).bind fun t_10 => some (!t_10)))))) : Option (Bool)).bind fun t_11 => (cond t_11 (some ((impl_Cube.mk ([] : List Int) ([] : List Int)), false)) ((((slices_Clone_int_int p_a.Sizes).bind fun t_21 => ((slices_Clone_int_int p_a.Cells).bind fun t_24 => some (impl_Cube.mk t_21 t_24))) : Option (impl_Cube)).bind fun out_28 => ((loopC (impl_DifferenceOf_l1 p_b) (0, out_28)).bind fun out_42 => ((impl_areCubeValues out_42.Cells).bind fun t_45 => (cond (!t_45) (some ((impl_Cube.mk ([] : List Int) ([] : List Int)), false)) (some (out_42, true))))))))

noncomputable def laws_FnSlices_l1 (t_3 : impl_Cube × Int × Int) : Int × impl_Cube → Option (Stp (Int × impl_Cube) ((impl_Cube) ⊕ (Bool)))
  | (k_72, all_73) => ((goAt t_3.1.Sizes t_3.2.1).bind fun e_76 => (cond (decide (k_72 < e_76)) ((impl_SliceOf t_3.1 t_3.2.1 k_72).bind fun t_78 => (cond (!t_78.2) (some (.done (.inr false))) ((impl_DifferenceOf all_73 t_78.1).bind fun t_84 => (cond (!t_84.2) (some (.done (.inr true))) (some (.next ((w64 (k_72 + 1)), t_84.1))))))) (some (.done (.inl all_73)))))

noncomputable def laws_FnSlices_l2 (all_90 : impl_Cube) (t_93 : Int) : Option (Stp (Int) ((Unit) ⊕ (Bool))) :=
  (cond (decide (t_93 < (goLen all_90.Cells))) ((goAt all_90.Cells t_93).bind fun e_94 => (cond (e_94 != 0) (some (.done (.inr false))) (some (.next (w64 (t_93 + 1)))))) (some (.done (.inl ()))))

noncomputable def laws_FnSlices (p_code : List (K .u8)) (p_more : List (K .u8)) : Option (Bool) :=
  (cond (decide (1048576 < (w64 ((goLen p_code) + (goLen p_more))))) (some true) ((spec_DrawSliceOf p_code).bind fun t_3 => ((impl_SliceOf t_3.1 t_3.2.1 t_3.2.2).bind fun t_8 => ((spec_SliceOf t_3.1 t_3.2.1 t_3.2.2).bind fun t_14 => ((spec_DrawGroupCube p_more).bind fun t_20 => ((impl_GroupCube t_20.1 t_20.2.1 t_20.2.2).bind fun t_26 => ((spec_GroupCube t_20.1 t_20.2.1 t_20.2.2).bind fun t_34 => (((cond (t_8.2 != t_14.2) (some true) ((laws_qInts t_8.1.Sizes t_14.1.Sizes).bind fun t_39 => (cond (!t_39) (some true) ((laws_qInts t_8.1.Cells t_14.1.Cells).bind fun t_41 => (cond (!t_41) (some true) (cond (t_26.2 != t_34.2) (some true) ((laws_qInts t_26.1.Sizes t_34.1.Sizes).bind fun t_43 => (cond (!t_43) (some true) ((laws_qInts t_26.1.Cells t_34.1.Cells).bind fun t_45 => some (!t_45)))))))))) : Option (Bool)).bind fun t_47 => (cond t_47 (some false) (((cond t_26.2 ((impl_IsCube t_26.1).bind fun t_48 => (cond (!t_48) (some true) (cond ((goLen t_26.1.Cells) == 0) (some true) ((goAt t_26.1.Cells (w64 ((goLen t_26.1.Cells) - 1))).bind fun e_50 => ((goAt t_20.1.Cells (w64 ((goLen t_20.1.Cells) - 1))).bind fun e_52 => some (e_50 != e_52)))))) (some false)) : Option (Bool)).bind fun t_54 => (cond t_54 (some false) (cond (!t_8.2) (some true) ((((goAt t_3.1.Sizes t_3.2.1).bind fun e_55 => ((impl_SliceOf t_3.1 t_3.2.1 e_55).bind fun t_62 => some (t_62.2, t_62.1))) : Option (Bool × impl_Cube)).bind fun (is_68, all_69) => (cond (!is_68) (some false) ((loopC (laws_FnSlices_l1 t_3) (0, all_69)).bind fun | .inl all_90 => ((loopC (laws_FnSlices_l2 all_90) 0).bind fun | .inl () => some true | .inr o => some o) | .inr o => some o)))))))))))))))

end Go.Gx.F
