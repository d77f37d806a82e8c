/- The plain functions that the walks come to. -/
import Derived.Test.YtiikfhfnkppeeaaGx
namespace Go.Gx.F
open Go.Gx
set_option linter.all false

structure spec_l1Cur where
  code : List (K .u8)
  at_ : Int
  seed : K .u64

instance : Rep spec_l1Cur where
  wd := 3
  rd m cs x := ∃ s1 : Sl, cs = [s1.v, (.int .i64 x.at_), (.int .u64 x.seed.v)] ∧ Rd m s1 x.code
  mono hm h := by
    obtain ⟨s1, rfl, h1⟩ := h
    exact ⟨s1, rfl, h1.mono hm⟩
  len h := by obtain ⟨s1, rfl, _⟩ := h; rfl
  one h := by obtain ⟨s1, rfl, _⟩ := h; rfl

instance : Rng spec_l1Cur := ⟨fun x => Rng.ok x.code ∧ Rng.ok x.at_ ∧ Rng.ok x.seed⟩

structure impl_Cube where
  Sizes : List Int
  Cells : List Int

instance : Rep impl_Cube where
  wd := 2
  rd m cs x := ∃ s1 s2 : Sl, cs = [s1.v, s2.v] ∧ Rd m s1 x.Sizes ∧ Rd m s2 x.Cells
  mono hm h := by
    obtain ⟨s1, s2, rfl, h1, h2⟩ := h
    exact ⟨s1, s2, rfl, h1.mono hm, h2.mono hm⟩
  len h := by obtain ⟨s1, s2, rfl, _⟩ := h; rfl
  one h := by obtain ⟨s1, s2, rfl, _⟩ := h; rfl

instance : Rng impl_Cube := ⟨fun x => Rng.ok x.Sizes ∧ Rng.ok x.Cells⟩

noncomputable def spec_l1Cur_next (p_c : spec_l1Cur) : Option (Int × spec_l1Cur) :=
  (((cond (decide (p_c.at_ < (goLen p_c.code))) ((goAt p_c.code p_c.at_).bind fun e_2 => some (w64 e_2.v)) (some 0)) : Option (Int)).bind fun b_4 => (cond (decide ((w64 (p_c.at_ + 1)) ≤ (goLen p_c.code))) (some (b_4, (spec_l1Cur.mk p_c.code (w64 (p_c.at_ + 1)) (⟨(IntKind.wrap .u64 ((IntKind.wrap .u64 ((IntKind.wrap .u64 (p_c.seed.v * 6364136223846793005)) + (IntKind.wrap .u64 b_4))) + 1442695040888963407))⟩ : K .u64)))) ((goShr .u64 (IntKind.wrap .u64 ((IntKind.wrap .u64 ((IntKind.wrap .u64 (p_c.seed.v * 6364136223846793005)) + (IntKind.wrap .u64 b_4))) + 1442695040888963407)) 40).bind fun t_5 => some ((w64 (goBits .and .u64 t_5 255)), (spec_l1Cur.mk p_c.code (w64 (p_c.at_ + 1)) (⟨(IntKind.wrap .u64 ((IntKind.wrap .u64 ((IntKind.wrap .u64 (p_c.seed.v * 6364136223846793005)) + (IntKind.wrap .u64 b_4))) + 1442695040888963407))⟩ : K .u64))))))

noncomputable def spec_l1Cur_pick (p_c : spec_l1Cur) (p_n : Int) : Option (Int × spec_l1Cur) :=
  (cond (decide (p_n ≤ 1)) (some (0, p_c)) ((spec_l1Cur_next p_c).bind fun t_3 => (((cond (decide (200 < p_n)) ((spec_l1Cur_next t_3.2).bind fun t_6 => some ((w64 ((w64 (t_3.1 * 256)) + t_6.1)), t_6.2)) (some (t_3.1, t_3.2))) : Option (Int × spec_l1Cur)).bind fun (x_8, p_c_9) => ((goRem x_8 p_n).bind fun t_11 => some (t_11, p_c_9)))))

noncomputable def spec_l1Cur_among (p_c : spec_l1Cur) (p_list : List Int) : Option (Int × spec_l1Cur) :=
  ((spec_l1Cur_pick p_c (goLen p_list)).bind fun t_4 => ((goAt p_list t_4.1).bind fun e_6 => some (e_6, t_4.2)))

noncomputable def spec_l1Cur_sizes_l1  : (List Int) × Int × spec_l1Cur → Option (Stp ((List Int) × Int × spec_l1Cur) ((List Int) × spec_l1Cur))
  | (out_5, k_7, p_c_8) => (cond (decide (0 < k_7)) ((spec_l1Cur_pick p_c_8 4).bind fun t_11 => ((goApp 8 out_5 ([(w64 (1 + t_11.1))] : List Int)).bind fun l_14 => some (.next (l_14, (w64 (k_7 - 1)), t_11.2)))) (some (.done (out_5, p_c_8))))

noncomputable def spec_l1Cur_sizes (p_c : spec_l1Cur) : Option ((List Int) × spec_l1Cur) :=
  ((spec_l1Cur_pick p_c 4).bind fun t_3 => ((loopC (spec_l1Cur_sizes_l1) (([] : List Int), t_3.1, t_3.2)).bind fun (out_16, p_c_18) => ((spec_l1Cur_pick p_c_18 24).bind fun t_21 => (((cond (t_21.1 == 0) ((spec_l1Cur_among t_21.2 ([0, 30, 31] : List Int)).bind fun t_45 => ((goApp 8 out_16 ([t_45.1] : List Int)).bind fun l_48 => some (.inl (l_48, t_45.2)))) (cond (t_21.1 == 1) ((spec_l1Cur_pick t_21.2 3).bind fun t_38 => ((goSub ([2, 2, 2, 2, 2] : List Int) 0 (w64 (3 + t_38.1))).bind fun l_40 => some (.inr (l_40, t_38.2)))) (cond (t_21.1 == 2) (some (.inr (([11, 12, 13] : List Int), t_21.2))) (cond (t_21.1 == 3) ((spec_l1Cur_pick t_21.2 2).bind fun t_29 => ((goAt ([([24, 19, 3] : List Int), ([2, 22, 28] : List Int)] : List (List Int)) t_29.1).bind fun e_31 => some (.inr (e_31, t_29.2)))) (some (.inl (out_16, t_21.2))))))) : Option (((List Int) × spec_l1Cur) ⊕ ((List Int) × spec_l1Cur))).bind fun | .inl (out_50, p_c_52) => some (out_50, p_c_52) | .inr o => some o))))

noncomputable def spec_l1In (p_n : Int) (p_lo : Int) (p_hi : Int) : Option (Bool) :=
  (((cond (decide (p_lo ≤ p_n)) (some (decide (p_n ≤ p_hi))) (some false)) : Option (Bool)).bind fun t_1 => some t_1)

noncomputable def spec_l1All_l1 (p_l : List Int) (p_lo : Int) (p_hi : Int) (t_2 : Int) : Option (Stp (Int) ((Unit) ⊕ (Bool))) :=
  (cond (decide (t_2 < (goLen p_l))) ((goAt p_l t_2).bind fun e_3 => ((spec_l1In e_3 p_lo p_hi).bind fun t_5 => (cond (!t_5) (some (.done (.inr false))) (some (.next (w64 (t_2 + 1))))))) (some (.done (.inl ()))))

noncomputable def spec_l1All (p_l : List Int) (p_lo : Int) (p_hi : Int) : Option (Bool) :=
  ((loopC (spec_l1All_l1 p_l p_lo p_hi) 0).bind fun | .inl () => some true | .inr o => some o)

noncomputable def spec_cbCount_l1 (p_sizes : List Int) : Int × Int → Option (Stp (Int × Int) (Int))
  | (n_4, t_5) => (cond (decide (t_5 < (goLen p_sizes))) ((goAt p_sizes t_5).bind fun e_6 => some (.next ((w64 (n_4 * (w64 (e_6 + 1)))), (w64 (t_5 + 1))))) (some (.done n_4)))

noncomputable def spec_cbCount (p_sizes : List Int) : Option (Int) :=
  (((cond (decide (4 < (goLen p_sizes))) (some true) ((spec_l1All p_sizes 1 30).bind fun t_2 => some (!t_2))) : Option (Bool)).bind fun t_3 => (cond t_3 (some 0) ((loopC (spec_cbCount_l1 p_sizes) (1, 0)).bind fun n_8 => (cond (decide (2000 < n_8)) (some 0) (some n_8)))))

noncomputable def spec_cbIndices_l1 (p_sizes : List Int) : Int × (List Int) × Int → Option (Stp (Int × (List Int) × Int) ((List Int)))
  | (i_4, out_5, d_7) => (cond (decide (0 ≤ d_7)) ((goAt p_sizes d_7).bind fun e_8 => ((goRem i_4 (w64 (e_8 + 1))).bind fun t_10 => ((goAt out_5 d_7).bind fun e_11 => ((goAt p_sizes d_7).bind fun e_14 => ((goQuo .i64 i_4 (w64 (e_14 + 1))).bind fun t_16 => some (.next (t_16, goSet out_5 d_7 t_10, (w64 (d_7 - 1))))))))) (some (.done out_5)))

noncomputable def spec_cbIndices (p_sizes : List Int) (p_i : Int) : Option ((List Int)) :=
  ((goMake 8 (goLen p_sizes) (0 : Int)).bind fun l_2 => ((loopC (spec_cbIndices_l1 p_sizes) (p_i, l_2, (w64 ((goLen p_sizes) - 1)))).bind fun out_17 => some out_17))

noncomputable def spec_cbBase_l2 (p_sizes : List Int) (t_6 : List Int) : Bool × Int → Option (Stp (Bool × Int) (Bool))
  | (base_9, t_10) => (cond (decide (t_10 < (goLen t_6))) ((goAt t_6 t_10).bind fun e_11 => (((cond base_9 ((goAt p_sizes t_10).bind fun e_13 => some (decide (e_11 < e_13))) (some false)) : Option (Bool)).bind fun base_15 => some (.next (base_15, (w64 (t_10 + 1)))))) (some (.done base_9)))

noncomputable def spec_cbBase_l1 (p_sizes : List Int) : (List Int) × Int → Option (Stp ((List Int) × Int) ((List Int)))
  | (out_2, i_4) => ((spec_cbCount p_sizes).bind fun t_5 => (cond (decide (i_4 < t_5)) ((spec_cbIndices p_sizes i_4).bind fun t_6 => ((loopC (spec_cbBase_l2 p_sizes t_6) (true, 0)).bind fun base_16 => (((cond base_16 ((goApp 8 out_2 ([i_4] : List Int)).bind fun l_18 => some l_18) (some out_2)) : Option ((List Int))).bind fun out_20 => some (.next (out_20, (w64 (i_4 + 1))))))) (some (.done out_2))))

noncomputable def spec_cbBase (p_sizes : List Int) : Option ((List Int)) :=
  ((loopC (spec_cbBase_l1 p_sizes) (([] : List Int), 0)).bind fun out_22 => some out_22)

noncomputable def spec_l1Cur_one (p_c : spec_l1Cur) (p_n : Int) : Option (Bool × spec_l1Cur) :=
  ((spec_l1Cur_pick p_c p_n).bind fun t_3 => some (t_3.1 == 0, t_3.2))

noncomputable def spec_l1Cur_baseCells_l1 (t_3 : List Int) : (List Int) × Int × spec_l1Cur → Option (Stp ((List Int) × Int × spec_l1Cur) ((List Int) × spec_l1Cur))
  | (out_6, t_8, p_c_9) => (cond (decide (t_8 < (goLen t_3))) ((spec_l1Cur_pick p_c_9 12).bind fun t_12 => ((spec_l1Cur_one t_12.2 6).bind fun t_15 => (((cond t_15.1 ((spec_l1Cur_pick t_15.2 4).bind fun t_18 => some ((w64 (-t_18.1)), t_18.2)) (some (t_12.1, t_15.2))) : Option (Int × spec_l1Cur)).bind fun (x_20, p_c_21) => ((goApp 8 out_6 ([x_20] : List Int)).bind fun l_24 => some (.next (l_24, (w64 (t_8 + 1)), p_c_21)))))) (some (.done (out_6, p_c_9))))

noncomputable def spec_l1Cur_baseCells (p_c : spec_l1Cur) (p_sizes : List Int) : Option ((List Int) × spec_l1Cur) :=
  ((spec_cbBase p_sizes).bind fun t_3 => ((loopC (spec_l1Cur_baseCells_l1 t_3) (([] : List Int), 0, p_c)).bind fun (out_26, p_c_28) => some (out_26, p_c_28)))

noncomputable def spec_DrawCubeOf (p_code : List (K .u8)) : Option ((List Int) × (List Int)) :=
  ((spec_l1Cur_sizes (spec_l1Cur.mk p_code 0 (⟨0⟩ : K .u64))).bind fun t_4 => ((spec_l1Cur_baseCells t_4.2 t_4.1).bind fun t_8 => ((spec_l1Cur_pick t_8.2 16).bind fun t_12 => (((cond (t_12.1 == 0) ((goApp 8 t_8.1 ([0] : List Int)).bind fun l_26 => some l_26) (((cond (t_12.1 == 1) (((cond (decide (0 < (goLen t_8.1))) ((spec_l1Cur_among t_12.2 ([1000000, 1000001, 999999] : List Int)).bind fun t_16 => ((goAt t_8.1 0).bind fun e_18 => some (goSet t_8.1 0 t_16.1))) (some t_8.1)) : Option ((List Int))).bind fun base_21 => some base_21) (some t_8.1)) : Option ((List Int))).bind fun base_23 => some base_23)) : Option ((List Int))).bind fun base_28 => some (t_4.1, base_28)))))

noncomputable def impl_cubeCells_l1 (p_sizes : List Int) : Int × Int → Option (Stp (Int × Int) ((Int) ⊕ (Int)))
  | (n_2, t_3) => (cond (decide (t_3 < (goLen p_sizes))) ((goAt p_sizes t_3).bind fun e_4 => (((cond (decide (e_4 < 1)) (some true) (some (decide (30 < e_4)))) : Option (Bool)).bind fun t_6 => (cond t_6 (some (.done (.inr 0))) (some (.next ((w64 (n_2 * (w64 (e_4 + 1)))), (w64 (t_3 + 1)))))))) (some (.done (.inl n_2))))

noncomputable def impl_cubeCells (p_sizes : List Int) : Option (Int) :=
  (cond (decide (4 < (goLen p_sizes))) (some 0) ((loopC (impl_cubeCells_l1 p_sizes) (1, 0)).bind fun | .inl n_7 => (cond (decide (2000 < n_7)) (some 0) (some n_7)) | .inr o => some o))

noncomputable def slices_Clone_int_int (p_s : List Int) : Option ((List Int)) :=
  ((goApp 8 ([] : List Int) p_s).bind fun l_3 => some l_3)

noncomputable def impl_strides_l1 (p_sizes : List Int) : (List Int) × Int × Int → Option (Stp ((List Int) × Int × Int) ((List Int)))
  | (out_4, n_6, d_7) => (cond (decide (0 ≤ d_7)) ((goAt out_4 d_7).bind fun e_8 => ((goAt p_sizes d_7).bind fun e_11 => some (.next (goSet out_4 d_7 n_6, (w64 (n_6 * (w64 (e_11 + 1)))), (w64 (d_7 - 1)))))) (some (.done out_4)))

noncomputable def impl_strides (p_sizes : List Int) : Option ((List Int)) :=
  ((goMake 8 (goLen p_sizes) (0 : Int)).bind fun l_2 => ((loopC (impl_strides_l1 p_sizes) (l_2, 1, (w64 ((goLen p_sizes) - 1)))).bind fun out_13 => some out_13))

noncomputable def impl_indexOf_l1 (t_4 : List Int) : Int × (List Int) × Int → Option (Stp (Int × (List Int) × Int) ((List Int)))
  | (i_7, out_8, t_10) => (cond (decide (t_10 < (goLen t_4))) ((goAt t_4 t_10).bind fun e_11 => ((goQuo .i64 i_7 e_11).bind fun t_13 => ((goAt out_8 t_10).bind fun e_14 => ((goRem i_7 e_11).bind fun t_17 => some (.next (t_17, goSet out_8 t_10 t_13, (w64 (t_10 + 1)))))))) (some (.done out_8)))

noncomputable def impl_indexOf (p_sizes : List Int) (p_i : Int) : Option ((List Int)) :=
  ((goMake 8 (goLen p_sizes) (0 : Int)).bind fun l_2 => ((impl_strides p_sizes).bind fun t_4 => ((loopC (impl_indexOf_l1 t_4) (p_i, l_2, 0)).bind fun out_18 => some out_18)))

noncomputable def impl_isBase_l1 (p_sizes : List Int) (p_index : List Int) (t_3 : Int) : Option (Stp (Int) ((Unit) ⊕ (Bool))) :=
  (cond (decide (t_3 < (goLen p_index))) ((goAt p_index t_3).bind fun e_4 => ((goAt p_sizes t_3).bind fun e_6 => (cond (e_4 == e_6) (some (.done (.inr false))) (some (.next (w64 (t_3 + 1))))))) (some (.done (.inl ()))))

noncomputable def impl_isBase (p_sizes : List Int) (p_index : List Int) : Option (Bool) :=
  ((loopC (impl_isBase_l1 p_sizes p_index) 0).bind fun | .inl () => some true | .inr o => some o)

noncomputable def impl_areCubeValues_l1 (p_cells : List Int) (t_2 : Int) : Option (Stp (Int) ((Unit) ⊕ (Bool))) :=
  (cond (decide (t_2 < (goLen p_cells))) ((goAt p_cells t_2).bind fun e_3 => (((cond (decide (e_3 < (-1000000))) (some true) (some (decide (1000000 < e_3)))) : Option (Bool)).bind fun t_5 => (cond t_5 (some (.done (.inr false))) (some (.next (w64 (t_2 + 1))))))) (some (.done (.inl ()))))

noncomputable def impl_areCubeValues (p_cells : List Int) : Option (Bool) :=
  ((loopC (impl_areCubeValues_l1 p_cells) 0).bind fun | .inl () => some true | .inr o => some o)

noncomputable def impl_cubeOf_l1 (p_sizes : List Int) (l_8 : List Int) : Int × Int → Option (Stp (Int × Int) (Int))
  | (n_11, t_12) => (cond (decide (t_12 < (goLen l_8))) ((impl_indexOf p_sizes t_12).bind fun t_13 => ((impl_isBase p_sizes t_13).bind fun t_16 => (((cond t_16 (some (w64 (n_11 + 1))) (some n_11)) : Option (Int)).bind fun n_18 => some (.next (n_18, (w64 (t_12 + 1))))))) (some (.done n_11)))

noncomputable def impl_cubeOf_l2 (p_sizes : List Int) (p_base : List Int) (l_8 : List Int) : Int × Int × impl_Cube → Option (Stp (Int × Int × impl_Cube) (impl_Cube))
  | (k_22, t_23, c_24) => (cond (decide (t_23 < (goLen l_8))) ((impl_indexOf p_sizes t_23).bind fun t_27 => ((impl_isBase p_sizes t_27).bind fun t_30 => (((cond t_30 ((goAt p_base k_22).bind fun e_32 => ((goAt c_24.Cells t_23).bind fun e_34 => some ((w64 (k_22 + 1)), (impl_Cube.mk c_24.Sizes (goSet c_24.Cells t_23 e_32))))) (some (k_22, c_24))) : Option (Int × impl_Cube)).bind fun (k_37, c_38) => some (.next (k_37, (w64 (t_23 + 1)), c_38))))) (some (.done c_24)))

noncomputable def impl_cubeOf_l5 (p_sizes : List Int) (t_47 : Int) (e_52 : Int) (t_54 : Int) : Int × impl_Cube → Option (Stp (Int × impl_Cube) (impl_Cube))
  | (x_74, c_75) => ((goAt p_sizes t_47).bind fun e_78 => (cond (decide (x_74 ≤ e_78)) ((goAt c_75.Cells t_54).bind fun e_80 => ((goAt c_75.Cells (w64 (t_54 - (w64 (x_74 * e_52))))).bind fun e_82 => ((goAt c_75.Cells t_54).bind fun e_84 => some (.next ((w64 (x_74 + 1)), (impl_Cube.mk c_75.Sizes (goSet c_75.Cells t_54 (w64 (e_80 + e_82))))))))) (some (.done c_75))))

noncomputable def impl_cubeOf_l4 (p_sizes : List Int) (t_47 : Int) (c_48 : impl_Cube) (e_52 : Int) : Int × impl_Cube → Option (Stp (Int × impl_Cube) (impl_Cube))
  | (t_54, c_55) => (cond (decide (t_54 < (goLen c_48.Cells))) ((((impl_indexOf p_sizes t_54).bind fun t_59 => ((((goAt t_59 t_47).bind fun e_62 => ((goAt p_sizes t_47).bind fun e_64 => (cond (e_62 != e_64) (some true) ((goSub p_sizes (w64 (t_47 + 1)) (goLen p_sizes)).bind fun l_66 => ((goSub t_59 (w64 (t_47 + 1)) (goLen t_59)).bind fun l_69 => ((impl_isBase l_66 l_69).bind fun t_71 => some (!t_71))))))) : Option (Bool)).bind fun t_72 => (cond t_72 (some c_55) ((loopC (impl_cubeOf_l5 p_sizes t_47 e_52 t_54) (1, c_55)).bind fun c_87 => some c_87)))) : Option (impl_Cube)).bind fun c_90 => some (.next ((w64 (t_54 + 1)), c_90))) (some (.done c_55)))

noncomputable def impl_cubeOf_l3 (p_sizes : List Int) (t_44 : List Int) : Int × impl_Cube → Option (Stp (Int × impl_Cube) (impl_Cube))
  | (t_47, c_48) => (cond (decide (t_47 < (goLen t_44))) ((goAt t_44 t_47).bind fun e_52 => ((loopC (impl_cubeOf_l4 p_sizes t_47 c_48 e_52) (0, c_48)).bind fun c_94 => some (.next ((w64 (t_47 + 1)), c_94)))) (some (.done c_48)))

noncomputable def impl_cubeOf (p_sizes : List Int) (p_base : List Int) : Option (impl_Cube × Bool) :=
  ((slices_Clone_int_int p_sizes).bind fun t_4 => ((impl_cubeCells p_sizes).bind fun t_7 => ((goMake 8 t_7 (0 : Int)).bind fun l_8 => ((loopC (impl_cubeOf_l1 p_sizes l_8) (0, 0)).bind fun n_19 => (((cond (n_19 != (goLen p_base)) (some true) ((impl_areCubeValues p_base).bind fun t_20 => some (!t_20))) : Option (Bool)).bind fun t_21 => (cond t_21 (some ((impl_Cube.mk ([] : List Int) ([] : List Int)), false)) ((loopC (impl_cubeOf_l2 p_sizes p_base l_8) (0, 0, (impl_Cube.mk t_4 l_8))).bind fun c_41 => ((impl_strides p_sizes).bind fun t_44 => ((loopC (impl_cubeOf_l3 p_sizes t_44) (0, c_41)).bind fun c_98 => ((impl_areCubeValues c_98.Cells).bind fun t_102 => (cond (!t_102) (some ((impl_Cube.mk ([] : List Int) ([] : List Int)), false)) (some (c_98, true)))))))))))))

noncomputable def impl_CubeOf (p_sizes : List Int) (p_base : List Int) : Option (impl_Cube × Bool) :=
  ((impl_cubeCells p_sizes).bind fun t_4 => (cond (t_4 == 0) (some ((impl_Cube.mk ([] : List Int) ([] : List Int)), false)) ((impl_cubeOf p_sizes p_base).bind fun t_5 => some (t_5.1, t_5.2))))

noncomputable def spec_l1Own (p_l : List Int) : Option ((List Int)) :=
  ((goApp 8 ([] : List Int) p_l).bind fun l_3 => some l_3)

noncomputable def spec_cbAt_l1 (p_sizes : List Int) (p_index : List Int) : Int × Int → Option (Stp (Int × Int) (Int))
  | (n_3, t_4) => (cond (decide (t_4 < (goLen p_sizes))) ((goAt p_sizes t_4).bind fun e_5 => ((goAt p_index t_4).bind fun e_7 => some (.next ((w64 ((w64 (n_3 * (w64 (e_5 + 1)))) + e_7)), (w64 (t_4 + 1)))))) (some (.done n_3)))

noncomputable def spec_cbAt (p_sizes : List Int) (p_index : List Int) : Option (Int) :=
  ((loopC (spec_cbAt_l1 p_sizes p_index) (0, 0)).bind fun n_9 => some n_9)

noncomputable def spec_cbOf_l3 (p_sizes : List Int) (mask_23 : Int) (t_28 : List Int) : (List Int) × Int → Option (Stp ((List Int) × Int) ((List Int)))
  | (at_32, t_34) => (cond (decide (t_34 < (goLen t_28))) ((goShr .i64 mask_23 (IntKind.wrap .u64 t_34)).bind fun t_35 => (((cond ((goBits .and .i64 t_35 1) == 1) ((goAt p_sizes t_34).bind fun e_36 => ((goAt at_32 t_34).bind fun e_38 => some (goSet at_32 t_34 e_36))) (some at_32)) : Option ((List Int))).bind fun at_41 => some (.next (at_41, (w64 (t_34 + 1)))))) (some (.done at_32)))

noncomputable def spec_cbOf_l2 (p_sizes : List Int) (p_base : List Int) (t_14 : Int) (t_20 : List Int) : Int × impl_Cube → Option (Stp (Int × impl_Cube) (impl_Cube))
  | (mask_23, c_24) => ((goShl .i64 1 (IntKind.wrap .u64 (goLen p_sizes))).bind fun t_27 => (cond (decide (mask_23 < t_27)) ((spec_l1Own t_20).bind fun t_28 => ((loopC (spec_cbOf_l3 p_sizes mask_23 t_28) (t_28, 0)).bind fun at_43 => ((goAt p_base t_14).bind fun e_51 => ((spec_cbAt p_sizes at_43).bind fun t_55 => ((goAt c_24.Cells t_55).bind fun e_57 => ((goAt c_24.Cells t_55).bind fun e_59 => some (.next ((w64 (mask_23 + 1)), (impl_Cube.mk c_24.Sizes (goSet c_24.Cells t_55 (w64 (e_57 + e_51)))))))))))) (some (.done c_24))))

noncomputable def spec_cbOf_l1 (p_sizes : List Int) (p_base : List Int) (t_11 : List Int) : Int × impl_Cube → Option (Stp (Int × impl_Cube) (impl_Cube))
  | (t_14, c_15) => (cond (decide (t_14 < (goLen t_11))) ((goAt t_11 t_14).bind fun e_18 => ((spec_cbIndices p_sizes e_18).bind fun t_20 => ((loopC (spec_cbOf_l2 p_sizes p_base t_14 t_20) (0, c_15)).bind fun c_62 => some (.next ((w64 (t_14 + 1)), c_62))))) (some (.done c_15)))

noncomputable def spec_cbOf (p_sizes : List Int) (p_base : List Int) : Option (impl_Cube) :=
  ((spec_l1Own p_sizes).bind fun t_4 => ((spec_cbCount p_sizes).bind fun t_7 => ((goMake 8 t_7 (0 : Int)).bind fun l_8 => ((spec_cbBase p_sizes).bind fun t_11 => ((loopC (spec_cbOf_l1 p_sizes p_base t_11) (0, (impl_Cube.mk t_4 l_8))).bind fun c_65 => some c_65)))))

noncomputable def spec_cbForm (p_c : impl_Cube) : Option (Bool) :=
  ((spec_cbCount p_c.Sizes).bind fun t_4 => (((cond (decide (0 < t_4)) (cond ((goLen p_c.Cells) == t_4) ((spec_l1All p_c.Cells (-1000000) 1000000).bind fun t_5 => some t_5) (some false)) (some false)) : Option (Bool)).bind fun t_6 => some t_6))

noncomputable def spec_cbParts_l1 (p_sizes : List Int) (p_d : Int) : (List Int) × (List Int) × Int → Option (Stp ((List Int) × (List Int) × Int) ((List Int)))
  | (index_5, out_7, k_9) => ((goAt p_sizes p_d).bind fun e_10 => (cond (decide (k_9 < e_10)) ((goAt index_5 p_d).bind fun e_12 => ((spec_cbAt p_sizes (goSet index_5 p_d k_9)).bind fun t_15 => ((goApp 8 out_7 ([t_15] : List Int)).bind fun l_18 => some (.next (goSet index_5 p_d k_9, l_18, (w64 (k_9 + 1))))))) (some (.done out_7))))

noncomputable def spec_cbParts (p_sizes : List Int) (p_i : Int) (p_d : Int) : Option ((List Int)) :=
  ((spec_cbIndices p_sizes p_i).bind fun t_2 => ((loopC (spec_cbParts_l1 p_sizes p_d) (t_2, ([] : List Int), 0)).bind fun out_20 => some out_20))

noncomputable def spec_cbBroken_l2 (p_c : impl_Cube) (t_12 : List Int) : Int × Int → Option (Stp (Int × Int) (Int))
  | (sum_15, t_16) => (cond (decide (t_16 < (goLen t_12))) ((goAt t_12 t_16).bind fun e_17 => ((goAt p_c.Cells e_17).bind fun e_19 => some (.next ((w64 (sum_15 + e_19)), (w64 (t_16 + 1)))))) (some (.done sum_15)))

noncomputable def spec_cbBroken_l1 (p_c : impl_Cube) (p_i : Int) (t_4 : List Int) (t_7 : Int) : Option (Stp (Int) ((Unit) ⊕ (Bool))) :=
  (cond (decide (t_7 < (goLen t_4))) ((((goAt t_4 t_7).bind fun e_8 => ((goAt p_c.Sizes t_7).bind fun e_10 => (cond (e_8 != e_10) (some (.inl ())) ((spec_cbParts p_c.Sizes p_i t_7).bind fun t_12 => ((loopC (spec_cbBroken_l2 p_c t_12) (0, 0)).bind fun sum_21 => ((goAt p_c.Cells p_i).bind fun e_22 => (cond (sum_21 != e_22) (some (.inr (.done (.inr true)))) (some (.inl ()))))))))) : Option ((Unit) ⊕ (Stp (Int) ((Unit) ⊕ (Bool))))).bind fun | .inl () => some (.next (w64 (t_7 + 1))) | .inr o => some o) (some (.done (.inl ()))))

noncomputable def spec_cbBroken (p_c : impl_Cube) (p_i : Int) : Option (Bool) :=
  ((spec_cbIndices p_c.Sizes p_i).bind fun t_4 => ((loopC (spec_cbBroken_l1 p_c p_i t_4) 0).bind fun | .inl () => some false | .inr o => some o))

noncomputable def spec_cbFirst_l1 (p_c : impl_Cube) (t_4 : Int) : Option (Stp (Int) ((Unit) ⊕ (Int))) :=
  (cond (decide (t_4 < (goLen p_c.Cells))) ((spec_cbBroken p_c t_4).bind fun t_5 => (cond t_5 (some (.done (.inr t_4))) (some (.next (w64 (t_4 + 1)))))) (some (.done (.inl ()))))

noncomputable def spec_cbFirst (p_c : impl_Cube) : Option (Int) :=
  ((loopC (spec_cbFirst_l1 p_c) 0).bind fun | .inl () => some (goLen p_c.Cells) | .inr o => some o)

noncomputable def spec_cbGood (p_c : impl_Cube) : Option (Bool) :=
  ((((spec_cbForm p_c).bind fun t_4 => (cond t_4 ((spec_cbFirst p_c).bind fun t_8 => some (t_8 == (goLen p_c.Cells))) (some false))) : Option (Bool)).bind fun t_9 => some t_9)

noncomputable def spec_cbIf (p_c : impl_Cube) : Option (impl_Cube × Bool) :=
  ((spec_cbGood p_c).bind fun t_5 => (cond (!t_5) (some ((impl_Cube.mk ([] : List Int) ([] : List Int)), false)) (some (p_c, true))))

noncomputable def spec_CubeOf (p_sizes : List Int) (p_base : List Int) : Option (impl_Cube × Bool) :=
  ((((spec_cbCount p_sizes).bind fun t_4 => (cond (t_4 == 0) (some true) ((spec_cbBase p_sizes).bind fun t_5 => (cond ((goLen p_base) != (goLen t_5)) (some true) ((spec_l1All p_base (-1000000) 1000000).bind fun t_8 => some (!t_8)))))) : Option (Bool)).bind fun t_9 => (cond t_9 (some ((impl_Cube.mk ([] : List Int) ([] : List Int)), false)) ((spec_cbOf p_sizes p_base).bind fun t_10 => ((spec_cbIf t_10).bind fun t_16 => some (t_16.1, t_16.2)))))

noncomputable def spec_l1Cur_cube (p_c : spec_l1Cur) : Option (impl_Cube × spec_l1Cur) :=
  ((spec_l1Cur_sizes p_c).bind fun t_4 => ((spec_cbCount t_4.1).bind fun t_7 => (cond (t_7 == 0) (some ((impl_Cube.mk t_4.1 ([1] : List Int)), t_4.2)) ((spec_l1Cur_baseCells t_4.2 t_4.1).bind fun t_9 => ((spec_cbOf t_4.1 t_9.1).bind fun t_12 => ((spec_l1Cur_pick t_9.2 16).bind fun t_19 => (((cond (t_19.1 == 0) ((spec_l1Cur_pick t_19.2 (goLen t_12.Cells)).bind fun t_48 => ((goAt t_12.Cells t_48.1).bind fun e_50 => ((goAt t_12.Cells t_48.1).bind fun e_52 => some (t_48.2, (impl_Cube.mk t_12.Sizes (goSet t_12.Cells t_48.1 (w64 (e_50 + 1)))))))) (((cond (t_19.1 == 1) ((goApp 8 t_12.Cells ([0] : List Int)).bind fun l_40 => some (t_19.2, (impl_Cube.mk t_12.Sizes l_40))) (((cond (t_19.1 == 2) ((((spec_l1Cur_among t_19.2 ([1000000, 1000001, -1000000] : List Int)).bind fun t_24 => ((goAt t_12.Cells 0).bind fun e_26 => some (t_24.2, (impl_Cube.mk t_12.Sizes (goSet t_12.Cells 0 t_24.1))))) : Option (spec_l1Cur × impl_Cube)).bind fun (p_c_29, x_31) => some (p_c_29, x_31)) (some (t_19.2, t_12))) : Option (spec_l1Cur × impl_Cube)).bind fun (p_c_34, x_36) => some (p_c_34, x_36))) : Option (spec_l1Cur × impl_Cube)).bind fun (p_c_42, x_44) => some (p_c_42, x_44))) : Option (spec_l1Cur × impl_Cube)).bind fun (p_c_55, x_57) => some (x_57, p_c_55))))))))

noncomputable def spec_DrawMarginOf_l1 (t_5 : impl_Cube × spec_l1Cur) : (List Int) × Int × spec_l1Cur → Option (Stp ((List Int) × Int × spec_l1Cur) ((List Int) × spec_l1Cur))
  | (dims_10, t_12, t_13) => (cond (decide (t_12 < (goLen t_5.1.Sizes))) ((spec_l1Cur_one t_13 2).bind fun t_16 => (((cond t_16.1 ((goApp 8 dims_10 ([t_12] : List Int)).bind fun l_19 => some l_19) (some dims_10)) : Option ((List Int))).bind fun dims_21 => some (.next (dims_21, (w64 (t_12 + 1)), t_16.2)))) (some (.done (dims_10, t_13))))

noncomputable def spec_DrawMarginOf (p_code : List (K .u8)) : Option (impl_Cube × (List Int)) :=
  ((spec_l1Cur_cube (spec_l1Cur.mk p_code 0 (⟨0⟩ : K .u64))).bind fun t_5 => ((loopC (spec_DrawMarginOf_l1 t_5) (([] : List Int), 0, t_5.2)).bind fun (dims_23, t_25) => ((spec_l1Cur_one t_25 12).bind fun t_28 => (((cond t_28.1 ((spec_l1Cur_among t_28.2 ([-1, 0, 4] : List Int)).bind fun t_32 => ((goApp 8 dims_23 ([t_32.1] : List Int)).bind fun l_35 => some l_35)) (some dims_23)) : Option ((List Int))).bind fun dims_37 => some (t_5.1, dims_37)))))

noncomputable def impl_hasRightForm (p_c : impl_Cube) : Option (Bool) :=
  ((impl_cubeCells p_c.Sizes).bind fun t_4 => (((cond (decide (0 < t_4)) (cond ((goLen p_c.Cells) == t_4) ((impl_areCubeValues p_c.Cells).bind fun t_5 => some t_5) (some false)) (some false)) : Option (Bool)).bind fun t_6 => some t_6))

noncomputable def impl_firstBreak_l3 (p_c : impl_Cube) (t_4 : List Int) (t_7 : Int) (t_13 : Int) (e_14 : Int) : Int × Int → Option (Stp (Int × Int) (Int))
  | (sum_18, k_19) => (cond (decide (k_19 ≤ e_14)) ((goAt t_4 t_13).bind fun e_20 => ((goAt p_c.Cells (w64 (t_7 - (w64 (k_19 * e_20))))).bind fun e_22 => some (.next ((w64 (sum_18 + e_22)), (w64 (k_19 + 1)))))) (some (.done sum_18)))

noncomputable def impl_firstBreak_l2 (p_c : impl_Cube) (t_4 : List Int) (t_7 : Int) (e_8 : Int) (t_10 : List Int) (t_13 : Int) : Option (Stp (Int) ((Unit) ⊕ (Stp (Int) ((Unit) ⊕ (Int))))) :=
  (cond (decide (t_13 < (goLen t_10))) ((((goAt t_10 t_13).bind fun e_14 => ((goAt p_c.Sizes t_13).bind fun e_16 => (cond (e_14 != e_16) (some (.inl ())) ((loopC (impl_firstBreak_l3 p_c t_4 t_7 t_13 e_14) (0, 1)).bind fun sum_24 => (cond (sum_24 != e_8) (some (.inr (.done (.inr (.done (.inr t_7)))))) (some (.inl ()))))))) : Option ((Unit) ⊕ (Stp (Int) ((Unit) ⊕ (Stp (Int) ((Unit) ⊕ (Int))))))).bind fun | .inl () => some (.next (w64 (t_13 + 1))) | .inr o => some o) (some (.done (.inl ()))))

noncomputable def impl_firstBreak_l1 (p_c : impl_Cube) (t_4 : List Int) (t_7 : Int) : Option (Stp (Int) ((Unit) ⊕ (Int))) :=
  (cond (decide (t_7 < (goLen p_c.Cells))) ((goAt p_c.Cells t_7).bind fun e_8 => ((impl_indexOf p_c.Sizes t_7).bind fun t_10 => ((loopC (impl_firstBreak_l2 p_c t_4 t_7 e_8 t_10) 0).bind fun | .inl () => some (.next (w64 (t_7 + 1))) | .inr o => some o))) (some (.done (.inl ()))))

noncomputable def impl_firstBreak (p_c : impl_Cube) : Option (Int) :=
  ((impl_strides p_c.Sizes).bind fun t_4 => ((loopC (impl_firstBreak_l1 p_c t_4) 0).bind fun | .inl () => some (goLen p_c.Cells) | .inr o => some o))

noncomputable def impl_IsCube (p_c : impl_Cube) : Option (Bool) :=
  ((((impl_hasRightForm p_c).bind fun t_4 => (cond t_4 ((impl_firstBreak p_c).bind fun t_8 => some (t_8 == (goLen p_c.Cells))) (some false))) : Option (Bool)).bind fun t_9 => some t_9)

noncomputable def impl_cellOf_l1 (p_index : List Int) (t_3 : List Int) : Int × Int → Option (Stp (Int × Int) (Int))
  | (i_6, t_7) => (cond (decide (t_7 < (goLen t_3))) ((goAt t_3 t_7).bind fun e_8 => ((goAt p_index t_7).bind fun e_10 => some (.next ((w64 (i_6 + (w64 (e_10 * e_8)))), (w64 (t_7 + 1)))))) (some (.done i_6)))

noncomputable def impl_cellOf (p_sizes : List Int) (p_index : List Int) : Option (Int) :=
  ((impl_strides p_sizes).bind fun t_3 => ((loopC (impl_cellOf_l1 p_index t_3) (0, 0)).bind fun i_12 => some i_12))

noncomputable def impl_taken_l1 (p_c : impl_Cube) (p_dims : List Int) : Int × impl_Cube → Option (Stp (Int × impl_Cube) (impl_Cube))
  | (t_8, out_9) => (cond (decide (t_8 < (goLen p_dims))) ((goAt p_dims t_8).bind fun e_12 => ((goAt p_c.Sizes e_12).bind fun e_14 => ((goApp 8 out_9.Sizes ([e_14] : List Int)).bind fun l_17 => some (.next ((w64 (t_8 + 1)), (impl_Cube.mk l_17 out_9.Cells)))))) (some (.done out_9)))

noncomputable def impl_taken_l3 (p_dims : List Int) (t_33 : List Int) : (List Int) × Int → Option (Stp ((List Int) × Int) ((List Int)))
  | (index_37, t_39) => (cond (decide (t_39 < (goLen t_33))) ((goAt t_33 t_39).bind fun e_40 => ((goAt p_dims t_39).bind fun e_42 => ((goAt index_37 e_42).bind fun e_44 => some (.next (goSet index_37 e_42 e_40, (w64 (t_39 + 1))))))) (some (.done index_37)))

noncomputable def impl_taken_l2 (p_c : impl_Cube) (p_dims : List Int) (p_fixed : List Int) (l_24 : List Int) : Int × impl_Cube → Option (Stp (Int × impl_Cube) (impl_Cube))
  | (t_26, out_27) => (cond (decide (t_26 < (goLen l_24))) ((slices_Clone_int_int p_fixed).bind fun t_30 => ((impl_indexOf out_27.Sizes t_26).bind fun t_33 => ((loopC (impl_taken_l3 p_dims t_33) (t_30, 0)).bind fun index_47 => ((impl_cellOf p_c.Sizes index_47).bind fun t_49 => ((goAt p_c.Cells t_49).bind fun e_51 => ((goAt out_27.Cells t_26).bind fun e_53 => some (.next ((w64 (t_26 + 1)), (impl_Cube.mk out_27.Sizes (goSet out_27.Cells t_26 e_51)))))))))) (some (.done out_27)))

noncomputable def impl_taken (p_c : impl_Cube) (p_dims : List Int) (p_fixed : List Int) : Option (impl_Cube) :=
  ((loopC (impl_taken_l1 p_c p_dims) (0, (impl_Cube.mk ([] : List Int) ([] : List Int)))).bind fun out_19 => ((impl_cubeCells out_19.Sizes).bind fun t_22 => ((goMake 8 t_22 (0 : Int)).bind fun l_24 => ((loopC (impl_taken_l2 p_c p_dims p_fixed l_24) (0, (impl_Cube.mk out_19.Sizes l_24))).bind fun out_56 => some out_56))))

noncomputable def impl_MarginOf_l1 (p_c : impl_Cube) (p_dims : List Int) : Int × Int → Option (Stp (Int × Int) ((Unit) ⊕ (impl_Cube × Bool)))
  | (last_6, t_7) => (cond (decide (t_7 < (goLen p_dims))) ((goAt p_dims t_7).bind fun e_8 => (((cond (decide (e_8 ≤ last_6)) (some true) (some (decide ((goLen p_c.Sizes) ≤ e_8)))) : Option (Bool)).bind fun t_10 => (cond t_10 (some (.done (.inr ((impl_Cube.mk ([] : List Int) ([] : List Int)), false)))) (some (.next (e_8, (w64 (t_7 + 1)))))))) (some (.done (.inl ()))))

noncomputable def impl_MarginOf (p_c : impl_Cube) (p_dims : List Int) : Option (impl_Cube × Bool) :=
  ((loopC (impl_MarginOf_l1 p_c p_dims) (-1, 0)).bind fun | .inl () => ((impl_IsCube p_c).bind fun t_11 => (cond (!t_11) (some ((impl_Cube.mk ([] : List Int) ([] : List Int)), false)) ((impl_taken p_c p_dims p_c.Sizes).bind fun t_12 => some (t_12, true)))) | .inr o => some o)

noncomputable def spec_l1Rising_l1 (p_l : List Int) (p_lo : Int) (p_hi : Int) (t_2 : Int) : Option (Stp (Int) ((Unit) ⊕ (Bool))) :=
  (cond (decide (t_2 < (goLen p_l))) ((goAt p_l t_2).bind fun e_3 => ((((spec_l1In e_3 p_lo p_hi).bind fun t_5 => (cond (!t_5) (some true) (cond (decide (0 < t_2)) ((goAt p_l (w64 (t_2 - 1))).bind fun e_6 => some (decide (e_3 ≤ e_6))) (some false)))) : Option (Bool)).bind fun t_8 => (cond t_8 (some (.done (.inr false))) (some (.next (w64 (t_2 + 1))))))) (some (.done (.inl ()))))

noncomputable def spec_l1Rising (p_l : List Int) (p_lo : Int) (p_hi : Int) : Option (Bool) :=
  ((loopC (spec_l1Rising_l1 p_l p_lo p_hi) 0).bind fun | .inl () => some true | .inr o => some o)

noncomputable def spec_sPick_l1 (p_values : List Int) (p_vars : List Int) : (List Int) × Int → Option (Stp ((List Int) × Int) ((List Int)))
  | (out_3, t_5) => (cond (decide (t_5 < (goLen p_vars))) ((goAt p_vars t_5).bind fun e_6 => ((goAt p_values e_6).bind fun e_8 => ((goApp 8 out_3 ([e_8] : List Int)).bind fun l_11 => some (.next (l_11, (w64 (t_5 + 1))))))) (some (.done out_3)))

noncomputable def spec_sPick (p_values : List Int) (p_vars : List Int) : Option ((List Int)) :=
  ((loopC (spec_sPick_l1 p_values p_vars) (([] : List Int), 0)).bind fun out_13 => some out_13)

noncomputable def spec_cbFrom_l2 (p_dims : List Int) (t_20 : List Int) : (List Int) × Int → Option (Stp ((List Int) × Int) ((List Int)))
  | (at_24, t_26) => (cond (decide (t_26 < (goLen t_20))) ((goAt t_20 t_26).bind fun e_27 => ((goAt p_dims t_26).bind fun e_29 => ((goAt at_24 e_29).bind fun e_31 => some (.next (goSet at_24 e_29 e_27, (w64 (t_26 + 1))))))) (some (.done at_24)))

noncomputable def spec_cbFrom_l1 (p_c : impl_Cube) (p_dims : List Int) (p_fixed : List Int) : Int × impl_Cube → Option (Stp (Int × impl_Cube) (impl_Cube))
  | (i_11, out_12) => ((spec_cbCount out_12.Sizes).bind fun t_15 => (cond (decide (i_11 < t_15)) ((spec_l1Own p_fixed).bind fun t_17 => ((spec_cbIndices out_12.Sizes i_11).bind fun t_20 => ((loopC (spec_cbFrom_l2 p_dims t_20) (t_17, 0)).bind fun at_34 => ((((spec_cbAt p_c.Sizes at_34).bind fun t_36 => ((goAt p_c.Cells t_36).bind fun e_38 => ((goApp 8 out_12.Cells ([e_38] : List Int)).bind fun l_41 => some (impl_Cube.mk out_12.Sizes l_41)))) : Option (impl_Cube)).bind fun out_43 => some (.next ((w64 (i_11 + 1)), out_43)))))) (some (.done out_12))))

noncomputable def spec_cbFrom (p_c : impl_Cube) (p_dims : List Int) (p_fixed : List Int) : Option (impl_Cube) :=
  ((spec_sPick p_c.Sizes p_dims).bind fun t_7 => ((loopC (spec_cbFrom_l1 p_c p_dims p_fixed) (0, (impl_Cube.mk t_7 ([] : List Int)))).bind fun out_46 => some out_46))

noncomputable def spec_MarginOf (p_c : impl_Cube) (p_dims : List Int) : Option (impl_Cube × Bool) :=
  ((((spec_cbGood p_c).bind fun t_6 => (cond (!t_6) (some true) ((spec_l1Rising p_dims 0 (w64 ((goLen p_c.Sizes) - 1))).bind fun t_7 => some (!t_7)))) : Option (Bool)).bind fun t_8 => (cond t_8 (some ((impl_Cube.mk ([] : List Int) ([] : List Int)), false)) ((spec_cbFrom p_c p_dims p_c.Sizes).bind fun t_9 => some (t_9, true))))

noncomputable def laws_qInts_l1 (p_a : List Int) (p_b : List Int) (t_3 : Int) : Option (Stp (Int) ((Unit) ⊕ (Bool))) :=
  (cond (decide (t_3 < (goLen p_a))) ((goAt p_a t_3).bind fun e_4 => ((goAt p_b t_3).bind fun e_6 => (cond (e_4 != e_6) (some (.done (.inr false))) (some (.next (w64 (t_3 + 1))))))) (some (.done (.inl ()))))

noncomputable def laws_qInts (p_a : List Int) (p_b : List Int) : Option (Bool) :=
  (cond ((goLen p_a) != (goLen p_b)) (some false) ((loopC (laws_qInts_l1 p_a p_b) 0).bind fun | .inl () => some true | .inr o => some o))

noncomputable def impl_baseOf_l1 (p_c : impl_Cube) : (List Int) × Int → Option (Stp ((List Int) × Int) ((List Int)))
  | (base_4, t_6) => (cond (decide (t_6 < (goLen p_c.Cells))) ((goAt p_c.Cells t_6).bind fun e_7 => ((impl_indexOf p_c.Sizes t_6).bind fun t_9 => ((impl_isBase p_c.Sizes t_9).bind fun t_12 => (((cond t_12 ((goApp 8 base_4 ([e_7] : List Int)).bind fun l_15 => some l_15) (some base_4)) : Option ((List Int))).bind fun base_17 => some (.next (base_17, (w64 (t_6 + 1)))))))) (some (.done base_4)))

noncomputable def impl_baseOf (p_c : impl_Cube) : Option ((List Int)) :=
  ((loopC (impl_baseOf_l1 p_c) (([] : List Int), 0)).bind fun base_19 => some base_19)

noncomputable def impl_BaseOf (p_c : impl_Cube) : Option ((List Int) × Bool) :=
  ((impl_IsCube p_c).bind fun t_4 => (cond (!t_4) (some (([] : List Int), false)) ((impl_baseOf p_c).bind fun t_5 => some (t_5, true))))

noncomputable def impl_FirstBreak (p_c : impl_Cube) : Option (Int × Bool) :=
  ((impl_hasRightForm p_c).bind fun t_4 => (cond (!t_4) (some (0, false)) ((impl_firstBreak p_c).bind fun t_5 => some (t_5, true))))

noncomputable def impl_CubeCell_l1 (p_c : impl_Cube) (p_index : List Int) (t_7 : Int) : Option (Stp (Int) ((Unit) ⊕ (Int × Bool))) :=
  (cond (decide (t_7 < (goLen p_index))) ((goAt p_index t_7).bind fun e_8 => (((cond (decide (e_8 < 0)) (some true) ((goAt p_c.Sizes t_7).bind fun e_10 => some (decide (e_10 < e_8)))) : Option (Bool)).bind fun t_12 => (cond t_12 (some (.done (.inr (0, false)))) (some (.next (w64 (t_7 + 1))))))) (some (.done (.inl ()))))

noncomputable def impl_CubeCell (p_c : impl_Cube) (p_index : List Int) : Option (Int × Bool) :=
  ((((impl_IsCube p_c).bind fun t_5 => (cond (!t_5) (some true) (some ((goLen p_index) != (goLen p_c.Sizes))))) : Option (Bool)).bind fun t_6 => (cond t_6 (some (0, false)) ((loopC (impl_CubeCell_l1 p_c p_index) 0).bind fun | .inl () => ((impl_cellOf p_c.Sizes p_index).bind fun t_13 => ((goAt p_c.Cells t_13).bind fun e_14 => some (e_14, true))) | .inr o => some o)))

noncomputable def laws_qSum_l1 (p_l : List Int) : Int × Int → Option (Stp (Int × Int) (Int))
  | (n_2, t_3) => (cond (decide (t_3 < (goLen p_l))) ((goAt p_l t_3).bind fun e_4 => some (.next ((w64 (n_2 + e_4)), (w64 (t_3 + 1))))) (some (.done n_2)))

noncomputable def laws_qSum (p_l : List Int) : Option (Int) :=
  ((loopC (laws_qSum_l1 p_l) (0, 0)).bind fun n_6 => some n_6)

noncomputable def laws_FnCubes (p_code : List (K .u8)) (p_more : List (K .u8)) : Option (Bool) :=
  (cond (decide (1048576 < (w64 ((goLen p_code) + (goLen p_more))))) (some true) ((spec_DrawCubeOf p_code).bind fun t_3 => ((impl_CubeOf t_3.1 t_3.2).bind fun t_8 => ((spec_CubeOf t_3.1 t_3.2).bind fun t_13 => ((spec_DrawMarginOf p_more).bind fun t_18 => ((impl_MarginOf t_18.1 t_18.2).bind fun t_24 => ((spec_MarginOf t_18.1 t_18.2).bind fun t_30 => (((cond (t_8.2 != t_13.2) (some true) ((laws_qInts t_8.1.Sizes t_13.1.Sizes).bind fun t_36 => (cond (!t_36) (some true) ((laws_qInts t_8.1.Cells t_13.1.Cells).bind fun t_38 => (cond (!t_38) (some true) (cond (t_24.2 != t_30.2) (some true) ((laws_qInts t_24.1.Sizes t_30.1.Sizes).bind fun t_40 => (cond (!t_40) (some true) ((laws_qInts t_24.1.Cells t_30.1.Cells).bind fun t_42 => some (!t_42)))))))))) : Option (Bool)).bind fun t_44 => (cond t_44 (some false) (((cond t_24.2 ((impl_IsCube t_24.1).bind fun t_45 => (cond (!t_45) (some true) (cond ((goLen t_24.1.Cells) == 0) (some true) ((goAt t_24.1.Cells (w64 ((goLen t_24.1.Cells) - 1))).bind fun e_47 => ((goAt t_18.1.Cells (w64 ((goLen t_18.1.Cells) - 1))).bind fun e_49 => some (e_47 != e_49)))))) (some false)) : Option (Bool)).bind fun t_51 => (cond t_51 (some false) (cond (!t_8.2) (some true) ((impl_BaseOf t_8.1).bind fun t_52 => ((impl_FirstBreak t_8.1).bind fun t_56 => ((impl_CubeCell t_8.1 t_3.1).bind fun t_58 => (((cond t_52.2 (cond t_56.2 (cond t_58.2 ((impl_IsCube t_8.1).bind fun t_60 => (cond t_60 ((laws_qInts t_52.1 t_3.2).bind fun t_62 => (cond t_62 (cond (t_56.1 == (goLen t_8.1.Cells)) ((laws_qSum t_3.2).bind fun t_64 => some (t_58.1 == t_64)) (some false)) (some false))) (some false))) (some false)) (some false)) (some false)) : Option (Bool)).bind fun t_65 => some t_65))))))))))))))))

end Go.Gx.F
