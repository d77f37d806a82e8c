/- The plain functions that the walks come to. -/
import Derived.Test.YtiikfhfnkppeeaaGx
namespace Go.Gx.F
open Go.Gx
set_option linter.all false

structure spec_l1Cur where
  code : List (K .u8)
  at_ : Int
  seed : K .u64

instance : Rep spec_l1Cur where
  wd := 3
  rd m cs x := ∃ s1 : Sl, cs = [s1.v, (.int .i64 x.at_), (.int .u64 x.seed.v)] ∧ Rd m s1 x.code
  mono hm h := by
    obtain ⟨s1, rfl, h1⟩ := h
    exact ⟨s1, rfl, h1.mono hm⟩
  len h := by obtain ⟨s1, rfl, _⟩ := h; rfl
  one h := by obtain ⟨s1, rfl, _⟩ := h; rfl

instance : Rng spec_l1Cur := ⟨fun x => Rng.ok x.code ∧ Rng.ok x.at_ ∧ Rng.ok x.seed⟩

structure impl_NoiseTable where
  Rows : List (List Int)

instance : Rep impl_NoiseTable where
  wd := 1
  rd m cs x := ∃ s1 : Sl, cs = [s1.v] ∧ Rd m s1 x.Rows
  mono hm h := by
    obtain ⟨s1, rfl, h1⟩ := h
    exact ⟨s1, rfl, h1.mono hm⟩
  len h := by obtain ⟨s1, rfl, _⟩ := h; rfl
  one h := by obtain ⟨s1, rfl, _⟩ := h; rfl

instance : Rng impl_NoiseTable := ⟨fun x => Rng.ok x.Rows⟩

structure impl_Frac where
  Num : Int
  Den : Int

instance : Rep impl_Frac where
  wd := 2
  rd m cs x := cs = [(.int .i64 x.Num), (.int .i64 x.Den)]
  mono _ h := h
  len h := by subst h; rfl
  one h := by subst h; rfl

instance : Flat impl_Frac := ⟨fun h => h⟩

instance : Rng impl_Frac := ⟨fun x => Rng.ok x.Num ∧ Rng.ok x.Den⟩

noncomputable def spec_l1Cur_next (p_c : spec_l1Cur) : Option (Int × spec_l1Cur) :=
  (((cond (decide (p_c.at_ < (goLen p_c.code))) ((goAt p_c.code p_c.at_).bind fun e_2 => some (w64 e_2.v)) (some 0)) : Option (Int)).bind fun b_4 => (cond (decide ((w64 (p_c.at_ + 1)) ≤ (goLen p_c.code))) (some (b_4, (spec_l1Cur.mk p_c.code (w64 (p_c.at_ + 1)) (⟨(IntKind.wrap .u64 ((IntKind.wrap .u64 ((IntKind.wrap .u64 (p_c.seed.v * 6364136223846793005)) + (IntKind.wrap .u64 b_4))) + 1442695040888963407))⟩ : K .u64)))) ((goShr .u64 (IntKind.wrap .u64 ((IntKind.wrap .u64 ((IntKind.wrap .u64 (p_c.seed.v * 6364136223846793005)) + (IntKind.wrap .u64 b_4))) + 1442695040888963407)) 40).bind fun t_5 => some ((w64 (goBits .and .u64 t_5 255)), (spec_l1Cur.mk p_c.code (w64 (p_c.at_ + 1)) (⟨(IntKind.wrap .u64 ((IntKind.wrap .u64 ((IntKind.wrap .u64 (p_c.seed.v * 6364136223846793005)) + (IntKind.wrap .u64 b_4))) + 1442695040888963407))⟩ : K .u64))))))

noncomputable def spec_l1Cur_pick (p_c : spec_l1Cur) (p_n : Int) : Option (Int × spec_l1Cur) :=
  (cond (decide (p_n ≤ 1)) (some (0, p_c)) ((spec_l1Cur_next p_c).bind fun t_3 => (((cond (decide (200 < p_n)) ((spec_l1Cur_next t_3.2).bind fun t_6 => some ((w64 ((w64 (t_3.1 * 256)) + t_6.1)), t_6.2)) (some (t_3.1, t_3.2))) : Option (Int × spec_l1Cur)).bind fun (x_8, p_c_9) => ((goRem x_8 p_n).bind fun t_11 => some (t_11, p_c_9)))))

noncomputable def spec_yUniform_l2 (c_3 : Int) : (List Int) × Int → Option (Stp ((List Int) × Int) ((List Int)))
  | (row_8, k_10) => ((goQuo .i64 16 (w64 ((w64 (2 * c_3)) + 1))).bind fun t_11 => (cond (decide (k_10 < (w64 (t_11 * (w64 ((w64 (2 * c_3)) + 1)))))) ((goRem k_10 (w64 ((w64 (2 * c_3)) + 1))).bind fun t_12 => ((goAt row_8 k_10).bind fun e_13 => some (.next (goSet row_8 k_10 (w64 (t_12 - c_3)), (w64 (k_10 + 1)))))) (some (.done row_8))))

noncomputable def spec_yUniform_l1 (p_d : Int) : Int × impl_NoiseTable → Option (Stp (Int × impl_NoiseTable) (impl_NoiseTable))
  | (c_3, t_4) => (cond (decide (c_3 ≤ p_d)) ((goMake 8 16 (0 : Int)).bind fun l_6 => ((loopC (spec_yUniform_l2 c_3) (l_6, 0)).bind fun row_16 => ((goApp 24 t_4.Rows ([row_16] : List (List Int))).bind fun l_19 => some (.next ((w64 (c_3 + 1)), (impl_NoiseTable.mk l_19)))))) (some (.done t_4)))

noncomputable def spec_yUniform (p_d : Int) : Option (impl_NoiseTable) :=
  ((loopC (spec_yUniform_l1 p_d) (0, (impl_NoiseTable.mk ([] : List (List Int))))).bind fun t_21 => some t_21)

noncomputable def spec_l1Cur_one (p_c : spec_l1Cur) (p_n : Int) : Option (Bool × spec_l1Cur) :=
  ((spec_l1Cur_pick p_c p_n).bind fun t_3 => some (t_3.1 == 0, t_3.2))

noncomputable def spec_l1Cur_among (p_c : spec_l1Cur) (p_list : List Int) : Option (Int × spec_l1Cur) :=
  ((spec_l1Cur_pick p_c (goLen p_list)).bind fun t_4 => ((goAt p_list t_4.1).bind fun e_6 => some (e_6, t_4.2)))

noncomputable def spec_l1Cur_noiseTable_l1  : spec_l1Cur × impl_NoiseTable → Option (Stp (spec_l1Cur × impl_NoiseTable) (spec_l1Cur × impl_NoiseTable))
  | (p_c_61, t_63) => ((spec_l1Cur_pick p_c_61 2).bind fun t_69 => (cond (decide ((goLen t_63.Rows) < (w64 (20 + t_69.1)))) ((goMake 8 16 (0 : Int)).bind fun l_71 => ((goApp 24 t_63.Rows ([l_71] : List (List Int))).bind fun l_74 => some (.next (t_69.2, (impl_NoiseTable.mk l_74))))) (some (.done (t_69.2, t_63)))))

noncomputable def spec_l1Cur_noiseTable (p_c : spec_l1Cur) : Option (impl_NoiseTable × spec_l1Cur) :=
  ((spec_l1Cur_pick p_c 4).bind fun t_4 => ((spec_yUniform t_4.1).bind fun t_6 => ((((spec_l1Cur_one t_4.2 2).bind fun t_11 => (cond t_11.1 (some (decide (1 < (goLen t_6.Rows)), t_11.2)) (some (false, t_11.2)))) : Option (Bool × spec_l1Cur)).bind fun (t_13, p_c_14) => (((cond t_13 ((spec_l1Cur_pick p_c_14 (w64 ((goLen t_6.Rows) - 1))).bind fun t_17 => ((goAt t_6.Rows (w64 (1 + t_17.1))).bind fun e_25 => ((spec_l1Cur_pick t_17.2 16).bind fun t_28 => ((spec_l1Cur_pick t_28.2 3).bind fun t_31 => ((goAt e_25 t_28.1).bind fun e_33 => some (t_31.2, (impl_NoiseTable.mk (goSet t_6.Rows (w64 (1 + t_17.1)) (goSet e_25 t_28.1 (w64 (t_31.1 - 1))))))))))) (some (p_c_14, t_6))) : Option (spec_l1Cur × impl_NoiseTable)).bind fun (p_c_36, t_38) => ((spec_l1Cur_pick p_c_36 20).bind fun t_41 => (((cond (t_41.1 == 0) ((((goAt t_38.Rows 0).bind fun e_98 => ((spec_l1Cur_among t_41.2 ([0, 1, -1] : List Int)).bind fun t_102 => ((goAt e_98 3).bind fun e_104 => some (t_102.2, (impl_NoiseTable.mk (goSet t_38.Rows 0 (goSet e_98 3 t_102.1))))))) : Option (spec_l1Cur × impl_NoiseTable)).bind fun (p_c_107, t_109) => some (.inl (p_c_107, t_109))) (((cond (t_41.1 == 1) ((goApp 24 t_38.Rows ([([0, 1] : List Int)] : List (List Int))).bind fun l_91 => some (.inl (t_41.2, (impl_NoiseTable.mk l_91)))) (cond (t_41.1 == 2) (some (.inr (.inr ((impl_NoiseTable.mk ([] : List (List Int))), t_41.2)))) (((cond (t_41.1 == 3) ((loopC (spec_l1Cur_noiseTable_l1) (t_41.2, t_38)).bind fun (p_c_81, t_83) => some (p_c_81, t_83)) (((cond (t_41.1 == 4) ((((goAt t_38.Rows (w64 ((goLen t_38.Rows) - 1))).bind fun e_44 => ((spec_l1Cur_among t_41.2 ([6, -6, 5] : List Int)).bind fun t_48 => ((goAt e_44 0).bind fun e_50 => some (t_48.2, (impl_NoiseTable.mk (goSet t_38.Rows (w64 ((goLen t_38.Rows) - 1)) (goSet e_44 0 t_48.1))))))) : Option (spec_l1Cur × impl_NoiseTable)).bind fun (p_c_53, t_55) => some (p_c_53, t_55)) (some (t_41.2, t_38))) : Option (spec_l1Cur × impl_NoiseTable)).bind fun (p_c_57, t_59) => some (p_c_57, t_59))) : Option (spec_l1Cur × impl_NoiseTable)).bind fun (p_c_85, t_87) => some (.inl (p_c_85, t_87))))) : Option ((spec_l1Cur × impl_NoiseTable) ⊕ ((spec_l1Cur × impl_NoiseTable) ⊕ (impl_NoiseTable × spec_l1Cur)))).bind fun | .inl (p_c_93, t_95) => some (.inl (p_c_93, t_95)) | .inr o => some o)) : Option ((spec_l1Cur × impl_NoiseTable) ⊕ (impl_NoiseTable × spec_l1Cur))).bind fun | .inl (p_c_111, t_113) => some (t_113, p_c_111) | .inr o => some o))))))

noncomputable def spec_DrawNoiseOf (p_code : List (K .u8)) : Option (impl_NoiseTable × Int × Int) :=
  ((spec_l1Cur_noiseTable (spec_l1Cur.mk p_code 0 (⟨0⟩ : K .u64))).bind fun t_5 => ((spec_l1Cur_among t_5.2 ([0, 1, 2, 3, 50, -1] : List Int)).bind fun t_10 => ((spec_l1Cur_pick t_10.2 65536).bind fun t_13 => ((spec_l1Cur_among t_13.2 ([0, 4095, 4096, 65535, 65536, -1, t_13.1] : List Int)).bind fun t_17 => some (t_5.1, t_10.1, t_17.1)))))

noncomputable def impl_IsNoiseTable_l2 (t_4 : Int) (e_5 : List Int) (t_8 : Int) : Option (Stp (Int) ((Unit) ⊕ (Stp (Int) ((Unit) ⊕ (Bool))))) :=
  (cond (decide (t_8 < (goLen e_5))) ((goAt e_5 t_8).bind fun e_9 => (((cond (decide (e_9 < (-5))) (some true) (cond (decide (5 < e_9)) (some true) (cond (decide (e_9 < (w64 (-t_4)))) (some true) (cond (t_4 == 0) (some (e_9 != 0)) (some false))))) : Option (Bool)).bind fun t_11 => (cond t_11 (some (.done (.inr (.done (.inr false))))) (some (.next (w64 (t_8 + 1))))))) (some (.done (.inl ()))))

noncomputable def impl_IsNoiseTable_l1 (p_t : impl_NoiseTable) (t_4 : Int) : Option (Stp (Int) ((Unit) ⊕ (Bool))) :=
  (cond (decide (t_4 < (goLen p_t.Rows))) ((goAt p_t.Rows t_4).bind fun e_5 => (cond ((goLen e_5) != 16) (some (.done (.inr false))) ((loopC (impl_IsNoiseTable_l2 t_4 e_5) 0).bind fun | .inl () => some (.next (w64 (t_4 + 1))) | .inr o => some o))) (some (.done (.inl ()))))

noncomputable def impl_IsNoiseTable (p_t : impl_NoiseTable) : Option (Bool) :=
  (((cond (decide ((goLen p_t.Rows) < 1)) (some true) (some (decide (20 < (goLen p_t.Rows))))) : Option (Bool)).bind fun t_3 => (cond t_3 (some false) ((loopC (impl_IsNoiseTable_l1 p_t) 0).bind fun | .inl () => some true | .inr o => some o)))

noncomputable def impl_rowFor (p_t : impl_NoiseTable) (p_count : Int) : Option ((List Int)) :=
  ((goAt p_t.Rows (min p_count (w64 ((goLen p_t.Rows) - 1)))).bind fun e_3 => some e_3)

noncomputable def impl_noiseOf (p_t : impl_NoiseTable) (p_count : Int) (p_key : Int) : Option (Int) :=
  ((impl_rowFor p_t p_count).bind fun t_3 => ((goQuo .i64 p_key 4096).bind fun t_6 => ((goAt t_3 t_6).bind fun e_7 => some e_7)))

noncomputable def impl_NoiseOf (p_t : impl_NoiseTable) (p_count : Int) (p_key : Int) : Option (Int × Bool) :=
  ((((impl_IsNoiseTable p_t).bind fun t_3 => (cond (!t_3) (some true) (cond (decide (p_count < 0)) (some true) (cond (decide (p_key < 0)) (some true) (some (decide (65536 ≤ p_key))))))) : Option (Bool)).bind fun t_4 => (cond t_4 (some (0, false)) ((impl_noiseOf p_t p_count p_key).bind fun t_5 => some (t_5, true))))

noncomputable def spec_l1In (p_n : Int) (p_lo : Int) (p_hi : Int) : Option (Bool) :=
  (((cond (decide (p_lo ≤ p_n)) (some (decide (p_n ≤ p_hi))) (some false)) : Option (Bool)).bind fun t_1 => some t_1)

noncomputable def spec_l1Most (p_a : Int) (p_b : Int) : Option (Int) :=
  (cond (decide (p_b < p_a)) (some p_a) (some p_b))

noncomputable def spec_l1All_l1 (p_l : List Int) (p_lo : Int) (p_hi : Int) (t_2 : Int) : Option (Stp (Int) ((Unit) ⊕ (Bool))) :=
  (cond (decide (t_2 < (goLen p_l))) ((goAt p_l t_2).bind fun e_3 => ((spec_l1In e_3 p_lo p_hi).bind fun t_5 => (cond (!t_5) (some (.done (.inr false))) (some (.next (w64 (t_2 + 1))))))) (some (.done (.inl ()))))

noncomputable def spec_l1All (p_l : List Int) (p_lo : Int) (p_hi : Int) : Option (Bool) :=
  ((loopC (spec_l1All_l1 p_l p_lo p_hi) 0).bind fun | .inl () => some true | .inr o => some o)

noncomputable def spec_yGood_l1 (p_t : impl_NoiseTable) (t_4 : Int) : Option (Stp (Int) ((Unit) ⊕ (Bool))) :=
  (cond (decide (t_4 < (goLen p_t.Rows))) ((goAt p_t.Rows t_4).bind fun e_5 => (((cond ((goLen e_5) != 16) (some true) ((spec_l1Most (w64 (-t_4)) (-5)).bind fun t_8 => ((spec_l1All e_5 t_8 5).bind fun t_9 => (cond (!t_9) (some true) (cond (t_4 == 0) ((spec_l1All e_5 0 0).bind fun t_10 => some (!t_10)) (some false)))))) : Option (Bool)).bind fun t_11 => (cond t_11 (some (.done (.inr false))) (some (.next (w64 (t_4 + 1))))))) (some (.done (.inl ()))))

noncomputable def spec_yGood (p_t : impl_NoiseTable) : Option (Bool) :=
  ((spec_l1In (goLen p_t.Rows) 1 20).bind fun t_3 => (cond (!t_3) (some false) ((loopC (spec_yGood_l1 p_t) 0).bind fun | .inl () => some true | .inr o => some o)))

noncomputable def spec_l1Least (p_a : Int) (p_b : Int) : Option (Int) :=
  (cond (decide (p_a < p_b)) (some p_a) (some p_b))

noncomputable def spec_yRow (p_t : impl_NoiseTable) (p_count : Int) : Option ((List Int)) :=
  ((spec_l1Least p_count (w64 ((goLen p_t.Rows) - 1))).bind fun t_3 => ((goAt p_t.Rows t_3).bind fun e_4 => some e_4))

noncomputable def spec_yNoise (p_t : impl_NoiseTable) (p_count : Int) (p_key : Int) : Option (Int) :=
  ((spec_yRow p_t p_count).bind fun t_3 => ((goQuo .i64 p_key 4096).bind fun t_6 => ((goAt t_3 t_6).bind fun e_7 => some e_7)))

noncomputable def spec_NoiseOf (p_t : impl_NoiseTable) (p_count : Int) (p_key : Int) : Option (Int × Bool) :=
  ((((spec_yGood p_t).bind fun t_3 => (cond (!t_3) (some true) (cond (decide (p_count < 0)) (some true) ((spec_l1In p_key 0 65535).bind fun t_4 => some (!t_4))))) : Option (Bool)).bind fun t_5 => (cond t_5 (some (0, false)) ((spec_yNoise p_t p_count p_key).bind fun t_6 => some (t_6, true))))

noncomputable def spec_DrawUniformTable (p_code : List (K .u8)) : Option (Int) :=
  ((spec_l1Cur_pick (spec_l1Cur.mk p_code 0 (⟨0⟩ : K .u64)) 8).bind fun t_4 => some (w64 (t_4.1 - 1)))

noncomputable def impl_UniformTable_l2 (t_6 : Int) (t_14 : Int) : Int × impl_NoiseTable → Option (Stp (Int × impl_NoiseTable) (impl_NoiseTable))
  | (t_15, t_16) => (cond (decide (t_15 < (w64 (t_14 * (w64 ((w64 (2 * t_6)) + 1)))))) ((goAt t_16.Rows t_6).bind fun e_18 => ((goRem t_15 (w64 ((w64 (2 * t_6)) + 1))).bind fun t_20 => ((goAt e_18 t_15).bind fun e_21 => some (.next ((w64 (t_15 + 1)), (impl_NoiseTable.mk (goSet t_16.Rows t_6 (goSet e_18 t_15 (w64 (t_20 - t_6)))))))))) (some (.done t_16)))

noncomputable def impl_UniformTable_l1 (l_3 : List (List Int)) : Int × impl_NoiseTable → Option (Stp (Int × impl_NoiseTable) (impl_NoiseTable))
  | (t_6, t_7) => (cond (decide (t_6 < (goLen l_3))) ((goMake 8 16 (0 : Int)).bind fun l_9 => ((goAt t_7.Rows t_6).bind fun e_11 => ((goQuo .i64 16 (w64 ((w64 (2 * t_6)) + 1))).bind fun t_14 => ((loopC (impl_UniformTable_l2 t_6 t_14) (0, (impl_NoiseTable.mk (goSet t_7.Rows t_6 l_9)))).bind fun t_24 => some (.next ((w64 (t_6 + 1)), t_24)))))) (some (.done t_7)))

noncomputable def impl_UniformTable (p_d : Int) : Option (impl_NoiseTable × Bool) :=
  (((cond (decide (p_d < 0)) (some true) (some (decide (5 < p_d)))) : Option (Bool)).bind fun t_2 => (cond t_2 (some ((impl_NoiseTable.mk ([] : List (List Int))), false)) ((goMake 24 (w64 (p_d + 1)) ([] : List Int)).bind fun l_3 => ((loopC (impl_UniformTable_l1 l_3) (0, (impl_NoiseTable.mk l_3))).bind fun t_26 => some (t_26, true)))))

noncomputable def spec_UniformTable (p_d : Int) : Option (impl_NoiseTable × Bool) :=
  ((spec_l1In p_d 0 5).bind fun t_2 => (cond (!t_2) (some ((impl_NoiseTable.mk ([] : List (List Int))), false)) ((spec_yUniform p_d).bind fun t_3 => some (t_3, true))))

noncomputable def spec_DrawCellKey_l1  : (List Int) × Int × spec_l1Cur → Option (Stp ((List Int) × Int × spec_l1Cur) ((List Int) × spec_l1Cur))
  | (l_6, k_8, t_9) => (cond (decide (0 < k_8)) ((spec_l1Cur_pick t_9 65536).bind fun t_12 => ((goApp 8 l_6 ([t_12.1] : List Int)).bind fun l_15 => some (.next (l_15, (w64 (k_8 - 1)), t_12.2)))) (some (.done (l_6, t_9))))

noncomputable def spec_DrawCellKey_l2  : (List Int) × spec_l1Cur → Option (Stp ((List Int) × spec_l1Cur) ((List Int)))
  | (l_24, t_26) => ((spec_l1Cur_pick t_26 2).bind fun t_29 => (cond (decide ((goLen l_24) < (w64 (40 + t_29.1)))) ((goApp 8 l_24 ([5] : List Int)).bind fun l_32 => some (.next (l_32, t_29.2))) (some (.done l_24))))

noncomputable def spec_DrawCellKey (p_code : List (K .u8)) : Option ((List Int)) :=
  ((spec_l1Cur_pick (spec_l1Cur.mk p_code 0 (⟨0⟩ : K .u64)) 6).bind fun t_4 => ((loopC (spec_DrawCellKey_l1) (([] : List Int), t_4.1, t_4.2)).bind fun (l_17, t_19) => ((spec_l1Cur_pick t_19 16).bind fun t_22 => (((cond (t_22.1 == 0) ((spec_l1Cur_among t_22.2 ([-1, 65535, 65536] : List Int)).bind fun t_40 => ((goApp 8 l_17 ([t_40.1] : List Int)).bind fun l_43 => some l_43)) (((cond (t_22.1 == 1) ((loopC (spec_DrawCellKey_l2) (l_17, t_22.2)).bind fun l_34 => some l_34) (some l_17)) : Option ((List Int))).bind fun l_36 => some l_36)) : Option ((List Int))).bind fun l_45 => some l_45))))

noncomputable def impl_areKeys_l1 (p_keys : List Int) (t_2 : Int) : Option (Stp (Int) ((Unit) ⊕ (Bool))) :=
  (cond (decide (t_2 < (goLen p_keys))) ((goAt p_keys t_2).bind fun e_3 => (((cond (decide (e_3 < 0)) (some true) (some (decide (65536 ≤ e_3)))) : Option (Bool)).bind fun t_5 => (cond t_5 (some (.done (.inr false))) (some (.next (w64 (t_2 + 1))))))) (some (.done (.inl ()))))

noncomputable def impl_areKeys (p_keys : List Int) : Option (Bool) :=
  ((loopC (impl_areKeys_l1 p_keys) 0).bind fun | .inl () => some true | .inr o => some o)

noncomputable def impl_total_l1 (p_l : List Int) : Int × Int → Option (Stp (Int × Int) (Int))
  | (sum_2, t_3) => (cond (decide (t_3 < (goLen p_l))) ((goAt p_l t_3).bind fun e_4 => some (.next ((w64 (sum_2 + e_4)), (w64 (t_3 + 1))))) (some (.done sum_2)))

noncomputable def impl_total (p_l : List Int) : Option (Int) :=
  ((loopC (impl_total_l1 p_l) (0, 0)).bind fun sum_6 => some sum_6)

noncomputable def impl_CellKey (p_keys : List Int) : Option (Int × Bool) :=
  (((cond (decide (40 < (goLen p_keys))) (some true) ((impl_areKeys p_keys).bind fun t_2 => some (!t_2))) : Option (Bool)).bind fun t_3 => (cond t_3 (some (0, false)) ((impl_total p_keys).bind fun t_4 => ((goRem t_4 65536).bind fun t_5 => some (t_5, true)))))

noncomputable def spec_yKeys (p_l : List Int) : Option (Bool) :=
  ((spec_l1All p_l 0 65535).bind fun t_2 => some t_2)

noncomputable def spec_CellKey_l1 (p_keys : List Int) : Int × Int → Option (Stp (Int × Int) (Int))
  | (sum_4, t_5) => (cond (decide (t_5 < (goLen p_keys))) ((goAt p_keys t_5).bind fun e_6 => ((goRem (w64 (sum_4 + e_6)) 65536).bind fun t_8 => some (.next (t_8, (w64 (t_5 + 1)))))) (some (.done sum_4)))

noncomputable def spec_CellKey (p_keys : List Int) : Option (Int × Bool) :=
  (((cond (decide (40 < (goLen p_keys))) (some true) ((spec_yKeys p_keys).bind fun t_2 => some (!t_2))) : Option (Bool)).bind fun t_3 => (cond t_3 (some (0, false)) ((loopC (spec_CellKey_l1 p_keys) (0, 0)).bind fun sum_9 => some (sum_9, true))))

noncomputable def laws_qInts_l1 (p_a : List Int) (p_b : List Int) (t_3 : Int) : Option (Stp (Int) ((Unit) ⊕ (Bool))) :=
  (cond (decide (t_3 < (goLen p_a))) ((goAt p_a t_3).bind fun e_4 => ((goAt p_b t_3).bind fun e_6 => (cond (e_4 != e_6) (some (.done (.inr false))) (some (.next (w64 (t_3 + 1))))))) (some (.done (.inl ()))))

noncomputable def laws_qInts (p_a : List Int) (p_b : List Int) : Option (Bool) :=
  (cond ((goLen p_a) != (goLen p_b)) (some false) ((loopC (laws_qInts_l1 p_a p_b) 0).bind fun | .inl () => some true | .inr o => some o))

noncomputable def laws_qLists_l1 (p_a : List (List Int)) (p_b : List (List Int)) (t_3 : Int) : Option (Stp (Int) ((Unit) ⊕ (Bool))) :=
  (cond (decide (t_3 < (goLen p_a))) ((goAt p_a t_3).bind fun e_4 => ((goAt p_b t_3).bind fun e_7 => ((laws_qInts e_4 e_7).bind fun t_10 => (cond (!t_10) (some (.done (.inr false))) (some (.next (w64 (t_3 + 1)))))))) (some (.done (.inl ()))))

noncomputable def laws_qLists (p_a : List (List Int)) (p_b : List (List Int)) : Option (Bool) :=
  (cond ((goLen p_a) != (goLen p_b)) (some false) ((loopC (laws_qLists_l1 p_a p_b) 0).bind fun | .inl () => some true | .inr o => some o))

noncomputable def impl_gcdOf_l1  : Int × Int → Option (Stp (Int × Int) (Int))
  | (a_3, b_4) => (cond (b_4 != 0) ((goRem a_3 b_4).bind fun t_5 => some (.next (b_4, t_5))) (some (.done a_3)))

noncomputable def impl_gcdOf (p_a : Int) (p_b : Int) : Option (Int) :=
  (((cond (decide (p_a < 0)) (some (w64 (-p_a))) (some p_a)) : Option (Int)).bind fun a_1 => (((cond (decide (p_b < 0)) (some (w64 (-p_b))) (some p_b)) : Option (Int)).bind fun b_2 => ((loopC (impl_gcdOf_l1) (a_1, b_2)).bind fun a_6 => some a_6)))

noncomputable def impl_reduced (p_n : Int) (p_d : Int) : Option (impl_Frac × Bool) :=
  ((impl_gcdOf p_n p_d).bind fun t_2 => ((goQuo .i64 p_n t_2).bind fun t_3 => ((goQuo .i64 p_d t_2).bind fun t_4 => (((cond (decide (t_4 < 0)) (some ((w64 (-t_3)), (w64 (-t_4)))) (some (t_3, t_4))) : Option (Int × Int)).bind fun (n_5, d_6) => (((cond (decide (1000000000 < n_5)) (some true) (cond (decide (n_5 < (-1000000000))) (some true) (some (decide (1000000000 < d_6))))) : Option (Bool)).bind fun t_7 => (cond t_7 (some ((impl_Frac.mk 0 0), false)) (some ((impl_Frac.mk n_5 d_6), true))))))))

noncomputable def impl_NoiseMean (p_t : impl_NoiseTable) (p_count : Int) : Option (impl_Frac × Bool) :=
  ((((impl_IsNoiseTable p_t).bind fun t_4 => (cond (!t_4) (some true) (some (decide (p_count < 0))))) : Option (Bool)).bind fun t_5 => (cond t_5 (some ((impl_Frac.mk 0 0), false)) ((impl_rowFor p_t p_count).bind fun t_6 => ((impl_total t_6).bind fun t_9 => ((impl_reduced t_9 16).bind fun t_10 => some (t_10.1, t_10.2))))))

noncomputable def impl_NoiseVariance_l1 (t_6 : List Int) : Int × Int → Option (Stp (Int × Int) (Int))
  | (squares_10, t_11) => (cond (decide (t_11 < (goLen t_6))) ((goAt t_6 t_11).bind fun e_12 => some (.next ((w64 (squares_10 + (w64 (e_12 * e_12)))), (w64 (t_11 + 1))))) (some (.done squares_10)))

noncomputable def impl_NoiseVariance (p_t : impl_NoiseTable) (p_count : Int) : Option (impl_Frac × Bool) :=
  ((((impl_IsNoiseTable p_t).bind fun t_4 => (cond (!t_4) (some true) (some (decide (p_count < 0))))) : Option (Bool)).bind fun t_5 => (cond t_5 (some ((impl_Frac.mk 0 0), false)) ((impl_rowFor p_t p_count).bind fun t_6 => ((impl_total t_6).bind fun t_9 => ((loopC (impl_NoiseVariance_l1 t_6) (0, 0)).bind fun squares_14 => ((impl_reduced (w64 ((w64 (squares_14 * 16)) - (w64 (t_9 * t_9)))) 256).bind fun t_15 => some (t_15.1, t_15.2)))))))

noncomputable def spec_yMoments_l1 (p_row : List Int) : Int × Int × Int → Option (Stp (Int × Int × Int) (Int × Int))
  | (a_2, b_3, t_4) => (cond (decide (t_4 < (goLen p_row))) ((goAt p_row t_4).bind fun e_5 => some (.next ((w64 (a_2 + e_5)), (w64 (b_3 + (w64 (e_5 * e_5)))), (w64 (t_4 + 1))))) (some (.done (a_2, b_3))))

noncomputable def spec_yMoments (p_row : List Int) : Option (Int × Int) :=
  ((loopC (spec_yMoments_l1 p_row) (0, 0, 0)).bind fun (a_7, b_8) => some (a_7, b_8))

noncomputable def spec_l1Abs (p_n : Int) : Option (Int) :=
  ((spec_l1Most p_n (w64 (-p_n))).bind fun t_1 => some t_1)

noncomputable def spec_fGcd_l1  : Int × Int → Option (Stp (Int × Int) (Int))
  | (a_1, b_2) => (cond (b_2 != 0) ((goRem a_1 b_2).bind fun t_3 => some (.next (b_2, t_3))) (some (.done a_1)))

noncomputable def spec_fGcd (p_a : Int) (p_b : Int) : Option (Int) :=
  ((loopC (spec_fGcd_l1) (p_a, p_b)).bind fun a_4 => ((spec_l1Abs a_4).bind fun t_5 => some t_5))

noncomputable def spec_fGood (p_f : impl_Frac) : Option (Bool) :=
  ((((spec_l1In p_f.Den 1 1000000000).bind fun t_2 => (cond t_2 ((spec_l1In p_f.Num (-1000000000) 1000000000).bind fun t_3 => (cond t_3 ((spec_fGcd p_f.Num p_f.Den).bind fun t_4 => some (t_4 == 1)) (some false))) (some false))) : Option (Bool)).bind fun t_5 => some t_5)

noncomputable def spec_fMake (p_n : Int) (p_d : Int) : Option (impl_Frac × Bool) :=
  (cond (p_d == 0) (some ((impl_Frac.mk 0 0), false)) ((spec_fGcd p_n p_d).bind fun t_2 => (((cond (decide (p_d < 0)) (some (w64 (-t_2))) (some t_2)) : Option (Int)).bind fun g_3 => ((goQuo .i64 p_n g_3).bind fun t_4 => ((goQuo .i64 p_d g_3).bind fun t_5 => ((spec_fGood (impl_Frac.mk t_4 t_5)).bind fun t_7 => (cond (!t_7) (some ((impl_Frac.mk 0 0), false)) (some ((impl_Frac.mk t_4 t_5), true)))))))))

noncomputable def spec_NoiseMean (p_t : impl_NoiseTable) (p_count : Int) : Option (impl_Frac × Bool) :=
  ((((spec_yGood p_t).bind fun t_4 => (cond (!t_4) (some true) (some (decide (p_count < 0))))) : Option (Bool)).bind fun t_5 => (cond t_5 (some ((impl_Frac.mk 0 0), false)) ((spec_yRow p_t p_count).bind fun t_6 => ((spec_yMoments t_6).bind fun t_9 => ((spec_fMake t_9.1 16).bind fun t_10 => some (t_10.1, t_10.2))))))

noncomputable def laws_FnKeyedNoise (p_code : List (K .u8)) (p_more : List (K .u8)) : Option (Bool) :=
  (cond (decide (1048576 < (w64 ((goLen p_code) + (goLen p_more))))) (some true) ((spec_DrawNoiseOf p_code).bind fun t_3 => ((impl_NoiseOf t_3.1 t_3.2.1 t_3.2.2).bind fun t_7 => ((spec_NoiseOf t_3.1 t_3.2.1 t_3.2.2).bind fun t_9 => ((spec_DrawUniformTable p_more).bind fun t_11 => ((impl_UniformTable t_11).bind fun t_12 => ((spec_UniformTable t_11).bind fun t_16 => ((spec_DrawCellKey p_more).bind fun t_20 => ((impl_CellKey t_20).bind fun t_23 => ((spec_CellKey t_20).bind fun t_25 => (((cond (t_7.2 != t_9.2) (some true) (cond (t_7.1 != t_9.1) (some true) (cond (t_12.2 != t_16.2) (some true) ((laws_qLists t_12.1.Rows t_16.1.Rows).bind fun t_27 => (cond (!t_27) (some true) (cond (t_23.2 != t_25.2) (some true) (some (t_23.1 != t_25.1)))))))) : Option (Bool)).bind fun t_29 => (cond t_29 (some false) (((cond t_12.2 ((impl_NoiseMean t_12.1 t_11).bind fun t_30 => ((impl_NoiseVariance t_12.1 t_11).bind fun t_33 => (((cond (!t_30.2) (some true) (cond (!t_33.2) (some true) (cond (t_30.1.Num != 0) (some true) (cond (decide (t_33.1.Num < 0)) (some true) ((impl_IsNoiseTable t_12.1).bind fun t_36 => some (!t_36)))))) : Option (Bool)).bind fun t_38 => (cond t_38 (some (.inr false)) (some (.inl ())))))) (some (.inl ()))) : Option ((Unit) ⊕ (Bool))).bind fun | .inl () => (cond (!t_7.2) (some true) ((impl_NoiseMean t_3.1 t_3.2.1).bind fun t_39 => ((spec_NoiseMean t_3.1 t_3.2.1).bind fun t_42 => (((cond t_39.2 (cond t_42.2 (cond ((t_39.1.Num == t_42.1.Num) && ((t_39.1.Den == t_42.1.Den) && true)) (some (decide (0 ≤ (w64 (t_3.2.1 + t_7.1))))) (some false)) (some false)) (some false)) : Option (Bool)).bind fun t_45 => some t_45)))) | .inr o => some o)))))))))))))

end Go.Gx.F
