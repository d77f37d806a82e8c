/- The plain functions that the walks come to. -/
import Derived.Test.YtpjcfmpfiadkgaaGy
namespace Go.Gx.F
open Go.Gx
set_option linter.all false

structure spec_l1Cur where
  code : List (K .u8)
  at_ : Int
  seed : K .u64

instance : Rep spec_l1Cur where
  wd := 3
  rd m cs x := ∃ s1 : Sl, cs = [s1.v, (.int .i64 x.at_), (.int .u64 x.seed.v)] ∧ Rd m s1 x.code
  mono hm h := by
    obtain ⟨s1, rfl, h1⟩ := h
    exact ⟨s1, rfl, h1.mono hm⟩
  len h := by obtain ⟨s1, rfl, _⟩ := h; rfl
  one h := by obtain ⟨s1, rfl, _⟩ := h; rfl

instance : Rng spec_l1Cur := ⟨fun x => Rng.ok x.code ∧ Rng.ok x.at_ ∧ Rng.ok x.seed⟩

structure impl_Transport where
  Rows : List Int
  Cols : List Int
  Lo : List (List Int)
  Hi : List (List Int)

instance : Rep impl_Transport where
  wd := 4
  rd m cs x := ∃ s1 s2 s3 s4 : Sl, cs = [s1.v, s2.v, s3.v, s4.v] ∧ Rd m s1 x.Rows ∧ Rd m s2 x.Cols ∧ Rd m s3 x.Lo ∧ Rd m s4 x.Hi
  mono hm h := by
    obtain ⟨s1, s2, s3, s4, rfl, h1, h2, h3, h4⟩ := h
    exact ⟨s1, s2, s3, s4, rfl, h1.mono hm, h2.mono hm, h3.mono hm, h4.mono hm⟩
  len h := by obtain ⟨s1, s2, s3, s4, rfl, _⟩ := h; rfl
  one h := by obtain ⟨s1, s2, s3, s4, rfl, _⟩ := h; rfl

instance : Rng impl_Transport := ⟨fun x => Rng.ok x.Rows ∧ Rng.ok x.Cols ∧ Rng.ok x.Lo ∧ Rng.ok x.Hi⟩

structure impl_Rounding where
  Cells : List (List Int)
  Rows : List Int
  Cols : List Int
  Total : Int

instance : Rep impl_Rounding where
  wd := 4
  rd m cs x := ∃ s1 s2 s3 : Sl, cs = [s1.v, s2.v, s3.v, (.int .i64 x.Total)] ∧ Rd m s1 x.Cells ∧ Rd m s2 x.Rows ∧ Rd m s3 x.Cols
  mono hm h := by
    obtain ⟨s1, s2, s3, rfl, h1, h2, h3⟩ := h
    exact ⟨s1, s2, s3, rfl, h1.mono hm, h2.mono hm, h3.mono hm⟩
  len h := by obtain ⟨s1, s2, s3, rfl, _⟩ := h; rfl
  one h := by obtain ⟨s1, s2, s3, rfl, _⟩ := h; rfl

instance : Rng impl_Rounding := ⟨fun x => Rng.ok x.Cells ∧ Rng.ok x.Rows ∧ Rng.ok x.Cols ∧ Rng.ok x.Total⟩

structure spec_tFill where
  t : impl_Transport
  x : List (List Int)
  rows : List Int
  cols : List Int

instance : Rep spec_tFill where
  wd := 7
  rd m cs x := ∃ s1 s2 s3 s4 s5 s6 s7 : Sl, cs = [s1.v, s2.v, s3.v, s4.v, s5.v, s6.v, s7.v] ∧ Rd m s1 x.t.Rows ∧ Rd m s2 x.t.Cols ∧ Rd m s3 x.t.Lo ∧ Rd m s4 x.t.Hi ∧ Rd m s5 x.x ∧ Rd m s6 x.rows ∧ Rd m s7 x.cols
  mono hm h := by
    obtain ⟨s1, s2, s3, s4, s5, s6, s7, rfl, h1, h2, h3, h4, h5, h6, h7⟩ := h
    exact ⟨s1, s2, s3, s4, s5, s6, s7, rfl, h1.mono hm, h2.mono hm, h3.mono hm, h4.mono hm, h5.mono hm, h6.mono hm, h7.mono hm⟩
  len h := by obtain ⟨s1, s2, s3, s4, s5, s6, s7, rfl, _⟩ := h; rfl
  one h := by obtain ⟨s1, s2, s3, s4, s5, s6, s7, rfl, _⟩ := h; rfl

instance : Rng spec_tFill := ⟨fun x => Rng.ok x.t ∧ Rng.ok x.x ∧ Rng.ok x.rows ∧ Rng.ok x.cols⟩

noncomputable def laws_big (p_code : List (K .u8)) (p_more : List (K .u8)) : Option (Bool) :=
  (((cond (decide (1048576 < (goLen p_code))) (some true) (some (decide ((w64 (1048576 - (goLen p_code))) < (goLen p_more))))) : Option (Bool)).bind fun t_3 => some t_3)

noncomputable def spec_l1Cur_next (p_c : spec_l1Cur) : Option (Int × spec_l1Cur) :=
  (((cond (decide (p_c.at_ < (goLen p_c.code))) ((goAt p_c.code p_c.at_).bind fun e_2 => some (w64 e_2.v)) (some 0)) : Option (Int)).bind fun b_4 => (cond (decide ((w64 (p_c.at_ + 1)) ≤ (goLen p_c.code))) (some (b_4, (spec_l1Cur.mk p_c.code (w64 (p_c.at_ + 1)) (⟨(IntKind.wrap .u64 ((IntKind.wrap .u64 ((IntKind.wrap .u64 (p_c.seed.v * 6364136223846793005)) + (IntKind.wrap .u64 b_4))) + 1442695040888963407))⟩ : K .u64)))) ((goShr .u64 (IntKind.wrap .u64 ((IntKind.wrap .u64 ((IntKind.wrap .u64 (p_c.seed.v * 6364136223846793005)) + (IntKind.wrap .u64 b_4))) + 1442695040888963407)) 40).bind fun t_5 => some ((w64 (goBits .and .u64 t_5 255)), (spec_l1Cur.mk p_c.code (w64 (p_c.at_ + 1)) (⟨(IntKind.wrap .u64 ((IntKind.wrap .u64 ((IntKind.wrap .u64 (p_c.seed.v * 6364136223846793005)) + (IntKind.wrap .u64 b_4))) + 1442695040888963407))⟩ : K .u64))))))

noncomputable def spec_l1Cur_pick (p_c : spec_l1Cur) (p_n : Int) : Option (Int × spec_l1Cur) :=
  (cond (decide (p_n ≤ 1)) (some (0, p_c)) ((spec_l1Cur_next p_c).bind fun t_3 => (((cond (decide (200 < p_n)) ((spec_l1Cur_next t_3.2).bind fun t_6 => some ((w64 ((w64 (t_3.1 * 256)) + t_6.1)), t_6.2)) (some (t_3.1, t_3.2))) : Option (Int × spec_l1Cur)).bind fun (x_8, p_c_9) => ((goRem x_8 p_n).bind fun t_11 => some (t_11, p_c_9)))))

noncomputable def spec_l1Cur_grid_l2 (t_6 : Int × spec_l1Cur) : (List Int) × Int × spec_l1Cur → Option (Stp ((List Int) × Int × spec_l1Cur) ((List Int) × spec_l1Cur))
  | (row_13, j_15, p_c_16) => (cond (decide (j_15 < (w64 (1 + t_6.1)))) ((spec_l1Cur_pick p_c_16 14).bind fun t_19 => ((goApp 8 row_13 ([t_19.1] : List Int)).bind fun l_22 => some (.next (l_22, (w64 (j_15 + 1)), t_19.2)))) (some (.done (row_13, p_c_16))))

noncomputable def spec_l1Cur_grid_l1 (t_3 : Int × spec_l1Cur) (t_6 : Int × spec_l1Cur) : (List (List Int)) × Int × spec_l1Cur → Option (Stp ((List (List Int)) × Int × spec_l1Cur) ((List (List Int)) × spec_l1Cur))
  | (x_8, i_10, p_c_11) => (cond (decide (i_10 < (w64 (1 + t_3.1)))) ((loopC (spec_l1Cur_grid_l2 t_6) (([] : List Int), 0, p_c_11)).bind fun (row_24, p_c_26) => ((goApp 24 x_8 ([row_24] : List (List Int))).bind fun l_29 => some (.next (l_29, (w64 (i_10 + 1)), p_c_26)))) (some (.done (x_8, p_c_11))))

noncomputable def spec_l1Cur_grid (p_c : spec_l1Cur) : Option ((List (List Int)) × spec_l1Cur) :=
  ((spec_l1Cur_pick p_c 3).bind fun t_3 => ((spec_l1Cur_pick t_3.2 3).bind fun t_6 => ((loopC (spec_l1Cur_grid_l1 t_3 t_6) (([] : List (List Int)), 0, t_6.2)).bind fun (x_31, p_c_33) => some (x_31, p_c_33))))

noncomputable def spec_l1Cur_among (p_c : spec_l1Cur) (p_list : List Int) : Option (Int × spec_l1Cur) :=
  ((spec_l1Cur_pick p_c (goLen p_list)).bind fun t_4 => ((goAt p_list t_4.1).bind fun e_6 => some (e_6, t_4.2)))

noncomputable def spec_l1Own (p_l : List Int) : Option ((List Int)) :=
  ((goApp 8 ([] : List Int) p_l).bind fun l_3 => some l_3)

noncomputable def spec_l1Cur_anyGrid_l1  : (List (List Int)) × spec_l1Cur → Option (Stp ((List (List Int)) × spec_l1Cur) ((List (List Int)) × spec_l1Cur))
  | (x_9, p_c_11) => ((spec_l1Cur_pick p_c_11 2).bind fun t_14 => (cond (decide ((goLen x_9) < (w64 (7 + t_14.1)))) ((goAt x_9 0).bind fun e_16 => ((spec_l1Own e_16).bind fun t_18 => ((goApp 24 x_9 ([t_18] : List (List Int))).bind fun l_23 => some (.next (l_23, t_14.2))))) (some (.done (x_9, t_14.2)))))

noncomputable def spec_l1Cur_anyGrid (p_c : spec_l1Cur) : Option ((List (List Int)) × spec_l1Cur) :=
  ((spec_l1Cur_grid p_c).bind fun t_3 => ((spec_l1Cur_pick t_3.2 24).bind fun t_7 => (((cond (t_7.1 == 0) ((((goAt t_3.1 0).bind fun e_9 => ((spec_l1Cur_among t_7.2 ([-1, 10000, 10001] : List Int)).bind fun t_14 => ((goAt e_9 0).bind fun e_16 => some (goSet t_3.1 0 (goSet e_9 0 t_14.1), t_14.2)))) : Option ((List (List Int)) × spec_l1Cur)).bind fun (x_19, p_c_21) => some (.inl (x_19, p_c_21))) (((cond (t_7.1 == 1) ((goAt t_3.1 0).bind fun e_9 => ((goApp 8 e_9 ([1] : List Int)).bind fun l_13 => ((goAt t_3.1 0).bind fun e_15 => some (.inl (goSet t_3.1 0 l_13, t_7.2))))) (cond (t_7.1 == 2) (some (.inr (.inr (([] : List (List Int)), t_7.2)))) (((cond (t_7.1 == 3) ((loopC (spec_l1Cur_anyGrid_l1) (t_3.1, t_7.2)).bind fun (x_25, p_c_27) => some (x_25, p_c_27)) (some (t_3.1, t_7.2))) : Option ((List (List Int)) × spec_l1Cur)).bind fun (x_29, p_c_31) => some (.inl (x_29, p_c_31))))) : Option (((List (List Int)) × spec_l1Cur) ⊕ (((List (List Int)) × spec_l1Cur) ⊕ ((List (List Int)) × spec_l1Cur)))).bind fun | .inl (x_33, p_c_35) => some (.inl (x_33, p_c_35)) | .inr o => some o)) : Option (((List (List Int)) × spec_l1Cur) ⊕ ((List (List Int)) × spec_l1Cur))).bind fun | .inl (x_37, p_c_39) => some (x_37, p_c_39) | .inr o => some o)))

noncomputable def spec_l1Cur_base (p_c : spec_l1Cur) : Option (Int × spec_l1Cur) :=
  ((spec_l1Cur_among p_c ([2, 3, 5, 5, 10, 100, 101, 1] : List Int)).bind fun t_4 => some (t_4.1, t_4.2))

noncomputable def spec_DrawRoundingNetwork (p_code : List (K .u8)) : Option ((List (List Int)) × Int) :=
  ((spec_l1Cur_anyGrid (spec_l1Cur.mk p_code 0 (⟨0⟩ : K .u64))).bind fun t_4 => ((spec_l1Cur_base t_4.2).bind fun t_8 => some (t_4.1, t_8.1)))

noncomputable def spec_DrawFirstRounding (p_code : List (K .u8)) : Option ((List (List Int)) × Int) :=
  ((spec_DrawRoundingNetwork p_code).bind fun t_2 => some (t_2.1, t_2.2))

noncomputable def impl_hasShape_l1 (p_x : List (List Int)) (p_cols : Int) (t_2 : Int) : Option (Stp (Int) ((Unit) ⊕ (Bool))) :=
  (cond (decide (t_2 < (goLen p_x))) ((goAt p_x t_2).bind fun e_3 => (cond ((goLen e_3) != p_cols) (some (.done (.inr false))) (some (.next (w64 (t_2 + 1)))))) (some (.done (.inl ()))))

noncomputable def impl_hasShape (p_x : List (List Int)) (p_rows : Int) (p_cols : Int) : Option (Bool) :=
  (cond ((goLen p_x) != p_rows) (some false) ((loopC (impl_hasShape_l1 p_x p_cols) 0).bind fun | .inl () => some true | .inr o => some o))

noncomputable def impl_isGridOf_l2 (p_most : Int) (e_11 : List Int) (t_14 : Int) : Option (Stp (Int) ((Unit) ⊕ (Stp (Int) ((Unit) ⊕ (Bool))))) :=
  (cond (decide (t_14 < (goLen e_11))) ((goAt e_11 t_14).bind fun e_15 => (((cond (decide (e_15 < 0)) (some true) (some (decide (p_most < e_15)))) : Option (Bool)).bind fun t_17 => (cond t_17 (some (.done (.inr (.done (.inr false))))) (some (.next (w64 (t_14 + 1))))))) (some (.done (.inl ()))))

noncomputable def impl_isGridOf_l1 (p_x : List (List Int)) (p_most : Int) (t_10 : Int) : Option (Stp (Int) ((Unit) ⊕ (Bool))) :=
  (cond (decide (t_10 < (goLen p_x))) ((goAt p_x t_10).bind fun e_11 => ((loopC (impl_isGridOf_l2 p_most e_11) 0).bind fun | .inl () => some (.next (w64 (t_10 + 1))) | .inr o => some o)) (some (.done (.inl ()))))

noncomputable def impl_isGridOf (p_x : List (List Int)) (p_most : Int) : Option (Bool) :=
  (((cond ((goLen p_x) == 0) (some true) ((goAt p_x 0).bind fun e_2 => (cond ((goLen e_2) == 0) (some true) ((goAt p_x 0).bind fun e_5 => ((impl_hasShape p_x (goLen p_x) (goLen e_5)).bind fun t_8 => some (!t_8)))))) : Option (Bool)).bind fun t_9 => (cond t_9 (some false) ((loopC (impl_isGridOf_l1 p_x p_most) 0).bind fun | .inl () => some true | .inr o => some o)))

noncomputable def impl_isMatrix (p_x : List (List Int)) : Option (Bool) :=
  (((cond (decide ((goLen p_x) < 1)) (some true) (cond (decide (7 < (goLen p_x))) (some true) ((goAt p_x 0).bind fun e_2 => some (decide (7 < (goLen e_2)))))) : Option (Bool)).bind fun t_5 => (cond t_5 (some false) ((impl_isGridOf p_x 10000).bind fun t_6 => some t_6)))

noncomputable def impl_isBaseOf (p_base : Int) : Option (Bool) :=
  (((cond (decide (2 ≤ p_base)) (some (decide (p_base ≤ 100))) (some false)) : Option (Bool)).bind fun t_1 => some t_1)

noncomputable def impl_rowSums_l2 (t_6 : Int) (e_7 : List Int) : (List Int) × Int → Option (Stp ((List Int) × Int) ((List Int)))
  | (sums_10, t_12) => (cond (decide (t_12 < (goLen e_7))) ((goAt e_7 t_12).bind fun e_13 => ((goAt sums_10 t_6).bind fun e_15 => ((goAt sums_10 t_6).bind fun e_17 => some (.next (goSet sums_10 t_6 (w64 (e_15 + e_13)), (w64 (t_12 + 1))))))) (some (.done sums_10)))

noncomputable def impl_rowSums_l1 (p_x : List (List Int)) : (List Int) × Int → Option (Stp ((List Int) × Int) ((List Int)))
  | (sums_4, t_6) => (cond (decide (t_6 < (goLen p_x))) ((goAt p_x t_6).bind fun e_7 => ((loopC (impl_rowSums_l2 t_6 e_7) (sums_4, 0)).bind fun sums_20 => some (.next (sums_20, (w64 (t_6 + 1)))))) (some (.done sums_4)))

noncomputable def impl_rowSums (p_x : List (List Int)) : Option ((List Int)) :=
  ((goMake 8 (goLen p_x) (0 : Int)).bind fun l_2 => ((loopC (impl_rowSums_l1 p_x) (l_2, 0)).bind fun sums_22 => some sums_22))

noncomputable def impl_colSums_l2 (e_10 : List Int) : (List Int) × Int → Option (Stp ((List Int) × Int) ((List Int)))
  | (sums_13, t_15) => (cond (decide (t_15 < (goLen e_10))) ((goAt e_10 t_15).bind fun e_16 => ((goAt sums_13 t_15).bind fun e_18 => ((goAt sums_13 t_15).bind fun e_20 => some (.next (goSet sums_13 t_15 (w64 (e_18 + e_16)), (w64 (t_15 + 1))))))) (some (.done sums_13)))

noncomputable def impl_colSums_l1 (p_x : List (List Int)) : (List Int) × Int → Option (Stp ((List Int) × Int) ((List Int)))
  | (sums_7, t_9) => (cond (decide (t_9 < (goLen p_x))) ((goAt p_x t_9).bind fun e_10 => ((loopC (impl_colSums_l2 e_10) (sums_7, 0)).bind fun sums_23 => some (.next (sums_23, (w64 (t_9 + 1)))))) (some (.done sums_7)))

noncomputable def impl_colSums (p_x : List (List Int)) : Option ((List Int)) :=
  ((goAt p_x 0).bind fun e_2 => ((goMake 8 (goLen e_2) (0 : Int)).bind fun l_5 => ((loopC (impl_colSums_l1 p_x) (l_5, 0)).bind fun sums_25 => some sums_25)))

noncomputable def impl_total_l1 (p_l : List Int) : Int × Int → Option (Stp (Int × Int) (Int))
  | (sum_2, t_3) => (cond (decide (t_3 < (goLen p_l))) ((goAt p_l t_3).bind fun e_4 => some (.next ((w64 (sum_2 + e_4)), (w64 (t_3 + 1))))) (some (.done sum_2)))

noncomputable def impl_total (p_l : List Int) : Option (Int) :=
  ((loopC (impl_total_l1 p_l) (0, 0)).bind fun sum_6 => some sum_6)

noncomputable def impl_roundingNetwork_1 (p_n : Int) (p_x1 : Int) : Option (Int) :=
  ((goQuo .i64 p_n p_x1).bind fun t_1 => some t_1)

noncomputable def impl_roundingNetwork_2 (p_n : Int) (p_x1 : Int) : Option (Int) :=
  ((goQuo .i64 (w64 ((w64 (p_n + p_x1)) - 1)) p_x1).bind fun t_1 => some t_1)

noncomputable def impl_roundingNetwork_l1 (e_4 : List Int) (t_53 : impl_Transport) : Int × impl_Transport → Option (Stp (Int × impl_Transport) (impl_Transport))
  | (t_58, t_59) => (cond (decide (t_58 < (goLen t_53.Lo))) ((((goMake 8 (w64 ((goLen e_4) + 1)) (0 : Int)).bind fun l_72 => ((goMake 8 (w64 ((goLen e_4) + 1)) (0 : Int)).bind fun l_74 => ((goAt t_59.Lo t_58).bind fun e_76 => ((goAt t_59.Hi t_58).bind fun e_79 => some (impl_Transport.mk t_59.Rows t_59.Cols (goSet t_59.Lo t_58 l_72) (goSet t_59.Hi t_58 l_74)))))) : Option (impl_Transport)).bind fun t_82 => some (.next ((w64 (t_58 + 1)), t_82))) (some (.done t_59)))

noncomputable def impl_roundingNetwork_l3 (p_base : Int) (t_92 : Int) (e_98 : List Int) : Int × impl_Transport → Option (Stp (Int × impl_Transport) (impl_Transport))
  | (t_101, t_102) => (cond (decide (t_101 < (goLen e_98))) ((((goAt e_98 t_101).bind fun e_107 => ((goAt t_102.Lo t_92).bind fun e_109 => ((goAt t_102.Hi t_92).bind fun e_111 => ((impl_roundingNetwork_1 e_107 p_base).bind fun t_120 => ((impl_roundingNetwork_2 e_107 p_base).bind fun t_122 => ((goAt e_109 t_101).bind fun e_123 => ((goAt e_111 t_101).bind fun e_126 => some (impl_Transport.mk t_102.Rows t_102.Cols (goSet t_102.Lo t_92 (goSet e_109 t_101 t_120)) (goSet t_102.Hi t_92 (goSet e_111 t_101 t_122)))))))))) : Option (impl_Transport)).bind fun t_129 => some (.next ((w64 (t_101 + 1)), t_129))) (some (.done t_102)))

noncomputable def impl_roundingNetwork_l2 (p_x : List (List Int)) (p_base : Int) : Int × impl_Transport → Option (Stp (Int × impl_Transport) (impl_Transport))
  | (t_92, t_93) => (cond (decide (t_92 < (goLen p_x))) ((goAt p_x t_92).bind fun e_98 => ((loopC (impl_roundingNetwork_l3 p_base t_92 e_98) (0, t_93)).bind fun t_134 => some (.next ((w64 (t_92 + 1)), t_134)))) (some (.done t_93)))

noncomputable def impl_roundingNetwork_l4 (p_base : Int) (e_4 : List Int) (t_144 : List Int) : Int × impl_Transport → Option (Stp (Int × impl_Transport) (impl_Transport))
  | (t_150, t_151) => (cond (decide (t_150 < (goLen t_144))) ((((goAt t_144 t_150).bind fun e_156 => ((impl_roundingNetwork_2 e_156 p_base).bind fun t_159 => ((goAt t_151.Rows t_150).bind fun e_160 => ((goAt t_151.Hi t_150).bind fun e_163 => ((impl_roundingNetwork_2 e_156 p_base).bind fun t_172 => ((impl_roundingNetwork_1 e_156 p_base).bind fun t_174 => ((goAt e_163 (goLen e_4)).bind fun e_175 => some (impl_Transport.mk (goSet t_151.Rows t_150 t_159) t_151.Cols t_151.Lo (goSet t_151.Hi t_150 (goSet e_163 (goLen e_4) (w64 (t_172 - t_174)))))))))))) : Option (impl_Transport)).bind fun t_178 => some (.next ((w64 (t_150 + 1)), t_178))) (some (.done t_151)))

noncomputable def impl_roundingNetwork_l5 (p_x : List (List Int)) (p_base : Int) (t_147 : List Int) : Int × impl_Transport → Option (Stp (Int × impl_Transport) (impl_Transport))
  | (t_188, t_189) => (cond (decide (t_188 < (goLen t_147))) ((((goAt t_147 t_188).bind fun e_194 => ((impl_roundingNetwork_2 e_194 p_base).bind fun t_197 => ((goAt t_189.Cols t_188).bind fun e_198 => ((goAt t_189.Hi (goLen p_x)).bind fun e_201 => ((impl_roundingNetwork_2 e_194 p_base).bind fun t_210 => ((impl_roundingNetwork_1 e_194 p_base).bind fun t_212 => ((goAt e_201 t_188).bind fun e_213 => some (impl_Transport.mk t_189.Rows (goSet t_189.Cols t_188 t_197) t_189.Lo (goSet t_189.Hi (goLen p_x) (goSet e_201 t_188 (w64 (t_210 - t_212)))))))))))) : Option (impl_Transport)).bind fun t_216 => some (.next ((w64 (t_188 + 1)), t_216))) (some (.done t_189)))

noncomputable def impl_roundingNetwork (p_x : List (List Int)) (p_base : Int) : Option (impl_Transport) :=
  ((goAt p_x 0).bind fun e_4 => ((((goMake 8 (w64 ((goLen p_x) + 1)) (0 : Int)).bind fun l_41 => ((goMake 8 (w64 ((goLen e_4) + 1)) (0 : Int)).bind fun l_44 => ((goMake 24 (w64 ((goLen p_x) + 1)) ([] : List Int)).bind fun l_47 => ((goMake 24 (w64 ((goLen p_x) + 1)) ([] : List Int)).bind fun l_50 => some (impl_Transport.mk l_41 l_44 l_47 l_50))))) : Option (impl_Transport)).bind fun t_53 => ((loopC (impl_roundingNetwork_l1 e_4 t_53) (0, t_53)).bind fun t_87 => ((loopC (impl_roundingNetwork_l2 p_x p_base) (0, t_87)).bind fun t_139 => ((impl_rowSums p_x).bind fun t_144 => ((impl_colSums p_x).bind fun t_147 => ((loopC (impl_roundingNetwork_l4 p_base e_4 t_144) (0, t_139)).bind fun t_183 => ((loopC (impl_roundingNetwork_l5 p_x p_base t_147) (0, t_183)).bind fun t_221 => ((impl_total t_144).bind fun t_226 => ((goAt t_221.Hi (goLen p_x)).bind fun e_228 => ((impl_roundingNetwork_2 t_226 p_base).bind fun t_237 => ((impl_roundingNetwork_1 t_226 p_base).bind fun t_239 => ((goAt e_228 (goLen e_4)).bind fun e_240 => ((impl_total t_221.Cols).bind fun t_247 => ((impl_roundingNetwork_1 t_226 p_base).bind fun t_250 => ((goAt t_221.Rows (goLen p_x)).bind fun e_251 => ((goSub (goSet t_221.Rows (goLen p_x) (w64 (t_247 - t_250))) 0 (goLen p_x)).bind fun l_254 => ((impl_total l_254).bind fun t_260 => ((impl_roundingNetwork_1 t_226 p_base).bind fun t_263 => ((goAt t_221.Cols (goLen e_4)).bind fun e_264 => some (impl_Transport.mk (goSet t_221.Rows (goLen p_x) (w64 (t_247 - t_250))) (goSet t_221.Cols (goLen e_4) (w64 (t_260 - t_263))) t_221.Lo (goSet t_221.Hi (goLen p_x) (goSet e_228 (goLen e_4) (w64 (t_237 - t_239)))))))))))))))))))))))))

noncomputable def impl_residual_l1 (p_t : impl_Transport) (l_7 : List (List Int)) : (List (List Int)) × Int → Option (Stp ((List (List Int)) × Int) ((List (List Int))))
  | (r_9, t_11) => (cond (decide (t_11 < (goLen l_7))) ((goMake 8 (w64 ((goLen p_t.Rows) + (goLen p_t.Cols))) (0 : Int)).bind fun l_12 => ((goAt r_9 t_11).bind fun e_14 => some (.next (goSet r_9 t_11 l_12, (w64 (t_11 + 1)))))) (some (.done r_9)))

noncomputable def impl_residual_l3 (p_t : impl_Transport) (p_fixed : Int) (t_21 : Int) (e_22 : List Int) : (List (List Int)) × Int → Option (Stp ((List (List Int)) × Int) ((List (List Int))))
  | (r_25, t_27) => (cond (decide (t_27 < (goLen e_22))) ((goAt e_22 t_27).bind fun e_28 => (((cond (decide (p_fixed < (w64 ((w64 (t_21 * (goLen p_t.Cols))) + t_27)))) ((goAt r_25 t_21).bind fun e_30 => ((goAt p_t.Hi t_21).bind fun e_32 => ((goAt e_32 t_27).bind fun e_35 => ((goAt e_30 (w64 ((goLen p_t.Rows) + t_27))).bind fun e_37 => ((goAt (goSet r_25 t_21 (goSet e_30 (w64 ((goLen p_t.Rows) + t_27)) (w64 (e_35 - e_28)))) (w64 ((goLen p_t.Rows) + t_27))).bind fun e_40 => ((goAt p_t.Lo t_21).bind fun e_42 => ((goAt e_42 t_27).bind fun e_45 => ((goAt e_40 t_21).bind fun e_47 => some (goSet (goSet r_25 t_21 (goSet e_30 (w64 ((goLen p_t.Rows) + t_27)) (w64 (e_35 - e_28)))) (w64 ((goLen p_t.Rows) + t_27)) (goSet e_40 t_21 (w64 (e_28 - e_45)))))))))))) (some r_25)) : Option ((List (List Int)))).bind fun r_50 => some (.next (r_50, (w64 (t_27 + 1)))))) (some (.done r_25)))

noncomputable def impl_residual_l2 (p_t : impl_Transport) (p_x : List (List Int)) (p_fixed : Int) : (List (List Int)) × Int → Option (Stp ((List (List Int)) × Int) ((List (List Int))))
  | (r_19, t_21) => (cond (decide (t_21 < (goLen p_x))) ((goAt p_x t_21).bind fun e_22 => ((loopC (impl_residual_l3 p_t p_fixed t_21 e_22) (r_19, 0)).bind fun r_52 => some (.next (r_52, (w64 (t_21 + 1)))))) (some (.done r_19)))

noncomputable def impl_residual (p_t : impl_Transport) (p_x : List (List Int)) (p_fixed : Int) : Option ((List (List Int))) :=
  ((goMake 24 (w64 ((goLen p_t.Rows) + (goLen p_t.Cols))) ([] : List Int)).bind fun l_7 => ((loopC (impl_residual_l1 p_t l_7) (l_7, 0)).bind fun r_17 => ((loopC (impl_residual_l2 p_t p_x p_fixed) (r_17, 0)).bind fun r_54 => some r_54)))

noncomputable def impl_push_l2 (l_5 : List Int) : (List Int) × Int → Option (Stp ((List Int) × Int) ((List Int)))
  | (back_7, t_9) => (cond (decide (t_9 < (goLen l_5))) ((goAt back_7 t_9).bind fun e_10 => some (.next (goSet back_7 t_9 (-1), (w64 (t_9 + 1))))) (some (.done back_7)))

noncomputable def impl_push_l4 (e_26 : Int) (e_30 : List Int) : (List Int) × (List Int) × Int → Option (Stp ((List Int) × (List Int) × Int) ((List Int) × (List Int)))
  | (back_32, queue_34, t_36) => (cond (decide (t_36 < (goLen e_30))) ((goAt e_30 t_36).bind fun e_37 => (((cond (decide (0 < e_37)) ((goAt back_32 t_36).bind fun e_39 => some (decide (e_39 < 0))) (some false)) : Option (Bool)).bind fun t_41 => (((cond t_41 ((goAt back_32 t_36).bind fun e_42 => ((goApp 8 queue_34 ([t_36] : List Int)).bind fun l_46 => some (goSet back_32 t_36 e_26, l_46))) (some (back_32, queue_34))) : Option ((List Int) × (List Int))).bind fun (back_48, queue_50) => some (.next (back_48, queue_50, (w64 (t_36 + 1))))))) (some (.done (back_32, queue_34))))

noncomputable def impl_push_l3 (p_to : Int) (r_2 : List (List Int)) : (List Int) × (List Int) → Option (Stp ((List Int) × (List Int)) ((List Int)))
  | (back_19, queue_21) => (((cond (decide (0 < (goLen queue_21))) ((goAt back_19 p_to).bind fun e_23 => some (decide (e_23 < 0))) (some false)) : Option (Bool)).bind fun t_25 => (cond t_25 ((goAt queue_21 0).bind fun e_26 => ((goSub queue_21 1 (goLen queue_21)).bind fun l_28 => ((goAt r_2 e_26).bind fun e_30 => ((loopC (impl_push_l4 e_26 e_30) (back_19, l_28, 0)).bind fun (back_52, queue_54) => some (.next (back_52, queue_54)))))) (some (.done back_19))))

noncomputable def impl_push_l5 (p_from : Int) (r_2 : List (List Int)) (back_56 : List Int) : Int × Int → Option (Stp (Int × Int) (Int))
  | (step_60, v_61) => (cond (v_61 != p_from) ((goAt back_56 v_61).bind fun e_62 => ((goAt r_2 e_62).bind fun e_64 => ((goAt e_64 v_61).bind fun e_66 => ((goAt back_56 v_61).bind fun e_68 => some (.next (min step_60 e_66, e_68)))))) (some (.done step_60)))

noncomputable def impl_push_l6 (p_from : Int) (back_56 : List Int) (step_70 : Int) : (List (List Int)) × Int → Option (Stp ((List (List Int)) × Int) ((List (List Int))))
  | (r_71, v_73) => (cond (v_73 != p_from) ((goAt back_56 v_73).bind fun e_74 => ((goAt r_71 e_74).bind fun e_76 => ((goAt e_76 v_73).bind fun e_78 => ((goAt e_76 v_73).bind fun e_80 => ((goAt (goSet r_71 e_74 (goSet e_76 v_73 (w64 (e_78 - step_70)))) v_73).bind fun e_83 => ((goAt back_56 v_73).bind fun e_85 => ((goAt e_83 e_85).bind fun e_87 => ((goAt e_83 e_85).bind fun e_89 => ((goAt back_56 v_73).bind fun e_92 => some (.next (goSet (goSet r_71 e_74 (goSet e_76 v_73 (w64 (e_78 - step_70)))) v_73 (goSet e_83 e_85 (w64 (e_87 + step_70))), e_92))))))))))) (some (.done r_71)))

noncomputable def impl_push_l1 (p_from : Int) (p_to : Int) (p_limit : Int) : (List (List Int)) × Int → Option (Stp ((List (List Int)) × Int) ((List (List Int)) × Int))
  | (r_2, sent_4) => (cond (decide (sent_4 < p_limit)) ((goMake 8 (goLen r_2) (0 : Int)).bind fun l_5 => ((loopC (impl_push_l2 l_5) (l_5, 0)).bind fun back_13 => ((goAt back_13 p_from).bind fun e_15 => ((loopC (impl_push_l3 p_to r_2) (goSet back_13 p_from p_from, ([p_from] : List Int))).bind fun back_56 => ((goAt back_56 p_to).bind fun e_58 => (cond (decide (e_58 < 0)) (some (.done (r_2, sent_4))) ((loopC (impl_push_l5 p_from r_2 back_56) ((w64 (p_limit - sent_4)), p_to)).bind fun step_70 => ((loopC (impl_push_l6 p_from back_56 step_70) (r_2, p_to)).bind fun r_94 => some (.next (r_94, (w64 (sent_4 + step_70)))))))))))) (some (.done (r_2, sent_4))))

noncomputable def impl_push (p_r : List (List Int)) (p_from : Int) (p_to : Int) (p_limit : Int) : Option (Int × (List (List Int))) :=
  ((loopC (impl_push_l1 p_from p_to p_limit) (p_r, 0)).bind fun (r_96, sent_98) => some (sent_98, r_96))

noncomputable def slices_Clone_int_int (p_s : List Int) : Option ((List Int)) :=
  ((goApp 8 ([] : List Int) p_s).bind fun l_3 => some l_3)

noncomputable def impl_copyMatrix_l1 (p_x : List (List Int)) : (List (List Int)) × Int → Option (Stp ((List (List Int)) × Int) ((List (List Int))))
  | (out_5, t_7) => (cond (decide (t_7 < (goLen p_x))) ((goAt p_x t_7).bind fun e_8 => ((slices_Clone_int_int e_8).bind fun t_11 => ((goAt out_5 t_7).bind fun e_14 => some (.next (goSet out_5 t_7 t_11, (w64 (t_7 + 1))))))) (some (.done out_5)))

noncomputable def impl_copyMatrix (p_x : List (List Int)) : Option ((List (List Int))) :=
  ((goMake 24 (goLen p_x) ([] : List Int)).bind fun l_2 => ((goNE l_2).bind fun u_4 => ((loopC (impl_copyMatrix_l1 p_x) (l_2, 0)).bind fun out_17 => some out_17)))

noncomputable def impl_restore_l2 (p_t : impl_Transport) (p_r : List (List Int)) (p_fixed : Int) (t_13 : Int) (e_14 : List Int) : (List (List Int)) × Int → Option (Stp ((List (List Int)) × Int) ((List (List Int))))
  | (out_16, t_18) => (cond (decide (t_18 < (goLen e_14))) (((cond (decide (p_fixed < (w64 ((w64 (t_13 * (goLen p_t.Cols))) + t_18)))) ((goAt out_16 t_13).bind fun e_19 => ((goAt p_t.Hi t_13).bind fun e_21 => ((goAt e_21 t_18).bind fun e_24 => ((goAt p_r t_13).bind fun e_26 => ((goAt e_26 (w64 ((goLen p_t.Rows) + t_18))).bind fun e_29 => ((goAt e_19 t_18).bind fun e_31 => some (goSet out_16 t_13 (goSet e_19 t_18 (w64 (e_24 - e_29)))))))))) (some out_16)) : Option ((List (List Int)))).bind fun out_34 => some (.next (out_34, (w64 (t_18 + 1))))) (some (.done out_16)))

noncomputable def impl_restore_l1 (p_t : impl_Transport) (p_r : List (List Int)) (p_fixed : Int) (t_8 : List (List Int)) : (List (List Int)) × Int → Option (Stp ((List (List Int)) × Int) ((List (List Int))))
  | (out_11, t_13) => (cond (decide (t_13 < (goLen t_8))) ((goAt out_11 t_13).bind fun e_14 => ((loopC (impl_restore_l2 p_t p_r p_fixed t_13 e_14) (out_11, 0)).bind fun out_36 => some (.next (out_36, (w64 (t_13 + 1)))))) (some (.done out_11)))

noncomputable def impl_restore (p_t : impl_Transport) (p_x : List (List Int)) (p_r : List (List Int)) (p_fixed : Int) : Option ((List (List Int))) :=
  ((impl_copyMatrix p_x).bind fun t_8 => ((loopC (impl_restore_l1 p_t p_r p_fixed t_8) (t_8, 0)).bind fun out_38 => some out_38))

noncomputable def impl_fill_l1 (p_t : impl_Transport) (t_6 : List (List Int)) (l_9 : List (List Int)) : (List (List Int)) × Int → Option (Stp ((List (List Int)) × Int) ((List (List Int))))
  | (r_11, t_13) => (cond (decide (t_13 < (goLen l_9))) ((goMake 8 (w64 ((w64 ((goLen p_t.Rows) + (goLen p_t.Cols))) + 2)) (0 : Int)).bind fun l_14 => ((goAt r_11 t_13).bind fun e_16 => (((cond (decide (t_13 < (w64 ((goLen p_t.Rows) + (goLen p_t.Cols))))) ((goAt (goSet r_11 t_13 l_14) t_13).bind fun e_19 => ((goAt t_6 t_13).bind fun e_21 => ((goCopy e_19 e_21).bind fun l_23 => some (goSet (goSet r_11 t_13 l_14) t_13 l_23)))) (some (goSet r_11 t_13 l_14))) : Option ((List (List Int)))).bind fun r_25 => some (.next (r_25, (w64 (t_13 + 1))))))) (some (.done r_11)))

noncomputable def impl_fill_l2 (p_t : impl_Transport) (t_35 : List Int) : (List (List Int)) × Int → Option (Stp ((List (List Int)) × Int) (((List (List Int))) ⊕ ((List (List Int)))))
  | (r_41, t_43) => (cond (decide (t_43 < (goLen p_t.Rows))) ((goAt p_t.Rows t_43).bind fun e_44 => ((goAt t_35 t_43).bind fun e_46 => (cond (decide (e_44 < e_46)) (some (.done (.inr ([] : List (List Int))))) ((goAt r_41 (w64 ((goLen p_t.Rows) + (goLen p_t.Cols)))).bind fun e_48 => ((goAt t_35 t_43).bind fun e_50 => ((goAt e_48 t_43).bind fun e_52 => some (.next (goSet r_41 (w64 ((goLen p_t.Rows) + (goLen p_t.Cols))) (goSet e_48 t_43 (w64 (e_44 - e_50))), (w64 (t_43 + 1)))))))))) (some (.done (.inl r_41))))

noncomputable def impl_fill_l3 (p_t : impl_Transport) (t_38 : List Int) : (List (List Int)) × Int → Option (Stp ((List (List Int)) × Int) (((List (List Int))) ⊕ ((List (List Int)))))
  | (r_57, t_59) => (cond (decide (t_59 < (goLen p_t.Cols))) ((goAt p_t.Cols t_59).bind fun e_60 => ((goAt t_38 t_59).bind fun e_62 => (cond (decide (e_60 < e_62)) (some (.done (.inr ([] : List (List Int))))) ((goAt r_57 (w64 ((goLen p_t.Rows) + t_59))).bind fun e_64 => ((goAt t_38 t_59).bind fun e_66 => ((goAt e_64 (w64 ((w64 ((goLen p_t.Rows) + (goLen p_t.Cols))) + 1))).bind fun e_68 => some (.next (goSet r_57 (w64 ((goLen p_t.Rows) + t_59)) (goSet e_64 (w64 ((w64 ((goLen p_t.Rows) + (goLen p_t.Cols))) + 1)) (w64 (e_60 - e_66))), (w64 (t_59 + 1)))))))))) (some (.done (.inl r_57))))

noncomputable def impl_fill (p_t : impl_Transport) : Option ((List (List Int))) :=
  ((impl_residual p_t p_t.Lo (-1)).bind fun t_6 => ((goMake 24 (w64 ((w64 ((goLen p_t.Rows) + (goLen p_t.Cols))) + 2)) ([] : List Int)).bind fun l_9 => ((loopC (impl_fill_l1 p_t t_6 l_9) (l_9, 0)).bind fun r_27 => ((impl_rowSums p_t.Lo).bind fun t_35 => ((impl_colSums p_t.Lo).bind fun t_38 => ((loopC (impl_fill_l2 p_t t_35) (r_27, 0)).bind fun | .inl r_55 => ((loopC (impl_fill_l3 p_t t_38) (r_55, 0)).bind fun | .inl r_71 => ((impl_total p_t.Rows).bind fun t_73 => ((impl_push r_71 (w64 ((goLen p_t.Rows) + (goLen p_t.Cols))) (w64 ((w64 ((goLen p_t.Rows) + (goLen p_t.Cols))) + 1)) t_73).bind fun t_75 => ((impl_restore p_t p_t.Lo t_75.2 (-1)).bind fun t_77 => some t_77))) | .inr o => some o) | .inr o => some o))))))

noncomputable def slices_Equal_int_int_l1 (p_s1 : List Int) (p_s2 : List Int) (t_3 : Int) : Option (Stp (Int) ((Unit) ⊕ (Bool))) :=
  (cond (decide (t_3 < (goLen p_s1))) ((goAt p_s1 t_3).bind fun e_4 => ((goAt p_s2 t_3).bind fun e_6 => (cond (e_4 != e_6) (some (.done (.inr false))) (some (.next (w64 (t_3 + 1))))))) (some (.done (.inl ()))))

noncomputable def slices_Equal_int_int (p_s1 : List Int) (p_s2 : List Int) : Option (Bool) :=
  (cond ((goLen p_s1) != (goLen p_s2)) (some false) ((loopC (slices_Equal_int_int_l1 p_s1 p_s2) 0).bind fun | .inl () => some true | .inr o => some o))

noncomputable def impl_anyFlow (p_t : impl_Transport) : Option ((List (List Int))) :=
  ((impl_total p_t.Rows).bind fun t_8 => ((impl_total p_t.Cols).bind fun t_9 => (cond (t_8 != t_9) (some ([] : List (List Int))) ((impl_fill p_t).bind fun t_10 => (((cond t_10.isEmpty (some true) ((impl_rowSums t_10).bind fun t_21 => ((slices_Equal_int_int t_21 p_t.Rows).bind fun t_25 => some (!t_25)))) : Option (Bool)).bind fun t_27 => (cond t_27 (some ([] : List (List Int))) (some t_10)))))))

noncomputable def impl_lowered (p_t : impl_Transport) (p_x : List (List Int)) (p_i : Int) (p_j : Int) : Option ((List (List Int))) :=
  ((impl_residual p_t p_x (w64 ((w64 (p_i * (goLen p_t.Cols))) + p_j))).bind fun t_7 => ((goAt p_x p_i).bind fun e_10 => ((goAt e_10 p_j).bind fun e_13 => ((goAt p_t.Lo p_i).bind fun e_15 => ((goAt e_15 p_j).bind fun e_18 => ((impl_push t_7 p_i (w64 ((goLen p_t.Rows) + p_j)) (w64 (e_13 - e_18))).bind fun t_21 => ((impl_restore p_t p_x t_21.2 (w64 ((w64 (p_i * (goLen p_t.Cols))) + p_j))).bind fun t_23 => ((goAt t_23 p_i).bind fun e_27 => ((goAt e_27 p_j).bind fun e_29 => ((goAt e_27 p_j).bind fun e_31 => some (goSet t_23 p_i (goSet e_27 p_j (w64 (e_29 - t_21.1))))))))))))))

noncomputable def impl_firstFrom_l1 (p_t : impl_Transport) : (List (List Int)) × Int → Option (Stp ((List (List Int)) × Int) ((List (List Int))))
  | (x_7, p_9) => (cond (decide (p_9 < (w64 ((goLen p_t.Rows) * (goLen p_t.Cols))))) ((goQuo .i64 p_9 (goLen p_t.Cols)).bind fun t_10 => ((goRem p_9 (goLen p_t.Cols)).bind fun t_11 => ((impl_lowered p_t x_7 t_10 t_11).bind fun t_12 => some (.next (t_12, (w64 (p_9 + 1))))))) (some (.done x_7)))

noncomputable def impl_firstFrom (p_t : impl_Transport) (p_x : List (List Int)) (p_from : Int) : Option ((List (List Int))) :=
  ((goNE p_x).bind fun _ => ((loopC (impl_firstFrom_l1 p_t) (p_x, (w64 (p_from + 1)))).bind fun x_16 => some x_16))

noncomputable def impl_firstFlow (p_t : impl_Transport) : Option ((List (List Int))) :=
  ((impl_anyFlow p_t).bind fun t_6 => (cond t_6.isEmpty (some ([] : List (List Int))) ((impl_firstFrom p_t t_6 (-1)).bind fun t_10 => some t_10)))

noncomputable def impl_summed (p_x : List (List Int)) : Option (impl_Rounding) :=
  ((impl_rowSums p_x).bind fun t_3 => ((impl_copyMatrix p_x).bind fun t_6 => ((impl_colSums p_x).bind fun t_9 => ((impl_total t_3).bind fun t_12 => some (impl_Rounding.mk t_6 t_3 t_9 t_12)))))

noncomputable def impl_roundingOf_l2 (p_base : Int) (p_flow : List (List Int)) (t_9 : Int) (e_10 : List Int) : (List (List Int)) × Int × (List Int) → Option (Stp ((List (List Int)) × Int × (List Int)) ((List (List Int))))
  | (cells_12, t_14, row_15) => (cond (decide (t_14 < (goLen e_10))) ((goAt p_flow t_9).bind fun e_17 => ((goAt e_17 t_14).bind fun e_20 => ((goAt row_15 t_14).bind fun e_22 => some (.next (goSet cells_12 t_9 (goSet row_15 t_14 (w64 (e_20 * p_base))), (w64 (t_14 + 1)), goSet row_15 t_14 (w64 (e_20 * p_base))))))) (some (.done cells_12)))

noncomputable def impl_roundingOf_l1 (p_base : Int) (p_flow : List (List Int)) (t_4 : List (List Int)) : (List (List Int)) × Int → Option (Stp ((List (List Int)) × Int) ((List (List Int))))
  | (cells_7, t_9) => (cond (decide (t_9 < (goLen t_4))) ((goAt cells_7 t_9).bind fun e_10 => ((loopC (impl_roundingOf_l2 p_base p_flow t_9 e_10) (cells_7, 0, e_10)).bind fun cells_25 => some (.next (cells_25, (w64 (t_9 + 1)))))) (some (.done cells_7)))

noncomputable def impl_roundingOf (p_x : List (List Int)) (p_base : Int) (p_flow : List (List Int)) : Option (impl_Rounding) :=
  ((impl_copyMatrix p_x).bind fun t_4 => ((loopC (impl_roundingOf_l1 p_base p_flow t_4) (t_4, 0)).bind fun cells_27 => ((impl_summed cells_27).bind fun t_29 => some t_29)))

noncomputable def impl_FirstRounding (p_x : List (List Int)) (p_base : Int) : Option (impl_Rounding × Bool) :=
  ((((impl_isMatrix p_x).bind fun t_3 => (cond (!t_3) (some true) ((impl_isBaseOf p_base).bind fun t_4 => some (!t_4)))) : Option (Bool)).bind fun t_5 => (cond t_5 (some ((impl_Rounding.mk ([] : List (List Int)) ([] : List Int) ([] : List Int) 0), false)) ((impl_roundingNetwork p_x p_base).bind fun t_6 => ((impl_firstFlow t_6).bind fun t_12 => (cond t_12.isEmpty (some ((impl_Rounding.mk ([] : List (List Int)) ([] : List Int) ([] : List Int) 0), false)) ((impl_roundingOf p_x p_base t_12).bind fun t_16 => some (t_16, true)))))))

noncomputable def spec_l1In (p_n : Int) (p_lo : Int) (p_hi : Int) : Option (Bool) :=
  (((cond (decide (p_lo ≤ p_n)) (some (decide (p_n ≤ p_hi))) (some false)) : Option (Bool)).bind fun t_1 => some t_1)

noncomputable def spec_l1All_l1 (p_l : List Int) (p_lo : Int) (p_hi : Int) (t_2 : Int) : Option (Stp (Int) ((Unit) ⊕ (Bool))) :=
  (cond (decide (t_2 < (goLen p_l))) ((goAt p_l t_2).bind fun e_3 => ((spec_l1In e_3 p_lo p_hi).bind fun t_5 => (cond (!t_5) (some (.done (.inr false))) (some (.next (w64 (t_2 + 1))))))) (some (.done (.inl ()))))

noncomputable def spec_l1All (p_l : List Int) (p_lo : Int) (p_hi : Int) : Option (Bool) :=
  ((loopC (spec_l1All_l1 p_l p_lo p_hi) 0).bind fun | .inl () => some true | .inr o => some o)

noncomputable def spec_oMatrix_l1 (p_x : List (List Int)) (t_8 : Int) : Option (Stp (Int) ((Unit) ⊕ (Bool))) :=
  (cond (decide (t_8 < (goLen p_x))) ((goAt p_x t_8).bind fun e_9 => ((((goAt p_x 0).bind fun e_12 => (cond ((goLen e_9) != (goLen e_12)) (some true) ((spec_l1All e_9 0 10000).bind fun t_15 => some (!t_15)))) : Option (Bool)).bind fun t_16 => (cond t_16 (some (.done (.inr false))) (some (.next (w64 (t_8 + 1))))))) (some (.done (.inl ()))))

noncomputable def spec_oMatrix (p_x : List (List Int)) : Option (Bool) :=
  ((((spec_l1In (goLen p_x) 1 7).bind fun t_2 => (cond (!t_2) (some true) ((goAt p_x 0).bind fun e_3 => ((spec_l1In (goLen e_3) 1 7).bind fun t_6 => some (!t_6))))) : Option (Bool)).bind fun t_7 => (cond t_7 (some false) ((loopC (spec_oMatrix_l1 p_x) 0).bind fun | .inl () => some true | .inr o => some o)))

noncomputable def spec_oGood (p_x : List (List Int)) (p_base : Int) : Option (Bool) :=
  ((((spec_l1In p_base 2 100).bind fun t_2 => (cond t_2 ((spec_oMatrix p_x).bind fun t_3 => some t_3) (some false))) : Option (Bool)).bind fun t_4 => some t_4)

noncomputable def spec_tOwn_l1 (p_x : List (List Int)) : (List (List Int)) × Int → Option (Stp ((List (List Int)) × Int) ((List (List Int))))
  | (out_2, t_4) => (cond (decide (t_4 < (goLen p_x))) ((goAt p_x t_4).bind fun e_5 => ((spec_l1Own e_5).bind fun t_8 => ((goApp 24 out_2 ([t_8] : List (List Int))).bind fun l_12 => some (.next (l_12, (w64 (t_4 + 1))))))) (some (.done out_2)))

noncomputable def spec_tOwn (p_x : List (List Int)) : Option ((List (List Int))) :=
  ((loopC (spec_tOwn_l1 p_x) (([] : List (List Int)), 0)).bind fun out_14 => some out_14)

noncomputable def spec_tSum_l1 (p_l : List Int) : Int × Int → Option (Stp (Int × Int) (Int))
  | (sum_2, t_3) => (cond (decide (t_3 < (goLen p_l))) ((goAt p_l t_3).bind fun e_4 => some (.next ((w64 (sum_2 + e_4)), (w64 (t_3 + 1))))) (some (.done sum_2)))

noncomputable def spec_tSum (p_l : List Int) : Option (Int) :=
  ((loopC (spec_tSum_l1 p_l) (0, 0)).bind fun sum_6 => some sum_6)

noncomputable def spec_tColumn_l1 (p_x : List (List Int)) (p_j : Int) : (List Int) × Int → Option (Stp ((List Int) × Int) ((List Int)))
  | (out_2, t_4) => (cond (decide (t_4 < (goLen p_x))) ((goAt p_x t_4).bind fun e_5 => ((goAt e_5 p_j).bind fun e_8 => ((goApp 8 out_2 ([e_8] : List Int)).bind fun l_11 => some (.next (l_11, (w64 (t_4 + 1))))))) (some (.done out_2)))

noncomputable def spec_tColumn (p_x : List (List Int)) (p_j : Int) : Option ((List Int)) :=
  ((loopC (spec_tColumn_l1 p_x p_j) (([] : List Int), 0)).bind fun out_13 => some out_13)

noncomputable def spec_oMargins_l1 (p_x : List (List Int)) : Int × impl_Rounding → Option (Stp (Int × impl_Rounding) (impl_Rounding))
  | (t_7, out_8) => (cond (decide (t_7 < (goLen p_x))) ((goAt p_x t_7).bind fun e_11 => ((spec_tSum e_11).bind fun t_14 => ((goApp 8 out_8.Rows ([t_14] : List Int)).bind fun l_16 => some (.next ((w64 (t_7 + 1)), (impl_Rounding.mk out_8.Cells l_16 ([] : List Int) out_8.Total)))))) (some (.done (impl_Rounding.mk out_8.Cells out_8.Rows ([] : List Int) out_8.Total))))

noncomputable def spec_oMargins_l2 (p_x : List (List Int)) (e_21 : List Int) : Int × impl_Rounding → Option (Stp (Int × impl_Rounding) (impl_Rounding))
  | (t_24, out_25) => (cond (decide (t_24 < (goLen e_21))) ((spec_tColumn p_x t_24).bind fun t_29 => ((spec_tSum t_29).bind fun t_32 => ((goApp 8 out_25.Cols ([t_32] : List Int)).bind fun l_35 => some (.next ((w64 (t_24 + 1)), (impl_Rounding.mk out_25.Cells out_25.Rows l_35 out_25.Total)))))) (some (.done out_25)))

noncomputable def spec_oMargins (p_x : List (List Int)) : Option (impl_Rounding) :=
  ((spec_tOwn p_x).bind fun t_3 => ((loopC (spec_oMargins_l1 p_x) (0, (impl_Rounding.mk t_3 ([] : List Int) ([] : List Int) 0))).bind fun out_18 => ((goAt p_x 0).bind fun e_21 => ((loopC (spec_oMargins_l2 p_x e_21) (0, (impl_Rounding.mk out_18.Cells out_18.Rows ([] : List Int) out_18.Total))).bind fun out_37 => ((spec_tSum out_37.Rows).bind fun t_41 => some (impl_Rounding.mk out_37.Cells out_37.Rows out_37.Cols t_41))))))

noncomputable def spec_oDown (p_n : Int) (p_base : Int) : Option (Int) :=
  ((goQuo .i64 p_n p_base).bind fun t_1 => some t_1)

noncomputable def spec_oUp (p_n : Int) (p_base : Int) : Option (Int) :=
  ((goQuo .i64 (w64 ((w64 (p_n + p_base)) - 1)) p_base).bind fun t_1 => some t_1)

noncomputable def spec_oNetwork_l2 (p_base : Int) (e_24 : List Int) : (List Int) × (List Int) × Int → Option (Stp ((List Int) × (List Int) × Int) ((List Int) × (List Int)))
  | (lo_27, hi_29, t_31) => (cond (decide (t_31 < (goLen e_24))) ((goAt e_24 t_31).bind fun e_32 => ((spec_oDown e_32 p_base).bind fun t_34 => ((goApp 8 lo_27 ([t_34] : List Int)).bind fun l_36 => ((spec_oUp e_32 p_base).bind fun t_38 => ((goApp 8 hi_29 ([t_38] : List Int)).bind fun l_40 => some (.next (l_36, l_40, (w64 (t_31 + 1))))))))) (some (.done (lo_27, hi_29))))

noncomputable def spec_oNetwork_l1 (p_x : List (List Int)) (p_base : Int) (t_3 : impl_Rounding) : Int × Int × impl_Transport → Option (Stp (Int × Int × impl_Transport) (Int × impl_Transport))
  | (cols_17, t_18, t_19) => (cond (decide (t_18 < (goLen p_x))) ((goAt p_x t_18).bind fun e_24 => ((loopC (spec_oNetwork_l2 p_base e_24) (([] : List Int), ([] : List Int), 0)).bind fun (lo_42, hi_44) => ((goAt t_3.Rows t_18).bind fun e_46 => ((((goApp 8 lo_42 ([0] : List Int)).bind fun l_50 => ((goApp 24 t_19.Lo ([l_50] : List (List Int))).bind fun l_54 => some (impl_Transport.mk t_19.Rows ([] : List Int) l_54 t_19.Hi))) : Option (impl_Transport)).bind fun t_56 => ((((spec_oUp e_46 p_base).bind fun t_64 => ((spec_oDown e_46 p_base).bind fun t_65 => ((goApp 8 hi_44 ([(w64 (t_64 - t_65))] : List Int)).bind fun l_67 => ((goApp 24 t_56.Hi ([l_67] : List (List Int))).bind fun l_71 => some (impl_Transport.mk t_56.Rows ([] : List Int) t_56.Lo l_71))))) : Option (impl_Transport)).bind fun t_73 => ((spec_oUp e_46 p_base).bind fun t_78 => ((goApp 8 t_73.Rows ([t_78] : List Int)).bind fun l_80 => ((spec_oUp e_46 p_base).bind fun t_82 => some (.next ((w64 (cols_17 + t_82)), (w64 (t_18 + 1)), (impl_Transport.mk l_80 ([] : List Int) t_73.Lo t_73.Hi))))))))))) (some (.done (cols_17, (impl_Transport.mk t_19.Rows ([] : List Int) t_19.Lo t_19.Hi)))))

noncomputable def spec_oNetwork_l3 (p_base : Int) (t_3 : impl_Rounding) : (List Int) × (List Int) × Int × Int × impl_Transport → Option (Stp ((List Int) × (List Int) × Int × Int × impl_Transport) ((List Int) × (List Int) × Int × impl_Transport))
  | (lastLo_89, lastHi_91, rows_93, t_94, t_95) => (cond (decide (t_94 < (goLen t_3.Cols))) ((goAt t_3.Cols t_94).bind fun e_100 => ((goApp 8 lastLo_89 ([0] : List Int)).bind fun l_103 => ((spec_oUp e_100 p_base).bind fun t_105 => ((spec_oDown e_100 p_base).bind fun t_106 => ((goApp 8 lastHi_91 ([(w64 (t_105 - t_106))] : List Int)).bind fun l_108 => ((spec_oUp e_100 p_base).bind fun t_110 => ((goApp 8 t_95.Cols ([t_110] : List Int)).bind fun l_112 => ((spec_oUp e_100 p_base).bind fun t_114 => some (.next (l_103, l_108, (w64 (rows_93 + t_114)), (w64 (t_94 + 1)), (impl_Transport.mk t_95.Rows l_112 t_95.Lo t_95.Hi))))))))))) (some (.done (lastLo_89, lastHi_91, rows_93, t_95))))

noncomputable def spec_oNetwork (p_x : List (List Int)) (p_base : Int) : Option (impl_Transport) :=
  ((spec_oMargins p_x).bind fun t_3 => ((spec_oDown t_3.Total p_base).bind fun t_15 => ((spec_oDown t_3.Total p_base).bind fun t_16 => ((loopC (spec_oNetwork_l1 p_x p_base t_3) ((w64 (-t_16)), 0, (impl_Transport.mk ([] : List Int) ([] : List Int) ([] : List (List Int)) ([] : List (List Int))))).bind fun (cols_83, t_84) => ((loopC (spec_oNetwork_l3 p_base t_3) (([] : List Int), ([] : List Int), (w64 (-t_15)), 0, (impl_Transport.mk t_84.Rows ([] : List Int) t_84.Lo t_84.Hi))).bind fun (lastLo_115, lastHi_117, rows_119, t_120) => ((((goApp 8 lastLo_115 ([0] : List Int)).bind fun l_127 => ((goApp 24 t_120.Lo ([l_127] : List (List Int))).bind fun l_131 => some (impl_Transport.mk t_120.Rows t_120.Cols l_131 t_120.Hi))) : Option (impl_Transport)).bind fun t_133 => ((((spec_oUp t_3.Total p_base).bind fun t_143 => ((spec_oDown t_3.Total p_base).bind fun t_144 => ((goApp 8 lastHi_117 ([(w64 (t_143 - t_144))] : List Int)).bind fun l_146 => ((goApp 24 t_133.Hi ([l_146] : List (List Int))).bind fun l_150 => some (impl_Transport.mk t_133.Rows t_133.Cols t_133.Lo l_150))))) : Option (impl_Transport)).bind fun t_152 => ((goApp 8 t_152.Rows ([rows_119] : List Int)).bind fun l_159 => ((goApp 8 t_152.Cols ([cols_83] : List Int)).bind fun l_162 => some (impl_Transport.mk l_159 l_162 t_152.Lo t_152.Hi))))))))))

noncomputable def spec_tStart_l1 (p_t : impl_Transport) : Int × spec_tFill → Option (Stp (Int × spec_tFill) (spec_tFill))
  | (t_10, t_11) => (cond (decide (t_10 < (goLen p_t.Rows))) ((goAt p_t.Rows t_10).bind fun e_18 => ((goAt p_t.Lo t_10).bind fun e_20 => ((spec_tSum e_20).bind fun t_23 => ((goApp 8 t_11.rows ([(w64 (e_18 - t_23))] : List Int)).bind fun l_25 => some (.next ((w64 (t_10 + 1)), (spec_tFill.mk t_11.t t_11.x l_25 ([] : List Int)))))))) (some (.done (spec_tFill.mk t_11.t t_11.x t_11.rows ([] : List Int)))))

noncomputable def spec_tStart_l2 (p_t : impl_Transport) : Int × spec_tFill → Option (Stp (Int × spec_tFill) (spec_tFill))
  | (t_34, t_35) => (cond (decide (t_34 < (goLen p_t.Cols))) ((goAt p_t.Cols t_34).bind fun e_43 => ((spec_tColumn p_t.Lo t_34).bind fun t_45 => ((spec_tSum t_45).bind fun t_48 => ((goApp 8 t_35.cols ([(w64 (e_43 - t_48))] : List Int)).bind fun l_51 => some (.next ((w64 (t_34 + 1)), (spec_tFill.mk t_35.t t_35.x t_35.rows l_51))))))) (some (.done t_35)))

noncomputable def spec_tStart (p_t : impl_Transport) : Option (spec_tFill × Bool) :=
  ((spec_tOwn p_t.Lo).bind fun t_6 => ((loopC (spec_tStart_l1 p_t) (0, (spec_tFill.mk p_t t_6 ([] : List Int) ([] : List Int)))).bind fun t_27 => ((loopC (spec_tStart_l2 p_t) (0, (spec_tFill.mk t_27.t t_27.x t_27.rows ([] : List Int)))).bind fun t_53 => ((((spec_l1All t_53.rows 0 100000).bind fun t_61 => (cond t_61 ((spec_l1All t_53.cols 0 100000).bind fun t_63 => some t_63) (some false))) : Option (Bool)).bind fun t_65 => some (t_53, t_65)))))

noncomputable def spec_tFill_room (p_f : spec_tFill) (p_v : Int) (p_k : Int) : Option (Int) :=
  (((cond (decide (p_v < (goLen p_f.rows))) (some (decide ((goLen p_f.rows) ≤ p_k))) (some false)) : Option (Bool)).bind fun t_8 => (cond t_8 ((goAt p_f.t.Hi p_v).bind fun e_9 => ((goAt e_9 (w64 (p_k - (goLen p_f.rows)))).bind fun e_12 => ((goAt p_f.x p_v).bind fun e_14 => ((goAt e_14 (w64 (p_k - (goLen p_f.rows)))).bind fun e_17 => some (w64 (e_12 - e_17)))))) (((cond (decide ((goLen p_f.rows) ≤ p_v)) (some (decide (p_k < (goLen p_f.rows)))) (some false)) : Option (Bool)).bind fun t_9 => (cond t_9 ((goAt p_f.x p_k).bind fun e_10 => ((goAt e_10 (w64 (p_v - (goLen p_f.rows)))).bind fun e_13 => ((goAt p_f.t.Lo p_k).bind fun e_15 => ((goAt e_15 (w64 (p_v - (goLen p_f.rows)))).bind fun e_18 => some (w64 (e_13 - e_18)))))) (some 0)))))

noncomputable def spec_l1Least (p_a : Int) (p_b : Int) : Option (Int) :=
  (cond (decide (p_a < p_b)) (some p_a) (some p_b))

noncomputable def spec_tFill_push_l1 (p_f : spec_tFill) (p_from : List Int) : Int × Int → Option (Stp (Int × Int) (Int × Int))
  | (most_11, start_12) => ((goAt p_from start_12).bind fun e_13 => (cond (decide (0 ≤ e_13)) ((goAt p_from start_12).bind fun e_15 => ((spec_tFill_room p_f e_15 start_12).bind fun t_18 => ((spec_l1Least most_11 t_18).bind fun t_19 => ((goAt p_from start_12).bind fun e_20 => some (.next (t_19, e_20)))))) (some (.done (most_11, start_12)))))

noncomputable def spec_tFill_push_l2 (p_f : spec_tFill) (p_from : List Int) (t_26 : Int) : Int × spec_tFill → Option (Stp (Int × spec_tFill) (spec_tFill))
  | (v_27, p_f_28) => ((goAt p_from v_27).bind fun e_36 => (cond (decide (0 ≤ e_36)) (((cond (decide ((goLen p_f.rows) ≤ v_27)) ((goAt p_from v_27).bind fun e_38 => ((goAt p_f_28.x e_38).bind fun e_40 => ((goAt e_40 (w64 (v_27 - (goLen p_f.rows)))).bind fun e_42 => ((goAt e_40 (w64 (v_27 - (goLen p_f.rows)))).bind fun e_44 => some (spec_tFill.mk p_f_28.t (goSet p_f_28.x e_38 (goSet e_40 (w64 (v_27 - (goLen p_f.rows))) (w64 (e_42 + t_26)))) p_f_28.rows p_f_28.cols))))) ((goAt p_f_28.x v_27).bind fun e_38 => ((goAt p_from v_27).bind fun e_40 => ((goAt e_38 (w64 (e_40 - (goLen p_f.rows)))).bind fun e_42 => ((goAt e_38 (w64 (e_40 - (goLen p_f.rows)))).bind fun e_44 => some (spec_tFill.mk p_f_28.t (goSet p_f_28.x v_27 (goSet e_38 (w64 (e_40 - (goLen p_f.rows))) (w64 (e_42 - t_26)))) p_f_28.rows p_f_28.cols)))))) : Option (spec_tFill)).bind fun p_f_47 => ((goAt p_from v_27).bind fun e_55 => some (.next (e_55, p_f_47)))) (some (.done p_f_28))))

noncomputable def spec_tFill_push (p_f : spec_tFill) (p_from : List Int) (p_end : Int) : Option (spec_tFill) :=
  ((goAt p_f.cols (w64 (p_end - (goLen p_f.rows)))).bind fun e_9 => ((loopC (spec_tFill_push_l1 p_f p_from) (e_9, p_end)).bind fun (most_22, start_23) => ((goAt p_f.rows start_23).bind fun e_24 => ((spec_l1Least most_22 e_24).bind fun t_26 => ((loopC (spec_tFill_push_l2 p_f p_from t_26) (p_end, p_f)).bind fun p_f_57 => ((goAt p_f_57.rows start_23).bind fun e_65 => ((goAt p_f_57.rows start_23).bind fun e_67 => ((goAt p_f_57.cols (w64 (p_end - (goLen p_f.rows)))).bind fun e_70 => ((goAt p_f_57.cols (w64 (p_end - (goLen p_f.rows)))).bind fun e_72 => some (spec_tFill.mk p_f_57.t p_f_57.x (goSet p_f_57.rows start_23 (w64 (e_65 - t_26))) (goSet p_f_57.cols (w64 (p_end - (goLen p_f.rows))) (w64 (e_70 - t_26)))))))))))))

noncomputable def spec_tFill_augment_l1 (p_f : spec_tFill) (l_8 : List Int) : (List Int) × (List Int) × Int → Option (Stp ((List Int) × (List Int) × Int) ((List Int) × (List Int)))
  | (from_10, queue_12, t_14) => (cond (decide (t_14 < (goLen l_8))) ((goAt from_10 t_14).bind fun e_15 => (((cond (decide (t_14 < (goLen p_f.rows))) ((goAt p_f.rows t_14).bind fun e_18 => some (decide (0 < e_18))) (some false)) : Option (Bool)).bind fun t_20 => (((cond t_20 ((goAt (goSet from_10 t_14 (-2)) t_14).bind fun e_21 => ((goApp 8 queue_12 ([t_14] : List Int)).bind fun l_25 => some (goSet (goSet from_10 t_14 (-2)) t_14 (-1), l_25))) (some (goSet from_10 t_14 (-2), queue_12))) : Option ((List Int) × (List Int))).bind fun (from_27, queue_29) => some (.next (from_27, queue_29, (w64 (t_14 + 1))))))) (some (.done (from_10, queue_12))))

noncomputable def spec_tFill_augment_l3 (p_f : spec_tFill) (e_40 : Int) : (List Int) × (List Int) × Int → Option (Stp ((List Int) × (List Int) × Int) ((List Int) × (List Int)))
  | (from_45, queue_47, k_49) => (cond (decide (k_49 < (w64 ((goLen p_f.rows) + (goLen p_f.cols))))) ((((goAt from_45 k_49).bind fun e_50 => (cond (e_50 == (-2)) ((spec_tFill_room p_f e_40 k_49).bind fun t_53 => some (decide (0 < t_53))) (some false))) : Option (Bool)).bind fun t_54 => (((cond t_54 ((goAt from_45 k_49).bind fun e_55 => ((goApp 8 queue_47 ([k_49] : List Int)).bind fun l_59 => some (goSet from_45 k_49 e_40, l_59))) (some (from_45, queue_47))) : Option ((List Int) × (List Int))).bind fun (from_61, queue_63) => some (.next (from_61, queue_63, (w64 (k_49 + 1)))))) (some (.done (from_45, queue_47))))

noncomputable def spec_tFill_augment_l2 (p_f : spec_tFill) : (List Int) × (List Int) × Int → Option (Stp ((List Int) × (List Int) × Int) ((Unit) ⊕ (Bool × spec_tFill)))
  | (from_35, queue_37, at_39) => (cond (decide (at_39 < (goLen queue_37))) ((goAt queue_37 at_39).bind fun e_40 => (((cond (decide ((goLen p_f.rows) ≤ e_40)) ((goAt p_f.cols (w64 (e_40 - (goLen p_f.rows)))).bind fun e_42 => some (decide (0 < e_42))) (some false)) : Option (Bool)).bind fun t_44 => (cond t_44 ((spec_tFill_push p_f from_35 e_40).bind fun t_46 => some (.done (.inr (true, t_46)))) ((loopC (spec_tFill_augment_l3 p_f e_40) (from_35, queue_37, 0)).bind fun (from_65, queue_67) => some (.next (from_65, queue_67, (w64 (at_39 + 1)))))))) (some (.done (.inl ()))))

noncomputable def spec_tFill_augment (p_f : spec_tFill) : Option (Bool × spec_tFill) :=
  ((goMake 8 (w64 ((goLen p_f.rows) + (goLen p_f.cols))) (0 : Int)).bind fun l_8 => ((loopC (spec_tFill_augment_l1 p_f l_8) (l_8, ([] : List Int), 0)).bind fun (from_31, queue_33) => ((loopC (spec_tFill_augment_l2 p_f) (from_31, queue_33, 0)).bind fun | .inl () => some (false, p_f) | .inr o => some o)))

noncomputable def spec_tFilled_l1  (f_16 : spec_tFill) : Option (Stp (spec_tFill) (spec_tFill)) :=
  ((spec_tFill_augment f_16).bind fun t_25 => (cond t_25.1 (some (.next t_25.2)) (some (.done t_25.2))))

noncomputable def spec_tFilled (p_t : impl_Transport) : Option (spec_tFill × Bool) :=
  ((spec_tStart p_t).bind fun t_6 => (cond (!t_6.2) (some (t_6.1, false)) ((loopC (spec_tFilled_l1) t_6.1).bind fun f_33 => some (f_33, true))))

noncomputable def spec_tFeasible (p_t : impl_Transport) : Option ((List (List Int)) × Bool) :=
  ((spec_tSum p_t.Rows).bind fun t_8 => ((spec_tSum p_t.Cols).bind fun t_9 => (cond (t_8 != t_9) (some (([] : List (List Int)), false)) ((spec_tFilled p_t).bind fun t_10 => (((cond (!t_10.2) (some true) ((spec_tSum t_10.1.rows).bind fun t_20 => some (decide (0 < t_20)))) : Option (Bool)).bind fun t_22 => (cond t_22 (some (([] : List (List Int)), false)) (some (t_10.1.x, true))))))))

noncomputable def spec_tWith (p_t : impl_Transport) (p_i : Int) (p_j : Int) (p_lo : Int) (p_hi : Int) : Option (impl_Transport) :=
  ((((spec_tOwn p_t.Lo).bind fun t_16 => ((spec_tOwn p_t.Hi).bind fun t_19 => some (impl_Transport.mk p_t.Rows p_t.Cols t_16 t_19))) : Option (impl_Transport)).bind fun out_23 => ((goAt out_23.Lo p_i).bind fun e_28 => ((goAt e_28 p_j).bind fun e_30 => ((goAt out_23.Hi p_i).bind fun e_33 => ((goAt e_33 p_j).bind fun e_35 => some (impl_Transport.mk out_23.Rows out_23.Cols (goSet out_23.Lo p_i (goSet e_28 p_j p_lo)) (goSet out_23.Hi p_i (goSet e_33 p_j p_hi))))))))

noncomputable def spec_tLow_l1 (p_t : impl_Transport) (p_i : Int) (p_j : Int) : Int × Int → Option (Stp (Int × Int) (Int))
  | (lo_16, hi_17) => (cond (decide (lo_16 < hi_17)) ((goQuo .i64 (w64 (lo_16 + hi_17)) 2).bind fun t_19 => ((goAt p_t.Lo p_i).bind fun e_20 => ((goAt e_20 p_j).bind fun e_23 => ((spec_tWith p_t p_i p_j e_23 t_19).bind fun t_25 => ((spec_tFeasible t_25).bind fun t_33 => (((cond t_33.2 (some (lo_16, t_19)) (some ((w64 (t_19 + 1)), hi_17))) : Option (Int × Int)).bind fun (lo_36, hi_37) => some (.next (lo_36, hi_37)))))))) (some (.done lo_16)))

noncomputable def spec_tLow (p_t : impl_Transport) (p_i : Int) (p_j : Int) : Option (Int) :=
  ((goAt p_t.Lo p_i).bind fun e_6 => ((goAt e_6 p_j).bind fun e_9 => ((goAt p_t.Hi p_i).bind fun e_11 => ((goAt e_11 p_j).bind fun e_14 => ((loopC (spec_tLow_l1 p_t p_i p_j) (e_9, e_14)).bind fun lo_38 => some lo_38)))))

noncomputable def spec_tFirst_l2 (t_9 : Int) (t_10 : impl_Transport) : Int × impl_Transport → Option (Stp (Int × impl_Transport) (impl_Transport))
  | (t_16, t_17) => (cond (decide (t_16 < (goLen t_10.Cols))) ((spec_tLow t_17 t_9 t_16).bind fun t_23 => ((spec_tWith t_17 t_9 t_16 t_23 t_23).bind fun t_24 => some (.next ((w64 (t_16 + 1)), t_24)))) (some (.done t_17)))

noncomputable def spec_tFirst_l1 (p_t : impl_Transport) : Int × impl_Transport → Option (Stp (Int × impl_Transport) (impl_Transport))
  | (t_9, t_10) => (cond (decide (t_9 < (goLen p_t.Rows))) ((loopC (spec_tFirst_l2 t_9 t_10) (0, t_10)).bind fun t_30 => some (.next ((w64 (t_9 + 1)), t_30))) (some (.done t_10)))

noncomputable def spec_tFirst (p_t : impl_Transport) : Option ((List (List Int)) × Bool) :=
  ((spec_tFeasible p_t).bind fun t_6 => (cond (!t_6.2) (some (([] : List (List Int)), false)) ((loopC (spec_tFirst_l1 p_t) (0, p_t)).bind fun t_36 => ((spec_tOwn t_36.Lo).bind fun t_42 => some (t_42, true)))))

noncomputable def spec_oFrom_l2 (p_base : Int) (l_12 : List Int) : (List Int) × Int → Option (Stp ((List Int) × Int) ((List Int)))
  | (out_14, t_16) => (cond (decide (t_16 < (goLen l_12))) ((goAt l_12 t_16).bind fun e_17 => ((goApp 8 out_14 ([(w64 (e_17 * p_base))] : List Int)).bind fun l_20 => some (.next (l_20, (w64 (t_16 + 1)))))) (some (.done out_14)))

noncomputable def spec_oFrom_l1 (p_base : Int) (l_3 : List (List Int)) : (List (List Int)) × Int → Option (Stp ((List (List Int)) × Int) ((List (List Int))))
  | (cells_5, t_7) => (cond (decide (t_7 < (goLen l_3))) ((goAt l_3 t_7).bind fun e_9 => ((goSub e_9 0 (w64 ((goLen e_9) - 1))).bind fun l_12 => ((loopC (spec_oFrom_l2 p_base l_12) (([] : List Int), 0)).bind fun out_22 => ((goApp 24 cells_5 ([out_22] : List (List Int))).bind fun l_26 => some (.next (l_26, (w64 (t_7 + 1)))))))) (some (.done cells_5)))

noncomputable def spec_oFrom (p_flow : List (List Int)) (p_base : Int) : Option (impl_Rounding) :=
  ((goSub p_flow 0 (w64 ((goLen p_flow) - 1))).bind fun l_3 => ((loopC (spec_oFrom_l1 p_base l_3) (([] : List (List Int)), 0)).bind fun cells_28 => ((spec_oMargins cells_28).bind fun t_31 => some t_31)))

noncomputable def spec_FirstRounding (p_x : List (List Int)) (p_base : Int) : Option (impl_Rounding × Bool) :=
  ((spec_oGood p_x p_base).bind fun t_3 => (cond (!t_3) (some ((impl_Rounding.mk ([] : List (List Int)) ([] : List Int) ([] : List Int) 0), false)) ((spec_oNetwork p_x p_base).bind fun t_4 => ((spec_tFirst t_4).bind fun t_14 => (cond (!t_14.2) (some ((impl_Rounding.mk ([] : List (List Int)) ([] : List Int) ([] : List Int) 0), false)) ((spec_oFrom t_14.1 p_base).bind fun t_18 => some (t_18, true)))))))

noncomputable def laws_sameInts_l1 (p_a : List Int) (p_b : List Int) (t_3 : Int) : Option (Stp (Int) ((Unit) ⊕ (Bool))) :=
  (cond (decide (t_3 < (goLen p_a))) ((goAt p_a t_3).bind fun e_4 => ((goAt p_b t_3).bind fun e_6 => (cond (e_4 != e_6) (some (.done (.inr false))) (some (.next (w64 (t_3 + 1))))))) (some (.done (.inl ()))))

noncomputable def laws_sameInts (p_a : List Int) (p_b : List Int) : Option (Bool) :=
  (cond ((goLen p_a) != (goLen p_b)) (some false) ((loopC (laws_sameInts_l1 p_a p_b) 0).bind fun | .inl () => some true | .inr o => some o))

noncomputable def laws_sameLists_l1 (p_a : List (List Int)) (p_b : List (List Int)) (t_3 : Int) : Option (Stp (Int) ((Unit) ⊕ (Bool))) :=
  (cond (decide (t_3 < (goLen p_a))) ((goAt p_a t_3).bind fun e_4 => ((goAt p_b t_3).bind fun e_7 => ((laws_sameInts e_4 e_7).bind fun t_10 => (cond (!t_10) (some (.done (.inr false))) (some (.next (w64 (t_3 + 1)))))))) (some (.done (.inl ()))))

noncomputable def laws_sameLists (p_a : List (List Int)) (p_b : List (List Int)) : Option (Bool) :=
  (cond ((goLen p_a) != (goLen p_b)) (some false) ((loopC (laws_sameLists_l1 p_a p_b) 0).bind fun | .inl () => some true | .inr o => some o))

noncomputable def laws_pSameRounding (p_a : impl_Rounding) (p_b : impl_Rounding) : Option (Bool) :=
  ((((laws_sameLists p_a.Cells p_b.Cells).bind fun t_9 => (cond t_9 ((laws_sameInts p_a.Rows p_b.Rows).bind fun t_10 => (cond t_10 ((laws_sameInts p_a.Cols p_b.Cols).bind fun t_11 => (cond t_11 (some (p_a.Total == p_b.Total)) (some false))) (some false))) (some false))) : Option (Bool)).bind fun t_12 => some t_12)

noncomputable def impl_isRounded (p_n : Int) (p_base : Int) (p_y : Int) : Option (Bool) :=
  ((((goRem p_y p_base).bind fun t_1 => (cond (t_1 == 0) (cond (decide ((w64 (p_n - p_base)) < p_y)) (some (decide (p_y < (w64 (p_n + p_base))))) (some false)) (some false))) : Option (Bool)).bind fun t_2 => some t_2)

noncomputable def impl_IsRounding_l2 (p_base : Int) (p_y : impl_Rounding) (t_23 : Int) (e_24 : List Int) (t_27 : Int) : Option (Stp (Int) ((Unit) ⊕ (Stp (Int) ((Unit) ⊕ (Bool × Bool))))) :=
  (cond (decide (t_27 < (goLen e_24))) ((goAt e_24 t_27).bind fun e_28 => ((goAt p_y.Cells t_23).bind fun e_30 => ((goAt e_30 t_27).bind fun e_33 => ((impl_isRounded e_28 p_base e_33).bind fun t_35 => (cond (!t_35) (some (.done (.inr (.done (.inr (false, true)))))) (some (.next (w64 (t_27 + 1))))))))) (some (.done (.inl ()))))

noncomputable def impl_IsRounding_l1 (p_x : List (List Int)) (p_base : Int) (p_y : impl_Rounding) (t_23 : Int) : Option (Stp (Int) ((Unit) ⊕ (Bool × Bool))) :=
  (cond (decide (t_23 < (goLen p_x))) ((goAt p_x t_23).bind fun e_24 => ((loopC (impl_IsRounding_l2 p_base p_y t_23 e_24) 0).bind fun | .inl () => some (.next (w64 (t_23 + 1))) | .inr o => some o)) (some (.done (.inl ()))))

noncomputable def impl_IsRounding_l3 (p_base : Int) (p_y : impl_Rounding) (t_17 : impl_Rounding) (t_47 : Int) : Option (Stp (Int) ((Unit) ⊕ (Bool × Bool))) :=
  (cond (decide (t_47 < (goLen t_17.Rows))) ((goAt t_17.Rows t_47).bind fun e_48 => ((goAt p_y.Rows t_47).bind fun e_50 => ((impl_isRounded e_48 p_base e_50).bind fun t_52 => (cond (!t_52) (some (.done (.inr (false, true)))) (some (.next (w64 (t_47 + 1)))))))) (some (.done (.inl ()))))

noncomputable def impl_IsRounding_l4 (p_base : Int) (p_y : impl_Rounding) (t_17 : impl_Rounding) (t_53 : Int) : Option (Stp (Int) ((Unit) ⊕ (Bool × Bool))) :=
  (cond (decide (t_53 < (goLen t_17.Cols))) ((goAt t_17.Cols t_53).bind fun e_54 => ((goAt p_y.Cols t_53).bind fun e_56 => ((impl_isRounded e_54 p_base e_56).bind fun t_58 => (cond (!t_58) (some (.done (.inr (false, true)))) (some (.next (w64 (t_53 + 1)))))))) (some (.done (.inl ()))))

noncomputable def impl_IsRounding (p_x : List (List Int)) (p_base : Int) (p_y : impl_Rounding) : Option (Bool × Bool) :=
  ((((impl_isMatrix p_x).bind fun t_6 => (cond (!t_6) (some true) ((impl_isBaseOf p_base).bind fun t_7 => some (!t_7)))) : Option (Bool)).bind fun t_8 => (cond t_8 (some (false, false)) ((((goAt p_x 0).bind fun e_9 => ((impl_hasShape p_y.Cells (goLen p_x) (goLen e_9)).bind fun t_12 => (cond (!t_12) (some true) (cond ((goLen p_y.Rows) != (goLen p_x)) (some true) ((goAt p_x 0).bind fun e_13 => some ((goLen p_y.Cols) != (goLen e_13))))))) : Option (Bool)).bind fun t_16 => (cond t_16 (some (false, true)) ((impl_summed p_x).bind fun t_17 => ((loopC (impl_IsRounding_l1 p_x p_base p_y) 0).bind fun | .inl () => ((impl_summed p_y.Cells).bind fun t_36 => ((((slices_Equal_int_int t_36.Rows p_y.Rows).bind fun t_42 => (cond (!t_42) (some true) ((slices_Equal_int_int t_36.Cols p_y.Cols).bind fun t_44 => (cond (!t_44) (some true) (some (t_36.Total != p_y.Total)))))) : Option (Bool)).bind fun t_46 => (cond t_46 (some (false, true)) ((loopC (impl_IsRounding_l3 p_base p_y t_17) 0).bind fun | .inl () => ((loopC (impl_IsRounding_l4 p_base p_y t_17) 0).bind fun | .inl () => ((impl_isRounded t_17.Total p_base p_y.Total).bind fun t_59 => some (t_59, true)) | .inr o => some o) | .inr o => some o)))) | .inr o => some o))))))

noncomputable def impl_RoundingNetwork (p_x : List (List Int)) (p_base : Int) : Option (impl_Transport × Bool) :=
  ((((impl_isMatrix p_x).bind fun t_3 => (cond (!t_3) (some true) ((impl_isBaseOf p_base).bind fun t_4 => some (!t_4)))) : Option (Bool)).bind fun t_5 => (cond t_5 (some ((impl_Transport.mk ([] : List Int) ([] : List Int) ([] : List (List Int)) ([] : List (List Int))), false)) ((impl_roundingNetwork p_x p_base).bind fun t_6 => some (t_6, true))))

noncomputable def spec_RoundingNetwork (p_x : List (List Int)) (p_base : Int) : Option (impl_Transport × Bool) :=
  ((spec_oGood p_x p_base).bind fun t_3 => (cond (!t_3) (some ((impl_Transport.mk ([] : List Int) ([] : List Int) ([] : List (List Int)) ([] : List (List Int))), false)) ((spec_oNetwork p_x p_base).bind fun t_4 => some (t_4, true))))

noncomputable def impl_OriginalBounds_l2 (p_base : Int) (t_15 : Int) (e_16 : List Int) : (List (List Int)) × (List (List Int)) × Int → Option (Stp ((List (List Int)) × (List (List Int)) × Int) (((List (List Int)) × (List (List Int))) ⊕ (Stp ((List (List Int)) × (List (List Int)) × Int) (((List (List Int)) × (List (List Int))) ⊕ ((List (List Int)) × (List (List Int)) × Bool)))))
  | (lo_19, hi_21, t_23) => (cond (decide (t_23 < (goLen e_16))) ((goAt e_16 t_23).bind fun e_24 => ((goRem e_24 p_base).bind fun t_26 => (cond (t_26 != 0) (some (.done (.inr (.done (.inr (([] : List (List Int)), ([] : List (List Int)), false)))))) ((goAt lo_19 t_15).bind fun e_27 => ((goAt e_27 t_23).bind fun e_29 => ((goAt hi_21 t_15).bind fun e_32 => ((goAt e_32 t_23).bind fun e_34 => some (.next (goSet lo_19 t_15 (goSet e_27 t_23 (max 0 (w64 ((w64 (e_24 - p_base)) + 1)))), goSet hi_21 t_15 (goSet e_32 t_23 (w64 ((w64 (e_24 + p_base)) - 1))), (w64 (t_23 + 1))))))))))) (some (.done (.inl (lo_19, hi_21)))))

noncomputable def impl_OriginalBounds_l1 (p_y : List (List Int)) (p_base : Int) : (List (List Int)) × (List (List Int)) × Int → Option (Stp ((List (List Int)) × (List (List Int)) × Int) (((List (List Int)) × (List (List Int))) ⊕ ((List (List Int)) × (List (List Int)) × Bool)))
  | (lo_11, hi_13, t_15) => (cond (decide (t_15 < (goLen p_y))) ((goAt p_y t_15).bind fun e_16 => ((loopC (impl_OriginalBounds_l2 p_base t_15 e_16) (lo_11, hi_13, 0)).bind fun | .inl (lo_37, hi_39) => some (.next (lo_37, hi_39, (w64 (t_15 + 1)))) | .inr o => some o)) (some (.done (.inl (lo_11, hi_13)))))

noncomputable def impl_OriginalBounds (p_y : List (List Int)) (p_base : Int) : Option ((List (List Int)) × (List (List Int)) × Bool) :=
  ((((impl_isMatrix p_y).bind fun t_2 => (cond (!t_2) (some true) ((impl_isBaseOf p_base).bind fun t_3 => some (!t_3)))) : Option (Bool)).bind fun t_4 => (cond t_4 (some (([] : List (List Int)), ([] : List (List Int)), false)) ((impl_copyMatrix p_y).bind fun t_5 => ((impl_copyMatrix p_y).bind fun t_8 => ((loopC (impl_OriginalBounds_l1 p_y p_base) (t_5, t_8, 0)).bind fun | .inl (lo_41, hi_43) => some (lo_41, hi_43, true) | .inr o => some o)))))

noncomputable def laws_pSameNetwork (p_a : impl_Transport) (p_b : impl_Transport) : Option (Bool) :=
  ((((laws_sameInts p_a.Rows p_b.Rows).bind fun t_11 => (cond t_11 ((laws_sameInts p_a.Cols p_b.Cols).bind fun t_12 => (cond t_12 ((laws_sameLists p_a.Lo p_b.Lo).bind fun t_13 => (cond t_13 ((laws_sameLists p_a.Hi p_b.Hi).bind fun t_14 => some t_14) (some false))) (some false))) (some false))) : Option (Bool)).bind fun t_15 => some t_15)

noncomputable def impl_areSums_l1 (p_l : List Int) (t_3 : Int) : Option (Stp (Int) ((Unit) ⊕ (Bool))) :=
  (cond (decide (t_3 < (goLen p_l))) ((goAt p_l t_3).bind fun e_4 => (((cond (decide (e_4 < 0)) (some true) (some (decide (100000 < e_4)))) : Option (Bool)).bind fun t_6 => (cond t_6 (some (.done (.inr false))) (some (.next (w64 (t_3 + 1))))))) (some (.done (.inl ()))))

noncomputable def impl_areSums (p_l : List Int) : Option (Bool) :=
  (((cond (decide ((goLen p_l) < 1)) (some true) (some (decide (8 < (goLen p_l))))) : Option (Bool)).bind fun t_2 => (cond t_2 (some false) ((loopC (impl_areSums_l1 p_l) 0).bind fun | .inl () => some true | .inr o => some o)))

noncomputable def impl_IsTransport_l2 (p_t : impl_Transport) (t_11 : Int) (e_12 : List Int) (t_15 : Int) : Option (Stp (Int) ((Unit) ⊕ (Stp (Int) ((Unit) ⊕ (Bool))))) :=
  (cond (decide (t_15 < (goLen e_12))) ((goAt e_12 t_15).bind fun e_16 => (((cond (decide (e_16 < 0)) (some true) ((goAt p_t.Hi t_11).bind fun e_18 => ((goAt e_18 t_15).bind fun e_21 => (cond (decide (e_21 < e_16)) (some true) ((goAt p_t.Hi t_11).bind fun e_23 => ((goAt e_23 t_15).bind fun e_26 => some (decide (100000 < e_26)))))))) : Option (Bool)).bind fun t_28 => (cond t_28 (some (.done (.inr (.done (.inr false))))) (some (.next (w64 (t_15 + 1))))))) (some (.done (.inl ()))))

noncomputable def impl_IsTransport_l1 (p_t : impl_Transport) (t_11 : Int) : Option (Stp (Int) ((Unit) ⊕ (Bool))) :=
  (cond (decide (t_11 < (goLen p_t.Lo))) ((goAt p_t.Lo t_11).bind fun e_12 => ((loopC (impl_IsTransport_l2 p_t t_11 e_12) 0).bind fun | .inl () => some (.next (w64 (t_11 + 1))) | .inr o => some o)) (some (.done (.inl ()))))

noncomputable def impl_IsTransport (p_t : impl_Transport) : Option (Bool) :=
  ((((impl_areSums p_t.Rows).bind fun t_6 => (cond (!t_6) (some true) ((impl_areSums p_t.Cols).bind fun t_7 => (cond (!t_7) (some true) ((impl_hasShape p_t.Lo (goLen p_t.Rows) (goLen p_t.Cols)).bind fun t_8 => (cond (!t_8) (some true) ((impl_hasShape p_t.Hi (goLen p_t.Rows) (goLen p_t.Cols)).bind fun t_9 => some (!t_9)))))))) : Option (Bool)).bind fun t_10 => (cond t_10 (some false) ((loopC (impl_IsTransport_l1 p_t) 0).bind fun | .inl () => some true | .inr o => some o)))

noncomputable def spec_l1Most (p_a : Int) (p_b : Int) : Option (Int) :=
  (cond (decide (p_b < p_a)) (some p_a) (some p_b))

noncomputable def spec_OriginalBounds_l2 (p_base : Int) (t_13 : Int) (e_14 : List Int) : (List (List Int)) × (List (List Int)) × Int → Option (Stp ((List (List Int)) × (List (List Int)) × Int) (((List (List Int)) × (List (List Int))) ⊕ (Stp ((List (List Int)) × (List (List Int)) × Int) (((List (List Int)) × (List (List Int))) ⊕ ((List (List Int)) × (List (List Int)) × Bool)))))
  | (lo_17, hi_19, t_21) => (cond (decide (t_21 < (goLen e_14))) ((goAt e_14 t_21).bind fun e_22 => ((goRem e_22 p_base).bind fun t_24 => (cond (t_24 != 0) (some (.done (.inr (.done (.inr (([] : List (List Int)), ([] : List (List Int)), false)))))) ((goAt lo_17 t_13).bind fun e_25 => ((spec_l1Most 0 (w64 ((w64 (e_22 - p_base)) + 1))).bind fun t_27 => ((goAt e_25 t_21).bind fun e_28 => ((goAt hi_19 t_13).bind fun e_31 => ((goAt e_31 t_21).bind fun e_33 => some (.next (goSet lo_17 t_13 (goSet e_25 t_21 t_27), goSet hi_19 t_13 (goSet e_31 t_21 (w64 ((w64 (e_22 + p_base)) - 1))), (w64 (t_21 + 1)))))))))))) (some (.done (.inl (lo_17, hi_19)))))

noncomputable def spec_OriginalBounds_l1 (p_y : List (List Int)) (p_base : Int) : (List (List Int)) × (List (List Int)) × Int → Option (Stp ((List (List Int)) × (List (List Int)) × Int) (((List (List Int)) × (List (List Int))) ⊕ ((List (List Int)) × (List (List Int)) × Bool)))
  | (lo_9, hi_11, t_13) => (cond (decide (t_13 < (goLen p_y))) ((goAt p_y t_13).bind fun e_14 => ((loopC (spec_OriginalBounds_l2 p_base t_13 e_14) (lo_9, hi_11, 0)).bind fun | .inl (lo_36, hi_38) => some (.next (lo_36, hi_38, (w64 (t_13 + 1)))) | .inr o => some o)) (some (.done (.inl (lo_9, hi_11)))))

noncomputable def spec_OriginalBounds (p_y : List (List Int)) (p_base : Int) : Option ((List (List Int)) × (List (List Int)) × Bool) :=
  ((spec_oGood p_y p_base).bind fun t_2 => (cond (!t_2) (some (([] : List (List Int)), ([] : List (List Int)), false)) ((spec_tOwn p_y).bind fun t_3 => ((spec_tOwn p_y).bind fun t_6 => ((loopC (spec_OriginalBounds_l1 p_y p_base) (t_3, t_6, 0)).bind fun | .inl (lo_40, hi_42) => some (lo_40, hi_42, true) | .inr o => some o)))))

noncomputable def impl_nextFlow_l1 (p_t : impl_Transport) (p_x : List (List Int)) (p_7 : Int) : Option (Stp (Int) ((Unit) ⊕ ((List (List Int))))) :=
  (cond (decide (0 ≤ p_7)) ((((goQuo .i64 p_7 (goLen p_t.Cols)).bind fun t_8 => ((goRem p_7 (goLen p_t.Cols)).bind fun t_9 => ((goAt p_x t_8).bind fun e_10 => ((goAt e_10 t_9).bind fun e_13 => ((goAt p_t.Hi t_8).bind fun e_15 => ((goAt e_15 t_9).bind fun e_18 => (cond (e_13 == e_18) (some (.inl ())) ((impl_residual p_t p_x p_7).bind fun t_20 => ((impl_push t_20 (w64 ((goLen p_t.Rows) + t_9)) t_8 1).bind fun t_24 => (cond (t_24.1 == 0) (some (.inl ())) ((impl_restore p_t p_x t_24.2 p_7).bind fun t_26 => ((goAt t_26 t_8).bind fun e_30 => ((goAt e_30 t_9).bind fun e_32 => ((goAt e_30 t_9).bind fun e_34 => ((impl_firstFrom p_t (goSet t_26 t_8 (goSet e_30 t_9 (w64 (e_32 + 1)))) p_7).bind fun t_38 => some (.inr (.done (.inr t_38)))))))))))))))))) : Option ((Unit) ⊕ (Stp (Int) ((Unit) ⊕ ((List (List Int))))))).bind fun | .inl () => some (.next (w64 (p_7 - 1))) | .inr o => some o) (some (.done (.inl ()))))

noncomputable def impl_nextFlow (p_t : impl_Transport) (p_x : List (List Int)) : Option ((List (List Int))) :=
  ((loopC (impl_nextFlow_l1 p_t p_x) (w64 ((w64 ((goLen p_t.Rows) * (goLen p_t.Cols))) - 1))).bind fun | .inl () => some ([] : List (List Int)) | .inr o => some o)

noncomputable def impl_countFlows_l1 (p_t : impl_Transport) : Int × (List (List Int)) → Option (Stp (Int × (List (List Int))) ((Int) ⊕ (Int × Bool)))
  | (n_9, x_10) => (cond (!x_10.isEmpty) (cond (decide (2000 < (w64 (n_9 + 1)))) (some (.done (.inr (0, false)))) ((impl_nextFlow p_t x_10).bind fun t_12 => some (.next ((w64 (n_9 + 1)), t_12)))) (some (.done (.inl n_9))))

noncomputable def impl_countFlows (p_t : impl_Transport) : Option (Int × Bool) :=
  (cond (decide (16 < (w64 ((goLen p_t.Rows) * (goLen p_t.Cols))))) (some (0, false)) ((impl_firstFlow p_t).bind fun t_6 => ((loopC (impl_countFlows_l1 p_t) (0, t_6)).bind fun | .inl n_16 => some (n_16, true) | .inr o => some o)))

noncomputable def impl_CountRoundings (p_x : List (List Int)) (p_base : Int) : Option (Int × Bool) :=
  ((((impl_isMatrix p_x).bind fun t_2 => (cond (!t_2) (some true) ((impl_isBaseOf p_base).bind fun t_3 => some (!t_3)))) : Option (Bool)).bind fun t_4 => (cond t_4 (some (0, false)) ((impl_roundingNetwork p_x p_base).bind fun t_5 => ((impl_countFlows t_5).bind fun t_11 => some (t_11.1, t_11.2)))))

noncomputable def spec_DrawRoundingRange (p_code : List (K .u8)) : Option ((List (List Int)) × Int × Int × Int) :=
  ((spec_l1Cur_anyGrid (spec_l1Cur.mk p_code 0 (⟨0⟩ : K .u64))).bind fun t_4 => ((spec_l1Cur_base t_4.2).bind fun t_8 => ((spec_l1Cur_pick t_8.2 4).bind fun t_11 => ((spec_l1Cur_pick t_11.2 4).bind fun t_14 => ((spec_l1Cur_pick t_14.2 20).bind fun t_17 => ((goQuo .i64 t_17.1 19).bind fun t_19 => some (t_4.1, t_8.1, t_11.1, (w64 (t_14.1 - t_19)))))))))

noncomputable def impl_rangeOf_1 (p_x0 : impl_Transport) (p_x1 : List (List Int)) (p_x2 : Int) (p_x3 : Int) (p_x4 : Int) : Option ((List (List Int))) :=
  ((impl_residual p_x0 p_x1 (-1)).bind fun t_6 => ((goAt t_6 p_x2).bind fun e_9 => ((goAt t_6 (w64 (p_x3 + p_x4))).bind fun e_11 => ((goAt e_9 (w64 (p_x3 + p_x4))).bind fun e_13 => ((goAt (goSet t_6 p_x2 (goSet e_9 (w64 (p_x3 + p_x4)) 0)) (w64 (p_x3 + p_x4))).bind fun e_16 => ((goAt e_16 p_x2).bind fun e_17 => ((goAt (goSet (goSet t_6 p_x2 (goSet e_9 (w64 (p_x3 + p_x4)) 0)) (w64 (p_x3 + p_x4)) (goSet e_16 p_x2 0)) p_x2).bind fun e_20 => some (goSet (goSet t_6 p_x2 (goSet e_9 (w64 (p_x3 + p_x4)) 0)) (w64 (p_x3 + p_x4)) (goSet e_16 p_x2 0)))))))))

noncomputable def impl_rangeOf (p_t : impl_Transport) (p_x : List (List Int)) (p_i : Int) (p_j : Int) : Option (Int × Int) :=
  ((goAt p_x p_i).bind fun e_11 => ((goAt e_11 p_j).bind fun e_14 => ((goAt p_t.Lo p_i).bind fun e_43 => ((goAt e_43 p_j).bind fun e_55 => ((goAt p_t.Hi p_i).bind fun e_93 => ((goAt e_93 p_j).bind fun e_105 => ((impl_rangeOf_1 p_t p_x p_i (goLen p_t.Rows) p_j).bind fun t_117 => ((impl_push t_117 p_i (w64 ((goLen p_t.Rows) + p_j)) (w64 (e_14 - e_55))).bind fun t_120 => ((impl_rangeOf_1 p_t p_x p_i (goLen p_t.Rows) p_j).bind fun t_123 => ((impl_push t_123 (w64 ((goLen p_t.Rows) + p_j)) p_i (w64 (e_105 - e_14))).bind fun t_126 => some ((w64 (e_14 - t_120.1)), (w64 (e_14 + t_126.1)))))))))))))

noncomputable def impl_CellRange (p_t : impl_Transport) (p_i : Int) (p_j : Int) : Option (Int × Int × Bool) :=
  ((((impl_IsTransport p_t).bind fun t_6 => (cond (!t_6) (some true) (cond (decide (p_i < 0)) (some true) (cond (decide ((goLen p_t.Rows) ≤ p_i)) (some true) (cond (decide (p_j < 0)) (some true) (some (decide ((goLen p_t.Cols) ≤ p_j)))))))) : Option (Bool)).bind fun t_7 => (cond t_7 (some (0, 0, false)) ((impl_anyFlow p_t).bind fun t_8 => (cond t_8.isEmpty (some (0, 0, false)) ((impl_rangeOf p_t t_8 p_i p_j).bind fun t_11 => some (t_11.1, t_11.2, true))))))

noncomputable def impl_RoundingRange (p_x : List (List Int)) (p_base : Int) (p_i : Int) (p_j : Int) : Option (Int × Int × Bool) :=
  ((((impl_isMatrix p_x).bind fun t_2 => (cond (!t_2) (some true) ((impl_isBaseOf p_base).bind fun t_3 => (cond (!t_3) (some true) (cond (decide (p_i < 0)) (some true) (cond (decide ((goLen p_x) ≤ p_i)) (some true) (cond (decide (p_j < 0)) (some true) ((goAt p_x 0).bind fun e_4 => some (decide ((goLen e_4) ≤ p_j)))))))))) : Option (Bool)).bind fun t_7 => (cond t_7 (some (0, 0, false)) ((impl_roundingNetwork p_x p_base).bind fun t_8 => ((impl_CellRange t_8 p_i p_j).bind fun t_14 => some ((w64 (t_14.1 * p_base)), (w64 (t_14.2.1 * p_base)), t_14.2.2)))))

noncomputable def spec_tHigh_l1 (p_t : impl_Transport) (p_i : Int) (p_j : Int) : Int × Int → Option (Stp (Int × Int) (Int))
  | (lo_16, hi_17) => (cond (decide (lo_16 < hi_17)) ((goQuo .i64 (w64 ((w64 (lo_16 + hi_17)) + 1)) 2).bind fun t_19 => ((goAt p_t.Hi p_i).bind fun e_20 => ((goAt e_20 p_j).bind fun e_23 => ((spec_tWith p_t p_i p_j t_19 e_23).bind fun t_25 => ((spec_tFeasible t_25).bind fun t_33 => (((cond t_33.2 (some (t_19, hi_17)) (some (lo_16, (w64 (t_19 - 1))))) : Option (Int × Int)).bind fun (lo_36, hi_37) => some (.next (lo_36, hi_37)))))))) (some (.done lo_16)))

noncomputable def spec_tHigh (p_t : impl_Transport) (p_i : Int) (p_j : Int) : Option (Int) :=
  ((goAt p_t.Lo p_i).bind fun e_6 => ((goAt e_6 p_j).bind fun e_9 => ((goAt p_t.Hi p_i).bind fun e_11 => ((goAt e_11 p_j).bind fun e_14 => ((loopC (spec_tHigh_l1 p_t p_i p_j) (e_9, e_14)).bind fun lo_38 => some lo_38)))))

noncomputable def spec_tRange (p_t : impl_Transport) (p_i : Int) (p_j : Int) : Option (Int × Int × Bool) :=
  ((spec_tFeasible p_t).bind fun t_6 => (cond (!t_6.2) (some (0, 0, false)) ((spec_tLow p_t p_i p_j).bind fun t_12 => ((spec_tHigh p_t p_i p_j).bind fun t_13 => some (t_12, t_13, true)))))

noncomputable def spec_RoundingRange (p_x : List (List Int)) (p_base : Int) (p_i : Int) (p_j : Int) : Option (Int × Int × Bool) :=
  ((((spec_oGood p_x p_base).bind fun t_2 => (cond (!t_2) (some true) ((spec_l1In p_i 0 (w64 ((goLen p_x) - 1))).bind fun t_3 => (cond (!t_3) (some true) ((goAt p_x 0).bind fun e_4 => ((spec_l1In p_j 0 (w64 ((goLen e_4) - 1))).bind fun t_7 => some (!t_7))))))) : Option (Bool)).bind fun t_8 => (cond t_8 (some (0, 0, false)) ((spec_oNetwork p_x p_base).bind fun t_9 => ((spec_tRange t_9 p_i p_j).bind fun t_15 => some ((w64 (t_15.1 * p_base)), (w64 (t_15.2.1 * p_base)), t_15.2.2)))))

noncomputable def laws_FnRoundings_l2 (t_4 : (List (List Int)) × Int) (t_50 : (List (List Int)) × (List (List Int)) × Bool) (t_60 : Int) (e_61 : List Int) (t_63 : Int) : Option (Stp (Int) ((Unit) ⊕ (Stp (Int) ((Unit) ⊕ ((Unit) ⊕ (Bool)))))) :=
  (cond (decide (t_63 < (goLen e_61))) ((((goAt t_4.1 t_60).bind fun e_64 => ((goAt e_64 t_63).bind fun e_67 => ((goAt t_50.1 t_60).bind fun e_69 => ((goAt e_69 t_63).bind fun e_71 => (cond (decide (e_67 < e_71)) (some true) ((goAt t_4.1 t_60).bind fun e_73 => ((goAt e_73 t_63).bind fun e_76 => ((goAt t_50.2.1 t_60).bind fun e_78 => ((goAt e_78 t_63).bind fun e_80 => some (decide (e_80 < e_76))))))))))) : Option (Bool)).bind fun t_82 => (cond t_82 (some (.done (.inr (.done (.inr (.inr false)))))) (some (.next (w64 (t_63 + 1)))))) (some (.done (.inl ()))))

noncomputable def laws_FnRoundings_l1 (t_4 : (List (List Int)) × Int) (t_50 : (List (List Int)) × (List (List Int)) × Bool) (t_60 : Int) : Option (Stp (Int) ((Unit) ⊕ ((Unit) ⊕ (Bool)))) :=
  (cond (decide (t_60 < (goLen t_50.1))) ((goAt t_50.1 t_60).bind fun e_61 => ((loopC (laws_FnRoundings_l2 t_4 t_50 t_60 e_61) 0).bind fun | .inl () => some (.next (w64 (t_60 + 1))) | .inr o => some o)) (some (.done (.inl ()))))

noncomputable def laws_FnRoundings (p_code : List (K .u8)) (p_more : List (K .u8)) : Option (Bool) :=
  ((laws_big p_code p_more).bind fun t_3 => (cond t_3 (some true) ((spec_DrawFirstRounding p_code).bind fun t_4 => ((impl_FirstRounding t_4.1 t_4.2).bind fun t_7 => ((spec_FirstRounding t_4.1 t_4.2).bind fun t_15 => (((cond (t_7.2 != t_15.2) (some true) ((laws_pSameRounding t_7.1 t_15.1).bind fun t_21 => some (!t_21))) : Option (Bool)).bind fun t_23 => (cond t_23 (some false) (((cond t_7.2 ((impl_IsRounding t_4.1 t_4.2 t_7.1).bind fun t_24 => ((impl_RoundingNetwork t_4.1 t_4.2).bind fun t_26 => ((spec_RoundingNetwork t_4.1 t_4.2).bind fun t_33 => ((impl_OriginalBounds t_7.1.Cells t_4.2).bind fun t_40 => (((cond (!t_24.2) (some true) (cond (!t_24.1) (some true) (cond (!t_26.2) (some true) ((laws_pSameNetwork t_26.1 t_33.1).bind fun t_45 => (cond (!t_45) (some true) ((impl_IsTransport t_26.1).bind fun t_47 => some (!t_47))))))) : Option (Bool)).bind fun t_49 => (cond t_49 (some (.inr false)) ((spec_OriginalBounds t_15.1.Cells t_4.2).bind fun t_50 => (((cond (t_40.2.2 != t_50.2.2) (some true) ((laws_sameLists t_40.1 t_50.1).bind fun t_55 => (cond (!t_55) (some true) ((laws_sameLists t_40.2.1 t_50.2.1).bind fun t_57 => some (!t_57))))) : Option (Bool)).bind fun t_59 => (cond t_59 (some (.inr false)) ((loopC (laws_FnRoundings_l1 t_4 t_50) 0).bind fun | .inl () => ((impl_CountRoundings t_4.1 t_4.2).bind fun t_83 => (((cond t_83.2 (some (decide (t_83.1 < 1))) (some false)) : Option (Bool)).bind fun t_84 => (cond t_84 (some (.inr false)) (some (.inl ()))))) | .inr o => some o)))))))))) (some (.inl ()))) : Option ((Unit) ⊕ (Bool))).bind fun | .inl () => ((spec_DrawRoundingRange p_more).bind fun t_86 => ((impl_RoundingRange t_86.1 t_86.2.1 t_86.2.2.1 t_86.2.2.2).bind fun t_89 => ((spec_RoundingRange t_86.1 t_86.2.1 t_86.2.2.1 t_86.2.2.2).bind fun t_91 => (((cond (t_89.2.2 == t_91.2.2) (cond (t_89.1 == t_91.1) (some (t_89.2.1 == t_91.2.1)) (some false)) (some false)) : Option (Bool)).bind fun t_93 => some t_93)))) | .inr o => some o))))))))

end Go.Gx.F
