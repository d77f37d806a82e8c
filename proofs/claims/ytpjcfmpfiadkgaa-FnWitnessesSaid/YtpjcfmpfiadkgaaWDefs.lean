/- The plain functions that the walks come to. -/
import Derived.Test.YtpjcfmpfiadkgaaGy
namespace Go.Gx.F
open Go.Gx
set_option linter.all false

structure spec_l1Cur where
  code : List (K .u8)
  at_ : Int
  seed : K .u64

instance : Rep spec_l1Cur where
  wd := 3
  rd m cs x := ∃ s1 : Sl, cs = [s1.v, (.int .i64 x.at_), (.int .u64 x.seed.v)] ∧ Rd m s1 x.code
  mono hm h := by
    obtain ⟨s1, rfl, h1⟩ := h
    exact ⟨s1, rfl, h1.mono hm⟩
  len h := by obtain ⟨s1, rfl, _⟩ := h; rfl
  one h := by obtain ⟨s1, rfl, _⟩ := h; rfl

instance : Rng spec_l1Cur := ⟨fun x => Rng.ok x.code ∧ Rng.ok x.at_ ∧ Rng.ok x.seed⟩

structure impl_Transport where
  Rows : List Int
  Cols : List Int
  Lo : List (List Int)
  Hi : List (List Int)

instance : Rep impl_Transport where
  wd := 4
  rd m cs x := ∃ s1 s2 s3 s4 : Sl, cs = [s1.v, s2.v, s3.v, s4.v] ∧ Rd m s1 x.Rows ∧ Rd m s2 x.Cols ∧ Rd m s3 x.Lo ∧ Rd m s4 x.Hi
  mono hm h := by
    obtain ⟨s1, s2, s3, s4, rfl, h1, h2, h3, h4⟩ := h
    exact ⟨s1, s2, s3, s4, rfl, h1.mono hm, h2.mono hm, h3.mono hm, h4.mono hm⟩
  len h := by obtain ⟨s1, s2, s3, s4, rfl, _⟩ := h; rfl
  one h := by obtain ⟨s1, s2, s3, s4, rfl, _⟩ := h; rfl

instance : Rng impl_Transport := ⟨fun x => Rng.ok x.Rows ∧ Rng.ok x.Cols ∧ Rng.ok x.Lo ∧ Rng.ok x.Hi⟩

structure spec_tFill where
  t : impl_Transport
  x : List (List Int)
  rows : List Int
  cols : List Int

instance : Rep spec_tFill where
  wd := 7
  rd m cs x := ∃ s1 s2 s3 s4 s5 s6 s7 : Sl, cs = [s1.v, s2.v, s3.v, s4.v, s5.v, s6.v, s7.v] ∧ Rd m s1 x.t.Rows ∧ Rd m s2 x.t.Cols ∧ Rd m s3 x.t.Lo ∧ Rd m s4 x.t.Hi ∧ Rd m s5 x.x ∧ Rd m s6 x.rows ∧ Rd m s7 x.cols
  mono hm h := by
    obtain ⟨s1, s2, s3, s4, s5, s6, s7, rfl, h1, h2, h3, h4, h5, h6, h7⟩ := h
    exact ⟨s1, s2, s3, s4, s5, s6, s7, rfl, h1.mono hm, h2.mono hm, h3.mono hm, h4.mono hm, h5.mono hm, h6.mono hm, h7.mono hm⟩
  len h := by obtain ⟨s1, s2, s3, s4, s5, s6, s7, rfl, _⟩ := h; rfl
  one h := by obtain ⟨s1, s2, s3, s4, s5, s6, s7, rfl, _⟩ := h; rfl

instance : Rng spec_tFill := ⟨fun x => Rng.ok x.t ∧ Rng.ok x.x ∧ Rng.ok x.rows ∧ Rng.ok x.cols⟩

noncomputable def spec_l1Cur_next (p_c : spec_l1Cur) : Option (Int × spec_l1Cur) :=
  (((cond (decide (p_c.at_ < (goLen p_c.code))) ((goAt p_c.code p_c.at_).bind fun e_2 => some (w64 e_2.v)) (some 0)) : Option (Int)).bind fun b_4 => (cond (decide ((w64 (p_c.at_ + 1)) ≤ (goLen p_c.code))) (some (b_4, (spec_l1Cur.mk p_c.code (w64 (p_c.at_ + 1)) (⟨(IntKind.wrap .u64 ((IntKind.wrap .u64 ((IntKind.wrap .u64 (p_c.seed.v * 6364136223846793005)) + (IntKind.wrap .u64 b_4))) + 1442695040888963407))⟩ : K .u64)))) ((goShr .u64 (IntKind.wrap .u64 ((IntKind.wrap .u64 ((IntKind.wrap .u64 (p_c.seed.v * 6364136223846793005)) + (IntKind.wrap .u64 b_4))) + 1442695040888963407)) 40).bind fun t_5 => some ((w64 (goBits .and .u64 t_5 255)), (spec_l1Cur.mk p_c.code (w64 (p_c.at_ + 1)) (⟨(IntKind.wrap .u64 ((IntKind.wrap .u64 ((IntKind.wrap .u64 (p_c.seed.v * 6364136223846793005)) + (IntKind.wrap .u64 b_4))) + 1442695040888963407))⟩ : K .u64))))))

noncomputable def spec_l1Cur_pick (p_c : spec_l1Cur) (p_n : Int) : Option (Int × spec_l1Cur) :=
  (cond (decide (p_n ≤ 1)) (some (0, p_c)) ((spec_l1Cur_next p_c).bind fun t_3 => (((cond (decide (200 < p_n)) ((spec_l1Cur_next t_3.2).bind fun t_6 => some ((w64 ((w64 (t_3.1 * 256)) + t_6.1)), t_6.2)) (some (t_3.1, t_3.2))) : Option (Int × spec_l1Cur)).bind fun (x_8, p_c_9) => ((goRem x_8 p_n).bind fun t_11 => some (t_11, p_c_9)))))

noncomputable def spec_l1Cur_among (p_c : spec_l1Cur) (p_list : List Int) : Option (Int × spec_l1Cur) :=
  ((spec_l1Cur_pick p_c (goLen p_list)).bind fun t_4 => ((goAt p_list t_4.1).bind fun e_6 => some (e_6, t_4.2)))

noncomputable def spec_l1Cur_twoWay_l2 (t_6 : Int × spec_l1Cur) : (List Int) × Int × spec_l1Cur → Option (Stp ((List Int) × Int × spec_l1Cur) ((List Int) × spec_l1Cur))
  | (row_13, j_15, p_c_16) => (cond (decide (j_15 < (w64 (1 + t_6.1)))) ((spec_l1Cur_pick p_c_16 30).bind fun t_19 => ((spec_l1Cur_among t_19.2 ([0, 1, 2, 3, 5, 9, t_19.1] : List Int)).bind fun t_23 => ((goApp 8 row_13 ([t_23.1] : List Int)).bind fun l_26 => some (.next (l_26, (w64 (j_15 + 1)), t_23.2))))) (some (.done (row_13, p_c_16))))

noncomputable def spec_l1Cur_twoWay_l1 (t_3 : Int × spec_l1Cur) (t_6 : Int × spec_l1Cur) : (List (List Int)) × Int × spec_l1Cur → Option (Stp ((List (List Int)) × Int × spec_l1Cur) ((List (List Int)) × spec_l1Cur))
  | (out_8, i_10, p_c_11) => (cond (decide (i_10 < (w64 (1 + t_3.1)))) ((loopC (spec_l1Cur_twoWay_l2 t_6) (([] : List Int), 0, p_c_11)).bind fun (row_28, p_c_30) => ((goApp 24 out_8 ([row_28] : List (List Int))).bind fun l_33 => some (.next (l_33, (w64 (i_10 + 1)), p_c_30)))) (some (.done (out_8, p_c_11))))

noncomputable def spec_l1Cur_twoWay (p_c : spec_l1Cur) : Option ((List (List Int)) × spec_l1Cur) :=
  ((spec_l1Cur_pick p_c 4).bind fun t_3 => ((spec_l1Cur_pick t_3.2 4).bind fun t_6 => ((loopC (spec_l1Cur_twoWay_l1 t_3 t_6) (([] : List (List Int)), 0, t_6.2)).bind fun (out_35, p_c_37) => some (out_35, p_c_37))))

noncomputable def spec_l1Cur_anyTwoWay (p_c : spec_l1Cur) : Option ((List (List Int)) × spec_l1Cur) :=
  ((spec_l1Cur_twoWay p_c).bind fun t_3 => ((spec_l1Cur_pick t_3.2 24).bind fun t_7 => (((cond (t_7.1 == 0) ((((goAt t_3.1 0).bind fun e_25 => ((spec_l1Cur_among t_7.2 ([-1, 1000, 1001] : List Int)).bind fun t_30 => ((goAt e_25 0).bind fun e_32 => some (goSet t_3.1 0 (goSet e_25 0 t_30.1), t_30.2)))) : Option ((List (List Int)) × spec_l1Cur)).bind fun (x_35, p_c_37) => some (.inl (x_35, p_c_37))) (((cond (t_7.1 == 1) ((goAt t_3.1 0).bind fun e_14 => ((goApp 8 e_14 ([0] : List Int)).bind fun l_18 => ((goAt t_3.1 0).bind fun e_20 => some (.inl (goSet t_3.1 0 l_18))))) (cond (t_7.1 == 2) (some (.inr (.inr (([] : List (List Int)), t_7.2)))) (cond (t_7.1 == 3) ((spec_l1Cur_pick t_7.2 2).bind fun t_10 => ((goMake 24 (w64 (1 + t_10.1)) ([] : List Int)).bind fun l_12 => some (.inr (.inr (l_12, t_10.2))))) (some (.inl t_3.1))))) : Option (((List (List Int))) ⊕ (((List (List Int)) × spec_l1Cur) ⊕ ((List (List Int)) × spec_l1Cur)))).bind fun | .inl x_23 => some (.inl (x_23, t_7.2)) | .inr o => some o)) : Option (((List (List Int)) × spec_l1Cur) ⊕ ((List (List Int)) × spec_l1Cur))).bind fun | .inl (x_39, p_c_41) => some (x_39, p_c_41) | .inr o => some o)))

noncomputable def spec_l1Cur_one (p_c : spec_l1Cur) (p_n : Int) : Option (Bool × spec_l1Cur) :=
  ((spec_l1Cur_pick p_c p_n).bind fun t_3 => some (t_3.1 == 0, t_3.2))

noncomputable def spec_l1Cur_pattern_l2 (l_11 : List Int) : (List Int) × Int × spec_l1Cur → Option (Stp ((List Int) × Int × spec_l1Cur) ((List Int) × spec_l1Cur))
  | (p_13, t_15, p_c_16) => (cond (decide (t_15 < (goLen l_11))) ((spec_l1Cur_one p_c_16 2).bind fun t_19 => (((cond t_19.1 ((goAt p_13 t_15).bind fun e_21 => some (goSet p_13 t_15 1)) (some p_13)) : Option ((List Int))).bind fun p_24 => some (.next (p_24, (w64 (t_15 + 1)), t_19.2)))) (some (.done (p_13, p_c_16))))

noncomputable def spec_l1Cur_pattern_l1 (p_x : List (List Int)) : (List (List Int)) × Int × spec_l1Cur → Option (Stp ((List (List Int)) × Int × spec_l1Cur) ((List (List Int)) × spec_l1Cur))
  | (out_3, t_5, p_c_6) => (cond (decide (t_5 < (goLen p_x))) ((goAt p_x t_5).bind fun e_8 => ((goMake 8 (goLen e_8) (0 : Int)).bind fun l_11 => ((loopC (spec_l1Cur_pattern_l2 l_11) (l_11, 0, p_c_6)).bind fun (p_26, p_c_28) => ((goApp 24 out_3 ([p_26] : List (List Int))).bind fun l_31 => some (.next (l_31, (w64 (t_5 + 1)), p_c_28)))))) (some (.done (out_3, p_c_6))))

noncomputable def spec_l1Cur_pattern (p_c : spec_l1Cur) (p_x : List (List Int)) : Option ((List (List Int)) × spec_l1Cur) :=
  ((loopC (spec_l1Cur_pattern_l1 p_x) (([] : List (List Int)), 0, p_c)).bind fun (out_33, p_c_35) => (((cond (decide (0 < (goLen out_33))) ((goAt out_33 0).bind fun e_37 => (cond (decide (0 < (goLen e_37))) ((spec_l1Cur_one p_c_35 24).bind fun t_40 => some (t_40.1, t_40.2)) (some (false, p_c_35)))) (some (false, p_c_35))) : Option (Bool × spec_l1Cur)).bind fun (t_42, p_c_43) => (((cond t_42 ((((goAt out_33 0).bind fun e_52 => ((spec_l1Cur_among p_c_43 ([2, -1] : List Int)).bind fun t_57 => ((goAt e_52 0).bind fun e_59 => some (goSet out_33 0 (goSet e_52 0 t_57.1), t_57.2)))) : Option ((List (List Int)) × spec_l1Cur)).bind fun (out_62, p_c_64) => some (.inl (out_62, p_c_64))) ((spec_l1Cur_one p_c_43 30).bind fun t_46 => (cond t_46.1 ((goApp 24 out_33 ([([0] : List Int)] : List (List Int))).bind fun l_50 => some (.inr (l_50, t_46.2))) (some (.inl (out_33, t_46.2)))))) : Option (((List (List Int)) × spec_l1Cur) ⊕ ((List (List Int)) × spec_l1Cur))).bind fun | .inl (out_66, p_c_68) => some (out_66, p_c_68) | .inr o => some o)))

noncomputable def spec_l1Most (p_a : Int) (p_b : Int) : Option (Int) :=
  (cond (decide (p_b < p_a)) (some p_a) (some p_b))

noncomputable def spec_DrawIsProtected (p_code : List (K .u8)) : Option ((List (List Int)) × (List (List Int)) × Int × Int × Int × Int) :=
  ((spec_l1Cur_anyTwoWay (spec_l1Cur.mk p_code 0 (⟨0⟩ : K .u64))).bind fun t_4 => ((spec_l1Cur_pattern t_4.2 t_4.1).bind fun t_8 => ((spec_l1Most (goLen t_4.1) 1).bind fun t_11 => ((spec_l1Cur_pick t_8.2 t_11).bind fun t_13 => ((spec_l1Cur_pick t_13.2 4).bind fun t_16 => ((spec_l1Cur_among t_16.2 ([0, 1, 2, 5] : List Int)).bind fun t_20 => ((spec_l1Cur_among t_20.2 ([0, 1, 2, 5, -1] : List Int)).bind fun t_24 => some (t_4.1, t_8.1, t_13.1, t_16.1, t_20.1, t_24.1))))))))

noncomputable def impl_hasShape_l1 (p_x : List (List Int)) (p_cols : Int) (t_2 : Int) : Option (Stp (Int) ((Unit) ⊕ (Bool))) :=
  (cond (decide (t_2 < (goLen p_x))) ((goAt p_x t_2).bind fun e_3 => (cond ((goLen e_3) != p_cols) (some (.done (.inr false))) (some (.next (w64 (t_2 + 1)))))) (some (.done (.inl ()))))

noncomputable def impl_hasShape (p_x : List (List Int)) (p_rows : Int) (p_cols : Int) : Option (Bool) :=
  (cond ((goLen p_x) != p_rows) (some false) ((loopC (impl_hasShape_l1 p_x p_cols) 0).bind fun | .inl () => some true | .inr o => some o))

noncomputable def impl_isGrid_l2 (p_most : Int) (e_14 : List Int) (t_17 : Int) : Option (Stp (Int) ((Unit) ⊕ (Stp (Int) ((Unit) ⊕ (Bool))))) :=
  (cond (decide (t_17 < (goLen e_14))) ((goAt e_14 t_17).bind fun e_18 => (((cond (decide (e_18 < 0)) (some true) (some (decide (p_most < e_18)))) : Option (Bool)).bind fun t_20 => (cond t_20 (some (.done (.inr (.done (.inr false))))) (some (.next (w64 (t_17 + 1))))))) (some (.done (.inl ()))))

noncomputable def impl_isGrid_l1 (p_x : List (List Int)) (p_most : Int) (t_13 : Int) : Option (Stp (Int) ((Unit) ⊕ (Bool))) :=
  (cond (decide (t_13 < (goLen p_x))) ((goAt p_x t_13).bind fun e_14 => ((loopC (impl_isGrid_l2 p_most e_14) 0).bind fun | .inl () => some (.next (w64 (t_13 + 1))) | .inr o => some o)) (some (.done (.inl ()))))

noncomputable def impl_isGrid (p_x : List (List Int)) (p_most : Int) : Option (Bool) :=
  (((cond (decide ((goLen p_x) < 1)) (some true) (cond (decide (8 < (goLen p_x))) (some true) ((goAt p_x 0).bind fun e_2 => (cond (decide ((goLen e_2) < 1)) (some true) ((goAt p_x 0).bind fun e_5 => (cond (decide (8 < (goLen e_5))) (some true) ((goAt p_x 0).bind fun e_8 => ((impl_hasShape p_x (goLen p_x) (goLen e_8)).bind fun t_11 => some (!t_11))))))))) : Option (Bool)).bind fun t_12 => (cond t_12 (some false) ((loopC (impl_isGrid_l1 p_x p_most) 0).bind fun | .inl () => some true | .inr o => some o)))

noncomputable def impl_IsTwoWay (p_x : List (List Int)) : Option (Bool) :=
  ((impl_isGrid p_x 1000).bind fun t_2 => some t_2)

noncomputable def impl_isPattern (p_x : List (List Int)) (p_p : List (List Int)) : Option (Bool) :=
  ((((impl_isGrid p_p 1).bind fun t_3 => (cond t_3 ((goAt p_x 0).bind fun e_4 => ((impl_hasShape p_p (goLen p_x) (goLen e_4)).bind fun t_7 => some t_7)) (some false))) : Option (Bool)).bind fun t_8 => some t_8)

noncomputable def impl_areSuppressed (p_x : List (List Int)) (p_p : List (List Int)) : Option (Bool) :=
  ((((impl_IsTwoWay p_x).bind fun t_3 => (cond t_3 ((impl_isPattern p_x p_p).bind fun t_4 => some t_4) (some false))) : Option (Bool)).bind fun t_5 => some t_5)

noncomputable def impl_areMargins (p_down : Int) (p_up : Int) : Option (Bool) :=
  (((cond (decide (0 ≤ p_down)) (cond (decide (p_down ≤ 1000)) (cond (decide (0 ≤ p_up)) (some (decide (p_up ≤ 1000))) (some false)) (some false)) (some false)) : Option (Bool)).bind fun t_1 => some t_1)

noncomputable def impl_isHidden (p_p : List (List Int)) (p_i : Int) (p_j : Int) : Option (Bool) :=
  (((cond (decide (0 ≤ p_i)) (cond (decide (p_i < (goLen p_p))) (cond (decide (0 ≤ p_j)) ((goAt p_p p_i).bind fun e_2 => (cond (decide (p_j < (goLen e_2))) ((goAt p_p p_i).bind fun e_5 => ((goAt e_5 p_j).bind fun e_8 => some (e_8 == 1))) (some false))) (some false)) (some false)) (some false)) : Option (Bool)).bind fun t_10 => some t_10)

noncomputable def impl_rowSums_l2 (t_6 : Int) (e_7 : List Int) : (List Int) × Int → Option (Stp ((List Int) × Int) ((List Int)))
  | (sums_10, t_12) => (cond (decide (t_12 < (goLen e_7))) ((goAt e_7 t_12).bind fun e_13 => ((goAt sums_10 t_6).bind fun e_15 => ((goAt sums_10 t_6).bind fun e_17 => some (.next (goSet sums_10 t_6 (w64 (e_15 + e_13)), (w64 (t_12 + 1))))))) (some (.done sums_10)))

noncomputable def impl_rowSums_l1 (p_x : List (List Int)) : (List Int) × Int → Option (Stp ((List Int) × Int) ((List Int)))
  | (sums_4, t_6) => (cond (decide (t_6 < (goLen p_x))) ((goAt p_x t_6).bind fun e_7 => ((loopC (impl_rowSums_l2 t_6 e_7) (sums_4, 0)).bind fun sums_20 => some (.next (sums_20, (w64 (t_6 + 1)))))) (some (.done sums_4)))

noncomputable def impl_rowSums (p_x : List (List Int)) : Option ((List Int)) :=
  ((goMake 8 (goLen p_x) (0 : Int)).bind fun l_2 => ((loopC (impl_rowSums_l1 p_x) (l_2, 0)).bind fun sums_22 => some sums_22))

noncomputable def impl_colSums_l2 (e_10 : List Int) : (List Int) × Int → Option (Stp ((List Int) × Int) ((List Int)))
  | (sums_13, t_15) => (cond (decide (t_15 < (goLen e_10))) ((goAt e_10 t_15).bind fun e_16 => ((goAt sums_13 t_15).bind fun e_18 => ((goAt sums_13 t_15).bind fun e_20 => some (.next (goSet sums_13 t_15 (w64 (e_18 + e_16)), (w64 (t_15 + 1))))))) (some (.done sums_13)))

noncomputable def impl_colSums_l1 (p_x : List (List Int)) : (List Int) × Int → Option (Stp ((List Int) × Int) ((List Int)))
  | (sums_7, t_9) => (cond (decide (t_9 < (goLen p_x))) ((goAt p_x t_9).bind fun e_10 => ((loopC (impl_colSums_l2 e_10) (sums_7, 0)).bind fun sums_23 => some (.next (sums_23, (w64 (t_9 + 1)))))) (some (.done sums_7)))

noncomputable def impl_colSums (p_x : List (List Int)) : Option ((List Int)) :=
  ((goAt p_x 0).bind fun e_2 => ((goMake 8 (goLen e_2) (0 : Int)).bind fun l_5 => ((loopC (impl_colSums_l1 p_x) (l_5, 0)).bind fun sums_25 => some sums_25)))

noncomputable def slices_Clone_int_int (p_s : List Int) : Option ((List Int)) :=
  ((goApp 8 ([] : List Int) p_s).bind fun l_3 => some l_3)

noncomputable def impl_copyMatrix_l1 (p_x : List (List Int)) : (List (List Int)) × Int → Option (Stp ((List (List Int)) × Int) ((List (List Int))))
  | (out_5, t_7) => (cond (decide (t_7 < (goLen p_x))) ((goAt p_x t_7).bind fun e_8 => ((slices_Clone_int_int e_8).bind fun t_11 => ((goAt out_5 t_7).bind fun e_14 => some (.next (goSet out_5 t_7 t_11, (w64 (t_7 + 1))))))) (some (.done out_5)))

noncomputable def impl_copyMatrix (p_x : List (List Int)) : Option ((List (List Int))) :=
  ((goMake 24 (goLen p_x) ([] : List Int)).bind fun l_2 => ((goNE l_2).bind fun u_4 => ((loopC (impl_copyMatrix_l1 p_x) (l_2, 0)).bind fun out_17 => some out_17)))

noncomputable def impl_attackNetwork_l2 (t_17 : Int) (e_23 : List Int) : Int × impl_Transport → Option (Stp (Int × impl_Transport) (impl_Transport))
  | (t_26, t_27) => (cond (decide (t_26 < (goLen e_23))) ((goAt e_23 t_26).bind fun e_32 => (((cond (e_32 == 1) ((goAt t_27.Lo t_17).bind fun e_34 => ((goAt t_27.Hi t_17).bind fun e_36 => ((goAt e_34 t_26).bind fun e_38 => ((goAt e_36 t_26).bind fun e_41 => some (impl_Transport.mk t_27.Rows t_27.Cols (goSet t_27.Lo t_17 (goSet e_34 t_26 0)) (goSet t_27.Hi t_17 (goSet e_36 t_26 100000))))))) (some t_27)) : Option (impl_Transport)).bind fun t_44 => some (.next ((w64 (t_26 + 1)), t_44)))) (some (.done t_27)))

noncomputable def impl_attackNetwork_l1 (p_p : List (List Int)) : Int × impl_Transport → Option (Stp (Int × impl_Transport) (impl_Transport))
  | (t_17, t_18) => (cond (decide (t_17 < (goLen p_p))) ((goAt p_p t_17).bind fun e_23 => ((loopC (impl_attackNetwork_l2 t_17 e_23) (0, t_18)).bind fun t_49 => some (.next ((w64 (t_17 + 1)), t_49)))) (some (.done t_18)))

noncomputable def impl_attackNetwork (p_x : List (List Int)) (p_p : List (List Int)) : Option (impl_Transport) :=
  ((impl_rowSums p_x).bind fun t_4 => ((impl_colSums p_x).bind fun t_7 => ((impl_copyMatrix p_x).bind fun t_10 => ((impl_copyMatrix p_x).bind fun t_13 => ((loopC (impl_attackNetwork_l1 p_p) (0, (impl_Transport.mk t_4 t_7 t_10 t_13))).bind fun t_54 => some t_54)))))

noncomputable def impl_push_l2 (l_5 : List Int) : (List Int) × Int → Option (Stp ((List Int) × Int) ((List Int)))
  | (back_7, t_9) => (cond (decide (t_9 < (goLen l_5))) ((goAt back_7 t_9).bind fun e_10 => some (.next (goSet back_7 t_9 (-1), (w64 (t_9 + 1))))) (some (.done back_7)))

noncomputable def impl_push_l4 (e_26 : Int) (e_30 : List Int) : (List Int) × (List Int) × Int → Option (Stp ((List Int) × (List Int) × Int) ((List Int) × (List Int)))
  | (back_32, queue_34, t_36) => (cond (decide (t_36 < (goLen e_30))) ((goAt e_30 t_36).bind fun e_37 => (((cond (decide (0 < e_37)) ((goAt back_32 t_36).bind fun e_39 => some (decide (e_39 < 0))) (some false)) : Option (Bool)).bind fun t_41 => (((cond t_41 ((goAt back_32 t_36).bind fun e_42 => ((goApp 8 queue_34 ([t_36] : List Int)).bind fun l_46 => some (goSet back_32 t_36 e_26, l_46))) (some (back_32, queue_34))) : Option ((List Int) × (List Int))).bind fun (back_48, queue_50) => some (.next (back_48, queue_50, (w64 (t_36 + 1))))))) (some (.done (back_32, queue_34))))

noncomputable def impl_push_l3 (p_to : Int) (r_2 : List (List Int)) : (List Int) × (List Int) → Option (Stp ((List Int) × (List Int)) ((List Int)))
  | (back_19, queue_21) => (((cond (decide (0 < (goLen queue_21))) ((goAt back_19 p_to).bind fun e_23 => some (decide (e_23 < 0))) (some false)) : Option (Bool)).bind fun t_25 => (cond t_25 ((goAt queue_21 0).bind fun e_26 => ((goSub queue_21 1 (goLen queue_21)).bind fun l_28 => ((goAt r_2 e_26).bind fun e_30 => ((loopC (impl_push_l4 e_26 e_30) (back_19, l_28, 0)).bind fun (back_52, queue_54) => some (.next (back_52, queue_54)))))) (some (.done back_19))))

noncomputable def impl_push_l5 (p_from : Int) (r_2 : List (List Int)) (back_56 : List Int) : Int × Int → Option (Stp (Int × Int) (Int))
  | (step_60, v_61) => (cond (v_61 != p_from) ((goAt back_56 v_61).bind fun e_62 => ((goAt r_2 e_62).bind fun e_64 => ((goAt e_64 v_61).bind fun e_66 => ((goAt back_56 v_61).bind fun e_68 => some (.next (min step_60 e_66, e_68)))))) (some (.done step_60)))

noncomputable def impl_push_l6 (p_from : Int) (back_56 : List Int) (step_70 : Int) : (List (List Int)) × Int → Option (Stp ((List (List Int)) × Int) ((List (List Int))))
  | (r_71, v_73) => (cond (v_73 != p_from) ((goAt back_56 v_73).bind fun e_74 => ((goAt r_71 e_74).bind fun e_76 => ((goAt e_76 v_73).bind fun e_78 => ((goAt e_76 v_73).bind fun e_80 => ((goAt (goSet r_71 e_74 (goSet e_76 v_73 (w64 (e_78 - step_70)))) v_73).bind fun e_83 => ((goAt back_56 v_73).bind fun e_85 => ((goAt e_83 e_85).bind fun e_87 => ((goAt e_83 e_85).bind fun e_89 => ((goAt back_56 v_73).bind fun e_92 => some (.next (goSet (goSet r_71 e_74 (goSet e_76 v_73 (w64 (e_78 - step_70)))) v_73 (goSet e_83 e_85 (w64 (e_87 + step_70))), e_92))))))))))) (some (.done r_71)))

noncomputable def impl_push_l1 (p_from : Int) (p_to : Int) (p_limit : Int) : (List (List Int)) × Int → Option (Stp ((List (List Int)) × Int) ((List (List Int)) × Int))
  | (r_2, sent_4) => (cond (decide (sent_4 < p_limit)) ((goMake 8 (goLen r_2) (0 : Int)).bind fun l_5 => ((loopC (impl_push_l2 l_5) (l_5, 0)).bind fun back_13 => ((goAt back_13 p_from).bind fun e_15 => ((loopC (impl_push_l3 p_to r_2) (goSet back_13 p_from p_from, ([p_from] : List Int))).bind fun back_56 => ((goAt back_56 p_to).bind fun e_58 => (cond (decide (e_58 < 0)) (some (.done (r_2, sent_4))) ((loopC (impl_push_l5 p_from r_2 back_56) ((w64 (p_limit - sent_4)), p_to)).bind fun step_70 => ((loopC (impl_push_l6 p_from back_56 step_70) (r_2, p_to)).bind fun r_94 => some (.next (r_94, (w64 (sent_4 + step_70)))))))))))) (some (.done (r_2, sent_4))))

noncomputable def impl_push (p_r : List (List Int)) (p_from : Int) (p_to : Int) (p_limit : Int) : Option (Int × (List (List Int))) :=
  ((loopC (impl_push_l1 p_from p_to p_limit) (p_r, 0)).bind fun (r_96, sent_98) => some (sent_98, r_96))

noncomputable def impl_residual_l1 (p_t : impl_Transport) (l_7 : List (List Int)) : (List (List Int)) × Int → Option (Stp ((List (List Int)) × Int) ((List (List Int))))
  | (r_9, t_11) => (cond (decide (t_11 < (goLen l_7))) ((goMake 8 (w64 ((goLen p_t.Rows) + (goLen p_t.Cols))) (0 : Int)).bind fun l_12 => ((goAt r_9 t_11).bind fun e_14 => some (.next (goSet r_9 t_11 l_12, (w64 (t_11 + 1)))))) (some (.done r_9)))

noncomputable def impl_residual_l3 (p_t : impl_Transport) (p_fixed : Int) (t_21 : Int) (e_22 : List Int) : (List (List Int)) × Int → Option (Stp ((List (List Int)) × Int) ((List (List Int))))
  | (r_25, t_27) => (cond (decide (t_27 < (goLen e_22))) ((goAt e_22 t_27).bind fun e_28 => (((cond (decide (p_fixed < (w64 ((w64 (t_21 * (goLen p_t.Cols))) + t_27)))) ((goAt r_25 t_21).bind fun e_30 => ((goAt p_t.Hi t_21).bind fun e_32 => ((goAt e_32 t_27).bind fun e_35 => ((goAt e_30 (w64 ((goLen p_t.Rows) + t_27))).bind fun e_37 => ((goAt (goSet r_25 t_21 (goSet e_30 (w64 ((goLen p_t.Rows) + t_27)) (w64 (e_35 - e_28)))) (w64 ((goLen p_t.Rows) + t_27))).bind fun e_40 => ((goAt p_t.Lo t_21).bind fun e_42 => ((goAt e_42 t_27).bind fun e_45 => ((goAt e_40 t_21).bind fun e_47 => some (goSet (goSet r_25 t_21 (goSet e_30 (w64 ((goLen p_t.Rows) + t_27)) (w64 (e_35 - e_28)))) (w64 ((goLen p_t.Rows) + t_27)) (goSet e_40 t_21 (w64 (e_28 - e_45)))))))))))) (some r_25)) : Option ((List (List Int)))).bind fun r_50 => some (.next (r_50, (w64 (t_27 + 1)))))) (some (.done r_25)))

noncomputable def impl_residual_l2 (p_t : impl_Transport) (p_x : List (List Int)) (p_fixed : Int) : (List (List Int)) × Int → Option (Stp ((List (List Int)) × Int) ((List (List Int))))
  | (r_19, t_21) => (cond (decide (t_21 < (goLen p_x))) ((goAt p_x t_21).bind fun e_22 => ((loopC (impl_residual_l3 p_t p_fixed t_21 e_22) (r_19, 0)).bind fun r_52 => some (.next (r_52, (w64 (t_21 + 1)))))) (some (.done r_19)))

noncomputable def impl_residual (p_t : impl_Transport) (p_x : List (List Int)) (p_fixed : Int) : Option ((List (List Int))) :=
  ((goMake 24 (w64 ((goLen p_t.Rows) + (goLen p_t.Cols))) ([] : List Int)).bind fun l_7 => ((loopC (impl_residual_l1 p_t l_7) (l_7, 0)).bind fun r_17 => ((loopC (impl_residual_l2 p_t p_x p_fixed) (r_17, 0)).bind fun r_54 => some r_54)))

noncomputable def impl_rangeOf_1 (p_x0 : impl_Transport) (p_x1 : List (List Int)) (p_x2 : Int) (p_x3 : Int) (p_x4 : Int) : Option ((List (List Int))) :=
  ((impl_residual p_x0 p_x1 (-1)).bind fun t_6 => ((goAt t_6 p_x2).bind fun e_9 => ((goAt t_6 (w64 (p_x3 + p_x4))).bind fun e_11 => ((goAt e_9 (w64 (p_x3 + p_x4))).bind fun e_13 => ((goAt (goSet t_6 p_x2 (goSet e_9 (w64 (p_x3 + p_x4)) 0)) (w64 (p_x3 + p_x4))).bind fun e_16 => ((goAt e_16 p_x2).bind fun e_17 => ((goAt (goSet (goSet t_6 p_x2 (goSet e_9 (w64 (p_x3 + p_x4)) 0)) (w64 (p_x3 + p_x4)) (goSet e_16 p_x2 0)) p_x2).bind fun e_20 => some (goSet (goSet t_6 p_x2 (goSet e_9 (w64 (p_x3 + p_x4)) 0)) (w64 (p_x3 + p_x4)) (goSet e_16 p_x2 0)))))))))

noncomputable def impl_rangeOf (p_t : impl_Transport) (p_x : List (List Int)) (p_i : Int) (p_j : Int) : Option (Int × Int) :=
  ((goAt p_x p_i).bind fun e_11 => ((goAt e_11 p_j).bind fun e_14 => ((goAt p_t.Lo p_i).bind fun e_43 => ((goAt e_43 p_j).bind fun e_55 => ((goAt p_t.Hi p_i).bind fun e_93 => ((goAt e_93 p_j).bind fun e_105 => ((impl_rangeOf_1 p_t p_x p_i (goLen p_t.Rows) p_j).bind fun t_117 => ((impl_push t_117 p_i (w64 ((goLen p_t.Rows) + p_j)) (w64 (e_14 - e_55))).bind fun t_120 => ((impl_rangeOf_1 p_t p_x p_i (goLen p_t.Rows) p_j).bind fun t_123 => ((impl_push t_123 (w64 ((goLen p_t.Rows) + p_j)) p_i (w64 (e_105 - e_14))).bind fun t_126 => some ((w64 (e_14 - t_120.1)), (w64 (e_14 + t_126.1)))))))))))))

noncomputable def impl_isProtected (p_t : impl_Transport) (p_x : List (List Int)) (p_i : Int) (p_j : Int) (p_down : Int) (p_up : Int) : Option (Bool) :=
  ((impl_rangeOf p_t p_x p_i p_j).bind fun t_7 => ((((goAt p_x p_i).bind fun e_8 => ((goAt e_8 p_j).bind fun e_11 => (cond (decide (t_7.1 ≤ (max 0 (w64 (e_11 - p_down))))) ((goAt p_x p_i).bind fun e_13 => ((goAt e_13 p_j).bind fun e_16 => some (decide ((w64 (e_16 + p_up)) ≤ t_7.2)))) (some false)))) : Option (Bool)).bind fun t_18 => some t_18))

noncomputable def impl_IsProtected (p_x : List (List Int)) (p_p : List (List Int)) (p_i : Int) (p_j : Int) (p_down : Int) (p_up : Int) : Option (Bool × Bool) :=
  ((((impl_areSuppressed p_x p_p).bind fun t_3 => (cond (!t_3) (some true) ((impl_areMargins p_down p_up).bind fun t_4 => (cond (!t_4) (some true) ((impl_isHidden p_p p_i p_j).bind fun t_5 => some (!t_5)))))) : Option (Bool)).bind fun t_6 => (cond t_6 (some (false, false)) ((impl_attackNetwork p_x p_p).bind fun t_7 => ((impl_isProtected t_7 p_x p_i p_j p_down p_up).bind fun t_13 => some (t_13, true)))))

noncomputable def spec_l1In (p_n : Int) (p_lo : Int) (p_hi : Int) : Option (Bool) :=
  (((cond (decide (p_lo ≤ p_n)) (some (decide (p_n ≤ p_hi))) (some false)) : Option (Bool)).bind fun t_1 => some t_1)

noncomputable def spec_l1All_l1 (p_l : List Int) (p_lo : Int) (p_hi : Int) (t_2 : Int) : Option (Stp (Int) ((Unit) ⊕ (Bool))) :=
  (cond (decide (t_2 < (goLen p_l))) ((goAt p_l t_2).bind fun e_3 => ((spec_l1In e_3 p_lo p_hi).bind fun t_5 => (cond (!t_5) (some (.done (.inr false))) (some (.next (w64 (t_2 + 1))))))) (some (.done (.inl ()))))

noncomputable def spec_l1All (p_l : List Int) (p_lo : Int) (p_hi : Int) : Option (Bool) :=
  ((loopC (spec_l1All_l1 p_l p_lo p_hi) 0).bind fun | .inl () => some true | .inr o => some o)

noncomputable def spec_qForm_l1 (p_x : List (List Int)) (p_hi : Int) (t_8 : Int) : Option (Stp (Int) ((Unit) ⊕ (Bool))) :=
  (cond (decide (t_8 < (goLen p_x))) ((goAt p_x t_8).bind fun e_9 => ((((goAt p_x 0).bind fun e_12 => (cond ((goLen e_9) != (goLen e_12)) (some true) ((spec_l1All e_9 0 p_hi).bind fun t_15 => some (!t_15)))) : Option (Bool)).bind fun t_16 => (cond t_16 (some (.done (.inr false))) (some (.next (w64 (t_8 + 1))))))) (some (.done (.inl ()))))

noncomputable def spec_qForm (p_x : List (List Int)) (p_hi : Int) : Option (Bool) :=
  ((((spec_l1In (goLen p_x) 1 8).bind fun t_2 => (cond (!t_2) (some true) ((goAt p_x 0).bind fun e_3 => ((spec_l1In (goLen e_3) 1 8).bind fun t_6 => some (!t_6))))) : Option (Bool)).bind fun t_7 => (cond t_7 (some false) ((loopC (spec_qForm_l1 p_x p_hi) 0).bind fun | .inl () => some true | .inr o => some o)))

noncomputable def spec_qTable (p_x : List (List Int)) : Option (Bool) :=
  ((spec_qForm p_x 1000).bind fun t_2 => some t_2)

noncomputable def spec_qPattern (p_x : List (List Int)) (p_p : List (List Int)) : Option (Bool) :=
  ((((spec_qTable p_x).bind fun t_3 => (cond t_3 ((spec_qForm p_p 1).bind fun t_4 => (cond t_4 (cond ((goLen p_p) == (goLen p_x)) ((goAt p_p 0).bind fun e_5 => ((goAt p_x 0).bind fun e_8 => some ((goLen e_5) == (goLen e_8)))) (some false)) (some false))) (some false))) : Option (Bool)).bind fun t_11 => some t_11)

noncomputable def spec_vCell (p_x : List (List Int)) (p_p : List (List Int)) (p_i : Int) (p_j : Int) : Option (Bool) :=
  ((((spec_qPattern p_x p_p).bind fun t_3 => (cond t_3 ((spec_l1In p_i 0 (w64 ((goLen p_x) - 1))).bind fun t_4 => (cond t_4 ((goAt p_x 0).bind fun e_5 => ((spec_l1In p_j 0 (w64 ((goLen e_5) - 1))).bind fun t_8 => (cond t_8 ((goAt p_p p_i).bind fun e_9 => ((goAt e_9 p_j).bind fun e_12 => some (e_12 == 1))) (some false)))) (some false))) (some false))) : Option (Bool)).bind fun t_14 => some t_14)

noncomputable def spec_vLevels (p_down : Int) (p_up : Int) : Option (Bool) :=
  ((((spec_l1In p_down 0 1000).bind fun t_1 => (cond t_1 ((spec_l1In p_up 0 1000).bind fun t_2 => some t_2) (some false))) : Option (Bool)).bind fun t_3 => some t_3)

noncomputable def spec_tSum_l1 (p_l : List Int) : Int × Int → Option (Stp (Int × Int) (Int))
  | (sum_2, t_3) => (cond (decide (t_3 < (goLen p_l))) ((goAt p_l t_3).bind fun e_4 => some (.next ((w64 (sum_2 + e_4)), (w64 (t_3 + 1))))) (some (.done sum_2)))

noncomputable def spec_tSum (p_l : List Int) : Option (Int) :=
  ((loopC (spec_tSum_l1 p_l) (0, 0)).bind fun sum_6 => some sum_6)

noncomputable def spec_tColumn_l1 (p_x : List (List Int)) (p_j : Int) : (List Int) × Int → Option (Stp ((List Int) × Int) ((List Int)))
  | (out_2, t_4) => (cond (decide (t_4 < (goLen p_x))) ((goAt p_x t_4).bind fun e_5 => ((goAt e_5 p_j).bind fun e_8 => ((goApp 8 out_2 ([e_8] : List Int)).bind fun l_11 => some (.next (l_11, (w64 (t_4 + 1))))))) (some (.done out_2)))

noncomputable def spec_tColumn (p_x : List (List Int)) (p_j : Int) : Option ((List Int)) :=
  ((loopC (spec_tColumn_l1 p_x p_j) (([] : List Int), 0)).bind fun out_13 => some out_13)

noncomputable def spec_qNetwork_l2 (p_p : List (List Int)) (t_5 : Int) (e_11 : List Int) : (List Int) × (List Int) × Int → Option (Stp ((List Int) × (List Int) × Int) ((List Int) × (List Int)))
  | (lo_18, hi_20, t_22) => (cond (decide (t_22 < (goLen e_11))) ((goAt e_11 t_22).bind fun e_23 => ((goAt p_p t_5).bind fun e_25 => ((goAt e_25 t_22).bind fun e_28 => (((cond (e_28 == 1) ((goApp 8 lo_18 ([0] : List Int)).bind fun l_37 => ((goApp 8 hi_20 ([100000] : List Int)).bind fun l_40 => some (l_37, l_40))) ((goApp 8 lo_18 ([e_23] : List Int)).bind fun l_31 => ((goApp 8 hi_20 ([e_23] : List Int)).bind fun l_34 => some (l_31, l_34)))) : Option ((List Int) × (List Int))).bind fun (lo_42, hi_44) => some (.next (lo_42, hi_44, (w64 (t_22 + 1)))))))) (some (.done (lo_18, hi_20))))

noncomputable def spec_qNetwork_l1 (p_x : List (List Int)) (p_p : List (List Int)) : Int × impl_Transport → Option (Stp (Int × impl_Transport) (impl_Transport))
  | (t_5, t_6) => (cond (decide (t_5 < (goLen p_x))) ((goAt p_x t_5).bind fun e_11 => ((spec_tSum e_11).bind fun t_14 => ((goApp 8 t_6.Rows ([t_14] : List Int)).bind fun l_16 => ((loopC (spec_qNetwork_l2 p_p t_5 e_11) (([] : List Int), ([] : List Int), 0)).bind fun (lo_46, hi_48) => ((goApp 24 t_6.Lo ([lo_46] : List (List Int))).bind fun l_52 => ((goApp 24 t_6.Hi ([hi_48] : List (List Int))).bind fun l_56 => some (.next ((w64 (t_5 + 1)), (impl_Transport.mk l_16 ([] : List Int) l_52 l_56))))))))) (some (.done (impl_Transport.mk t_6.Rows ([] : List Int) t_6.Lo t_6.Hi))))

noncomputable def spec_qNetwork_l3 (p_x : List (List Int)) (e_63 : List Int) : Int × impl_Transport → Option (Stp (Int × impl_Transport) (impl_Transport))
  | (t_66, t_67) => (cond (decide (t_66 < (goLen e_63))) ((spec_tColumn p_x t_66).bind fun t_72 => ((spec_tSum t_72).bind fun t_75 => ((goApp 8 t_67.Cols ([t_75] : List Int)).bind fun l_78 => some (.next ((w64 (t_66 + 1)), (impl_Transport.mk t_67.Rows l_78 t_67.Lo t_67.Hi)))))) (some (.done t_67)))

noncomputable def spec_qNetwork (p_x : List (List Int)) (p_p : List (List Int)) : Option (impl_Transport) :=
  ((loopC (spec_qNetwork_l1 p_x p_p) (0, (impl_Transport.mk ([] : List Int) ([] : List Int) ([] : List (List Int)) ([] : List (List Int))))).bind fun t_58 => ((goAt p_x 0).bind fun e_63 => ((loopC (spec_qNetwork_l3 p_x e_63) (0, (impl_Transport.mk t_58.Rows ([] : List Int) t_58.Lo t_58.Hi))).bind fun t_80 => some t_80)))

noncomputable def spec_vGoal (p_n : Int) (p_down : Int) : Option (Int) :=
  ((spec_l1Most (w64 (p_n - p_down)) 0).bind fun t_1 => some t_1)

noncomputable def spec_l1Own (p_l : List Int) : Option ((List Int)) :=
  ((goApp 8 ([] : List Int) p_l).bind fun l_3 => some l_3)

noncomputable def spec_tOwn_l1 (p_x : List (List Int)) : (List (List Int)) × Int → Option (Stp ((List (List Int)) × Int) ((List (List Int))))
  | (out_2, t_4) => (cond (decide (t_4 < (goLen p_x))) ((goAt p_x t_4).bind fun e_5 => ((spec_l1Own e_5).bind fun t_8 => ((goApp 24 out_2 ([t_8] : List (List Int))).bind fun l_12 => some (.next (l_12, (w64 (t_4 + 1))))))) (some (.done out_2)))

noncomputable def spec_tOwn (p_x : List (List Int)) : Option ((List (List Int))) :=
  ((loopC (spec_tOwn_l1 p_x) (([] : List (List Int)), 0)).bind fun out_14 => some out_14)

noncomputable def spec_tWith (p_t : impl_Transport) (p_i : Int) (p_j : Int) (p_lo : Int) (p_hi : Int) : Option (impl_Transport) :=
  ((((spec_tOwn p_t.Lo).bind fun t_16 => ((spec_tOwn p_t.Hi).bind fun t_19 => some (impl_Transport.mk p_t.Rows p_t.Cols t_16 t_19))) : Option (impl_Transport)).bind fun out_23 => ((goAt out_23.Lo p_i).bind fun e_28 => ((goAt e_28 p_j).bind fun e_30 => ((goAt out_23.Hi p_i).bind fun e_33 => ((goAt e_33 p_j).bind fun e_35 => some (impl_Transport.mk out_23.Rows out_23.Cols (goSet out_23.Lo p_i (goSet e_28 p_j p_lo)) (goSet out_23.Hi p_i (goSet e_33 p_j p_hi))))))))

noncomputable def spec_tStart_l1 (p_t : impl_Transport) : Int × spec_tFill → Option (Stp (Int × spec_tFill) (spec_tFill))
  | (t_10, t_11) => (cond (decide (t_10 < (goLen p_t.Rows))) ((goAt p_t.Rows t_10).bind fun e_18 => ((goAt p_t.Lo t_10).bind fun e_20 => ((spec_tSum e_20).bind fun t_23 => ((goApp 8 t_11.rows ([(w64 (e_18 - t_23))] : List Int)).bind fun l_25 => some (.next ((w64 (t_10 + 1)), (spec_tFill.mk t_11.t t_11.x l_25 ([] : List Int)))))))) (some (.done (spec_tFill.mk t_11.t t_11.x t_11.rows ([] : List Int)))))

noncomputable def spec_tStart_l2 (p_t : impl_Transport) : Int × spec_tFill → Option (Stp (Int × spec_tFill) (spec_tFill))
  | (t_34, t_35) => (cond (decide (t_34 < (goLen p_t.Cols))) ((goAt p_t.Cols t_34).bind fun e_43 => ((spec_tColumn p_t.Lo t_34).bind fun t_45 => ((spec_tSum t_45).bind fun t_48 => ((goApp 8 t_35.cols ([(w64 (e_43 - t_48))] : List Int)).bind fun l_51 => some (.next ((w64 (t_34 + 1)), (spec_tFill.mk t_35.t t_35.x t_35.rows l_51))))))) (some (.done t_35)))

noncomputable def spec_tStart (p_t : impl_Transport) : Option (spec_tFill × Bool) :=
  ((spec_tOwn p_t.Lo).bind fun t_6 => ((loopC (spec_tStart_l1 p_t) (0, (spec_tFill.mk p_t t_6 ([] : List Int) ([] : List Int)))).bind fun t_27 => ((loopC (spec_tStart_l2 p_t) (0, (spec_tFill.mk t_27.t t_27.x t_27.rows ([] : List Int)))).bind fun t_53 => ((((spec_l1All t_53.rows 0 100000).bind fun t_61 => (cond t_61 ((spec_l1All t_53.cols 0 100000).bind fun t_63 => some t_63) (some false))) : Option (Bool)).bind fun t_65 => some (t_53, t_65)))))

noncomputable def spec_tFill_room (p_f : spec_tFill) (p_v : Int) (p_k : Int) : Option (Int) :=
  (((cond (decide (p_v < (goLen p_f.rows))) (some (decide ((goLen p_f.rows) ≤ p_k))) (some false)) : Option (Bool)).bind fun t_8 => (cond t_8 ((goAt p_f.t.Hi p_v).bind fun e_20 => ((goAt e_20 (w64 (p_k - (goLen p_f.rows)))).bind fun e_23 => ((goAt p_f.x p_v).bind fun e_25 => ((goAt e_25 (w64 (p_k - (goLen p_f.rows)))).bind fun e_28 => some (w64 (e_23 - e_28)))))) (((cond (decide ((goLen p_f.rows) ≤ p_v)) (some (decide (p_k < (goLen p_f.rows)))) (some false)) : Option (Bool)).bind fun t_9 => (cond t_9 ((goAt p_f.x p_k).bind fun e_10 => ((goAt e_10 (w64 (p_v - (goLen p_f.rows)))).bind fun e_13 => ((goAt p_f.t.Lo p_k).bind fun e_15 => ((goAt e_15 (w64 (p_v - (goLen p_f.rows)))).bind fun e_18 => some (w64 (e_13 - e_18)))))) (some 0)))))

noncomputable def spec_l1Least (p_a : Int) (p_b : Int) : Option (Int) :=
  (cond (decide (p_a < p_b)) (some p_a) (some p_b))

noncomputable def spec_tFill_push_l1 (p_f : spec_tFill) (p_from : List Int) : Int × Int → Option (Stp (Int × Int) (Int × Int))
  | (most_11, start_12) => ((goAt p_from start_12).bind fun e_13 => (cond (decide (0 ≤ e_13)) ((goAt p_from start_12).bind fun e_15 => ((spec_tFill_room p_f e_15 start_12).bind fun t_18 => ((spec_l1Least most_11 t_18).bind fun t_19 => ((goAt p_from start_12).bind fun e_20 => some (.next (t_19, e_20)))))) (some (.done (most_11, start_12)))))

noncomputable def spec_tFill_push_l2 (p_f : spec_tFill) (p_from : List Int) (t_26 : Int) : Int × spec_tFill → Option (Stp (Int × spec_tFill) (spec_tFill))
  | (v_27, p_f_28) => ((goAt p_from v_27).bind fun e_36 => (cond (decide (0 ≤ e_36)) (((cond (decide ((goLen p_f.rows) ≤ v_27)) ((goAt p_from v_27).bind fun e_47 => ((goAt p_f_28.x e_47).bind fun e_49 => ((goAt e_49 (w64 (v_27 - (goLen p_f.rows)))).bind fun e_51 => ((goAt e_49 (w64 (v_27 - (goLen p_f.rows)))).bind fun e_53 => some (spec_tFill.mk p_f_28.t (goSet p_f_28.x e_47 (goSet e_49 (w64 (v_27 - (goLen p_f.rows))) (w64 (e_51 + t_26)))) p_f_28.rows p_f_28.cols))))) ((goAt p_f_28.x v_27).bind fun e_38 => ((goAt p_from v_27).bind fun e_40 => ((goAt e_38 (w64 (e_40 - (goLen p_f.rows)))).bind fun e_42 => ((goAt e_38 (w64 (e_40 - (goLen p_f.rows)))).bind fun e_44 => some (spec_tFill.mk p_f_28.t (goSet p_f_28.x v_27 (goSet e_38 (w64 (e_40 - (goLen p_f.rows))) (w64 (e_42 - t_26)))) p_f_28.rows p_f_28.cols)))))) : Option (spec_tFill)).bind fun p_f_56 => ((goAt p_from v_27).bind fun e_64 => some (.next (e_64, p_f_56)))) (some (.done p_f_28))))

noncomputable def spec_tFill_push (p_f : spec_tFill) (p_from : List Int) (p_end : Int) : Option (spec_tFill) :=
  ((goAt p_f.cols (w64 (p_end - (goLen p_f.rows)))).bind fun e_9 => ((loopC (spec_tFill_push_l1 p_f p_from) (e_9, p_end)).bind fun (most_22, start_23) => ((goAt p_f.rows start_23).bind fun e_24 => ((spec_l1Least most_22 e_24).bind fun t_26 => ((loopC (spec_tFill_push_l2 p_f p_from t_26) (p_end, p_f)).bind fun p_f_66 => ((goAt p_f_66.rows start_23).bind fun e_74 => ((goAt p_f_66.rows start_23).bind fun e_76 => ((goAt p_f_66.cols (w64 (p_end - (goLen p_f.rows)))).bind fun e_79 => ((goAt p_f_66.cols (w64 (p_end - (goLen p_f.rows)))).bind fun e_81 => some (spec_tFill.mk p_f_66.t p_f_66.x (goSet p_f_66.rows start_23 (w64 (e_74 - t_26))) (goSet p_f_66.cols (w64 (p_end - (goLen p_f.rows))) (w64 (e_79 - t_26)))))))))))))

noncomputable def spec_tFill_augment_l1 (p_f : spec_tFill) (l_8 : List Int) : (List Int) × (List Int) × Int → Option (Stp ((List Int) × (List Int) × Int) ((List Int) × (List Int)))
  | (from_10, queue_12, t_14) => (cond (decide (t_14 < (goLen l_8))) ((goAt from_10 t_14).bind fun e_15 => (((cond (decide (t_14 < (goLen p_f.rows))) ((goAt p_f.rows t_14).bind fun e_18 => some (decide (0 < e_18))) (some false)) : Option (Bool)).bind fun t_20 => (((cond t_20 ((goAt (goSet from_10 t_14 (-2)) t_14).bind fun e_21 => ((goApp 8 queue_12 ([t_14] : List Int)).bind fun l_25 => some (goSet (goSet from_10 t_14 (-2)) t_14 (-1), l_25))) (some (goSet from_10 t_14 (-2), queue_12))) : Option ((List Int) × (List Int))).bind fun (from_27, queue_29) => some (.next (from_27, queue_29, (w64 (t_14 + 1))))))) (some (.done (from_10, queue_12))))

noncomputable def spec_tFill_augment_l3 (p_f : spec_tFill) (e_40 : Int) : (List Int) × (List Int) × Int → Option (Stp ((List Int) × (List Int) × Int) ((List Int) × (List Int)))
  | (from_45, queue_47, k_49) => (cond (decide (k_49 < (w64 ((goLen p_f.rows) + (goLen p_f.cols))))) ((((goAt from_45 k_49).bind fun e_50 => (cond (e_50 == (-2)) ((spec_tFill_room p_f e_40 k_49).bind fun t_53 => some (decide (0 < t_53))) (some false))) : Option (Bool)).bind fun t_54 => (((cond t_54 ((goAt from_45 k_49).bind fun e_55 => ((goApp 8 queue_47 ([k_49] : List Int)).bind fun l_59 => some (goSet from_45 k_49 e_40, l_59))) (some (from_45, queue_47))) : Option ((List Int) × (List Int))).bind fun (from_61, queue_63) => some (.next (from_61, queue_63, (w64 (k_49 + 1)))))) (some (.done (from_45, queue_47))))

noncomputable def spec_tFill_augment_l2 (p_f : spec_tFill) : (List Int) × (List Int) × Int → Option (Stp ((List Int) × (List Int) × Int) ((Unit) ⊕ (Bool × spec_tFill)))
  | (from_35, queue_37, at_39) => (cond (decide (at_39 < (goLen queue_37))) ((goAt queue_37 at_39).bind fun e_40 => (((cond (decide ((goLen p_f.rows) ≤ e_40)) ((goAt p_f.cols (w64 (e_40 - (goLen p_f.rows)))).bind fun e_42 => some (decide (0 < e_42))) (some false)) : Option (Bool)).bind fun t_44 => (cond t_44 ((spec_tFill_push p_f from_35 e_40).bind fun t_70 => some (.done (.inr (true, t_70)))) ((loopC (spec_tFill_augment_l3 p_f e_40) (from_35, queue_37, 0)).bind fun (from_65, queue_67) => some (.next (from_65, queue_67, (w64 (at_39 + 1)))))))) (some (.done (.inl ()))))

noncomputable def spec_tFill_augment (p_f : spec_tFill) : Option (Bool × spec_tFill) :=
  ((goMake 8 (w64 ((goLen p_f.rows) + (goLen p_f.cols))) (0 : Int)).bind fun l_8 => ((loopC (spec_tFill_augment_l1 p_f l_8) (l_8, ([] : List Int), 0)).bind fun (from_31, queue_33) => ((loopC (spec_tFill_augment_l2 p_f) (from_31, queue_33, 0)).bind fun | .inl () => some (false, p_f) | .inr o => some o)))

noncomputable def spec_tFilled_l1  (f_16 : spec_tFill) : Option (Stp (spec_tFill) (spec_tFill)) :=
  ((spec_tFill_augment f_16).bind fun t_25 => (cond t_25.1 (some (.next t_25.2)) (some (.done t_25.2))))

noncomputable def spec_tFilled (p_t : impl_Transport) : Option (spec_tFill × Bool) :=
  ((spec_tStart p_t).bind fun t_6 => (cond (!t_6.2) (some (t_6.1, false)) ((loopC (spec_tFilled_l1) t_6.1).bind fun f_33 => some (f_33, true))))

noncomputable def spec_tFeasible (p_t : impl_Transport) : Option ((List (List Int)) × Bool) :=
  ((spec_tSum p_t.Rows).bind fun t_8 => ((spec_tSum p_t.Cols).bind fun t_9 => (cond (t_8 != t_9) (some (([] : List (List Int)), false)) ((spec_tFilled p_t).bind fun t_10 => (((cond (!t_10.2) (some true) ((spec_tSum t_10.1.rows).bind fun t_20 => some (decide (0 < t_20)))) : Option (Bool)).bind fun t_22 => (cond t_22 (some (([] : List (List Int)), false)) (some (t_10.1.x, true))))))))

noncomputable def spec_vProtected (p_x : List (List Int)) (p_p : List (List Int)) (p_i : Int) (p_j : Int) (p_down : Int) (p_up : Int) : Option (Bool) :=
  ((spec_qNetwork p_x p_p).bind fun t_3 => ((goAt p_x p_i).bind fun e_10 => ((goAt e_10 p_j).bind fun e_13 => ((spec_vGoal e_13 p_down).bind fun t_15 => ((spec_tWith t_3 p_i p_j 0 t_15).bind fun t_20 => ((spec_tFeasible t_20).bind fun t_28 => (cond (!t_28.2) (some false) ((goAt p_x p_i).bind fun e_31 => ((goAt e_31 p_j).bind fun e_34 => ((spec_tWith t_3 p_i p_j (w64 (e_34 + p_up)) 100000).bind fun t_36 => ((spec_tFeasible t_36).bind fun t_44 => some t_44.2)))))))))))

noncomputable def spec_IsProtected (p_x : List (List Int)) (p_p : List (List Int)) (p_i : Int) (p_j : Int) (p_down : Int) (p_up : Int) : Option (Bool × Bool) :=
  ((((spec_vCell p_x p_p p_i p_j).bind fun t_3 => (cond (!t_3) (some true) ((spec_vLevels p_down p_up).bind fun t_4 => some (!t_4)))) : Option (Bool)).bind fun t_5 => (cond t_5 (some (false, false)) ((spec_vProtected p_x p_p p_i p_j p_down p_up).bind fun t_6 => some (t_6, true))))

noncomputable def spec_l1Cur_protection_l2 (e_11 : List Int) (l_13 : List Int) : (List Int) × Int × spec_l1Cur → Option (Stp ((List Int) × Int × spec_l1Cur) ((List Int) × spec_l1Cur))
  | (l_15, t_17, p_c_18) => (cond (decide (t_17 < (goLen l_13))) ((((goAt e_11 t_17).bind fun e_20 => (cond (decide (0 < e_20)) ((goAt e_11 t_17).bind fun e_25 => (cond (decide (e_25 < 3)) (some (true, p_c_18)) ((spec_l1Cur_one p_c_18 5).bind fun t_28 => some (t_28.1, t_28.2)))) ((spec_l1Cur_one p_c_18 5).bind fun t_23 => some (t_23.1, t_23.2)))) : Option (Bool × spec_l1Cur)).bind fun (t_30, p_c_31) => (((cond t_30 ((goAt l_15 t_17).bind fun e_33 => some (goSet l_15 t_17 1)) (some l_15)) : Option ((List Int))).bind fun l_36 => some (.next (l_36, (w64 (t_17 + 1)), p_c_31)))) (some (.done (l_15, p_c_18))))

noncomputable def spec_l1Cur_protection_l1 (t_3 : (List (List Int)) × spec_l1Cur) : (List (List Int)) × Int × spec_l1Cur → Option (Stp ((List (List Int)) × Int × spec_l1Cur) ((List (List Int)) × spec_l1Cur))
  | (p_6, t_8, p_c_9) => (cond (decide (t_8 < (goLen t_3.1))) ((goAt t_3.1 t_8).bind fun e_11 => ((goMake 8 (goLen e_11) (0 : Int)).bind fun l_13 => ((loopC (spec_l1Cur_protection_l2 e_11 l_13) (l_13, 0, p_c_9)).bind fun (l_38, p_c_40) => ((goApp 24 p_6 ([l_38] : List (List Int))).bind fun l_43 => some (.next (l_43, (w64 (t_8 + 1)), p_c_40)))))) (some (.done (p_6, p_c_9))))

noncomputable def spec_l1Cur_protection (p_c : spec_l1Cur) : Option ((List (List Int)) × (List (List Int)) × Int × Int × spec_l1Cur) :=
  ((spec_l1Cur_anyTwoWay p_c).bind fun t_3 => ((loopC (spec_l1Cur_protection_l1 t_3) (([] : List (List Int)), 0, t_3.2)).bind fun (p_45, p_c_47) => (((cond (decide (0 < (goLen p_45))) ((goAt p_45 0).bind fun e_49 => (cond (decide (0 < (goLen e_49))) ((spec_l1Cur_one p_c_47 30).bind fun t_52 => some (t_52.1, t_52.2)) (some (false, p_c_47)))) (some (false, p_c_47))) : Option (Bool × spec_l1Cur)).bind fun (t_54, p_c_55) => (((cond t_54 ((goAt p_45 0).bind fun e_57 => ((goAt e_57 0).bind fun e_59 => some (goSet p_45 0 (goSet e_57 0 2)))) (some p_45)) : Option ((List (List Int)))).bind fun p_62 => ((spec_l1Cur_among p_c_55 ([0, 1, 1, 2, 5, -1, 1001] : List Int)).bind fun t_66 => ((spec_l1Cur_among t_66.2 ([0, 1, 1, 2, 5, 1000] : List Int)).bind fun t_70 => some (t_3.1, p_62, t_66.1, t_70.1, t_70.2)))))))

noncomputable def spec_JoinPatterns_l2 (p_b : List (List Int)) (t_14 : Int) (e_16 : List Int) : (List Int) × Int → Option (Stp ((List Int) × Int) ((List Int)))
  | (l_19, t_21) => (cond (decide (t_21 < (goLen e_16))) ((goAt e_16 t_21).bind fun e_22 => ((goAt p_b t_14).bind fun e_24 => ((goAt e_24 t_21).bind fun e_27 => ((spec_l1Most e_22 e_27).bind fun t_29 => ((goApp 8 l_19 ([t_29] : List Int)).bind fun l_31 => some (.next (l_31, (w64 (t_21 + 1))))))))) (some (.done l_19)))

noncomputable def spec_JoinPatterns_l1 (p_a : List (List Int)) (p_b : List (List Int)) : (List (List Int)) × Int → Option (Stp ((List (List Int)) × Int) ((List (List Int))))
  | (out_12, t_14) => (cond (decide (t_14 < (goLen p_a))) ((goAt p_a t_14).bind fun e_16 => ((loopC (spec_JoinPatterns_l2 p_b t_14 e_16) (([] : List Int), 0)).bind fun l_33 => ((goApp 24 out_12 ([l_33] : List (List Int))).bind fun l_37 => some (.next (l_37, (w64 (t_14 + 1))))))) (some (.done out_12)))

noncomputable def spec_JoinPatterns (p_a : List (List Int)) (p_b : List (List Int)) : Option ((List (List Int)) × Bool) :=
  ((((spec_qForm p_a 1).bind fun t_3 => (cond (!t_3) (some true) ((spec_qForm p_b 1).bind fun t_4 => (cond (!t_4) (some true) (cond ((goLen p_a) != (goLen p_b)) (some true) ((goAt p_a 0).bind fun e_5 => ((goAt p_b 0).bind fun e_8 => some ((goLen e_5) != (goLen e_8))))))))) : Option (Bool)).bind fun t_11 => (cond t_11 (some (([] : List (List Int)), false)) ((loopC (spec_JoinPatterns_l1 p_a p_b) (([] : List (List Int)), 0)).bind fun out_39 => some (out_39, true))))

noncomputable def spec_DrawUnprotectedCells (p_code : List (K .u8)) : Option ((List (List Int)) × (List (List Int)) × (List (List Int)) × Int × Int) :=
  ((spec_l1Cur_protection (spec_l1Cur.mk p_code 0 (⟨0⟩ : K .u64))).bind fun t_4 => ((spec_l1Cur_pattern t_4.2.2.2.2 t_4.1).bind fun t_9 => ((spec_JoinPatterns t_9.1 t_4.2.1).bind fun t_14 => (((cond t_14.2 ((spec_l1Cur_one t_9.2 8).bind fun t_18 => some (!t_18.1)) (some false)) : Option (Bool)).bind fun t_20 => (((cond t_20 (some t_14.1) (some t_9.1)) : Option ((List (List Int)))).bind fun p_21 => some (t_4.1, p_21, t_4.2.1, t_4.2.2.1, t_4.2.2.2.1))))))

noncomputable def spec_DrawNeedsPartners (p_code : List (K .u8)) : Option ((List (List Int)) × (List (List Int)) × (List (List Int))) :=
  ((spec_DrawUnprotectedCells p_code).bind fun t_2 => some (t_2.1, t_2.2.1, t_2.2.2.1))

noncomputable def impl_positions_l2 (t_4 : Int) (e_6 : List Int) : (List (List Int)) × Int → Option (Stp ((List (List Int)) × Int) ((List (List Int))))
  | (out_9, t_11) => (cond (decide (t_11 < (goLen e_6))) ((goAt e_6 t_11).bind fun e_13 => (((cond (e_13 == 1) ((goApp 24 out_9 ([([t_4, t_11] : List Int)] : List (List Int))).bind fun l_18 => some l_18) (some out_9)) : Option ((List (List Int)))).bind fun out_20 => some (.next (out_20, (w64 (t_11 + 1)))))) (some (.done out_9)))

noncomputable def impl_positions_l1 (p_p : List (List Int)) : (List (List Int)) × Int → Option (Stp ((List (List Int)) × Int) ((List (List Int))))
  | (out_2, t_4) => (cond (decide (t_4 < (goLen p_p))) ((goAt p_p t_4).bind fun e_6 => ((loopC (impl_positions_l2 t_4 e_6) (out_2, 0)).bind fun out_23 => some (.next (out_23, (w64 (t_4 + 1)))))) (some (.done out_2)))

noncomputable def impl_positions (p_p : List (List Int)) : Option ((List (List Int))) :=
  ((loopC (impl_positions_l1 p_p) (([] : List (List Int)), 0)).bind fun out_26 => some out_26)

noncomputable def impl_covers_l1 (p_p : List (List Int)) (t_3 : List (List Int)) (t_6 : Int) : Option (Stp (Int) ((Unit) ⊕ (Bool))) :=
  (cond (decide (t_6 < (goLen t_3))) ((goAt t_3 t_6).bind fun e_7 => ((goAt e_7 0).bind fun e_10 => ((goAt p_p e_10).bind fun e_12 => ((goAt e_7 1).bind fun e_15 => ((goAt e_12 e_15).bind fun e_17 => (cond (e_17 == 0) (some (.done (.inr false))) (some (.next (w64 (t_6 + 1)))))))))) (some (.done (.inl ()))))

noncomputable def impl_covers (p_p : List (List Int)) (p_primary : List (List Int)) : Option (Bool) :=
  ((impl_positions p_primary).bind fun t_3 => ((loopC (impl_covers_l1 p_p t_3) 0).bind fun | .inl () => some true | .inr o => some o))

noncomputable def impl_NeedsPartners_l1 (t_8 : List Int) (t_11 : List Int) (t_14 : List (List Int)) (t_17 : Int) : Option (Stp (Int) ((Unit) ⊕ (Bool × Bool))) :=
  (cond (decide (t_17 < (goLen t_14))) ((goAt t_14 t_17).bind fun e_18 => ((((goAt e_18 0).bind fun e_21 => ((goAt t_8 e_21).bind fun e_23 => (cond (e_23 == 1) (some true) ((goAt e_18 1).bind fun e_25 => ((goAt t_11 e_25).bind fun e_27 => some (e_27 == 1)))))) : Option (Bool)).bind fun t_29 => (cond t_29 (some (.done (.inr (true, true)))) (some (.next (w64 (t_17 + 1))))))) (some (.done (.inl ()))))

noncomputable def impl_NeedsPartners (p_x : List (List Int)) (p_p : List (List Int)) (p_primary : List (List Int)) : Option (Bool × Bool) :=
  ((((impl_areSuppressed p_x p_p).bind fun t_4 => (cond (!t_4) (some true) ((impl_isPattern p_x p_primary).bind fun t_5 => (cond (!t_5) (some true) ((impl_covers p_p p_primary).bind fun t_6 => some (!t_6)))))) : Option (Bool)).bind fun t_7 => (cond t_7 (some (false, false)) ((impl_rowSums p_p).bind fun t_8 => ((impl_colSums p_p).bind fun t_11 => ((impl_positions p_primary).bind fun t_14 => ((loopC (impl_NeedsPartners_l1 t_8 t_11 t_14) 0).bind fun | .inl () => some (false, true) | .inr o => some o))))))

noncomputable def spec_vContains_l2 (p_p : List (List Int)) (t_3 : Int) (e_4 : List Int) (t_7 : Int) : Option (Stp (Int) ((Unit) ⊕ (Stp (Int) ((Unit) ⊕ (Bool))))) :=
  (cond (decide (t_7 < (goLen e_4))) ((goAt e_4 t_7).bind fun e_8 => (((cond (e_8 == 1) ((goAt p_p t_3).bind fun e_10 => ((goAt e_10 t_7).bind fun e_13 => some (e_13 == 0))) (some false)) : Option (Bool)).bind fun t_15 => (cond t_15 (some (.done (.inr (.done (.inr false))))) (some (.next (w64 (t_7 + 1))))))) (some (.done (.inl ()))))

noncomputable def spec_vContains_l1 (p_p : List (List Int)) (p_primary : List (List Int)) (t_3 : Int) : Option (Stp (Int) ((Unit) ⊕ (Bool))) :=
  (cond (decide (t_3 < (goLen p_primary))) ((goAt p_primary t_3).bind fun e_4 => ((loopC (spec_vContains_l2 p_p t_3 e_4) 0).bind fun | .inl () => some (.next (w64 (t_3 + 1))) | .inr o => some o)) (some (.done (.inl ()))))

noncomputable def spec_vContains (p_p : List (List Int)) (p_primary : List (List Int)) : Option (Bool) :=
  ((loopC (spec_vContains_l1 p_p p_primary) 0).bind fun | .inl () => some true | .inr o => some o)

noncomputable def spec_vInput (p_x : List (List Int)) (p_p : List (List Int)) (p_primary : List (List Int)) : Option (Bool) :=
  ((((spec_qPattern p_x p_p).bind fun t_4 => (cond t_4 ((spec_qPattern p_x p_primary).bind fun t_5 => (cond t_5 ((spec_vContains p_p p_primary).bind fun t_6 => some t_6) (some false))) (some false))) : Option (Bool)).bind fun t_7 => some t_7)

noncomputable def spec_vAlone_l2 (p_p : List (List Int)) (t_3 : Int) (e_4 : List Int) (t_7 : Int) : Option (Stp (Int) ((Unit) ⊕ (Stp (Int) ((Unit) ⊕ (Bool))))) :=
  (cond (decide (t_7 < (goLen e_4))) ((goAt e_4 t_7).bind fun e_8 => (((cond (e_8 == 1) ((goAt p_p t_3).bind fun e_10 => ((spec_tSum e_10).bind fun t_13 => (cond (t_13 == 1) (some true) ((spec_tColumn p_p t_7).bind fun t_14 => ((spec_tSum t_14).bind fun t_17 => some (t_17 == 1)))))) (some false)) : Option (Bool)).bind fun t_19 => (cond t_19 (some (.done (.inr (.done (.inr true))))) (some (.next (w64 (t_7 + 1))))))) (some (.done (.inl ()))))

noncomputable def spec_vAlone_l1 (p_p : List (List Int)) (p_primary : List (List Int)) (t_3 : Int) : Option (Stp (Int) ((Unit) ⊕ (Bool))) :=
  (cond (decide (t_3 < (goLen p_primary))) ((goAt p_primary t_3).bind fun e_4 => ((loopC (spec_vAlone_l2 p_p t_3 e_4) 0).bind fun | .inl () => some (.next (w64 (t_3 + 1))) | .inr o => some o)) (some (.done (.inl ()))))

noncomputable def spec_vAlone (p_p : List (List Int)) (p_primary : List (List Int)) : Option (Bool) :=
  ((loopC (spec_vAlone_l1 p_p p_primary) 0).bind fun | .inl () => some false | .inr o => some o)

noncomputable def spec_NeedsPartners (p_x : List (List Int)) (p_p : List (List Int)) (p_primary : List (List Int)) : Option (Bool × Bool) :=
  ((spec_vInput p_x p_p p_primary).bind fun t_4 => (cond (!t_4) (some (false, false)) ((spec_vAlone p_p p_primary).bind fun t_5 => some (t_5, true))))

noncomputable def impl_SafeMargin (p_x : List (List Int)) (p_p : List (List Int)) (p_i : Int) (p_j : Int) : Option (Int × Int × Bool) :=
  ((((impl_areSuppressed p_x p_p).bind fun t_3 => (cond (!t_3) (some true) ((impl_isHidden p_p p_i p_j).bind fun t_4 => some (!t_4)))) : Option (Bool)).bind fun t_5 => (cond t_5 (some (0, 0, false)) ((impl_attackNetwork p_x p_p).bind fun t_6 => ((impl_rangeOf t_6 p_x p_i p_j).bind fun t_12 => ((goAt p_x p_i).bind fun e_14 => ((goAt e_14 p_j).bind fun e_17 => ((goAt p_x p_i).bind fun e_19 => ((goAt e_19 p_j).bind fun e_22 => some ((w64 (e_17 - t_12.1)), (w64 (t_12.2 - e_22)), true)))))))))

noncomputable def impl_total_l1 (p_l : List Int) : Int × Int → Option (Stp (Int × Int) (Int))
  | (sum_2, t_3) => (cond (decide (t_3 < (goLen p_l))) ((goAt p_l t_3).bind fun e_4 => some (.next ((w64 (sum_2 + e_4)), (w64 (t_3 + 1))))) (some (.done sum_2)))

noncomputable def impl_total (p_l : List Int) : Option (Int) :=
  ((loopC (impl_total_l1 p_l) (0, 0)).bind fun sum_6 => some sum_6)

noncomputable def impl_restore_l2 (p_t : impl_Transport) (p_r : List (List Int)) (p_fixed : Int) (t_13 : Int) (e_14 : List Int) : (List (List Int)) × Int → Option (Stp ((List (List Int)) × Int) ((List (List Int))))
  | (out_16, t_18) => (cond (decide (t_18 < (goLen e_14))) (((cond (decide (p_fixed < (w64 ((w64 (t_13 * (goLen p_t.Cols))) + t_18)))) ((goAt out_16 t_13).bind fun e_19 => ((goAt p_t.Hi t_13).bind fun e_21 => ((goAt e_21 t_18).bind fun e_24 => ((goAt p_r t_13).bind fun e_26 => ((goAt e_26 (w64 ((goLen p_t.Rows) + t_18))).bind fun e_29 => ((goAt e_19 t_18).bind fun e_31 => some (goSet out_16 t_13 (goSet e_19 t_18 (w64 (e_24 - e_29)))))))))) (some out_16)) : Option ((List (List Int)))).bind fun out_34 => some (.next (out_34, (w64 (t_18 + 1))))) (some (.done out_16)))

noncomputable def impl_restore_l1 (p_t : impl_Transport) (p_r : List (List Int)) (p_fixed : Int) (t_8 : List (List Int)) : (List (List Int)) × Int → Option (Stp ((List (List Int)) × Int) ((List (List Int))))
  | (out_11, t_13) => (cond (decide (t_13 < (goLen t_8))) ((goAt out_11 t_13).bind fun e_14 => ((loopC (impl_restore_l2 p_t p_r p_fixed t_13 e_14) (out_11, 0)).bind fun out_36 => some (.next (out_36, (w64 (t_13 + 1)))))) (some (.done out_11)))

noncomputable def impl_restore (p_t : impl_Transport) (p_x : List (List Int)) (p_r : List (List Int)) (p_fixed : Int) : Option ((List (List Int))) :=
  ((impl_copyMatrix p_x).bind fun t_8 => ((loopC (impl_restore_l1 p_t p_r p_fixed t_8) (t_8, 0)).bind fun out_38 => some out_38))

noncomputable def impl_fill_l1 (p_t : impl_Transport) (t_6 : List (List Int)) (l_9 : List (List Int)) : (List (List Int)) × Int → Option (Stp ((List (List Int)) × Int) ((List (List Int))))
  | (r_11, t_13) => (cond (decide (t_13 < (goLen l_9))) ((goMake 8 (w64 ((w64 ((goLen p_t.Rows) + (goLen p_t.Cols))) + 2)) (0 : Int)).bind fun l_14 => ((goAt r_11 t_13).bind fun e_16 => (((cond (decide (t_13 < (w64 ((goLen p_t.Rows) + (goLen p_t.Cols))))) ((goAt (goSet r_11 t_13 l_14) t_13).bind fun e_19 => ((goAt t_6 t_13).bind fun e_21 => ((goCopy e_19 e_21).bind fun l_23 => some (goSet (goSet r_11 t_13 l_14) t_13 l_23)))) (some (goSet r_11 t_13 l_14))) : Option ((List (List Int)))).bind fun r_25 => some (.next (r_25, (w64 (t_13 + 1))))))) (some (.done r_11)))

noncomputable def impl_fill_l2 (p_t : impl_Transport) (t_35 : List Int) : (List (List Int)) × Int → Option (Stp ((List (List Int)) × Int) (((List (List Int))) ⊕ ((List (List Int)))))
  | (r_41, t_43) => (cond (decide (t_43 < (goLen p_t.Rows))) ((goAt p_t.Rows t_43).bind fun e_44 => ((goAt t_35 t_43).bind fun e_46 => (cond (decide (e_44 < e_46)) (some (.done (.inr ([] : List (List Int))))) ((goAt r_41 (w64 ((goLen p_t.Rows) + (goLen p_t.Cols)))).bind fun e_48 => ((goAt t_35 t_43).bind fun e_50 => ((goAt e_48 t_43).bind fun e_52 => some (.next (goSet r_41 (w64 ((goLen p_t.Rows) + (goLen p_t.Cols))) (goSet e_48 t_43 (w64 (e_44 - e_50))), (w64 (t_43 + 1)))))))))) (some (.done (.inl r_41))))

noncomputable def impl_fill_l3 (p_t : impl_Transport) (t_38 : List Int) : (List (List Int)) × Int → Option (Stp ((List (List Int)) × Int) (((List (List Int))) ⊕ ((List (List Int)))))
  | (r_57, t_59) => (cond (decide (t_59 < (goLen p_t.Cols))) ((goAt p_t.Cols t_59).bind fun e_60 => ((goAt t_38 t_59).bind fun e_62 => (cond (decide (e_60 < e_62)) (some (.done (.inr ([] : List (List Int))))) ((goAt r_57 (w64 ((goLen p_t.Rows) + t_59))).bind fun e_64 => ((goAt t_38 t_59).bind fun e_66 => ((goAt e_64 (w64 ((w64 ((goLen p_t.Rows) + (goLen p_t.Cols))) + 1))).bind fun e_68 => some (.next (goSet r_57 (w64 ((goLen p_t.Rows) + t_59)) (goSet e_64 (w64 ((w64 ((goLen p_t.Rows) + (goLen p_t.Cols))) + 1)) (w64 (e_60 - e_66))), (w64 (t_59 + 1)))))))))) (some (.done (.inl r_57))))

noncomputable def impl_fill (p_t : impl_Transport) : Option ((List (List Int))) :=
  ((impl_residual p_t p_t.Lo (-1)).bind fun t_6 => ((goMake 24 (w64 ((w64 ((goLen p_t.Rows) + (goLen p_t.Cols))) + 2)) ([] : List Int)).bind fun l_9 => ((loopC (impl_fill_l1 p_t t_6 l_9) (l_9, 0)).bind fun r_27 => ((impl_rowSums p_t.Lo).bind fun t_35 => ((impl_colSums p_t.Lo).bind fun t_38 => ((loopC (impl_fill_l2 p_t t_35) (r_27, 0)).bind fun | .inl r_55 => ((loopC (impl_fill_l3 p_t t_38) (r_55, 0)).bind fun | .inl r_71 => ((impl_total p_t.Rows).bind fun t_73 => ((impl_push r_71 (w64 ((goLen p_t.Rows) + (goLen p_t.Cols))) (w64 ((w64 ((goLen p_t.Rows) + (goLen p_t.Cols))) + 1)) t_73).bind fun t_75 => ((impl_restore p_t p_t.Lo t_75.2 (-1)).bind fun t_77 => some t_77))) | .inr o => some o) | .inr o => some o))))))

noncomputable def slices_Equal_int_int_l1 (p_s1 : List Int) (p_s2 : List Int) (t_3 : Int) : Option (Stp (Int) ((Unit) ⊕ (Bool))) :=
  (cond (decide (t_3 < (goLen p_s1))) ((goAt p_s1 t_3).bind fun e_4 => ((goAt p_s2 t_3).bind fun e_6 => (cond (e_4 != e_6) (some (.done (.inr false))) (some (.next (w64 (t_3 + 1))))))) (some (.done (.inl ()))))

noncomputable def slices_Equal_int_int (p_s1 : List Int) (p_s2 : List Int) : Option (Bool) :=
  (cond ((goLen p_s1) != (goLen p_s2)) (some false) ((loopC (slices_Equal_int_int_l1 p_s1 p_s2) 0).bind fun | .inl () => some true | .inr o => some o))

noncomputable def impl_anyFlow (p_t : impl_Transport) : Option ((List (List Int))) :=
  ((impl_total p_t.Rows).bind fun t_8 => ((impl_total p_t.Cols).bind fun t_9 => (cond (t_8 != t_9) (some ([] : List (List Int))) ((impl_fill p_t).bind fun t_10 => (((cond t_10.isEmpty (some true) ((impl_rowSums t_10).bind fun t_21 => ((slices_Equal_int_int t_21 p_t.Rows).bind fun t_25 => some (!t_25)))) : Option (Bool)).bind fun t_27 => (cond t_27 (some ([] : List (List Int))) (some t_10)))))))

noncomputable def impl_lowered (p_t : impl_Transport) (p_x : List (List Int)) (p_i : Int) (p_j : Int) : Option ((List (List Int))) :=
  ((impl_residual p_t p_x (w64 ((w64 (p_i * (goLen p_t.Cols))) + p_j))).bind fun t_7 => ((goAt p_x p_i).bind fun e_10 => ((goAt e_10 p_j).bind fun e_13 => ((goAt p_t.Lo p_i).bind fun e_15 => ((goAt e_15 p_j).bind fun e_18 => ((impl_push t_7 p_i (w64 ((goLen p_t.Rows) + p_j)) (w64 (e_13 - e_18))).bind fun t_21 => ((impl_restore p_t p_x t_21.2 (w64 ((w64 (p_i * (goLen p_t.Cols))) + p_j))).bind fun t_23 => ((goAt t_23 p_i).bind fun e_27 => ((goAt e_27 p_j).bind fun e_29 => ((goAt e_27 p_j).bind fun e_31 => some (goSet t_23 p_i (goSet e_27 p_j (w64 (e_29 - t_21.1))))))))))))))

noncomputable def impl_firstFrom_l1 (p_t : impl_Transport) : (List (List Int)) × Int → Option (Stp ((List (List Int)) × Int) ((List (List Int))))
  | (x_7, p_9) => (cond (decide (p_9 < (w64 ((goLen p_t.Rows) * (goLen p_t.Cols))))) ((goQuo .i64 p_9 (goLen p_t.Cols)).bind fun t_10 => ((goRem p_9 (goLen p_t.Cols)).bind fun t_11 => ((impl_lowered p_t x_7 t_10 t_11).bind fun t_12 => some (.next (t_12, (w64 (p_9 + 1))))))) (some (.done x_7)))

noncomputable def impl_firstFrom (p_t : impl_Transport) (p_x : List (List Int)) (p_from : Int) : Option ((List (List Int))) :=
  ((goNE p_x).bind fun _ => ((loopC (impl_firstFrom_l1 p_t) (p_x, (w64 (p_from + 1)))).bind fun x_16 => some x_16))

noncomputable def impl_firstFlow (p_t : impl_Transport) : Option ((List (List Int))) :=
  ((impl_anyFlow p_t).bind fun t_6 => (cond t_6.isEmpty (some ([] : List (List Int))) ((impl_firstFrom p_t t_6 (-1)).bind fun t_10 => some t_10)))

noncomputable def impl_WitnessTables (p_x : List (List Int)) (p_p : List (List Int)) (p_i : Int) (p_j : Int) : Option ((List (List Int)) × (List (List Int)) × Bool) :=
  ((((impl_areSuppressed p_x p_p).bind fun t_3 => (cond (!t_3) (some true) ((impl_isHidden p_p p_i p_j).bind fun t_4 => some (!t_4)))) : Option (Bool)).bind fun t_5 => (cond t_5 (some (([] : List (List Int)), ([] : List (List Int)), false)) ((impl_attackNetwork p_x p_p).bind fun t_6 => ((impl_rangeOf t_6 p_x p_i p_j).bind fun t_13 => ((goAt t_6.Hi p_i).bind fun e_15 => ((goAt e_15 p_j).bind fun e_17 => ((impl_firstFlow (impl_Transport.mk t_6.Rows t_6.Cols t_6.Lo (goSet t_6.Hi p_i (goSet e_15 p_j t_13.1)))).bind fun t_20 => ((goAt (goSet t_6.Hi p_i (goSet e_15 p_j t_13.1)) p_i).bind fun e_24 => ((goAt t_6.Lo p_i).bind fun e_26 => ((goAt e_24 p_j).bind fun e_28 => ((goAt e_26 p_j).bind fun e_31 => ((impl_firstFlow (impl_Transport.mk t_6.Rows t_6.Cols (goSet t_6.Lo p_i (goSet e_26 p_j t_13.2)) (goSet (goSet t_6.Hi p_i (goSet e_15 p_j t_13.1)) p_i (goSet e_24 p_j 100000)))).bind fun t_34 => some (t_20, t_34, true)))))))))))))

noncomputable def spec_tLow_l1 (p_t : impl_Transport) (p_i : Int) (p_j : Int) : Int × Int → Option (Stp (Int × Int) (Int))
  | (lo_16, hi_17) => (cond (decide (lo_16 < hi_17)) ((goQuo .i64 (w64 (lo_16 + hi_17)) 2).bind fun t_19 => ((goAt p_t.Lo p_i).bind fun e_20 => ((goAt e_20 p_j).bind fun e_23 => ((spec_tWith p_t p_i p_j e_23 t_19).bind fun t_25 => ((spec_tFeasible t_25).bind fun t_33 => (((cond t_33.2 (some (lo_16, t_19)) (some ((w64 (t_19 + 1)), hi_17))) : Option (Int × Int)).bind fun (lo_36, hi_37) => some (.next (lo_36, hi_37)))))))) (some (.done lo_16)))

noncomputable def spec_tLow (p_t : impl_Transport) (p_i : Int) (p_j : Int) : Option (Int) :=
  ((goAt p_t.Lo p_i).bind fun e_6 => ((goAt e_6 p_j).bind fun e_9 => ((goAt p_t.Hi p_i).bind fun e_11 => ((goAt e_11 p_j).bind fun e_14 => ((loopC (spec_tLow_l1 p_t p_i p_j) (e_9, e_14)).bind fun lo_38 => some lo_38)))))

noncomputable def spec_tHigh_l1 (p_t : impl_Transport) (p_i : Int) (p_j : Int) : Int × Int → Option (Stp (Int × Int) (Int))
  | (lo_16, hi_17) => (cond (decide (lo_16 < hi_17)) ((goQuo .i64 (w64 ((w64 (lo_16 + hi_17)) + 1)) 2).bind fun t_19 => ((goAt p_t.Hi p_i).bind fun e_20 => ((goAt e_20 p_j).bind fun e_23 => ((spec_tWith p_t p_i p_j t_19 e_23).bind fun t_25 => ((spec_tFeasible t_25).bind fun t_33 => (((cond t_33.2 (some (t_19, hi_17)) (some (lo_16, (w64 (t_19 - 1))))) : Option (Int × Int)).bind fun (lo_36, hi_37) => some (.next (lo_36, hi_37)))))))) (some (.done lo_16)))

noncomputable def spec_tHigh (p_t : impl_Transport) (p_i : Int) (p_j : Int) : Option (Int) :=
  ((goAt p_t.Lo p_i).bind fun e_6 => ((goAt e_6 p_j).bind fun e_9 => ((goAt p_t.Hi p_i).bind fun e_11 => ((goAt e_11 p_j).bind fun e_14 => ((loopC (spec_tHigh_l1 p_t p_i p_j) (e_9, e_14)).bind fun lo_38 => some lo_38)))))

noncomputable def spec_tRange (p_t : impl_Transport) (p_i : Int) (p_j : Int) : Option (Int × Int × Bool) :=
  ((spec_tFeasible p_t).bind fun t_6 => (cond (!t_6.2) (some (0, 0, false)) ((spec_tLow p_t p_i p_j).bind fun t_12 => ((spec_tHigh p_t p_i p_j).bind fun t_13 => some (t_12, t_13, true)))))

noncomputable def spec_tFirst_l2 (t_9 : Int) (t_10 : impl_Transport) : Int × impl_Transport → Option (Stp (Int × impl_Transport) (impl_Transport))
  | (t_16, t_17) => (cond (decide (t_16 < (goLen t_10.Cols))) ((spec_tLow t_17 t_9 t_16).bind fun t_23 => ((spec_tWith t_17 t_9 t_16 t_23 t_23).bind fun t_24 => some (.next ((w64 (t_16 + 1)), t_24)))) (some (.done t_17)))

noncomputable def spec_tFirst_l1 (p_t : impl_Transport) : Int × impl_Transport → Option (Stp (Int × impl_Transport) (impl_Transport))
  | (t_9, t_10) => (cond (decide (t_9 < (goLen p_t.Rows))) ((loopC (spec_tFirst_l2 t_9 t_10) (0, t_10)).bind fun t_30 => some (.next ((w64 (t_9 + 1)), t_30))) (some (.done t_10)))

noncomputable def spec_tFirst (p_t : impl_Transport) : Option ((List (List Int)) × Bool) :=
  ((spec_tFeasible p_t).bind fun t_6 => (cond (!t_6.2) (some (([] : List (List Int)), false)) ((loopC (spec_tFirst_l1 p_t) (0, p_t)).bind fun t_36 => ((spec_tOwn t_36.Lo).bind fun t_42 => some (t_42, true)))))

noncomputable def spec_WitnessTables (p_x : List (List Int)) (p_p : List (List Int)) (p_i : Int) (p_j : Int) : Option ((List (List Int)) × (List (List Int)) × Bool) :=
  ((spec_vCell p_x p_p p_i p_j).bind fun t_3 => (cond (!t_3) (some (([] : List (List Int)), ([] : List (List Int)), false)) ((spec_qNetwork p_x p_p).bind fun t_4 => ((spec_tRange t_4 p_i p_j).bind fun t_11 => ((spec_tWith t_4 p_i p_j 0 t_11.1).bind fun t_17 => ((spec_tFirst t_17).bind fun t_25 => ((spec_tWith t_4 p_i p_j t_11.2.1 100000).bind fun t_28 => ((spec_tFirst t_28).bind fun t_36 => (((cond (!t_25.2) (some true) (some (!t_36.2))) : Option (Bool)).bind fun t_39 => (cond t_39 (some (([] : List (List Int)), ([] : List (List Int)), false)) (some (t_25.1, t_36.1, true))))))))))))

noncomputable def laws_qInts_l1 (p_a : List Int) (p_b : List Int) (t_3 : Int) : Option (Stp (Int) ((Unit) ⊕ (Bool))) :=
  (cond (decide (t_3 < (goLen p_a))) ((goAt p_a t_3).bind fun e_4 => ((goAt p_b t_3).bind fun e_6 => (cond (e_4 != e_6) (some (.done (.inr false))) (some (.next (w64 (t_3 + 1))))))) (some (.done (.inl ()))))

noncomputable def laws_qInts (p_a : List Int) (p_b : List Int) : Option (Bool) :=
  (cond ((goLen p_a) != (goLen p_b)) (some false) ((loopC (laws_qInts_l1 p_a p_b) 0).bind fun | .inl () => some true | .inr o => some o))

noncomputable def laws_qLists_l1 (p_a : List (List Int)) (p_b : List (List Int)) (t_3 : Int) : Option (Stp (Int) ((Unit) ⊕ (Bool))) :=
  (cond (decide (t_3 < (goLen p_a))) ((goAt p_a t_3).bind fun e_4 => ((goAt p_b t_3).bind fun e_7 => ((laws_qInts e_4 e_7).bind fun t_10 => (cond (!t_10) (some (.done (.inr false))) (some (.next (w64 (t_3 + 1)))))))) (some (.done (.inl ()))))

noncomputable def laws_qLists (p_a : List (List Int)) (p_b : List (List Int)) : Option (Bool) :=
  (cond ((goLen p_a) != (goLen p_b)) (some false) ((loopC (laws_qLists_l1 p_a p_b) 0).bind fun | .inl () => some true | .inr o => some o))

noncomputable def impl_AttackNetwork (p_x : List (List Int)) (p_p : List (List Int)) : Option (impl_Transport × Bool) :=
  ((impl_areSuppressed p_x p_p).bind fun t_4 => (cond (!t_4) (some ((impl_Transport.mk ([] : List Int) ([] : List Int) ([] : List (List Int)) ([] : List (List Int))), false)) ((impl_attackNetwork p_x p_p).bind fun t_5 => some (t_5, true))))

noncomputable def impl_areSums_l1 (p_l : List Int) (t_3 : Int) : Option (Stp (Int) ((Unit) ⊕ (Bool))) :=
  (cond (decide (t_3 < (goLen p_l))) ((goAt p_l t_3).bind fun e_4 => (((cond (decide (e_4 < 0)) (some true) (some (decide (100000 < e_4)))) : Option (Bool)).bind fun t_6 => (cond t_6 (some (.done (.inr false))) (some (.next (w64 (t_3 + 1))))))) (some (.done (.inl ()))))

noncomputable def impl_areSums (p_l : List Int) : Option (Bool) :=
  (((cond (decide ((goLen p_l) < 1)) (some true) (some (decide (8 < (goLen p_l))))) : Option (Bool)).bind fun t_2 => (cond t_2 (some false) ((loopC (impl_areSums_l1 p_l) 0).bind fun | .inl () => some true | .inr o => some o)))

noncomputable def impl_IsTransport_l2 (p_t : impl_Transport) (t_11 : Int) (e_12 : List Int) (t_15 : Int) : Option (Stp (Int) ((Unit) ⊕ (Stp (Int) ((Unit) ⊕ (Bool))))) :=
  (cond (decide (t_15 < (goLen e_12))) ((goAt e_12 t_15).bind fun e_16 => (((cond (decide (e_16 < 0)) (some true) ((goAt p_t.Hi t_11).bind fun e_18 => ((goAt e_18 t_15).bind fun e_21 => (cond (decide (e_21 < e_16)) (some true) ((goAt p_t.Hi t_11).bind fun e_23 => ((goAt e_23 t_15).bind fun e_26 => some (decide (100000 < e_26)))))))) : Option (Bool)).bind fun t_28 => (cond t_28 (some (.done (.inr (.done (.inr false))))) (some (.next (w64 (t_15 + 1))))))) (some (.done (.inl ()))))

noncomputable def impl_IsTransport_l1 (p_t : impl_Transport) (t_11 : Int) : Option (Stp (Int) ((Unit) ⊕ (Bool))) :=
  (cond (decide (t_11 < (goLen p_t.Lo))) ((goAt p_t.Lo t_11).bind fun e_12 => ((loopC (impl_IsTransport_l2 p_t t_11 e_12) 0).bind fun | .inl () => some (.next (w64 (t_11 + 1))) | .inr o => some o)) (some (.done (.inl ()))))

noncomputable def impl_IsTransport (p_t : impl_Transport) : Option (Bool) :=
  ((((impl_areSums p_t.Rows).bind fun t_6 => (cond (!t_6) (some true) ((impl_areSums p_t.Cols).bind fun t_7 => (cond (!t_7) (some true) ((impl_hasShape p_t.Lo (goLen p_t.Rows) (goLen p_t.Cols)).bind fun t_8 => (cond (!t_8) (some true) ((impl_hasShape p_t.Hi (goLen p_t.Rows) (goLen p_t.Cols)).bind fun t_9 => some (!t_9)))))))) : Option (Bool)).bind fun t_10 => (cond t_10 (some false) ((loopC (impl_IsTransport_l1 p_t) 0).bind fun | .inl () => some true | .inr o => some o)))

noncomputable def impl_IsFlow_l2 (p_t : impl_Transport) (t_9 : Int) (e_10 : List Int) (t_13 : Int) : Option (Stp (Int) ((Unit) ⊕ (Stp (Int) ((Unit) ⊕ (Bool × Bool))))) :=
  (cond (decide (t_13 < (goLen e_10))) ((goAt e_10 t_13).bind fun e_14 => ((((goAt p_t.Lo t_9).bind fun e_16 => ((goAt e_16 t_13).bind fun e_19 => (cond (decide (e_14 < e_19)) (some true) ((goAt p_t.Hi t_9).bind fun e_21 => ((goAt e_21 t_13).bind fun e_24 => some (decide (e_24 < e_14))))))) : Option (Bool)).bind fun t_26 => (cond t_26 (some (.done (.inr (.done (.inr (false, true)))))) (some (.next (w64 (t_13 + 1))))))) (some (.done (.inl ()))))

noncomputable def impl_IsFlow_l1 (p_t : impl_Transport) (p_x : List (List Int)) (t_9 : Int) : Option (Stp (Int) ((Unit) ⊕ (Bool × Bool))) :=
  (cond (decide (t_9 < (goLen p_x))) ((goAt p_x t_9).bind fun e_10 => ((loopC (impl_IsFlow_l2 p_t t_9 e_10) 0).bind fun | .inl () => some (.next (w64 (t_9 + 1))) | .inr o => some o)) (some (.done (.inl ()))))

noncomputable def impl_IsFlow (p_t : impl_Transport) (p_x : List (List Int)) : Option (Bool × Bool) :=
  ((impl_IsTransport p_t).bind fun t_7 => (cond (!t_7) (some (false, false)) ((impl_hasShape p_x (goLen p_t.Rows) (goLen p_t.Cols)).bind fun t_8 => (cond (!t_8) (some (false, true)) ((loopC (impl_IsFlow_l1 p_t p_x) 0).bind fun | .inl () => ((((impl_rowSums p_x).bind fun t_33 => ((slices_Equal_int_int t_33 p_t.Rows).bind fun t_36 => (cond t_36 ((impl_colSums p_x).bind fun t_44 => ((slices_Equal_int_int t_44 p_t.Cols).bind fun t_47 => some t_47)) (some false)))) : Option (Bool)).bind fun t_49 => some (t_49, true)) | .inr o => some o)))))

noncomputable def laws_FnWitnesses (p_code : List (K .u8)) (p_more : List (K .u8)) : Option (Bool) :=
  (cond (decide (1048576 < (w64 ((goLen p_code) + (goLen p_more))))) (some true) ((spec_DrawIsProtected p_code).bind fun t_3 => ((impl_IsProtected t_3.1 t_3.2.1 t_3.2.2.1 t_3.2.2.2.1 t_3.2.2.2.2.1 t_3.2.2.2.2.2).bind fun t_7 => ((spec_IsProtected t_3.1 t_3.2.1 t_3.2.2.1 t_3.2.2.2.1 t_3.2.2.2.2.1 t_3.2.2.2.2.2).bind fun t_9 => ((spec_DrawNeedsPartners p_more).bind fun t_11 => ((impl_NeedsPartners t_11.1 t_11.2.1 t_11.2.2).bind fun t_16 => ((spec_NeedsPartners t_11.1 t_11.2.1 t_11.2.2).bind fun t_18 => (((cond (t_7.2 != t_9.2) (some true) (cond (t_7.1 != t_9.1) (some true) (cond (t_16.2 != t_18.2) (some true) (some (t_16.1 != t_18.1))))) : Option (Bool)).bind fun t_20 => (cond t_20 (some false) (cond (!t_7.2) (some true) ((impl_SafeMargin t_3.1 t_3.2.1 t_3.2.2.1 t_3.2.2.2.1).bind fun t_21 => ((impl_WitnessTables t_3.1 t_3.2.1 t_3.2.2.1 t_3.2.2.2.1).bind fun t_23 => ((spec_WitnessTables t_3.1 t_3.2.1 t_3.2.2.1 t_3.2.2.2.1).bind fun t_30 => (((cond (!t_21.2.2) (some true) (cond (t_23.2.2 != t_30.2.2) (some true) ((laws_qLists t_23.1 t_30.1).bind fun t_34 => (cond (!t_34) (some true) ((laws_qLists t_23.2.1 t_30.2.1).bind fun t_36 => some (!t_36)))))) : Option (Bool)).bind fun t_38 => (cond t_38 (some false) (((cond (decide (t_3.2.2.2.2.1 ≤ t_21.1)) (some (decide (t_3.2.2.2.2.2 ≤ t_21.2.1))) ((goAt t_3.1 t_3.2.2.1).bind fun e_39 => ((goAt e_39 t_3.2.2.2.1).bind fun e_42 => (cond (t_21.1 == e_42) (some (decide (t_3.2.2.2.2.2 ≤ t_21.2.1))) (some false))))) : Option (Bool)).bind fun enough_44 => (cond (enough_44 != t_7.1) (some false) (cond (!t_23.2.2) (some true) ((impl_AttackNetwork t_3.1 t_3.2.1).bind fun t_45 => ((impl_IsFlow t_45.1 t_23.1).bind fun t_52 => ((impl_IsFlow t_45.1 t_23.2.1).bind fun t_54 => (((cond t_45.2 (cond t_52.2 (cond t_54.2 (cond t_52.1 (cond t_54.1 ((goAt t_23.1 t_3.2.2.1).bind fun e_56 => ((goAt e_56 t_3.2.2.2.1).bind fun e_58 => ((goAt t_3.1 t_3.2.2.1).bind fun e_60 => ((goAt e_60 t_3.2.2.2.1).bind fun e_63 => (cond (e_58 == (w64 (e_63 - t_21.1))) ((goAt t_23.2.1 t_3.2.2.1).bind fun e_65 => ((goAt e_65 t_3.2.2.2.1).bind fun e_67 => ((goAt t_3.1 t_3.2.2.1).bind fun e_69 => ((goAt e_69 t_3.2.2.2.1).bind fun e_72 => some (e_67 == (w64 (e_72 + t_21.2.1))))))) (some false)))))) (some false)) (some false)) (some false)) (some false)) (some false)) : Option (Bool)).bind fun t_74 => some t_74))))))))))))))))))))))

end Go.Gx.F
