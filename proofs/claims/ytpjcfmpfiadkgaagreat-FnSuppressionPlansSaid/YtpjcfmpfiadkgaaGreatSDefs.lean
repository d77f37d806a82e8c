/- The plain functions that the walks come to. -/
import Derived.Test.YtpjcfmpfiadkgaaGreatGy
namespace Go.Gx.F
open Go.Gx
set_option linter.all false

structure spec_l1Cur where
  code : List (K .u8)
  at_ : Int
  seed : K .u64

instance : Rep spec_l1Cur where
  wd := 3
  rd m cs x := ∃ s1 : Sl, cs = [s1.v, (.int .i64 x.at_), (.int .u64 x.seed.v)] ∧ Rd m s1 x.code
  mono hm h := by
    obtain ⟨s1, rfl, h1⟩ := h
    exact ⟨s1, rfl, h1.mono hm⟩
  len h := by obtain ⟨s1, rfl, _⟩ := h; rfl
  one h := by obtain ⟨s1, rfl, _⟩ := h; rfl

instance : Rng spec_l1Cur := ⟨fun x => Rng.ok x.code ∧ Rng.ok x.at_ ∧ Rng.ok x.seed⟩

structure impl_Transport where
  Rows : List Int
  Cols : List Int
  Lo : List (List Int)
  Hi : List (List Int)

instance : Rep impl_Transport where
  wd := 4
  rd m cs x := ∃ s1 s2 s3 s4 : Sl, cs = [s1.v, s2.v, s3.v, s4.v] ∧ Rd m s1 x.Rows ∧ Rd m s2 x.Cols ∧ Rd m s3 x.Lo ∧ Rd m s4 x.Hi
  mono hm h := by
    obtain ⟨s1, s2, s3, s4, rfl, h1, h2, h3, h4⟩ := h
    exact ⟨s1, s2, s3, s4, rfl, h1.mono hm, h2.mono hm, h3.mono hm, h4.mono hm⟩
  len h := by obtain ⟨s1, s2, s3, s4, rfl, _⟩ := h; rfl
  one h := by obtain ⟨s1, s2, s3, s4, rfl, _⟩ := h; rfl

instance : Rng impl_Transport := ⟨fun x => Rng.ok x.Rows ∧ Rng.ok x.Cols ∧ Rng.ok x.Lo ∧ Rng.ok x.Hi⟩

structure impl_choice where
  cells : List (List Int)
  value : Int

instance : Rep impl_choice where
  wd := 2
  rd m cs x := ∃ s1 : Sl, cs = [s1.v, (.int .i64 x.value)] ∧ Rd m s1 x.cells
  mono hm h := by
    obtain ⟨s1, rfl, h1⟩ := h
    exact ⟨s1, rfl, h1.mono hm⟩
  len h := by obtain ⟨s1, rfl, _⟩ := h; rfl
  one h := by obtain ⟨s1, rfl, _⟩ := h; rfl

instance : Rng impl_choice := ⟨fun x => Rng.ok x.cells ∧ Rng.ok x.value⟩

structure impl_Plan where
  Pattern : List (List Int)
  Added : Int
  Value : Int

instance : Rep impl_Plan where
  wd := 3
  rd m cs x := ∃ s1 : Sl, cs = [s1.v, (.int .i64 x.Added), (.int .i64 x.Value)] ∧ Rd m s1 x.Pattern
  mono hm h := by
    obtain ⟨s1, rfl, h1⟩ := h
    exact ⟨s1, rfl, h1.mono hm⟩
  len h := by obtain ⟨s1, rfl, _⟩ := h; rfl
  one h := by obtain ⟨s1, rfl, _⟩ := h; rfl

instance : Rng impl_Plan := ⟨fun x => Rng.ok x.Pattern ∧ Rng.ok x.Added ∧ Rng.ok x.Value⟩

structure spec_tFill where
  t : impl_Transport
  x : List (List Int)
  rows : List Int
  cols : List Int

instance : Rep spec_tFill where
  wd := 7
  rd m cs x := ∃ s1 s2 s3 s4 s5 s6 s7 : Sl, cs = [s1.v, s2.v, s3.v, s4.v, s5.v, s6.v, s7.v] ∧ Rd m s1 x.t.Rows ∧ Rd m s2 x.t.Cols ∧ Rd m s3 x.t.Lo ∧ Rd m s4 x.t.Hi ∧ Rd m s5 x.x ∧ Rd m s6 x.rows ∧ Rd m s7 x.cols
  mono hm h := by
    obtain ⟨s1, s2, s3, s4, s5, s6, s7, rfl, h1, h2, h3, h4, h5, h6, h7⟩ := h
    exact ⟨s1, s2, s3, s4, s5, s6, s7, rfl, h1.mono hm, h2.mono hm, h3.mono hm, h4.mono hm, h5.mono hm, h6.mono hm, h7.mono hm⟩
  len h := by obtain ⟨s1, s2, s3, s4, s5, s6, s7, rfl, _⟩ := h; rfl
  one h := by obtain ⟨s1, s2, s3, s4, s5, s6, s7, rfl, _⟩ := h; rfl

instance : Rng spec_tFill := ⟨fun x => Rng.ok x.t ∧ Rng.ok x.x ∧ Rng.ok x.rows ∧ Rng.ok x.cols⟩

noncomputable def spec_l1Cur_next (p_c : spec_l1Cur) : Option (Int × spec_l1Cur) :=
  (((cond (decide (p_c.at_ < (goLen p_c.code))) ((goAt p_c.code p_c.at_).bind fun e_2 => some (w64 e_2.v)) (some 0)) : Option (Int)).bind fun b_4 => (cond (decide ((w64 (p_c.at_ + 1)) ≤ (goLen p_c.code))) (some (b_4, (spec_l1Cur.mk p_c.code (w64 (p_c.at_ + 1)) (⟨(IntKind.wrap .u64 ((IntKind.wrap .u64 ((IntKind.wrap .u64 (p_c.seed.v * 6364136223846793005)) + (IntKind.wrap .u64 b_4))) + 1442695040888963407))⟩ : K .u64)))) ((goShr .u64 (IntKind.wrap .u64 ((IntKind.wrap .u64 ((IntKind.wrap .u64 (p_c.seed.v * 6364136223846793005)) + (IntKind.wrap .u64 b_4))) + 1442695040888963407)) 40).bind fun t_5 => some ((w64 (goBits .and .u64 t_5 255)), (spec_l1Cur.mk p_c.code (w64 (p_c.at_ + 1)) (⟨(IntKind.wrap .u64 ((IntKind.wrap .u64 ((IntKind.wrap .u64 (p_c.seed.v * 6364136223846793005)) + (IntKind.wrap .u64 b_4))) + 1442695040888963407))⟩ : K .u64))))))

noncomputable def spec_l1Cur_pick (p_c : spec_l1Cur) (p_n : Int) : Option (Int × spec_l1Cur) :=
  (cond (decide (p_n ≤ 1)) (some (0, p_c)) ((spec_l1Cur_next p_c).bind fun t_3 => (((cond (decide (200 < p_n)) ((spec_l1Cur_next t_3.2).bind fun t_6 => some ((w64 ((w64 (t_3.1 * 256)) + t_6.1)), t_6.2)) (some (t_3.1, t_3.2))) : Option (Int × spec_l1Cur)).bind fun (x_8, p_c_9) => ((goRem x_8 p_n).bind fun t_11 => some (t_11, p_c_9)))))

noncomputable def spec_l1Cur_among (p_c : spec_l1Cur) (p_list : List Int) : Option (Int × spec_l1Cur) :=
  ((spec_l1Cur_pick p_c (goLen p_list)).bind fun t_4 => ((goAt p_list t_4.1).bind fun e_6 => some (e_6, t_4.2)))

noncomputable def spec_l1Cur_twoWay_l2 (t_6 : Int × spec_l1Cur) : (List Int) × Int × spec_l1Cur → Option (Stp ((List Int) × Int × spec_l1Cur) ((List Int) × spec_l1Cur))
  | (row_13, j_15, p_c_16) => (cond (decide (j_15 < (w64 (1 + t_6.1)))) ((spec_l1Cur_pick p_c_16 30).bind fun t_19 => ((spec_l1Cur_among t_19.2 ([0, 1, 2, 3, 5, 9, t_19.1] : List Int)).bind fun t_23 => ((goApp 8 row_13 ([t_23.1] : List Int)).bind fun l_26 => some (.next (l_26, (w64 (j_15 + 1)), t_23.2))))) (some (.done (row_13, p_c_16))))

noncomputable def spec_l1Cur_twoWay_l1 (t_3 : Int × spec_l1Cur) (t_6 : Int × spec_l1Cur) : (List (List Int)) × Int × spec_l1Cur → Option (Stp ((List (List Int)) × Int × spec_l1Cur) ((List (List Int)) × spec_l1Cur))
  | (out_8, i_10, p_c_11) => (cond (decide (i_10 < (w64 (1 + t_3.1)))) ((loopC (spec_l1Cur_twoWay_l2 t_6) (([] : List Int), 0, p_c_11)).bind fun (row_28, p_c_30) => ((goApp 24 out_8 ([row_28] : List (List Int))).bind fun l_33 => some (.next (l_33, (w64 (i_10 + 1)), p_c_30)))) (some (.done (out_8, p_c_11))))

noncomputable def spec_l1Cur_twoWay (p_c : spec_l1Cur) : Option ((List (List Int)) × spec_l1Cur) :=
  ((spec_l1Cur_pick p_c 4).bind fun t_3 => ((spec_l1Cur_pick t_3.2 4).bind fun t_6 => ((loopC (spec_l1Cur_twoWay_l1 t_3 t_6) (([] : List (List Int)), 0, t_6.2)).bind fun (out_35, p_c_37) => some (out_35, p_c_37))))

noncomputable def spec_l1Cur_anyTwoWay (p_c : spec_l1Cur) : Option ((List (List Int)) × spec_l1Cur) :=
  ((spec_l1Cur_twoWay p_c).bind fun t_3 => ((spec_l1Cur_pick t_3.2 24).bind fun t_7 => (((cond (t_7.1 == 0) ((((goAt t_3.1 0).bind fun e_9 => ((spec_l1Cur_among t_7.2 ([-1, 1000, 1001] : List Int)).bind fun t_14 => ((goAt e_9 0).bind fun e_16 => some (goSet t_3.1 0 (goSet e_9 0 t_14.1), t_14.2)))) : Option ((List (List Int)) × spec_l1Cur)).bind fun (x_19, p_c_21) => some (.inl (x_19, p_c_21))) (((cond (t_7.1 == 1) ((goAt t_3.1 0).bind fun e_9 => ((goApp 8 e_9 ([0] : List Int)).bind fun l_13 => ((goAt t_3.1 0).bind fun e_15 => some (.inl (goSet t_3.1 0 l_13))))) (cond (t_7.1 == 2) (some (.inr (.inr (([] : List (List Int)), t_7.2)))) (cond (t_7.1 == 3) ((spec_l1Cur_pick t_7.2 2).bind fun t_10 => ((goMake 24 (w64 (1 + t_10.1)) ([] : List Int)).bind fun l_12 => some (.inr (.inr (l_12, t_10.2))))) (some (.inl t_3.1))))) : Option (((List (List Int))) ⊕ (((List (List Int)) × spec_l1Cur) ⊕ ((List (List Int)) × spec_l1Cur)))).bind fun | .inl x_18 => some (.inl (x_18, t_7.2)) | .inr o => some o)) : Option (((List (List Int)) × spec_l1Cur) ⊕ ((List (List Int)) × spec_l1Cur))).bind fun | .inl (x_23, p_c_25) => some (x_23, p_c_25) | .inr o => some o)))

noncomputable def spec_l1Cur_one (p_c : spec_l1Cur) (p_n : Int) : Option (Bool × spec_l1Cur) :=
  ((spec_l1Cur_pick p_c p_n).bind fun t_3 => some (t_3.1 == 0, t_3.2))

noncomputable def spec_l1Cur_protection_l2 (e_11 : List Int) (l_13 : List Int) : (List Int) × Int × spec_l1Cur → Option (Stp ((List Int) × Int × spec_l1Cur) ((List Int) × spec_l1Cur))
  | (l_15, t_17, p_c_18) => (cond (decide (t_17 < (goLen l_13))) ((((goAt e_11 t_17).bind fun e_20 => (cond (decide (0 < e_20)) ((goAt e_11 t_17).bind fun e_22 => (cond (decide (e_22 < 3)) (some (true, p_c_18)) ((spec_l1Cur_one p_c_18 5).bind fun t_25 => some (t_25.1, t_25.2)))) ((spec_l1Cur_one p_c_18 5).bind fun t_23 => some (t_23.1, t_23.2)))) : Option (Bool × spec_l1Cur)).bind fun (t_27, p_c_28) => (((cond t_27 ((goAt l_15 t_17).bind fun e_30 => some (goSet l_15 t_17 1)) (some l_15)) : Option ((List Int))).bind fun l_33 => some (.next (l_33, (w64 (t_17 + 1)), p_c_28)))) (some (.done (l_15, p_c_18))))

noncomputable def spec_l1Cur_protection_l1 (t_3 : (List (List Int)) × spec_l1Cur) : (List (List Int)) × Int × spec_l1Cur → Option (Stp ((List (List Int)) × Int × spec_l1Cur) ((List (List Int)) × spec_l1Cur))
  | (p_6, t_8, p_c_9) => (cond (decide (t_8 < (goLen t_3.1))) ((goAt t_3.1 t_8).bind fun e_11 => ((goMake 8 (goLen e_11) (0 : Int)).bind fun l_13 => ((loopC (spec_l1Cur_protection_l2 e_11 l_13) (l_13, 0, p_c_9)).bind fun (l_35, p_c_37) => ((goApp 24 p_6 ([l_35] : List (List Int))).bind fun l_40 => some (.next (l_40, (w64 (t_8 + 1)), p_c_37)))))) (some (.done (p_6, p_c_9))))

noncomputable def spec_l1Cur_protection (p_c : spec_l1Cur) : Option ((List (List Int)) × (List (List Int)) × Int × Int × spec_l1Cur) :=
  ((spec_l1Cur_anyTwoWay p_c).bind fun t_3 => ((loopC (spec_l1Cur_protection_l1 t_3) (([] : List (List Int)), 0, t_3.2)).bind fun (p_42, p_c_44) => (((cond (decide (0 < (goLen p_42))) ((goAt p_42 0).bind fun e_46 => (cond (decide (0 < (goLen e_46))) ((spec_l1Cur_one p_c_44 30).bind fun t_49 => some (t_49.1, t_49.2)) (some (false, p_c_44)))) (some (false, p_c_44))) : Option (Bool × spec_l1Cur)).bind fun (t_51, p_c_52) => (((cond t_51 ((goAt p_42 0).bind fun e_54 => ((goAt e_54 0).bind fun e_56 => some (goSet p_42 0 (goSet e_54 0 2)))) (some p_42)) : Option ((List (List Int)))).bind fun p_59 => ((spec_l1Cur_among p_c_52 ([0, 1, 1, 2, 5, -1, 1001] : List Int)).bind fun t_63 => ((spec_l1Cur_among t_63.2 ([0, 1, 1, 2, 5, 1000] : List Int)).bind fun t_67 => some (t_3.1, p_59, t_63.1, t_67.1, t_67.2)))))))

noncomputable def spec_DrawLeastPlan (p_code : List (K .u8)) : Option ((List (List Int)) × (List (List Int)) × Int × Int) :=
  ((spec_l1Cur_protection (spec_l1Cur.mk p_code 0 (⟨0⟩ : K .u64))).bind fun t_4 => (((cond (decide (3 < (goLen t_4.1))) ((goSub t_4.1 0 3).bind fun l_9 => ((goSub t_4.2.1 0 3).bind fun l_12 => some (l_9, l_12))) (some (t_4.1, t_4.2.1))) : Option ((List (List Int)) × (List (List Int)))).bind fun (x_14, p_16) => some (x_14, p_16, t_4.2.2.1, t_4.2.2.2.1)))

noncomputable def impl_hasShape_l1 (p_x : List (List Int)) (p_cols : Int) (t_2 : Int) : Option (Stp (Int) ((Unit) ⊕ (Bool))) :=
  (cond (decide (t_2 < (goLen p_x))) ((goAt p_x t_2).bind fun e_3 => (cond ((goLen e_3) != p_cols) (some (.done (.inr false))) (some (.next (w64 (t_2 + 1)))))) (some (.done (.inl ()))))

noncomputable def impl_hasShape (p_x : List (List Int)) (p_rows : Int) (p_cols : Int) : Option (Bool) :=
  (cond ((goLen p_x) != p_rows) (some false) ((loopC (impl_hasShape_l1 p_x p_cols) 0).bind fun | .inl () => some true | .inr o => some o))

noncomputable def impl_isGrid_l2 (p_most : Int) (e_14 : List Int) (t_17 : Int) : Option (Stp (Int) ((Unit) ⊕ (Stp (Int) ((Unit) ⊕ (Bool))))) :=
  (cond (decide (t_17 < (goLen e_14))) ((goAt e_14 t_17).bind fun e_18 => (((cond (decide (e_18 < 0)) (some true) (some (decide (p_most < e_18)))) : Option (Bool)).bind fun t_20 => (cond t_20 (some (.done (.inr (.done (.inr false))))) (some (.next (w64 (t_17 + 1))))))) (some (.done (.inl ()))))

noncomputable def impl_isGrid_l1 (p_x : List (List Int)) (p_most : Int) (t_13 : Int) : Option (Stp (Int) ((Unit) ⊕ (Bool))) :=
  (cond (decide (t_13 < (goLen p_x))) ((goAt p_x t_13).bind fun e_14 => ((loopC (impl_isGrid_l2 p_most e_14) 0).bind fun | .inl () => some (.next (w64 (t_13 + 1))) | .inr o => some o)) (some (.done (.inl ()))))

noncomputable def impl_isGrid (p_x : List (List Int)) (p_most : Int) : Option (Bool) :=
  (((cond (decide ((goLen p_x) < 1)) (some true) (cond (decide (8 < (goLen p_x))) (some true) ((goAt p_x 0).bind fun e_2 => (cond (decide ((goLen e_2) < 1)) (some true) ((goAt p_x 0).bind fun e_5 => (cond (decide (8 < (goLen e_5))) (some true) ((goAt p_x 0).bind fun e_8 => ((impl_hasShape p_x (goLen p_x) (goLen e_8)).bind fun t_11 => some (!t_11))))))))) : Option (Bool)).bind fun t_12 => (cond t_12 (some false) ((loopC (impl_isGrid_l1 p_x p_most) 0).bind fun | .inl () => some true | .inr o => some o)))

noncomputable def impl_IsTwoWay (p_x : List (List Int)) : Option (Bool) :=
  ((impl_isGrid p_x 1000).bind fun t_2 => some t_2)

noncomputable def impl_isPattern (p_x : List (List Int)) (p_p : List (List Int)) : Option (Bool) :=
  ((((impl_isGrid p_p 1).bind fun t_3 => (cond t_3 ((goAt p_x 0).bind fun e_4 => ((impl_hasShape p_p (goLen p_x) (goLen e_4)).bind fun t_7 => some t_7)) (some false))) : Option (Bool)).bind fun t_8 => some t_8)

noncomputable def impl_areSuppressed (p_x : List (List Int)) (p_p : List (List Int)) : Option (Bool) :=
  ((((impl_IsTwoWay p_x).bind fun t_3 => (cond t_3 ((impl_isPattern p_x p_p).bind fun t_4 => some t_4) (some false))) : Option (Bool)).bind fun t_5 => some t_5)

noncomputable def impl_areMargins (p_down : Int) (p_up : Int) : Option (Bool) :=
  (((cond (decide (0 ≤ p_down)) (cond (decide (p_down ≤ 1000)) (cond (decide (0 ≤ p_up)) (some (decide (p_up ≤ 1000))) (some false)) (some false)) (some false)) : Option (Bool)).bind fun t_1 => some t_1)

noncomputable def slices_Clone_int_int (p_s : List Int) : Option ((List Int)) :=
  ((goApp 8 ([] : List Int) p_s).bind fun l_3 => some l_3)

noncomputable def impl_copyMatrix_l1 (p_x : List (List Int)) : (List (List Int)) × Int → Option (Stp ((List (List Int)) × Int) ((List (List Int))))
  | (out_5, t_7) => (cond (decide (t_7 < (goLen p_x))) ((goAt p_x t_7).bind fun e_8 => ((slices_Clone_int_int e_8).bind fun t_11 => ((goAt out_5 t_7).bind fun e_14 => some (.next (goSet out_5 t_7 t_11, (w64 (t_7 + 1))))))) (some (.done out_5)))

noncomputable def impl_copyMatrix (p_x : List (List Int)) : Option ((List (List Int))) :=
  ((goMake 24 (goLen p_x) ([] : List Int)).bind fun l_2 => ((goNE l_2).bind fun u_4 => ((loopC (impl_copyMatrix_l1 p_x) (l_2, 0)).bind fun out_17 => some out_17)))

noncomputable def impl_positions_l2 (t_4 : Int) (e_6 : List Int) : (List (List Int)) × Int → Option (Stp ((List (List Int)) × Int) ((List (List Int))))
  | (out_9, t_11) => (cond (decide (t_11 < (goLen e_6))) ((goAt e_6 t_11).bind fun e_13 => (((cond (e_13 == 1) ((goApp 24 out_9 ([([t_4, t_11] : List Int)] : List (List Int))).bind fun l_18 => some l_18) (some out_9)) : Option ((List (List Int)))).bind fun out_20 => some (.next (out_20, (w64 (t_11 + 1)))))) (some (.done out_9)))

noncomputable def impl_positions_l1 (p_p : List (List Int)) : (List (List Int)) × Int → Option (Stp ((List (List Int)) × Int) ((List (List Int))))
  | (out_2, t_4) => (cond (decide (t_4 < (goLen p_p))) ((goAt p_p t_4).bind fun e_6 => ((loopC (impl_positions_l2 t_4 e_6) (out_2, 0)).bind fun out_23 => some (.next (out_23, (w64 (t_4 + 1)))))) (some (.done out_2)))

noncomputable def impl_positions (p_p : List (List Int)) : Option ((List (List Int))) :=
  ((loopC (impl_positions_l1 p_p) (([] : List (List Int)), 0)).bind fun out_26 => some out_26)

noncomputable def impl_freeCells_l2 (t_7 : Int) (e_8 : List Int) : (List (List Int)) × Int × (List Int) → Option (Stp ((List (List Int)) × Int × (List Int)) ((List (List Int))))
  | (inverse_10, t_12, row_13) => (cond (decide (t_12 < (goLen e_8))) ((goAt row_13 t_12).bind fun e_15 => ((goAt row_13 t_12).bind fun e_17 => some (.next (goSet inverse_10 t_7 (goSet row_13 t_12 (w64 (1 - e_15))), (w64 (t_12 + 1)), goSet row_13 t_12 (w64 (1 - e_15)))))) (some (.done inverse_10)))

noncomputable def impl_freeCells_l1 (t_2 : List (List Int)) : (List (List Int)) × Int → Option (Stp ((List (List Int)) × Int) ((List (List Int))))
  | (inverse_5, t_7) => (cond (decide (t_7 < (goLen t_2))) ((goAt inverse_5 t_7).bind fun e_8 => ((loopC (impl_freeCells_l2 t_7 e_8) (inverse_5, 0, e_8)).bind fun inverse_20 => some (.next (inverse_20, (w64 (t_7 + 1)))))) (some (.done inverse_5)))

noncomputable def impl_freeCells (p_p : List (List Int)) : Option ((List (List Int))) :=
  ((impl_copyMatrix p_p).bind fun t_2 => ((loopC (impl_freeCells_l1 t_2) (t_2, 0)).bind fun inverse_22 => ((impl_positions inverse_22).bind fun t_25 => some t_25)))

noncomputable def impl_with_l1 (p_cells : List (List Int)) : (List (List Int)) × Int → Option (Stp ((List (List Int)) × Int) ((List (List Int))))
  | (out_6, t_8) => (cond (decide (t_8 < (goLen p_cells))) ((goAt p_cells t_8).bind fun e_9 => ((goAt e_9 0).bind fun e_12 => ((goAt out_6 e_12).bind fun e_14 => ((goAt e_9 1).bind fun e_16 => ((goAt e_14 e_16).bind fun e_18 => some (.next (goSet out_6 e_12 (goSet e_14 e_16 1), (w64 (t_8 + 1))))))))) (some (.done out_6)))

noncomputable def impl_with (p_p : List (List Int)) (p_cells : List (List Int)) : Option ((List (List Int))) :=
  ((impl_copyMatrix p_p).bind fun t_3 => ((loopC (impl_with_l1 p_cells) (t_3, 0)).bind fun out_21 => some out_21))

noncomputable def impl_rowSums_l2 (t_6 : Int) (e_7 : List Int) : (List Int) × Int → Option (Stp ((List Int) × Int) ((List Int)))
  | (sums_10, t_12) => (cond (decide (t_12 < (goLen e_7))) ((goAt e_7 t_12).bind fun e_13 => ((goAt sums_10 t_6).bind fun e_15 => ((goAt sums_10 t_6).bind fun e_17 => some (.next (goSet sums_10 t_6 (w64 (e_15 + e_13)), (w64 (t_12 + 1))))))) (some (.done sums_10)))

noncomputable def impl_rowSums_l1 (p_x : List (List Int)) : (List Int) × Int → Option (Stp ((List Int) × Int) ((List Int)))
  | (sums_4, t_6) => (cond (decide (t_6 < (goLen p_x))) ((goAt p_x t_6).bind fun e_7 => ((loopC (impl_rowSums_l2 t_6 e_7) (sums_4, 0)).bind fun sums_20 => some (.next (sums_20, (w64 (t_6 + 1)))))) (some (.done sums_4)))

noncomputable def impl_rowSums (p_x : List (List Int)) : Option ((List Int)) :=
  ((goMake 8 (goLen p_x) (0 : Int)).bind fun l_2 => ((loopC (impl_rowSums_l1 p_x) (l_2, 0)).bind fun sums_22 => some sums_22))

noncomputable def impl_colSums_l2 (e_10 : List Int) : (List Int) × Int → Option (Stp ((List Int) × Int) ((List Int)))
  | (sums_13, t_15) => (cond (decide (t_15 < (goLen e_10))) ((goAt e_10 t_15).bind fun e_16 => ((goAt sums_13 t_15).bind fun e_18 => ((goAt sums_13 t_15).bind fun e_20 => some (.next (goSet sums_13 t_15 (w64 (e_18 + e_16)), (w64 (t_15 + 1))))))) (some (.done sums_13)))

noncomputable def impl_colSums_l1 (p_x : List (List Int)) : (List Int) × Int → Option (Stp ((List Int) × Int) ((List Int)))
  | (sums_7, t_9) => (cond (decide (t_9 < (goLen p_x))) ((goAt p_x t_9).bind fun e_10 => ((loopC (impl_colSums_l2 e_10) (sums_7, 0)).bind fun sums_23 => some (.next (sums_23, (w64 (t_9 + 1)))))) (some (.done sums_7)))

noncomputable def impl_colSums (p_x : List (List Int)) : Option ((List Int)) :=
  ((goAt p_x 0).bind fun e_2 => ((goMake 8 (goLen e_2) (0 : Int)).bind fun l_5 => ((loopC (impl_colSums_l1 p_x) (l_5, 0)).bind fun sums_25 => some sums_25)))

noncomputable def impl_attackNetwork_l2 (t_17 : Int) (e_23 : List Int) : Int × impl_Transport → Option (Stp (Int × impl_Transport) (impl_Transport))
  | (t_26, t_27) => (cond (decide (t_26 < (goLen e_23))) ((goAt e_23 t_26).bind fun e_32 => (((cond (e_32 == 1) ((goAt t_27.Lo t_17).bind fun e_34 => ((goAt t_27.Hi t_17).bind fun e_36 => ((goAt e_34 t_26).bind fun e_38 => ((goAt e_36 t_26).bind fun e_41 => some (impl_Transport.mk t_27.Rows t_27.Cols (goSet t_27.Lo t_17 (goSet e_34 t_26 0)) (goSet t_27.Hi t_17 (goSet e_36 t_26 100000))))))) (some t_27)) : Option (impl_Transport)).bind fun t_44 => some (.next ((w64 (t_26 + 1)), t_44)))) (some (.done t_27)))

noncomputable def impl_attackNetwork_l1 (p_p : List (List Int)) : Int × impl_Transport → Option (Stp (Int × impl_Transport) (impl_Transport))
  | (t_17, t_18) => (cond (decide (t_17 < (goLen p_p))) ((goAt p_p t_17).bind fun e_23 => ((loopC (impl_attackNetwork_l2 t_17 e_23) (0, t_18)).bind fun t_49 => some (.next ((w64 (t_17 + 1)), t_49)))) (some (.done t_18)))

noncomputable def impl_attackNetwork (p_x : List (List Int)) (p_p : List (List Int)) : Option (impl_Transport) :=
  ((impl_rowSums p_x).bind fun t_4 => ((impl_colSums p_x).bind fun t_7 => ((impl_copyMatrix p_x).bind fun t_10 => ((impl_copyMatrix p_x).bind fun t_13 => ((loopC (impl_attackNetwork_l1 p_p) (0, (impl_Transport.mk t_4 t_7 t_10 t_13))).bind fun t_54 => some t_54)))))

noncomputable def impl_push_l2 (l_5 : List Int) : (List Int) × Int → Option (Stp ((List Int) × Int) ((List Int)))
  | (back_7, t_9) => (cond (decide (t_9 < (goLen l_5))) ((goAt back_7 t_9).bind fun e_10 => some (.next (goSet back_7 t_9 (-1), (w64 (t_9 + 1))))) (some (.done back_7)))

noncomputable def impl_push_l4 (e_26 : Int) (e_30 : List Int) : (List Int) × (List Int) × Int → Option (Stp ((List Int) × (List Int) × Int) ((List Int) × (List Int)))
  | (back_32, queue_34, t_36) => (cond (decide (t_36 < (goLen e_30))) ((goAt e_30 t_36).bind fun e_37 => (((cond (decide (0 < e_37)) ((goAt back_32 t_36).bind fun e_39 => some (decide (e_39 < 0))) (some false)) : Option (Bool)).bind fun t_41 => (((cond t_41 ((goAt back_32 t_36).bind fun e_42 => ((goApp 8 queue_34 ([t_36] : List Int)).bind fun l_46 => some (goSet back_32 t_36 e_26, l_46))) (some (back_32, queue_34))) : Option ((List Int) × (List Int))).bind fun (back_48, queue_50) => some (.next (back_48, queue_50, (w64 (t_36 + 1))))))) (some (.done (back_32, queue_34))))

noncomputable def impl_push_l3 (p_to : Int) (r_2 : List (List Int)) : (List Int) × (List Int) → Option (Stp ((List Int) × (List Int)) ((List Int)))
  | (back_19, queue_21) => (((cond (decide (0 < (goLen queue_21))) ((goAt back_19 p_to).bind fun e_23 => some (decide (e_23 < 0))) (some false)) : Option (Bool)).bind fun t_25 => (cond t_25 ((goAt queue_21 0).bind fun e_26 => ((goSub queue_21 1 (goLen queue_21)).bind fun l_28 => ((goAt r_2 e_26).bind fun e_30 => ((loopC (impl_push_l4 e_26 e_30) (back_19, l_28, 0)).bind fun (back_52, queue_54) => some (.next (back_52, queue_54)))))) (some (.done back_19))))

noncomputable def impl_push_l5 (p_from : Int) (r_2 : List (List Int)) (back_56 : List Int) : Int × Int → Option (Stp (Int × Int) (Int))
  | (step_60, v_61) => (cond (v_61 != p_from) ((goAt back_56 v_61).bind fun e_62 => ((goAt r_2 e_62).bind fun e_64 => ((goAt e_64 v_61).bind fun e_66 => ((goAt back_56 v_61).bind fun e_68 => some (.next (min step_60 e_66, e_68)))))) (some (.done step_60)))

noncomputable def impl_push_l6 (p_from : Int) (back_56 : List Int) (step_70 : Int) : (List (List Int)) × Int → Option (Stp ((List (List Int)) × Int) ((List (List Int))))
  | (r_71, v_73) => (cond (v_73 != p_from) ((goAt back_56 v_73).bind fun e_74 => ((goAt r_71 e_74).bind fun e_76 => ((goAt e_76 v_73).bind fun e_78 => ((goAt e_76 v_73).bind fun e_80 => ((goAt (goSet r_71 e_74 (goSet e_76 v_73 (w64 (e_78 - step_70)))) v_73).bind fun e_83 => ((goAt back_56 v_73).bind fun e_85 => ((goAt e_83 e_85).bind fun e_87 => ((goAt e_83 e_85).bind fun e_89 => ((goAt back_56 v_73).bind fun e_92 => some (.next (goSet (goSet r_71 e_74 (goSet e_76 v_73 (w64 (e_78 - step_70)))) v_73 (goSet e_83 e_85 (w64 (e_87 + step_70))), e_92))))))))))) (some (.done r_71)))

noncomputable def impl_push_l1 (p_from : Int) (p_to : Int) (p_limit : Int) : (List (List Int)) × Int → Option (Stp ((List (List Int)) × Int) ((List (List Int)) × Int))
  | (r_2, sent_4) => (cond (decide (sent_4 < p_limit)) ((goMake 8 (goLen r_2) (0 : Int)).bind fun l_5 => ((loopC (impl_push_l2 l_5) (l_5, 0)).bind fun back_13 => ((goAt back_13 p_from).bind fun e_15 => ((loopC (impl_push_l3 p_to r_2) (goSet back_13 p_from p_from, ([p_from] : List Int))).bind fun back_56 => ((goAt back_56 p_to).bind fun e_58 => (cond (decide (e_58 < 0)) (some (.done (r_2, sent_4))) ((loopC (impl_push_l5 p_from r_2 back_56) ((w64 (p_limit - sent_4)), p_to)).bind fun step_70 => ((loopC (impl_push_l6 p_from back_56 step_70) (r_2, p_to)).bind fun r_94 => some (.next (r_94, (w64 (sent_4 + step_70)))))))))))) (some (.done (r_2, sent_4))))

noncomputable def impl_push (p_r : List (List Int)) (p_from : Int) (p_to : Int) (p_limit : Int) : Option (Int × (List (List Int))) :=
  ((loopC (impl_push_l1 p_from p_to p_limit) (p_r, 0)).bind fun (r_96, sent_98) => some (sent_98, r_96))

noncomputable def impl_residual_l1 (p_t : impl_Transport) (l_7 : List (List Int)) : (List (List Int)) × Int → Option (Stp ((List (List Int)) × Int) ((List (List Int))))
  | (r_9, t_11) => (cond (decide (t_11 < (goLen l_7))) ((goMake 8 (w64 ((goLen p_t.Rows) + (goLen p_t.Cols))) (0 : Int)).bind fun l_12 => ((goAt r_9 t_11).bind fun e_14 => some (.next (goSet r_9 t_11 l_12, (w64 (t_11 + 1)))))) (some (.done r_9)))

noncomputable def impl_residual_l3 (p_t : impl_Transport) (p_fixed : Int) (t_21 : Int) (e_22 : List Int) : (List (List Int)) × Int → Option (Stp ((List (List Int)) × Int) ((List (List Int))))
  | (r_25, t_27) => (cond (decide (t_27 < (goLen e_22))) ((goAt e_22 t_27).bind fun e_28 => (((cond (decide (p_fixed < (w64 ((w64 (t_21 * (goLen p_t.Cols))) + t_27)))) ((goAt r_25 t_21).bind fun e_30 => ((goAt p_t.Hi t_21).bind fun e_32 => ((goAt e_32 t_27).bind fun e_35 => ((goAt e_30 (w64 ((goLen p_t.Rows) + t_27))).bind fun e_37 => ((goAt (goSet r_25 t_21 (goSet e_30 (w64 ((goLen p_t.Rows) + t_27)) (w64 (e_35 - e_28)))) (w64 ((goLen p_t.Rows) + t_27))).bind fun e_40 => ((goAt p_t.Lo t_21).bind fun e_42 => ((goAt e_42 t_27).bind fun e_45 => ((goAt e_40 t_21).bind fun e_47 => some (goSet (goSet r_25 t_21 (goSet e_30 (w64 ((goLen p_t.Rows) + t_27)) (w64 (e_35 - e_28)))) (w64 ((goLen p_t.Rows) + t_27)) (goSet e_40 t_21 (w64 (e_28 - e_45)))))))))))) (some r_25)) : Option ((List (List Int)))).bind fun r_50 => some (.next (r_50, (w64 (t_27 + 1)))))) (some (.done r_25)))

noncomputable def impl_residual_l2 (p_t : impl_Transport) (p_x : List (List Int)) (p_fixed : Int) : (List (List Int)) × Int → Option (Stp ((List (List Int)) × Int) ((List (List Int))))
  | (r_19, t_21) => (cond (decide (t_21 < (goLen p_x))) ((goAt p_x t_21).bind fun e_22 => ((loopC (impl_residual_l3 p_t p_fixed t_21 e_22) (r_19, 0)).bind fun r_52 => some (.next (r_52, (w64 (t_21 + 1)))))) (some (.done r_19)))

noncomputable def impl_residual (p_t : impl_Transport) (p_x : List (List Int)) (p_fixed : Int) : Option ((List (List Int))) :=
  ((goMake 24 (w64 ((goLen p_t.Rows) + (goLen p_t.Cols))) ([] : List Int)).bind fun l_7 => ((loopC (impl_residual_l1 p_t l_7) (l_7, 0)).bind fun r_17 => ((loopC (impl_residual_l2 p_t p_x p_fixed) (r_17, 0)).bind fun r_54 => some r_54)))

noncomputable def impl_rangeOf_1 (p_x0 : impl_Transport) (p_x1 : List (List Int)) (p_x2 : Int) (p_x3 : Int) (p_x4 : Int) : Option ((List (List Int))) :=
  ((impl_residual p_x0 p_x1 (-1)).bind fun t_6 => ((goAt t_6 p_x2).bind fun e_9 => ((goAt t_6 (w64 (p_x3 + p_x4))).bind fun e_11 => ((goAt e_9 (w64 (p_x3 + p_x4))).bind fun e_13 => ((goAt (goSet t_6 p_x2 (goSet e_9 (w64 (p_x3 + p_x4)) 0)) (w64 (p_x3 + p_x4))).bind fun e_16 => ((goAt e_16 p_x2).bind fun e_17 => ((goAt (goSet (goSet t_6 p_x2 (goSet e_9 (w64 (p_x3 + p_x4)) 0)) (w64 (p_x3 + p_x4)) (goSet e_16 p_x2 0)) p_x2).bind fun e_20 => some (goSet (goSet t_6 p_x2 (goSet e_9 (w64 (p_x3 + p_x4)) 0)) (w64 (p_x3 + p_x4)) (goSet e_16 p_x2 0)))))))))

noncomputable def impl_rangeOf (p_t : impl_Transport) (p_x : List (List Int)) (p_i : Int) (p_j : Int) : Option (Int × Int) :=
  ((goAt p_x p_i).bind fun e_11 => ((goAt e_11 p_j).bind fun e_14 => ((goAt p_t.Lo p_i).bind fun e_43 => ((goAt e_43 p_j).bind fun e_55 => ((goAt p_t.Hi p_i).bind fun e_93 => ((goAt e_93 p_j).bind fun e_105 => ((impl_rangeOf_1 p_t p_x p_i (goLen p_t.Rows) p_j).bind fun t_117 => ((impl_push t_117 p_i (w64 ((goLen p_t.Rows) + p_j)) (w64 (e_14 - e_55))).bind fun t_120 => ((impl_rangeOf_1 p_t p_x p_i (goLen p_t.Rows) p_j).bind fun t_123 => ((impl_push t_123 (w64 ((goLen p_t.Rows) + p_j)) p_i (w64 (e_105 - e_14))).bind fun t_126 => some ((w64 (e_14 - t_120.1)), (w64 (e_14 + t_126.1)))))))))))))

noncomputable def impl_isProtected (p_t : impl_Transport) (p_x : List (List Int)) (p_i : Int) (p_j : Int) (p_down : Int) (p_up : Int) : Option (Bool) :=
  ((impl_rangeOf p_t p_x p_i p_j).bind fun t_7 => ((((goAt p_x p_i).bind fun e_8 => ((goAt e_8 p_j).bind fun e_11 => (cond (decide (t_7.1 ≤ (max 0 (w64 (e_11 - p_down))))) ((goAt p_x p_i).bind fun e_13 => ((goAt e_13 p_j).bind fun e_16 => some (decide ((w64 (e_16 + p_up)) ≤ t_7.2)))) (some false)))) : Option (Bool)).bind fun t_18 => some t_18))

noncomputable def impl_protects_l1 (p_x : List (List Int)) (p_down : Int) (p_up : Int) (t_4 : impl_Transport) (t_11 : List (List Int)) (t_14 : Int) : Option (Stp (Int) ((Unit) ⊕ (Bool))) :=
  (cond (decide (t_14 < (goLen t_11))) ((goAt t_11 t_14).bind fun e_15 => ((goAt e_15 0).bind fun e_18 => ((goAt e_15 1).bind fun e_20 => ((impl_isProtected t_4 p_x e_18 e_20 p_down p_up).bind fun t_22 => (cond (!t_22) (some (.done (.inr false))) (some (.next (w64 (t_14 + 1))))))))) (some (.done (.inl ()))))

noncomputable def impl_protects (p_x : List (List Int)) (p_p : List (List Int)) (p_primary : List (List Int)) (p_down : Int) (p_up : Int) : Option (Bool) :=
  ((impl_attackNetwork p_x p_p).bind fun t_4 => ((impl_positions p_primary).bind fun t_11 => ((loopC (impl_protects_l1 p_x p_down p_up t_4 t_11) 0).bind fun | .inl () => some true | .inr o => some o)))

noncomputable def impl_membersOf_l1 (p_mask : Int) : (List Int) × Int → Option (Stp ((List Int) × Int) ((List Int)))
  | (out_1, i_3) => ((goShr .i64 p_mask i_3).bind fun t_4 => (cond (t_4 != 0) ((goShr .i64 p_mask i_3).bind fun t_5 => (((cond ((goBits .and .i64 t_5 1) == 1) ((goApp 8 out_1 ([i_3] : List Int)).bind fun l_7 => some l_7) (some out_1)) : Option ((List Int))).bind fun out_9 => some (.next (out_9, (w64 (i_3 + 1)))))) (some (.done out_1))))

noncomputable def impl_membersOf (p_mask : Int) : Option ((List Int)) :=
  ((loopC (impl_membersOf_l1 p_mask) (([] : List Int), 0)).bind fun out_11 => some out_11)

noncomputable def impl_valueOfCells_l1 (p_x : List (List Int)) (p_cells : List (List Int)) : Int × Int → Option (Stp (Int × Int) (Int))
  | (sum_3, t_4) => (cond (decide (t_4 < (goLen p_cells))) ((goAt p_cells t_4).bind fun e_5 => ((goAt e_5 0).bind fun e_8 => ((goAt p_x e_8).bind fun e_10 => ((goAt e_5 1).bind fun e_13 => ((goAt e_10 e_13).bind fun e_15 => some (.next ((w64 (sum_3 + e_15)), (w64 (t_4 + 1))))))))) (some (.done sum_3)))

noncomputable def impl_valueOfCells (p_x : List (List Int)) (p_cells : List (List Int)) : Option (Int) :=
  ((loopC (impl_valueOfCells_l1 p_x p_cells) (0, 0)).bind fun sum_17 => some sum_17)

noncomputable def math_bits_Len32 (p_x : K .u32) : Option (Int) :=
  (((cond (decide (65536 ≤ p_x.v)) ((goShr .u32 p_x.v 16).bind fun t_1 => some (t_1, 16)) (some (p_x.v, 0))) : Option (Int × Int)).bind fun (x_2, n_3) => (((cond (decide (256 ≤ x_2)) ((goShr .u32 x_2 8).bind fun t_4 => some (t_4, (w64 (n_3 + 8)))) (some (x_2, n_3))) : Option (Int × Int)).bind fun (x_5, n_6) => ((goStrAt ([0, 1, 2, 2, 3, 3, 3, 3, 4, 4, 4, 4, 4, 4, 4, 4, 5, 5, 5, 5, 5, 5, 5, 5, 5, 5, 5, 5, 5, 5, 5, 5, 6, 6, 6, 6, 6, 6, 6, 6, 6, 6, 6, 6, 6, 6, 6, 6, 6, 6, 6, 6, 6, 6, 6, 6, 6, 6, 6, 6, 6, 6, 6, 6, 7, 7, 7, 7, 7, 7, 7, 7, 7, 7, 7, 7, 7, 7, 7, 7, 7, 7, 7, 7, 7, 7, 7, 7, 7, 7, 7, 7, 7, 7, 7, 7, 7, 7, 7, 7, 7, 7, 7, 7, 7, 7, 7, 7, 7, 7, 7, 7, 7, 7, 7, 7, 7, 7, 7, 7, 7, 7, 7, 7, 7, 7, 7, 7, 8, 8, 8, 8, 8, 8, 8, 8, 8, 8, 8, 8, 8, 8, 8, 8, 8, 8, 8, 8, 8, 8, 8, 8, 8, 8, 8, 8, 8, 8, 8, 8, 8, 8, 8, 8, 8, 8, 8, 8, 8, 8, 8, 8, 8, 8, 8, 8, 8, 8, 8, 8, 8, 8, 8, 8, 8, 8, 8, 8, 8, 8, 8, 8, 8, 8, 8, 8, 8, 8, 8, 8, 8, 8, 8, 8, 8, 8, 8, 8, 8, 8, 8, 8, 8, 8, 8, 8, 8, 8, 8, 8, 8, 8, 8, 8, 8, 8, 8, 8, 8, 8, 8, 8, 8, 8, 8, 8, 8, 8, 8, 8, 8, 8, 8, 8, 8, 8, 8, 8, 8, 8, 8, 8, 8, 8, 8, 8] : List UInt8) (IntKind.wrap .u8 x_5)).bind fun t_7 => some (w64 (n_6 + (w64 t_7))))))

noncomputable def math_bits_Len64 (p_x : K .u64) : Option (Int) :=
  (((cond (decide (4294967296 ≤ p_x.v)) ((goShr .u64 p_x.v 32).bind fun t_1 => some (t_1, 32)) (some (p_x.v, 0))) : Option (Int × Int)).bind fun (x_2, n_3) => (((cond (decide (65536 ≤ x_2)) ((goShr .u64 x_2 16).bind fun t_4 => some (t_4, (w64 (n_3 + 16)))) (some (x_2, n_3))) : Option (Int × Int)).bind fun (x_5, n_6) => (((cond (decide (256 ≤ x_5)) ((goShr .u64 x_5 8).bind fun t_7 => some (t_7, (w64 (n_6 + 8)))) (some (x_5, n_6))) : Option (Int × Int)).bind fun (x_8, n_9) => ((goStrAt ([0, 1, 2, 2, 3, 3, 3, 3, 4, 4, 4, 4, 4, 4, 4, 4, 5, 5, 5, 5, 5, 5, 5, 5, 5, 5, 5, 5, 5, 5, 5, 5, 6, 6, 6, 6, 6, 6, 6, 6, 6, 6, 6, 6, 6, 6, 6, 6, 6, 6, 6, 6, 6, 6, 6, 6, 6, 6, 6, 6, 6, 6, 6, 6, 7, 7, 7, 7, 7, 7, 7, 7, 7, 7, 7, 7, 7, 7, 7, 7, 7, 7, 7, 7, 7, 7, 7, 7, 7, 7, 7, 7, 7, 7, 7, 7, 7, 7, 7, 7, 7, 7, 7, 7, 7, 7, 7, 7, 7, 7, 7, 7, 7, 7, 7, 7, 7, 7, 7, 7, 7, 7, 7, 7, 7, 7, 7, 7, 8, 8, 8, 8, 8, 8, 8, 8, 8, 8, 8, 8, 8, 8, 8, 8, 8, 8, 8, 8, 8, 8, 8, 8, 8, 8, 8, 8, 8, 8, 8, 8, 8, 8, 8, 8, 8, 8, 8, 8, 8, 8, 8, 8, 8, 8, 8, 8, 8, 8, 8, 8, 8, 8, 8, 8, 8, 8, 8, 8, 8, 8, 8, 8, 8, 8, 8, 8, 8, 8, 8, 8, 8, 8, 8, 8, 8, 8, 8, 8, 8, 8, 8, 8, 8, 8, 8, 8, 8, 8, 8, 8, 8, 8, 8, 8, 8, 8, 8, 8, 8, 8, 8, 8, 8, 8, 8, 8, 8, 8, 8, 8, 8, 8, 8, 8, 8, 8, 8, 8, 8, 8, 8, 8, 8, 8, 8, 8] : List UInt8) (IntKind.wrap .u8 x_8)).bind fun t_10 => some (w64 (n_9 + (w64 t_10)))))))

noncomputable def math_bits_Len (p_x : K .u64) : Option (Int) :=
  ((math_bits_Len64 p_x).bind fun t_1 => some t_1)

noncomputable def slices_nextPowerOfTwo (p_length : Int) : Option ((K .u64)) :=
  ((math_bits_Len (⟨(IntKind.wrap .u64 p_length)⟩ : K .u64)).bind fun t_1 => ((goShl .u64 1 t_1).bind fun t_2 => some (⟨t_2⟩ : K .u64)))

def cmpI (x y : Int) : Int := if x < y then -1 else if y < x then 1 else 0
def cmpOr (a b : Int) : Int := if a = 0 then b else a
def cmpL : List Int → List Int → Int
  | [], [] => 0
  | [], _ :: _ => -1
  | _ :: _, [] => 1
  | a :: l, b :: r => cmpOr (cmpI a b) (cmpL l r)
def cmpLL : List (List Int) → List (List Int) → Int
  | [], [] => 0
  | [], _ :: _ => -1
  | _ :: _, [] => 1
  | a :: l, b :: r => cmpOr (cmpL a b) (cmpLL l r)
def cmpC (x y : impl_choice) : Int := cmpOr (cmpI x.cells.length y.cells.length) (cmpOr (cmpI x.value y.value) (cmpLL x.cells y.cells))
noncomputable def slices_SortFunc_C (p_x : List impl_choice) : Option (List impl_choice) :=
  cond (decide (p_x.length < 4611686018427387904)) (some (p_x.mergeSort fun x y => decide (cmpC x y ≤ 0))) none

noncomputable def impl_LeastPlan_l2 (t_7 : List (List Int)) (t_22 : List Int) : (List (List Int)) × Int → Option (Stp ((List (List Int)) × Int) ((List (List Int))))
  | (cells_25, t_27) => (cond (decide (t_27 < (goLen t_22))) ((goAt t_22 t_27).bind fun e_28 => ((goAt t_7 e_28).bind fun e_30 => ((goApp 24 cells_25 ([e_30] : List (List Int))).bind fun l_34 => some (.next (l_34, (w64 (t_27 + 1))))))) (some (.done cells_25)))

noncomputable def impl_LeastPlan_l1 (p_x : List (List Int)) (t_7 : List (List Int)) (t_17 : Int) : (List impl_choice) × Int → Option (Stp ((List impl_choice) × Int) ((List impl_choice)))
  | (choices_18, t_20) => (cond (decide (t_20 < t_17)) ((impl_membersOf t_20).bind fun t_22 => ((loopC (impl_LeastPlan_l2 t_7 t_22) (([] : List (List Int)), 0)).bind fun cells_36 => ((impl_valueOfCells p_x cells_36).bind fun t_38 => ((goApp 32 choices_18 ([(impl_choice.mk cells_36 t_38)] : List impl_choice)).bind fun l_42 => some (.next (l_42, (w64 (t_20 + 1)))))))) (some (.done choices_18)))

noncomputable def impl_LeastPlan_l3 (p_x : List (List Int)) (p_primary : List (List Int)) (p_down : Int) (p_up : Int) (t_48 : (List impl_choice)) (t_50 : Int) : Option (Stp (Int) ((Unit) ⊕ (impl_Plan × Bool))) :=
  (cond (decide (t_50 < (goLen t_48))) ((goAt t_48 t_50).bind fun e_51 => ((impl_with p_primary e_51.cells).bind fun t_55 => ((impl_protects p_x t_55 p_primary p_down p_up).bind fun t_58 => (cond t_58 (some (.done (.inr ((impl_Plan.mk t_55 (goLen e_51.cells) e_51.value), true)))) (some (.next (w64 (t_50 + 1)))))))) (some (.done (.inl ()))))

noncomputable def impl_LeastPlan (p_x : List (List Int)) (p_primary : List (List Int)) (p_down : Int) (p_up : Int) : Option (impl_Plan × Bool) :=
  ((((impl_areSuppressed p_x p_primary).bind fun t_4 => (cond (!t_4) (some true) ((impl_areMargins p_down p_up).bind fun t_5 => some (!t_5)))) : Option (Bool)).bind fun t_6 => (cond t_6 (some ((impl_Plan.mk ([] : List (List Int)) 0 0), false)) ((impl_freeCells p_primary).bind fun t_7 => (((cond (decide (10 < (goLen t_7))) (some true) ((impl_with p_primary t_7).bind fun t_10 => ((impl_protects p_x t_10 p_primary p_down p_up).bind fun t_14 => some (!t_14)))) : Option (Bool)).bind fun t_16 => (cond t_16 (some ((impl_Plan.mk ([] : List (List Int)) 0 0), false)) ((goShl .i64 1 (goLen t_7)).bind fun t_17 => ((loopC (impl_LeastPlan_l1 p_x t_7 t_17) (([] : List impl_choice), 0)).bind fun choices_44 => ((slices_SortFunc_C choices_44).bind fun t_48 => ((loopC (impl_LeastPlan_l3 p_x p_primary p_down p_up t_48) 0).bind fun | .inl () => some ((impl_Plan.mk ([] : List (List Int)) 0 0), false) | .inr o => some o)))))))))

noncomputable def spec_l1In (p_n : Int) (p_lo : Int) (p_hi : Int) : Option (Bool) :=
  (((cond (decide (p_lo ≤ p_n)) (some (decide (p_n ≤ p_hi))) (some false)) : Option (Bool)).bind fun t_1 => some t_1)

noncomputable def spec_l1All_l1 (p_l : List Int) (p_lo : Int) (p_hi : Int) (t_2 : Int) : Option (Stp (Int) ((Unit) ⊕ (Bool))) :=
  (cond (decide (t_2 < (goLen p_l))) ((goAt p_l t_2).bind fun e_3 => ((spec_l1In e_3 p_lo p_hi).bind fun t_5 => (cond (!t_5) (some (.done (.inr false))) (some (.next (w64 (t_2 + 1))))))) (some (.done (.inl ()))))

noncomputable def spec_l1All (p_l : List Int) (p_lo : Int) (p_hi : Int) : Option (Bool) :=
  ((loopC (spec_l1All_l1 p_l p_lo p_hi) 0).bind fun | .inl () => some true | .inr o => some o)

noncomputable def spec_qForm_l1 (p_x : List (List Int)) (p_hi : Int) (t_8 : Int) : Option (Stp (Int) ((Unit) ⊕ (Bool))) :=
  (cond (decide (t_8 < (goLen p_x))) ((goAt p_x t_8).bind fun e_9 => ((((goAt p_x 0).bind fun e_12 => (cond ((goLen e_9) != (goLen e_12)) (some true) ((spec_l1All e_9 0 p_hi).bind fun t_15 => some (!t_15)))) : Option (Bool)).bind fun t_16 => (cond t_16 (some (.done (.inr false))) (some (.next (w64 (t_8 + 1))))))) (some (.done (.inl ()))))

noncomputable def spec_qForm (p_x : List (List Int)) (p_hi : Int) : Option (Bool) :=
  ((((spec_l1In (goLen p_x) 1 8).bind fun t_2 => (cond (!t_2) (some true) ((goAt p_x 0).bind fun e_3 => ((spec_l1In (goLen e_3) 1 8).bind fun t_6 => some (!t_6))))) : Option (Bool)).bind fun t_7 => (cond t_7 (some false) ((loopC (spec_qForm_l1 p_x p_hi) 0).bind fun | .inl () => some true | .inr o => some o)))

noncomputable def spec_qTable (p_x : List (List Int)) : Option (Bool) :=
  ((spec_qForm p_x 1000).bind fun t_2 => some t_2)

noncomputable def spec_qPattern (p_x : List (List Int)) (p_p : List (List Int)) : Option (Bool) :=
  ((((spec_qTable p_x).bind fun t_3 => (cond t_3 ((spec_qForm p_p 1).bind fun t_4 => (cond t_4 (cond ((goLen p_p) == (goLen p_x)) ((goAt p_p 0).bind fun e_5 => ((goAt p_x 0).bind fun e_8 => some ((goLen e_5) == (goLen e_8)))) (some false)) (some false))) (some false))) : Option (Bool)).bind fun t_11 => some t_11)

noncomputable def spec_vLevels (p_down : Int) (p_up : Int) : Option (Bool) :=
  ((((spec_l1In p_down 0 1000).bind fun t_1 => (cond t_1 ((spec_l1In p_up 0 1000).bind fun t_2 => some t_2) (some false))) : Option (Bool)).bind fun t_3 => some t_3)

noncomputable def spec_iBits_l1 (p_mask : Int) : (List Int) × Int → Option (Stp ((List Int) × Int) ((List Int)))
  | (out_1, i_3) => ((goShr .i64 p_mask (IntKind.wrap .u64 i_3)).bind fun t_4 => (cond (decide (0 < t_4)) ((goShr .i64 p_mask (IntKind.wrap .u64 i_3)).bind fun t_5 => (((cond ((goBits .and .i64 t_5 1) == 1) ((goApp 8 out_1 ([i_3] : List Int)).bind fun l_7 => some l_7) (some out_1)) : Option ((List Int))).bind fun out_9 => some (.next (out_9, (w64 (i_3 + 1)))))) (some (.done out_1))))

noncomputable def spec_iBits (p_mask : Int) : Option ((List Int)) :=
  ((loopC (spec_iBits_l1 p_mask) (([] : List Int), 0)).bind fun out_11 => some out_11)

noncomputable def spec_sPick_l1 (p_values : List Int) (p_vars : List Int) : (List Int) × Int → Option (Stp ((List Int) × Int) ((List Int)))
  | (out_3, t_5) => (cond (decide (t_5 < (goLen p_vars))) ((goAt p_vars t_5).bind fun e_6 => ((goAt p_values e_6).bind fun e_8 => ((goApp 8 out_3 ([e_8] : List Int)).bind fun l_11 => some (.next (l_11, (w64 (t_5 + 1))))))) (some (.done out_3)))

noncomputable def spec_sPick (p_values : List Int) (p_vars : List Int) : Option ((List Int)) :=
  ((loopC (spec_sPick_l1 p_values p_vars) (([] : List Int), 0)).bind fun out_13 => some out_13)

noncomputable def spec_vValue_l1 (p_x : List (List Int)) (p_cells : List Int) : Int × Int → Option (Stp (Int × Int) (Int))
  | (n_3, t_4) => (cond (decide (t_4 < (goLen p_cells))) ((goAt p_cells t_4).bind fun e_5 => ((goAt p_x 0).bind fun e_7 => ((goQuo .i64 e_5 (goLen e_7)).bind fun t_10 => ((goAt p_x t_10).bind fun e_11 => ((goAt p_x 0).bind fun e_14 => ((goRem e_5 (goLen e_14)).bind fun t_17 => ((goAt e_11 t_17).bind fun e_18 => some (.next ((w64 (n_3 + e_18)), (w64 (t_4 + 1))))))))))) (some (.done n_3)))

noncomputable def spec_vValue (p_x : List (List Int)) (p_cells : List Int) : Option (Int) :=
  ((loopC (spec_vValue_l1 p_x p_cells) (0, 0)).bind fun n_20 => some n_20)

noncomputable def spec_l1Sign (p_n : Int) : Option (Int) :=
  (cond (decide (p_n < 0)) (some (-1)) (cond (decide (0 < p_n)) (some 1) (some 0)))

noncomputable def spec_l1Less_l1 (p_a : List Int) (p_b : List Int) (i_3 : Int) : Option (Stp (Int) ((Unit) ⊕ (Int))) :=
  (((cond (decide (i_3 < (goLen p_a))) (some (decide (i_3 < (goLen p_b)))) (some false)) : Option (Bool)).bind fun t_4 => (cond t_4 ((goAt p_a i_3).bind fun e_5 => ((goAt p_b i_3).bind fun e_7 => (cond (e_5 != e_7) ((goAt p_a i_3).bind fun e_9 => ((goAt p_b i_3).bind fun e_11 => (cond (decide (e_9 < e_11)) (some (.done (.inr (-1)))) (some (.done (.inr 1)))))) (some (.next (w64 (i_3 + 1))))))) (some (.done (.inl ())))))

noncomputable def spec_l1Less (p_a : List Int) (p_b : List Int) : Option (Int) :=
  ((loopC (spec_l1Less_l1 p_a p_b) 0).bind fun | .inl () => ((spec_l1Sign (w64 ((goLen p_a) - (goLen p_b)))).bind fun t_13 => some t_13) | .inr o => some o)

noncomputable def spec_l1Own (p_l : List Int) : Option ((List Int)) :=
  ((goApp 8 ([] : List Int) p_l).bind fun l_3 => some l_3)

noncomputable def spec_tOwn_l1 (p_x : List (List Int)) : (List (List Int)) × Int → Option (Stp ((List (List Int)) × Int) ((List (List Int))))
  | (out_2, t_4) => (cond (decide (t_4 < (goLen p_x))) ((goAt p_x t_4).bind fun e_5 => ((spec_l1Own e_5).bind fun t_8 => ((goApp 24 out_2 ([t_8] : List (List Int))).bind fun l_12 => some (.next (l_12, (w64 (t_4 + 1))))))) (some (.done out_2)))

noncomputable def spec_tOwn (p_x : List (List Int)) : Option ((List (List Int))) :=
  ((loopC (spec_tOwn_l1 p_x) (([] : List (List Int)), 0)).bind fun out_14 => some out_14)

noncomputable def spec_vWith_l1 (p_p : List (List Int)) (p_cells : List Int) : (List (List Int)) × Int → Option (Stp ((List (List Int)) × Int) ((List (List Int))))
  | (out_6, t_8) => (cond (decide (t_8 < (goLen p_cells))) ((goAt p_cells t_8).bind fun e_9 => ((goAt p_p 0).bind fun e_11 => ((goQuo .i64 e_9 (goLen e_11)).bind fun t_14 => ((goAt out_6 t_14).bind fun e_15 => ((goAt p_p 0).bind fun e_17 => ((goRem e_9 (goLen e_17)).bind fun t_20 => ((goAt e_15 t_20).bind fun e_21 => some (.next (goSet out_6 t_14 (goSet e_15 t_20 1), (w64 (t_8 + 1))))))))))) (some (.done out_6)))

noncomputable def spec_vWith (p_p : List (List Int)) (p_cells : List Int) : Option ((List (List Int))) :=
  ((spec_tOwn p_p).bind fun t_3 => ((loopC (spec_vWith_l1 p_p p_cells) (t_3, 0)).bind fun out_24 => some out_24))

noncomputable def spec_tSum_l1 (p_l : List Int) : Int × Int → Option (Stp (Int × Int) (Int))
  | (sum_2, t_3) => (cond (decide (t_3 < (goLen p_l))) ((goAt p_l t_3).bind fun e_4 => some (.next ((w64 (sum_2 + e_4)), (w64 (t_3 + 1))))) (some (.done sum_2)))

noncomputable def spec_tSum (p_l : List Int) : Option (Int) :=
  ((loopC (spec_tSum_l1 p_l) (0, 0)).bind fun sum_6 => some sum_6)

noncomputable def spec_tColumn_l1 (p_x : List (List Int)) (p_j : Int) : (List Int) × Int → Option (Stp ((List Int) × Int) ((List Int)))
  | (out_2, t_4) => (cond (decide (t_4 < (goLen p_x))) ((goAt p_x t_4).bind fun e_5 => ((goAt e_5 p_j).bind fun e_8 => ((goApp 8 out_2 ([e_8] : List Int)).bind fun l_11 => some (.next (l_11, (w64 (t_4 + 1))))))) (some (.done out_2)))

noncomputable def spec_tColumn (p_x : List (List Int)) (p_j : Int) : Option ((List Int)) :=
  ((loopC (spec_tColumn_l1 p_x p_j) (([] : List Int), 0)).bind fun out_13 => some out_13)

noncomputable def spec_vAlone_l2 (p_p : List (List Int)) (t_3 : Int) (e_4 : List Int) (t_7 : Int) : Option (Stp (Int) ((Unit) ⊕ (Stp (Int) ((Unit) ⊕ (Bool))))) :=
  (cond (decide (t_7 < (goLen e_4))) ((goAt e_4 t_7).bind fun e_8 => (((cond (e_8 == 1) ((goAt p_p t_3).bind fun e_10 => ((spec_tSum e_10).bind fun t_13 => (cond (t_13 == 1) (some true) ((spec_tColumn p_p t_7).bind fun t_14 => ((spec_tSum t_14).bind fun t_17 => some (t_17 == 1)))))) (some false)) : Option (Bool)).bind fun t_19 => (cond t_19 (some (.done (.inr (.done (.inr true))))) (some (.next (w64 (t_7 + 1))))))) (some (.done (.inl ()))))

noncomputable def spec_vAlone_l1 (p_p : List (List Int)) (p_primary : List (List Int)) (t_3 : Int) : Option (Stp (Int) ((Unit) ⊕ (Bool))) :=
  (cond (decide (t_3 < (goLen p_primary))) ((goAt p_primary t_3).bind fun e_4 => ((loopC (spec_vAlone_l2 p_p t_3 e_4) 0).bind fun | .inl () => some (.next (w64 (t_3 + 1))) | .inr o => some o)) (some (.done (.inl ()))))

noncomputable def spec_vAlone (p_p : List (List Int)) (p_primary : List (List Int)) : Option (Bool) :=
  ((loopC (spec_vAlone_l1 p_p p_primary) 0).bind fun | .inl () => some false | .inr o => some o)

noncomputable def spec_qNetwork_l2 (p_p : List (List Int)) (t_5 : Int) (e_11 : List Int) : (List Int) × (List Int) × Int → Option (Stp ((List Int) × (List Int) × Int) ((List Int) × (List Int)))
  | (lo_18, hi_20, t_22) => (cond (decide (t_22 < (goLen e_11))) ((goAt e_11 t_22).bind fun e_23 => ((goAt p_p t_5).bind fun e_25 => ((goAt e_25 t_22).bind fun e_28 => (((cond (e_28 == 1) ((goApp 8 lo_18 ([0] : List Int)).bind fun l_31 => ((goApp 8 hi_20 ([100000] : List Int)).bind fun l_34 => some (l_31, l_34))) ((goApp 8 lo_18 ([e_23] : List Int)).bind fun l_31 => ((goApp 8 hi_20 ([e_23] : List Int)).bind fun l_34 => some (l_31, l_34)))) : Option ((List Int) × (List Int))).bind fun (lo_36, hi_38) => some (.next (lo_36, hi_38, (w64 (t_22 + 1)))))))) (some (.done (lo_18, hi_20))))

noncomputable def spec_qNetwork_l1 (p_x : List (List Int)) (p_p : List (List Int)) : Int × impl_Transport → Option (Stp (Int × impl_Transport) (impl_Transport))
  | (t_5, t_6) => (cond (decide (t_5 < (goLen p_x))) ((goAt p_x t_5).bind fun e_11 => ((spec_tSum e_11).bind fun t_14 => ((goApp 8 t_6.Rows ([t_14] : List Int)).bind fun l_16 => ((loopC (spec_qNetwork_l2 p_p t_5 e_11) (([] : List Int), ([] : List Int), 0)).bind fun (lo_40, hi_42) => ((goApp 24 t_6.Lo ([lo_40] : List (List Int))).bind fun l_46 => ((goApp 24 t_6.Hi ([hi_42] : List (List Int))).bind fun l_50 => some (.next ((w64 (t_5 + 1)), (impl_Transport.mk l_16 ([] : List Int) l_46 l_50))))))))) (some (.done (impl_Transport.mk t_6.Rows ([] : List Int) t_6.Lo t_6.Hi))))

noncomputable def spec_qNetwork_l3 (p_x : List (List Int)) (e_57 : List Int) : Int × impl_Transport → Option (Stp (Int × impl_Transport) (impl_Transport))
  | (t_60, t_61) => (cond (decide (t_60 < (goLen e_57))) ((spec_tColumn p_x t_60).bind fun t_66 => ((spec_tSum t_66).bind fun t_69 => ((goApp 8 t_61.Cols ([t_69] : List Int)).bind fun l_72 => some (.next ((w64 (t_60 + 1)), (impl_Transport.mk t_61.Rows l_72 t_61.Lo t_61.Hi)))))) (some (.done t_61)))

noncomputable def spec_qNetwork (p_x : List (List Int)) (p_p : List (List Int)) : Option (impl_Transport) :=
  ((loopC (spec_qNetwork_l1 p_x p_p) (0, (impl_Transport.mk ([] : List Int) ([] : List Int) ([] : List (List Int)) ([] : List (List Int))))).bind fun t_52 => ((goAt p_x 0).bind fun e_57 => ((loopC (spec_qNetwork_l3 p_x e_57) (0, (impl_Transport.mk t_52.Rows ([] : List Int) t_52.Lo t_52.Hi))).bind fun t_74 => some t_74)))

noncomputable def spec_l1Most (p_a : Int) (p_b : Int) : Option (Int) :=
  (cond (decide (p_b < p_a)) (some p_a) (some p_b))

noncomputable def spec_vGoal (p_n : Int) (p_down : Int) : Option (Int) :=
  ((spec_l1Most (w64 (p_n - p_down)) 0).bind fun t_1 => some t_1)

noncomputable def spec_tWith (p_t : impl_Transport) (p_i : Int) (p_j : Int) (p_lo : Int) (p_hi : Int) : Option (impl_Transport) :=
  ((((spec_tOwn p_t.Lo).bind fun t_16 => ((spec_tOwn p_t.Hi).bind fun t_19 => some (impl_Transport.mk p_t.Rows p_t.Cols t_16 t_19))) : Option (impl_Transport)).bind fun out_23 => ((goAt out_23.Lo p_i).bind fun e_28 => ((goAt e_28 p_j).bind fun e_30 => ((goAt out_23.Hi p_i).bind fun e_33 => ((goAt e_33 p_j).bind fun e_35 => some (impl_Transport.mk out_23.Rows out_23.Cols (goSet out_23.Lo p_i (goSet e_28 p_j p_lo)) (goSet out_23.Hi p_i (goSet e_33 p_j p_hi))))))))

noncomputable def spec_tStart_l1 (p_t : impl_Transport) : Int × spec_tFill → Option (Stp (Int × spec_tFill) (spec_tFill))
  | (t_10, t_11) => (cond (decide (t_10 < (goLen p_t.Rows))) ((goAt p_t.Rows t_10).bind fun e_18 => ((goAt p_t.Lo t_10).bind fun e_20 => ((spec_tSum e_20).bind fun t_23 => ((goApp 8 t_11.rows ([(w64 (e_18 - t_23))] : List Int)).bind fun l_25 => some (.next ((w64 (t_10 + 1)), (spec_tFill.mk t_11.t t_11.x l_25 ([] : List Int)))))))) (some (.done (spec_tFill.mk t_11.t t_11.x t_11.rows ([] : List Int)))))

noncomputable def spec_tStart_l2 (p_t : impl_Transport) : Int × spec_tFill → Option (Stp (Int × spec_tFill) (spec_tFill))
  | (t_34, t_35) => (cond (decide (t_34 < (goLen p_t.Cols))) ((goAt p_t.Cols t_34).bind fun e_43 => ((spec_tColumn p_t.Lo t_34).bind fun t_45 => ((spec_tSum t_45).bind fun t_48 => ((goApp 8 t_35.cols ([(w64 (e_43 - t_48))] : List Int)).bind fun l_51 => some (.next ((w64 (t_34 + 1)), (spec_tFill.mk t_35.t t_35.x t_35.rows l_51))))))) (some (.done t_35)))

noncomputable def spec_tStart (p_t : impl_Transport) : Option (spec_tFill × Bool) :=
  ((spec_tOwn p_t.Lo).bind fun t_6 => ((loopC (spec_tStart_l1 p_t) (0, (spec_tFill.mk p_t t_6 ([] : List Int) ([] : List Int)))).bind fun t_27 => ((loopC (spec_tStart_l2 p_t) (0, (spec_tFill.mk t_27.t t_27.x t_27.rows ([] : List Int)))).bind fun t_53 => ((((spec_l1All t_53.rows 0 100000).bind fun t_61 => (cond t_61 ((spec_l1All t_53.cols 0 100000).bind fun t_63 => some t_63) (some false))) : Option (Bool)).bind fun t_65 => some (t_53, t_65)))))

noncomputable def spec_tFill_room (p_f : spec_tFill) (p_v : Int) (p_k : Int) : Option (Int) :=
  (((cond (decide (p_v < (goLen p_f.rows))) (some (decide ((goLen p_f.rows) ≤ p_k))) (some false)) : Option (Bool)).bind fun t_8 => (cond t_8 ((goAt p_f.t.Hi p_v).bind fun e_9 => ((goAt e_9 (w64 (p_k - (goLen p_f.rows)))).bind fun e_12 => ((goAt p_f.x p_v).bind fun e_14 => ((goAt e_14 (w64 (p_k - (goLen p_f.rows)))).bind fun e_17 => some (w64 (e_12 - e_17)))))) (((cond (decide ((goLen p_f.rows) ≤ p_v)) (some (decide (p_k < (goLen p_f.rows)))) (some false)) : Option (Bool)).bind fun t_9 => (cond t_9 ((goAt p_f.x p_k).bind fun e_10 => ((goAt e_10 (w64 (p_v - (goLen p_f.rows)))).bind fun e_13 => ((goAt p_f.t.Lo p_k).bind fun e_15 => ((goAt e_15 (w64 (p_v - (goLen p_f.rows)))).bind fun e_18 => some (w64 (e_13 - e_18)))))) (some 0)))))

noncomputable def spec_l1Least (p_a : Int) (p_b : Int) : Option (Int) :=
  (cond (decide (p_a < p_b)) (some p_a) (some p_b))

noncomputable def spec_tFill_push_l1 (p_f : spec_tFill) (p_from : List Int) : Int × Int → Option (Stp (Int × Int) (Int × Int))
  | (most_11, start_12) => ((goAt p_from start_12).bind fun e_13 => (cond (decide (0 ≤ e_13)) ((goAt p_from start_12).bind fun e_15 => ((spec_tFill_room p_f e_15 start_12).bind fun t_18 => ((spec_l1Least most_11 t_18).bind fun t_19 => ((goAt p_from start_12).bind fun e_20 => some (.next (t_19, e_20)))))) (some (.done (most_11, start_12)))))

noncomputable def spec_tFill_push_l2 (p_f : spec_tFill) (p_from : List Int) (t_26 : Int) : Int × spec_tFill → Option (Stp (Int × spec_tFill) (spec_tFill))
  | (v_27, p_f_28) => ((goAt p_from v_27).bind fun e_36 => (cond (decide (0 ≤ e_36)) (((cond (decide ((goLen p_f.rows) ≤ v_27)) ((goAt p_from v_27).bind fun e_38 => ((goAt p_f_28.x e_38).bind fun e_40 => ((goAt e_40 (w64 (v_27 - (goLen p_f.rows)))).bind fun e_42 => ((goAt e_40 (w64 (v_27 - (goLen p_f.rows)))).bind fun e_44 => some (spec_tFill.mk p_f_28.t (goSet p_f_28.x e_38 (goSet e_40 (w64 (v_27 - (goLen p_f.rows))) (w64 (e_42 + t_26)))) p_f_28.rows p_f_28.cols))))) ((goAt p_f_28.x v_27).bind fun e_38 => ((goAt p_from v_27).bind fun e_40 => ((goAt e_38 (w64 (e_40 - (goLen p_f.rows)))).bind fun e_42 => ((goAt e_38 (w64 (e_40 - (goLen p_f.rows)))).bind fun e_44 => some (spec_tFill.mk p_f_28.t (goSet p_f_28.x v_27 (goSet e_38 (w64 (e_40 - (goLen p_f.rows))) (w64 (e_42 - t_26)))) p_f_28.rows p_f_28.cols)))))) : Option (spec_tFill)).bind fun p_f_47 => ((goAt p_from v_27).bind fun e_55 => some (.next (e_55, p_f_47)))) (some (.done p_f_28))))

noncomputable def spec_tFill_push (p_f : spec_tFill) (p_from : List Int) (p_end : Int) : Option (spec_tFill) :=
  ((goAt p_f.cols (w64 (p_end - (goLen p_f.rows)))).bind fun e_9 => ((loopC (spec_tFill_push_l1 p_f p_from) (e_9, p_end)).bind fun (most_22, start_23) => ((goAt p_f.rows start_23).bind fun e_24 => ((spec_l1Least most_22 e_24).bind fun t_26 => ((loopC (spec_tFill_push_l2 p_f p_from t_26) (p_end, p_f)).bind fun p_f_57 => ((goAt p_f_57.rows start_23).bind fun e_65 => ((goAt p_f_57.rows start_23).bind fun e_67 => ((goAt p_f_57.cols (w64 (p_end - (goLen p_f.rows)))).bind fun e_70 => ((goAt p_f_57.cols (w64 (p_end - (goLen p_f.rows)))).bind fun e_72 => some (spec_tFill.mk p_f_57.t p_f_57.x (goSet p_f_57.rows start_23 (w64 (e_65 - t_26))) (goSet p_f_57.cols (w64 (p_end - (goLen p_f.rows))) (w64 (e_70 - t_26)))))))))))))

noncomputable def spec_tFill_augment_l1 (p_f : spec_tFill) (l_8 : List Int) : (List Int) × (List Int) × Int → Option (Stp ((List Int) × (List Int) × Int) ((List Int) × (List Int)))
  | (from_10, queue_12, t_14) => (cond (decide (t_14 < (goLen l_8))) ((goAt from_10 t_14).bind fun e_15 => (((cond (decide (t_14 < (goLen p_f.rows))) ((goAt p_f.rows t_14).bind fun e_18 => some (decide (0 < e_18))) (some false)) : Option (Bool)).bind fun t_20 => (((cond t_20 ((goAt (goSet from_10 t_14 (-2)) t_14).bind fun e_21 => ((goApp 8 queue_12 ([t_14] : List Int)).bind fun l_25 => some (goSet (goSet from_10 t_14 (-2)) t_14 (-1), l_25))) (some (goSet from_10 t_14 (-2), queue_12))) : Option ((List Int) × (List Int))).bind fun (from_27, queue_29) => some (.next (from_27, queue_29, (w64 (t_14 + 1))))))) (some (.done (from_10, queue_12))))

noncomputable def spec_tFill_augment_l3 (p_f : spec_tFill) (e_40 : Int) : (List Int) × (List Int) × Int → Option (Stp ((List Int) × (List Int) × Int) ((List Int) × (List Int)))
  | (from_45, queue_47, k_49) => (cond (decide (k_49 < (w64 ((goLen p_f.rows) + (goLen p_f.cols))))) ((((goAt from_45 k_49).bind fun e_50 => (cond (e_50 == (-2)) ((spec_tFill_room p_f e_40 k_49).bind fun t_53 => some (decide (0 < t_53))) (some false))) : Option (Bool)).bind fun t_54 => (((cond t_54 ((goAt from_45 k_49).bind fun e_55 => ((goApp 8 queue_47 ([k_49] : List Int)).bind fun l_59 => some (goSet from_45 k_49 e_40, l_59))) (some (from_45, queue_47))) : Option ((List Int) × (List Int))).bind fun (from_61, queue_63) => some (.next (from_61, queue_63, (w64 (k_49 + 1)))))) (some (.done (from_45, queue_47))))

noncomputable def spec_tFill_augment_l2 (p_f : spec_tFill) : (List Int) × (List Int) × Int → Option (Stp ((List Int) × (List Int) × Int) ((Unit) ⊕ (Bool × spec_tFill)))
  | (from_35, queue_37, at_39) => (cond (decide (at_39 < (goLen queue_37))) ((goAt queue_37 at_39).bind fun e_40 => (((cond (decide ((goLen p_f.rows) ≤ e_40)) ((goAt p_f.cols (w64 (e_40 - (goLen p_f.rows)))).bind fun e_42 => some (decide (0 < e_42))) (some false)) : Option (Bool)).bind fun t_44 => (cond t_44 ((spec_tFill_push p_f from_35 e_40).bind fun t_46 => some (.done (.inr (true, t_46)))) ((loopC (spec_tFill_augment_l3 p_f e_40) (from_35, queue_37, 0)).bind fun (from_65, queue_67) => some (.next (from_65, queue_67, (w64 (at_39 + 1)))))))) (some (.done (.inl ()))))

noncomputable def spec_tFill_augment (p_f : spec_tFill) : Option (Bool × spec_tFill) :=
  ((goMake 8 (w64 ((goLen p_f.rows) + (goLen p_f.cols))) (0 : Int)).bind fun l_8 => ((loopC (spec_tFill_augment_l1 p_f l_8) (l_8, ([] : List Int), 0)).bind fun (from_31, queue_33) => ((loopC (spec_tFill_augment_l2 p_f) (from_31, queue_33, 0)).bind fun | .inl () => some (false, p_f) | .inr o => some o)))

noncomputable def spec_tFilled_l1  (f_16 : spec_tFill) : Option (Stp (spec_tFill) (spec_tFill)) :=
  ((spec_tFill_augment f_16).bind fun t_25 => (cond t_25.1 (some (.next t_25.2)) (some (.done t_25.2))))

noncomputable def spec_tFilled (p_t : impl_Transport) : Option (spec_tFill × Bool) :=
  ((spec_tStart p_t).bind fun t_6 => (cond (!t_6.2) (some (t_6.1, false)) ((loopC (spec_tFilled_l1) t_6.1).bind fun f_33 => some (f_33, true))))

noncomputable def spec_tFeasible (p_t : impl_Transport) : Option ((List (List Int)) × Bool) :=
  ((spec_tSum p_t.Rows).bind fun t_8 => ((spec_tSum p_t.Cols).bind fun t_9 => (cond (t_8 != t_9) (some (([] : List (List Int)), false)) ((spec_tFilled p_t).bind fun t_10 => (((cond (!t_10.2) (some true) ((spec_tSum t_10.1.rows).bind fun t_20 => some (decide (0 < t_20)))) : Option (Bool)).bind fun t_22 => (cond t_22 (some (([] : List (List Int)), false)) (some (t_10.1.x, true))))))))

noncomputable def spec_vProtected (p_x : List (List Int)) (p_p : List (List Int)) (p_i : Int) (p_j : Int) (p_down : Int) (p_up : Int) : Option (Bool) :=
  ((spec_qNetwork p_x p_p).bind fun t_3 => ((goAt p_x p_i).bind fun e_10 => ((goAt e_10 p_j).bind fun e_13 => ((spec_vGoal e_13 p_down).bind fun t_15 => ((spec_tWith t_3 p_i p_j 0 t_15).bind fun t_20 => ((spec_tFeasible t_20).bind fun t_28 => (cond (!t_28.2) (some false) ((goAt p_x p_i).bind fun e_31 => ((goAt e_31 p_j).bind fun e_34 => ((spec_tWith t_3 p_i p_j (w64 (e_34 + p_up)) 100000).bind fun t_36 => ((spec_tFeasible t_36).bind fun t_44 => some t_44.2)))))))))))

noncomputable def spec_vOpen_l2 (p_x : List (List Int)) (p_p : List (List Int)) (p_down : Int) (p_up : Int) (t_6 : Int) (e_8 : List Int) : (List (List Int)) × Int → Option (Stp ((List (List Int)) × Int) ((List (List Int))))
  | (out_11, t_13) => (cond (decide (t_13 < (goLen e_8))) ((goAt e_8 t_13).bind fun e_15 => (((cond (e_15 == 1) ((spec_vProtected p_x p_p t_6 t_13 p_down p_up).bind fun t_17 => some (!t_17)) (some false)) : Option (Bool)).bind fun t_18 => (((cond t_18 ((goApp 24 out_11 ([([t_6, t_13] : List Int)] : List (List Int))).bind fun l_22 => some l_22) (some out_11)) : Option ((List (List Int)))).bind fun out_24 => some (.next (out_24, (w64 (t_13 + 1))))))) (some (.done out_11)))

noncomputable def spec_vOpen_l1 (p_x : List (List Int)) (p_p : List (List Int)) (p_primary : List (List Int)) (p_down : Int) (p_up : Int) : (List (List Int)) × Int → Option (Stp ((List (List Int)) × Int) ((List (List Int))))
  | (out_4, t_6) => (cond (decide (t_6 < (goLen p_primary))) ((goAt p_primary t_6).bind fun e_8 => ((loopC (spec_vOpen_l2 p_x p_p p_down p_up t_6 e_8) (out_4, 0)).bind fun out_27 => some (.next (out_27, (w64 (t_6 + 1)))))) (some (.done out_4)))

noncomputable def spec_vOpen (p_x : List (List Int)) (p_p : List (List Int)) (p_primary : List (List Int)) (p_down : Int) (p_up : Int) : Option ((List (List Int))) :=
  ((loopC (spec_vOpen_l1 p_x p_p p_primary p_down p_up) (([] : List (List Int)), 0)).bind fun out_30 => some out_30)

noncomputable def spec_vSafe_l2 (p_x : List (List Int)) (p_p : List (List Int)) (p_down : Int) (p_up : Int) (t_6 : Int) (e_7 : List Int) (t_10 : Int) : Option (Stp (Int) ((Unit) ⊕ (Stp (Int) ((Unit) ⊕ (Bool))))) :=
  (cond (decide (t_10 < (goLen e_7))) ((goAt e_7 t_10).bind fun e_11 => (((cond (e_11 == 1) ((spec_vProtected p_x p_p t_6 t_10 p_down p_up).bind fun t_13 => some (!t_13)) (some false)) : Option (Bool)).bind fun t_14 => (cond t_14 (some (.done (.inr (.done (.inr false))))) (some (.next (w64 (t_10 + 1))))))) (some (.done (.inl ()))))

noncomputable def spec_vSafe_l1 (p_x : List (List Int)) (p_p : List (List Int)) (p_primary : List (List Int)) (p_down : Int) (p_up : Int) (t_6 : Int) : Option (Stp (Int) ((Unit) ⊕ (Bool))) :=
  (cond (decide (t_6 < (goLen p_primary))) ((goAt p_primary t_6).bind fun e_7 => ((loopC (spec_vSafe_l2 p_x p_p p_down p_up t_6 e_7) 0).bind fun | .inl () => some (.next (w64 (t_6 + 1))) | .inr o => some o)) (some (.done (.inl ()))))

noncomputable def spec_vSafe (p_x : List (List Int)) (p_p : List (List Int)) (p_primary : List (List Int)) (p_down : Int) (p_up : Int) : Option (Bool) :=
  (((cond (decide (0 < (w64 (p_down + p_up)))) ((spec_vAlone p_p p_primary).bind fun t_4 => some t_4) (some false)) : Option (Bool)).bind fun t_5 => (cond t_5 ((spec_vOpen p_x p_p p_primary p_down p_up).bind fun t_6 => some ((goLen t_6) == 0)) ((loopC (spec_vSafe_l1 p_x p_p p_primary p_down p_up) 0).bind fun | .inl () => some true | .inr o => some o)))

noncomputable def spec_LeastPlan_l1 (p_x : List (List Int)) (p_primary : List (List Int)) : (List Int) × Int → Option (Stp ((List Int) × Int) ((List Int)))
  | (free_7, k_9) => ((goAt p_x 0).bind fun e_10 => (cond (decide (k_9 < (w64 ((goLen p_x) * (goLen e_10))))) ((goAt p_x 0).bind fun e_13 => ((goQuo .i64 k_9 (goLen e_13)).bind fun t_16 => ((goAt p_primary t_16).bind fun e_17 => ((goAt p_x 0).bind fun e_20 => ((goRem k_9 (goLen e_20)).bind fun t_23 => ((goAt e_17 t_23).bind fun e_24 => (((cond (e_24 == 0) ((goApp 8 free_7 ([k_9] : List Int)).bind fun l_27 => some l_27) (some free_7)) : Option ((List Int))).bind fun free_29 => some (.next (free_29, (w64 (k_9 + 1))))))))))) (some (.done free_7))))

noncomputable def spec_LeastPlan_l3 (p_x : List (List Int)) (p_primary : List (List Int)) (p_down : Int) (p_up : Int) (free_31 : List Int) (size_33 : Int) : (List Int) × Bool × Int → Option (Stp ((List Int) × Bool × Int) ((List Int) × Bool))
  | (best_34, found_36, mask_37) => ((goShl .i64 1 (IntKind.wrap .u64 (goLen free_31))).bind fun t_38 => (cond (decide (mask_37 < t_38)) ((((spec_iBits mask_37).bind fun t_39 => ((spec_sPick free_31 t_39).bind fun t_42 => (cond ((goLen t_42) != size_33) (some (best_34, found_36)) (((cond found_36 ((spec_vValue p_x t_42).bind fun t_46 => ((spec_vValue p_x best_34).bind fun t_48 => (cond (decide (t_48 < t_46)) (some true) ((spec_vValue p_x t_42).bind fun t_50 => ((spec_vValue p_x best_34).bind fun t_52 => (cond (t_50 == t_52) ((spec_l1Less t_42 best_34).bind fun t_54 => some (decide (0 ≤ t_54))) (some false))))))) (some false)) : Option (Bool)).bind fun t_56 => (cond t_56 (some (best_34, found_36)) ((spec_vWith p_primary t_42).bind fun t_57 => ((spec_vSafe p_x t_57 p_primary p_down p_up).bind fun t_61 => (((cond t_61 (some (t_42, true)) (some (best_34, found_36))) : Option ((List Int) × Bool)).bind fun (best_63, found_65) => some (best_63, found_65))))))))) : Option ((List Int) × Bool)).bind fun (best_66, found_68) => some (.next (best_66, found_68, (w64 (mask_37 + 1))))) (some (.done (best_34, found_36)))))

noncomputable def spec_LeastPlan_l2 (p_x : List (List Int)) (p_primary : List (List Int)) (p_down : Int) (p_up : Int) (free_31 : List Int) (size_33 : Int) : Option (Stp (Int) ((Unit) ⊕ (impl_Plan × Bool))) :=
  (cond (decide (size_33 ≤ (goLen free_31))) ((loopC (spec_LeastPlan_l3 p_x p_primary p_down p_up free_31 size_33) (([] : List Int), false, 0)).bind fun (best_69, found_71) => (cond found_71 ((spec_vWith p_primary best_69).bind fun t_72 => ((spec_vValue p_x best_69).bind fun t_76 => some (.done (.inr ((impl_Plan.mk t_72 size_33 t_76), true))))) (some (.next (w64 (size_33 + 1)))))) (some (.done (.inl ()))))

noncomputable def spec_LeastPlan (p_x : List (List Int)) (p_primary : List (List Int)) (p_down : Int) (p_up : Int) : Option (impl_Plan × Bool) :=
  ((((spec_qPattern p_x p_primary).bind fun t_4 => (cond (!t_4) (some true) ((spec_vLevels p_down p_up).bind fun t_5 => some (!t_5)))) : Option (Bool)).bind fun t_6 => (cond t_6 (some ((impl_Plan.mk ([] : List (List Int)) 0 0), false)) ((loopC (spec_LeastPlan_l1 p_x p_primary) (([] : List Int), 0)).bind fun free_31 => (cond (decide (10 < (goLen free_31))) (some ((impl_Plan.mk ([] : List (List Int)) 0 0), false)) ((loopC (spec_LeastPlan_l2 p_x p_primary p_down p_up free_31) 0).bind fun | .inl () => some ((impl_Plan.mk ([] : List (List Int)) 0 0), false) | .inr o => some o)))))

noncomputable def spec_vPlan_l2 (p_x : List (List Int)) (p_primary : List (List Int)) (t_9 : Int) (e_12 : List Int) : Int × impl_Plan → Option (Stp (Int × impl_Plan) (impl_Plan))
  | (t_15, plan_16) => (cond (decide (t_15 < (goLen e_12))) ((goAt e_12 t_15).bind fun e_18 => (((cond (e_18 == 1) ((goAt p_primary t_9).bind fun e_20 => ((goAt e_20 t_15).bind fun e_23 => some (e_23 == 0))) (some false)) : Option (Bool)).bind fun t_25 => (((cond t_25 ((goAt p_x t_9).bind fun e_26 => ((goAt e_26 t_15).bind fun e_29 => some (impl_Plan.mk plan_16.Pattern (w64 (plan_16.Added + 1)) (w64 (plan_16.Value + e_29))))) (some plan_16)) : Option (impl_Plan)).bind fun plan_31 => some (.next ((w64 (t_15 + 1)), plan_31))))) (some (.done plan_16)))

noncomputable def spec_vPlan_l1 (p_x : List (List Int)) (p_primary : List (List Int)) (p_p : List (List Int)) : Int × impl_Plan → Option (Stp (Int × impl_Plan) (impl_Plan))
  | (t_9, plan_10) => (cond (decide (t_9 < (goLen p_p))) ((goAt p_p t_9).bind fun e_12 => ((loopC (spec_vPlan_l2 p_x p_primary t_9 e_12) (0, plan_10)).bind fun plan_33 => some (.next ((w64 (t_9 + 1)), plan_33)))) (some (.done plan_10)))

noncomputable def spec_vPlan (p_x : List (List Int)) (p_primary : List (List Int)) (p_p : List (List Int)) : Option (impl_Plan) :=
  ((spec_tOwn p_p).bind fun t_5 => ((loopC (spec_vPlan_l1 p_x p_primary p_p) (0, (impl_Plan.mk t_5 0 0))).bind fun plan_35 => some plan_35))

noncomputable def spec_vNext_l2 (p_x : List (List Int)) (p_p : List (List Int)) (p_i : Int) (p_j : Int) (e_3 : List Int) (stage_6 : Int) : Int × Int → Option (Stp (Int × Int) (Int))
  | (best_7, k_8) => (cond (decide (k_8 < (w64 ((goLen p_x) * (goLen e_3))))) ((((((goQuo .i64 k_8 (goLen e_3)).bind fun t_9 => ((goAt p_p t_9).bind fun e_10 => ((goRem k_8 (goLen e_3)).bind fun t_13 => ((goAt e_10 t_13).bind fun e_14 => (cond (e_14 == 1) (some true) (cond (stage_6 == 0) ((goQuo .i64 k_8 (goLen e_3)).bind fun t_16 => (cond (t_16 != p_i) (some true) (cond (stage_6 == 1) ((goRem k_8 (goLen e_3)).bind fun t_17 => some (t_17 != p_j)) (some false)))) (cond (stage_6 == 1) ((goRem k_8 (goLen e_3)).bind fun t_16 => some (t_16 != p_j)) (some false)))))))) : Option (Bool)).bind fun t_18 => (cond t_18 (some best_7) (((cond (decide (best_7 < 0)) (some true) ((goQuo .i64 k_8 (goLen e_3)).bind fun t_19 => ((goAt p_x t_19).bind fun e_20 => ((goRem k_8 (goLen e_3)).bind fun t_23 => ((goAt e_20 t_23).bind fun e_24 => ((goQuo .i64 best_7 (goLen e_3)).bind fun t_26 => ((goAt p_x t_26).bind fun e_27 => ((goRem best_7 (goLen e_3)).bind fun t_30 => ((goAt e_27 t_30).bind fun e_31 => some (decide (e_24 < e_31))))))))))) : Option (Bool)).bind fun t_33 => (((cond t_33 (some k_8) (some best_7)) : Option (Int)).bind fun best_34 => some best_34)))) : Option (Int)).bind fun best_35 => some (.next (best_35, (w64 (k_8 + 1))))) (some (.done best_7)))

noncomputable def spec_vNext_l1 (p_x : List (List Int)) (p_p : List (List Int)) (p_i : Int) (p_j : Int) (e_3 : List Int) (stage_6 : Int) : Option (Stp (Int) ((Unit) ⊕ (Int))) :=
  (cond (decide (stage_6 < 3)) ((loopC (spec_vNext_l2 p_x p_p p_i p_j e_3 stage_6) (-1, 0)).bind fun best_36 => (cond (decide (0 ≤ best_36)) (some (.done (.inr best_36))) (some (.next (w64 (stage_6 + 1)))))) (some (.done (.inl ()))))

noncomputable def spec_vNext (p_x : List (List Int)) (p_p : List (List Int)) (p_i : Int) (p_j : Int) : Option (Int) :=
  ((goAt p_x 0).bind fun e_3 => ((loopC (spec_vNext_l1 p_x p_p p_i p_j e_3) 0).bind fun | .inl () => some (-1) | .inr o => some o))

noncomputable def spec_GreedyPlan_l1 (p_x : List (List Int)) (p_primary : List (List Int)) (p_down : Int) (p_up : Int) (p_10 : List (List Int)) : Option (Stp ((List (List Int))) (Unit ⊕ (impl_Plan × Bool))) :=
  ((spec_vOpen p_x p_10 p_primary p_down p_up).bind fun t_14 => (cond ((goLen t_14) == 0) ((spec_vPlan p_x p_primary p_10).bind fun t_17 => some (.done (.inr (t_17, true)))) ((goAt t_14 0).bind fun e_17 => ((goAt e_17 0).bind fun e_20 => ((goAt t_14 0).bind fun e_22 => ((goAt e_22 1).bind fun e_25 => ((spec_vNext p_x p_10 e_20 e_25).bind fun t_27 => (cond (decide (t_27 < 0)) (some (.done (.inr ((impl_Plan.mk ([] : List (List Int)) 0 0), false)))) ((spec_vWith p_10 ([t_27] : List Int)).bind fun t_29 => some (.next t_29))))))))))

noncomputable def spec_GreedyPlan (p_x : List (List Int)) (p_primary : List (List Int)) (p_down : Int) (p_up : Int) : Option (impl_Plan × Bool) :=
  ((((spec_qPattern p_x p_primary).bind fun t_4 => (cond (!t_4) (some true) ((spec_vLevels p_down p_up).bind fun t_5 => some (!t_5)))) : Option (Bool)).bind fun t_6 => (cond t_6 (some ((impl_Plan.mk ([] : List (List Int)) 0 0), false)) ((spec_tOwn p_primary).bind fun t_7 => ((loopC (spec_GreedyPlan_l1 p_x p_primary p_down p_up) t_7).bind fun | .inl _ => none | .inr o => some o))))

noncomputable def spec_DrawCheckPlan (p_code : List (K .u8)) : Option ((List (List Int)) × (List (List Int)) × Int × Int × impl_Plan) :=
  ((spec_l1Cur_protection (spec_l1Cur.mk p_code 0 (⟨0⟩ : K .u64))).bind fun t_5 => ((spec_GreedyPlan t_5.1 t_5.2.1 t_5.2.2.1 t_5.2.2.2.1).bind fun t_11 => (cond (!t_11.2) (some (t_5.1, t_5.2.1, t_5.2.2.1, t_5.2.2.2.1, (impl_Plan.mk t_5.2.1 0 0))) ((spec_l1Cur_pick t_5.2.2.2.2 6).bind fun t_16 => (((cond (t_16.1 == 0) ((goAt t_11.1.Pattern 0).bind fun e_18 => ((goAt t_11.1.Pattern 0).bind fun e_20 => ((goAt e_20 0).bind fun e_22 => ((goAt e_18 0).bind fun e_24 => some (impl_Plan.mk (goSet t_11.1.Pattern 0 (goSet e_18 0 (w64 (1 - e_22)))) t_11.1.Added t_11.1.Value))))) (((cond (t_16.1 == 1) (some (impl_Plan.mk t_11.1.Pattern (w64 (t_11.1.Added + 1)) t_11.1.Value)) (((cond (t_16.1 == 2) ((spec_tOwn t_5.2.1).bind fun t_18 => some (impl_Plan.mk t_18 t_11.1.Added t_11.1.Value)) (some t_11.1)) : Option (impl_Plan)).bind fun plan_21 => some plan_21)) : Option (impl_Plan)).bind fun plan_23 => some plan_23)) : Option (impl_Plan)).bind fun plan_27 => some (t_5.1, t_5.2.1, t_5.2.2.1, t_5.2.2.2.1, plan_27))))))

noncomputable def impl_covers_l1 (p_p : List (List Int)) (t_3 : List (List Int)) (t_6 : Int) : Option (Stp (Int) ((Unit) ⊕ (Bool))) :=
  (cond (decide (t_6 < (goLen t_3))) ((goAt t_3 t_6).bind fun e_7 => ((goAt e_7 0).bind fun e_10 => ((goAt p_p e_10).bind fun e_12 => ((goAt e_7 1).bind fun e_15 => ((goAt e_12 e_15).bind fun e_17 => (cond (e_17 == 0) (some (.done (.inr false))) (some (.next (w64 (t_6 + 1)))))))))) (some (.done (.inl ()))))

noncomputable def impl_covers (p_p : List (List Int)) (p_primary : List (List Int)) : Option (Bool) :=
  ((impl_positions p_primary).bind fun t_3 => ((loopC (impl_covers_l1 p_p t_3) 0).bind fun | .inl () => some true | .inr o => some o))

noncomputable def impl_CheckPlan_l1 (p_x : List (List Int)) (p_primary : List (List Int)) (t_12 : List (List Int)) : Int × Int × Int → Option (Stp (Int × Int × Int) (Int × Int))
  | (added_15, value_16, t_17) => (cond (decide (t_17 < (goLen t_12))) ((goAt t_12 t_17).bind fun e_18 => ((goAt e_18 0).bind fun e_21 => ((goAt p_primary e_21).bind fun e_23 => ((goAt e_18 1).bind fun e_26 => ((goAt e_23 e_26).bind fun e_28 => (((cond (e_28 == 0) ((goAt e_18 0).bind fun e_30 => ((goAt p_x e_30).bind fun e_32 => ((goAt e_18 1).bind fun e_35 => ((goAt e_32 e_35).bind fun e_37 => some ((w64 (added_15 + 1)), (w64 (value_16 + e_37))))))) (some (added_15, value_16))) : Option (Int × Int)).bind fun (added_39, value_40) => some (.next (added_39, value_40, (w64 (t_17 + 1)))))))))) (some (.done (added_15, value_16))))

noncomputable def impl_CheckPlan (p_x : List (List Int)) (p_primary : List (List Int)) (p_down : Int) (p_up : Int) (p_plan : impl_Plan) : Option (Int × Bool) :=
  ((((impl_areSuppressed p_x p_primary).bind fun t_5 => (cond (!t_5) (some true) ((impl_areMargins p_down p_up).bind fun t_6 => some (!t_6)))) : Option (Bool)).bind fun t_7 => (cond t_7 (some (0, false)) ((((impl_isPattern p_x p_plan.Pattern).bind fun t_8 => (cond (!t_8) (some true) ((impl_covers p_plan.Pattern p_primary).bind fun t_9 => some (!t_9)))) : Option (Bool)).bind fun t_10 => (cond t_10 (some (1, true)) ((impl_protects p_x p_plan.Pattern p_primary p_down p_up).bind fun t_11 => (cond (!t_11) (some (2, true)) ((impl_positions p_plan.Pattern).bind fun t_12 => ((loopC (impl_CheckPlan_l1 p_x p_primary t_12) (0, 0, 0)).bind fun (added_41, value_42) => (((cond (p_plan.Added != added_41) (some true) (some (p_plan.Value != value_42))) : Option (Bool)).bind fun t_43 => (cond t_43 (some (3, true)) (some (0, true))))))))))))

noncomputable def spec_vContains_l2 (p_p : List (List Int)) (t_3 : Int) (e_4 : List Int) (t_7 : Int) : Option (Stp (Int) ((Unit) ⊕ (Stp (Int) ((Unit) ⊕ (Bool))))) :=
  (cond (decide (t_7 < (goLen e_4))) ((goAt e_4 t_7).bind fun e_8 => (((cond (e_8 == 1) ((goAt p_p t_3).bind fun e_10 => ((goAt e_10 t_7).bind fun e_13 => some (e_13 == 0))) (some false)) : Option (Bool)).bind fun t_15 => (cond t_15 (some (.done (.inr (.done (.inr false))))) (some (.next (w64 (t_7 + 1))))))) (some (.done (.inl ()))))

noncomputable def spec_vContains_l1 (p_p : List (List Int)) (p_primary : List (List Int)) (t_3 : Int) : Option (Stp (Int) ((Unit) ⊕ (Bool))) :=
  (cond (decide (t_3 < (goLen p_primary))) ((goAt p_primary t_3).bind fun e_4 => ((loopC (spec_vContains_l2 p_p t_3 e_4) 0).bind fun | .inl () => some (.next (w64 (t_3 + 1))) | .inr o => some o)) (some (.done (.inl ()))))

noncomputable def spec_vContains (p_p : List (List Int)) (p_primary : List (List Int)) : Option (Bool) :=
  ((loopC (spec_vContains_l1 p_p p_primary) 0).bind fun | .inl () => some true | .inr o => some o)

noncomputable def spec_vInput (p_x : List (List Int)) (p_p : List (List Int)) (p_primary : List (List Int)) : Option (Bool) :=
  ((((spec_qPattern p_x p_p).bind fun t_4 => (cond t_4 ((spec_qPattern p_x p_primary).bind fun t_5 => (cond t_5 ((spec_vContains p_p p_primary).bind fun t_6 => some t_6) (some false))) (some false))) : Option (Bool)).bind fun t_7 => some t_7)

noncomputable def spec_CheckPlan (p_x : List (List Int)) (p_primary : List (List Int)) (p_down : Int) (p_up : Int) (p_plan : impl_Plan) : Option (Int × Bool) :=
  ((((spec_qPattern p_x p_primary).bind fun t_5 => (cond (!t_5) (some true) ((spec_vLevels p_down p_up).bind fun t_6 => some (!t_6)))) : Option (Bool)).bind fun t_7 => (cond t_7 (some (0, false)) ((spec_vInput p_x p_plan.Pattern p_primary).bind fun t_8 => (cond (!t_8) (some (1, true)) ((spec_vSafe p_x p_plan.Pattern p_primary p_down p_up).bind fun t_9 => (cond (!t_9) (some (2, true)) ((spec_vPlan p_x p_primary p_plan.Pattern).bind fun t_10 => (((cond (t_10.Added != p_plan.Added) (some true) (some (t_10.Value != p_plan.Value))) : Option (Bool)).bind fun t_14 => (cond t_14 (some (3, true)) (some (0, true)))))))))))

noncomputable def laws_qInts_l1 (p_a : List Int) (p_b : List Int) (t_3 : Int) : Option (Stp (Int) ((Unit) ⊕ (Bool))) :=
  (cond (decide (t_3 < (goLen p_a))) ((goAt p_a t_3).bind fun e_4 => ((goAt p_b t_3).bind fun e_6 => (cond (e_4 != e_6) (some (.done (.inr false))) (some (.next (w64 (t_3 + 1))))))) (some (.done (.inl ()))))

noncomputable def laws_qInts (p_a : List Int) (p_b : List Int) : Option (Bool) :=
  (cond ((goLen p_a) != (goLen p_b)) (some false) ((loopC (laws_qInts_l1 p_a p_b) 0).bind fun | .inl () => some true | .inr o => some o))

noncomputable def laws_qLists_l1 (p_a : List (List Int)) (p_b : List (List Int)) (t_3 : Int) : Option (Stp (Int) ((Unit) ⊕ (Bool))) :=
  (cond (decide (t_3 < (goLen p_a))) ((goAt p_a t_3).bind fun e_4 => ((goAt p_b t_3).bind fun e_7 => ((laws_qInts e_4 e_7).bind fun t_10 => (cond (!t_10) (some (.done (.inr false))) (some (.next (w64 (t_3 + 1)))))))) (some (.done (.inl ()))))

noncomputable def laws_qLists (p_a : List (List Int)) (p_b : List (List Int)) : Option (Bool) :=
  (cond ((goLen p_a) != (goLen p_b)) (some false) ((loopC (laws_qLists_l1 p_a p_b) 0).bind fun | .inl () => some true | .inr o => some o))

noncomputable def impl_unprotected_l1 (p_x : List (List Int)) (p_down : Int) (p_up : Int) (t_4 : impl_Transport) (t_11 : List (List Int)) : (List (List Int)) × Int → Option (Stp ((List (List Int)) × Int) ((List (List Int))))
  | (out_14, t_16) => (cond (decide (t_16 < (goLen t_11))) ((goAt t_11 t_16).bind fun e_17 => ((goAt e_17 0).bind fun e_20 => ((goAt e_17 1).bind fun e_22 => ((impl_isProtected t_4 p_x e_20 e_22 p_down p_up).bind fun t_24 => (((cond (!t_24) ((goApp 24 out_14 ([e_17] : List (List Int))).bind fun l_27 => some l_27) (some out_14)) : Option ((List (List Int)))).bind fun out_29 => some (.next (out_29, (w64 (t_16 + 1))))))))) (some (.done out_14)))

noncomputable def impl_unprotected (p_x : List (List Int)) (p_p : List (List Int)) (p_primary : List (List Int)) (p_down : Int) (p_up : Int) : Option ((List (List Int))) :=
  ((impl_attackNetwork p_x p_p).bind fun t_4 => ((impl_positions p_primary).bind fun t_11 => ((loopC (impl_unprotected_l1 p_x p_down p_up t_4 t_11) (([] : List (List Int)), 0)).bind fun out_31 => some out_31)))

noncomputable def impl_unprotected_own_l1 (p_x : List (List Int)) (p_down : Int) (p_up : Int) (t_4 : impl_Transport) (t_12 : List (List Int)) : (List (List Int)) × Int → Option (Stp ((List (List Int)) × Int) ((List (List Int))))
  | (out_15, t_17) => (cond (decide (t_17 < (goLen t_12))) ((goAt t_12 t_17).bind fun e_18 => ((goAt e_18 0).bind fun e_21 => ((goAt e_18 1).bind fun e_23 => ((impl_isProtected t_4 p_x e_21 e_23 p_down p_up).bind fun t_25 => (((cond (!t_25) ((goApp 24 out_15 ([e_18] : List (List Int))).bind fun l_28 => some l_28) (some out_15)) : Option ((List (List Int)))).bind fun out_30 => some (.next (out_30, (w64 (t_17 + 1))))))))) (some (.done out_15)))

noncomputable def impl_unprotected_own (p_x : List (List Int)) (p_p : List (List Int)) (p_primary : List (List Int)) (p_down : Int) (p_up : Int) : Option ((List (List Int))) :=
  ((impl_attackNetwork p_x p_p).bind fun t_4 => ((impl_positions p_primary).bind fun t_12 => ((loopC (impl_unprotected_own_l1 p_x p_down p_up t_4 t_12) (([] : List (List Int)), 0)).bind fun out_32 => some out_32)))

noncomputable def impl_freeCells_own_l2 (t_8 : Int) (e_9 : List Int) : (List (List Int)) × Int × (List Int) → Option (Stp ((List (List Int)) × Int × (List Int)) ((List (List Int))))
  | (inverse_11, t_13, row_14) => (cond (decide (t_13 < (goLen e_9))) ((goAt row_14 t_13).bind fun e_16 => ((goAt row_14 t_13).bind fun e_18 => some (.next (goSet inverse_11 t_8 (goSet row_14 t_13 (w64 (1 - e_16))), (w64 (t_13 + 1)), goSet row_14 t_13 (w64 (1 - e_16)))))) (some (.done inverse_11)))

noncomputable def impl_freeCells_own_l1 (t_2 : List (List Int)) : (List (List Int)) × Int → Option (Stp ((List (List Int)) × Int) ((List (List Int))))
  | (inverse_6, t_8) => (cond (decide (t_8 < (goLen t_2))) ((goAt inverse_6 t_8).bind fun e_9 => ((loopC (impl_freeCells_own_l2 t_8 e_9) (inverse_6, 0, e_9)).bind fun inverse_21 => some (.next (inverse_21, (w64 (t_8 + 1)))))) (some (.done inverse_6)))

noncomputable def impl_freeCells_own (p_p : List (List Int)) : Option ((List (List Int))) :=
  ((impl_copyMatrix p_p).bind fun t_2 => ((loopC (impl_freeCells_own_l1 t_2) (t_2, 0)).bind fun inverse_23 => ((impl_positions inverse_23).bind fun t_26 => some t_26)))

noncomputable def impl_GreedyPlan_1 (p_at : List Int) (p_x1 : Int) : Option (Bool) :=
  ((goAt p_at 0).bind fun e_2 => some (e_2 == p_x1))

noncomputable def impl_cheapestCell_own_of_impl_GreedyPlan_1_l1 (p_x : List (List Int)) (p_x300 : Int) (t_4 : (List (List Int))) : (List Int) × Int → Option (Stp ((List Int) × Int) ((List Int)))
  | (best_6, t_8) => (cond (decide (t_8 < (goLen t_4))) ((goAt t_4 t_8).bind fun e_9 => ((goNE e_9).bind fun u_11 => ((((impl_GreedyPlan_1 e_9 p_x300).bind fun t_14 => (cond t_14 (cond best_6.isEmpty (some true) ((goAt e_9 0).bind fun e_15 => ((goAt p_x e_15).bind fun e_17 => ((goNE e_17).bind fun u_19 => ((goAt e_9 1).bind fun e_21 => ((goAt e_17 e_21).bind fun e_23 => ((goAt best_6 0).bind fun e_25 => ((goAt p_x e_25).bind fun e_27 => ((goNE e_27).bind fun u_29 => ((goAt best_6 1).bind fun e_31 => ((goAt e_27 e_31).bind fun e_33 => some (decide (e_23 < e_33))))))))))))) (some false))) : Option (Bool)).bind fun t_35 => (((cond t_35 (some e_9) (some best_6)) : Option ((List Int))).bind fun best_36 => some (.next (best_36, (w64 (t_8 + 1)))))))) (some (.done best_6)))

noncomputable def impl_cheapestCell_own_of_impl_GreedyPlan_1 (p_x : List (List Int)) (p_p : List (List Int)) (p_x300 : Int) : Option ((List Int)) :=
  ((impl_freeCells_own p_p).bind fun t_4 => ((loopC (impl_cheapestCell_own_of_impl_GreedyPlan_1_l1 p_x p_x300 t_4) (([] : List Int), 0)).bind fun best_38 => some best_38))

noncomputable def impl_GreedyPlan_2 (p_at : List Int) (p_x1 : Int) : Option (Bool) :=
  ((goAt p_at 1).bind fun e_2 => some (e_2 == p_x1))

noncomputable def impl_cheapestCell_own_of_impl_GreedyPlan_2_l1 (p_x : List (List Int)) (p_x300 : Int) (t_4 : (List (List Int))) : (List Int) × Int → Option (Stp ((List Int) × Int) ((List Int)))
  | (best_6, t_8) => (cond (decide (t_8 < (goLen t_4))) ((goAt t_4 t_8).bind fun e_9 => ((goNE e_9).bind fun u_11 => ((((impl_GreedyPlan_2 e_9 p_x300).bind fun t_14 => (cond t_14 (cond best_6.isEmpty (some true) ((goAt e_9 0).bind fun e_15 => ((goAt p_x e_15).bind fun e_17 => ((goNE e_17).bind fun u_19 => ((goAt e_9 1).bind fun e_21 => ((goAt e_17 e_21).bind fun e_23 => ((goAt best_6 0).bind fun e_25 => ((goAt p_x e_25).bind fun e_27 => ((goNE e_27).bind fun u_29 => ((goAt best_6 1).bind fun e_31 => ((goAt e_27 e_31).bind fun e_33 => some (decide (e_23 < e_33))))))))))))) (some false))) : Option (Bool)).bind fun t_35 => (((cond t_35 (some e_9) (some best_6)) : Option ((List Int))).bind fun best_36 => some (.next (best_36, (w64 (t_8 + 1)))))))) (some (.done best_6)))

noncomputable def impl_cheapestCell_own_of_impl_GreedyPlan_2 (p_x : List (List Int)) (p_p : List (List Int)) (p_x300 : Int) : Option ((List Int)) :=
  ((impl_freeCells_own p_p).bind fun t_4 => ((loopC (impl_cheapestCell_own_of_impl_GreedyPlan_2_l1 p_x p_x300 t_4) (([] : List Int), 0)).bind fun best_38 => some best_38))

noncomputable def impl_GreedyPlan_3 (p_x0 : List Int) : Option (Bool) :=
  some true

noncomputable def impl_cheapestCell_own_of_impl_GreedyPlan_3_l1 (p_x : List (List Int)) (t_4 : (List (List Int))) : (List Int) × Int → Option (Stp ((List Int) × Int) ((List Int)))
  | (best_6, t_8) => (cond (decide (t_8 < (goLen t_4))) ((goAt t_4 t_8).bind fun e_9 => ((goNE e_9).bind fun u_11 => ((((impl_GreedyPlan_3 e_9).bind fun t_13 => (cond t_13 (cond best_6.isEmpty (some true) ((goAt e_9 0).bind fun e_14 => ((goAt p_x e_14).bind fun e_16 => ((goNE e_16).bind fun u_18 => ((goAt e_9 1).bind fun e_20 => ((goAt e_16 e_20).bind fun e_22 => ((goAt best_6 0).bind fun e_24 => ((goAt p_x e_24).bind fun e_26 => ((goNE e_26).bind fun u_28 => ((goAt best_6 1).bind fun e_30 => ((goAt e_26 e_30).bind fun e_32 => some (decide (e_22 < e_32))))))))))))) (some false))) : Option (Bool)).bind fun t_34 => (((cond t_34 (some e_9) (some best_6)) : Option ((List Int))).bind fun best_35 => some (.next (best_35, (w64 (t_8 + 1)))))))) (some (.done best_6)))

noncomputable def impl_cheapestCell_own_of_impl_GreedyPlan_3 (p_x : List (List Int)) (p_p : List (List Int)) : Option ((List Int)) :=
  ((impl_freeCells_own p_p).bind fun t_4 => ((loopC (impl_cheapestCell_own_of_impl_GreedyPlan_3_l1 p_x t_4) (([] : List Int), 0)).bind fun best_37 => some best_37))

noncomputable def impl_GreedyPlan_l1 (p_x : List (List Int)) (p_primary : List (List Int)) (p_down : Int) (p_up : Int) (plan_11 : impl_Plan) : Option (Stp (impl_Plan) (Unit ⊕ (impl_Plan × Bool))) :=
  ((impl_unprotected_own p_x plan_11.Pattern p_primary p_down p_up).bind fun t_15 => (cond ((goLen t_15) == 0) (some (.done (.inr (plan_11, true)))) ((((goAt t_15 0).bind fun e_17 => ((goAt e_17 0).bind fun e_20 => ((goAt t_15 0).bind fun e_22 => ((goAt e_22 1).bind fun e_25 => some (e_25, e_20))))) : Option (Int × Int)).bind fun (j_29, i_30) => ((impl_cheapestCell_own_of_impl_GreedyPlan_1 p_x plan_11.Pattern i_30).bind fun t_32 => (((cond t_32.isEmpty ((impl_cheapestCell_own_of_impl_GreedyPlan_2 p_x plan_11.Pattern j_29).bind fun t_35 => some t_35) (some t_32)) : Option ((List Int))).bind fun next_37 => (((cond next_37.isEmpty ((impl_cheapestCell_own_of_impl_GreedyPlan_3 p_x plan_11.Pattern).bind fun t_41 => some t_41) (some next_37)) : Option ((List Int))).bind fun next_43 => (cond next_43.isEmpty (some (.done (.inr ((impl_Plan.mk ([] : List (List Int)) 0 0), false)))) ((goAt next_43 0).bind fun e_46 => ((goAt plan_11.Pattern e_46).bind fun e_48 => ((goAt next_43 1).bind fun e_50 => ((goAt e_48 e_50).bind fun e_52 => ((goAt next_43 0).bind fun e_55 => ((goAt p_x e_55).bind fun e_57 => ((goAt next_43 1).bind fun e_60 => ((goAt e_57 e_60).bind fun e_62 => some (.next (impl_Plan.mk (goSet plan_11.Pattern e_46 (goSet e_48 e_50 1)) (w64 (plan_11.Added + 1)) (w64 (plan_11.Value + e_62)))))))))))))))))))

noncomputable def impl_GreedyPlan (p_x : List (List Int)) (p_primary : List (List Int)) (p_down : Int) (p_up : Int) : Option (impl_Plan × Bool) :=
  ((((impl_areSuppressed p_x p_primary).bind fun t_4 => (cond (!t_4) (some true) ((impl_areMargins p_down p_up).bind fun t_5 => some (!t_5)))) : Option (Bool)).bind fun t_6 => (cond t_6 (some ((impl_Plan.mk ([] : List (List Int)) 0 0), false)) ((impl_copyMatrix p_primary).bind fun t_7 => ((loopC (impl_GreedyPlan_l1 p_x p_primary p_down p_up) (impl_Plan.mk t_7 0 0)).bind fun | .inl _ => none | .inr o => some o))))

noncomputable def impl_UnprotectedCells (p_x : List (List Int)) (p_p : List (List Int)) (p_primary : List (List Int)) (p_down : Int) (p_up : Int) : Option ((List (List Int)) × Bool) :=
  ((((impl_areSuppressed p_x p_p).bind fun t_4 => (cond (!t_4) (some true) ((impl_isPattern p_x p_primary).bind fun t_5 => (cond (!t_5) (some true) ((impl_areMargins p_down p_up).bind fun t_6 => (cond (!t_6) (some true) ((impl_covers p_p p_primary).bind fun t_7 => some (!t_7)))))))) : Option (Bool)).bind fun t_8 => (cond t_8 (some (([] : List (List Int)), false)) ((impl_unprotected p_x p_p p_primary p_down p_up).bind fun t_9 => some (t_9, true))))

noncomputable def laws_FnSuppressionPlans (p_code : List (K .u8)) (p_more : List (K .u8)) : Option (Bool) :=
  (cond (decide (1048576 < (w64 ((goLen p_code) + (goLen p_more))))) (some true) ((spec_DrawLeastPlan p_code).bind fun t_3 => ((impl_LeastPlan t_3.1 t_3.2.1 t_3.2.2.1 t_3.2.2.2).bind fun t_7 => ((spec_LeastPlan t_3.1 t_3.2.1 t_3.2.2.1 t_3.2.2.2).bind fun t_11 => ((spec_DrawCheckPlan p_more).bind fun t_15 => ((impl_CheckPlan t_15.1 t_15.2.1 t_15.2.2.1 t_15.2.2.2.1 t_15.2.2.2.2).bind fun t_21 => ((spec_CheckPlan t_15.1 t_15.2.1 t_15.2.2.1 t_15.2.2.2.1 t_15.2.2.2.2).bind fun t_22 => (((cond (t_7.2 != t_11.2) (some true) ((laws_qLists t_7.1.Pattern t_11.1.Pattern).bind fun t_23 => (cond (!t_23) (some true) (cond (t_7.1.Added != t_11.1.Added) (some true) (cond (t_7.1.Value != t_11.1.Value) (some true) (cond (t_21.2 != t_22.2) (some true) (some (t_21.1 != t_22.1)))))))) : Option (Bool)).bind fun t_25 => (cond t_25 (some false) ((impl_GreedyPlan t_3.1 t_3.2.1 t_3.2.2.1 t_3.2.2.2).bind fun t_26 => ((spec_GreedyPlan t_3.1 t_3.2.1 t_3.2.2.1 t_3.2.2.2).bind fun t_30 => (((cond (t_26.2 != t_30.2) (some true) ((laws_qLists t_26.1.Pattern t_30.1.Pattern).bind fun t_34 => (cond (!t_34) (some true) (cond (t_26.1.Added != t_30.1.Added) (some true) (cond t_7.2 (cond (!t_26.2) (some true) (some (decide (t_26.1.Added < t_7.1.Added)))) (some false)))))) : Option (Bool)).bind fun t_36 => (cond t_36 (some false) (cond (!t_7.2) (some true) ((impl_CheckPlan t_3.1 t_3.2.1 t_3.2.2.1 t_3.2.2.2 t_7.1).bind fun t_37 => ((impl_UnprotectedCells t_3.1 t_7.1.Pattern t_3.2.1 t_3.2.2.1 t_3.2.2.2).bind fun t_40 => (((cond t_37.2 (cond t_40.2 (cond (t_37.1 == 0) (some ((goLen t_40.1) == 0)) (some false)) (some false)) (some false)) : Option (Bool)).bind fun t_43 => some t_43)))))))))))))))))

end Go.Gx.F
