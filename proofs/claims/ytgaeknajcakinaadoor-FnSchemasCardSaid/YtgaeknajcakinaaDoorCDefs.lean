/- The plain functions that the walks come to. -/
import Derived.Lib.ItoaNum
import Derived.Lib.Join
import Derived.Lib.IndexMore
import Derived.Test.YtgaeknajcakinaaDoorGy
namespace Go.Gx.F
open Go.Gx
set_option linter.all false

structure spec_l1Cur where
  code : List (K .u8)
  at_ : Int
  seed : K .u64

instance : Rep spec_l1Cur where
  wd := 3
  rd m cs x := ∃ s1 : Sl, cs = [s1.v, (.int .i64 x.at_), (.int .u64 x.seed.v)] ∧ Rd m s1 x.code
  mono hm h := by
    obtain ⟨s1, rfl, h1⟩ := h
    exact ⟨s1, rfl, h1.mono hm⟩
  len h := by obtain ⟨s1, rfl, _⟩ := h; rfl
  one h := by obtain ⟨s1, rfl, _⟩ := h; rfl

instance : Rng spec_l1Cur := ⟨fun x => Rng.ok x.code ∧ Rng.ok x.at_ ∧ Rng.ok x.seed⟩

structure impl_Variable where
  Name : List UInt8
  Levels : Int

instance : Rep impl_Variable where
  wd := 2
  rd m cs x := cs = [(strV x.Name), (.int .i64 x.Levels)]
  mono _ h := h
  len h := by subst h; rfl
  one h := by subst h; rfl

instance : Flat impl_Variable := ⟨fun h => h⟩

instance : Rng impl_Variable := ⟨fun x => Rng.ok x.Name ∧ Rng.ok x.Levels⟩

structure impl_Grouping where
  Var : Int
  Groups : List Int

instance : Rep impl_Grouping where
  wd := 2
  rd m cs x := ∃ s1 : Sl, cs = [(.int .i64 x.Var), s1.v] ∧ Rd m s1 x.Groups
  mono hm h := by
    obtain ⟨s1, rfl, h1⟩ := h
    exact ⟨s1, rfl, h1.mono hm⟩
  len h := by obtain ⟨s1, rfl, _⟩ := h; rfl
  one h := by obtain ⟨s1, rfl, _⟩ := h; rfl

instance : Rng impl_Grouping := ⟨fun x => Rng.ok x.Var ∧ Rng.ok x.Groups⟩

noncomputable def spec_l1Cur_next (p_c : spec_l1Cur) : Option (Int × spec_l1Cur) :=
  (((cond (decide (p_c.at_ < (goLen p_c.code))) ((goAt p_c.code p_c.at_).bind fun e_2 => some (w64 e_2.v)) (some 0)) : Option (Int)).bind fun b_4 => (cond (decide ((w64 (p_c.at_ + 1)) ≤ (goLen p_c.code))) (some (b_4, (spec_l1Cur.mk p_c.code (w64 (p_c.at_ + 1)) (⟨(IntKind.wrap .u64 ((IntKind.wrap .u64 ((IntKind.wrap .u64 (p_c.seed.v * 6364136223846793005)) + (IntKind.wrap .u64 b_4))) + 1442695040888963407))⟩ : K .u64)))) ((goShr .u64 (IntKind.wrap .u64 ((IntKind.wrap .u64 ((IntKind.wrap .u64 (p_c.seed.v * 6364136223846793005)) + (IntKind.wrap .u64 b_4))) + 1442695040888963407)) 40).bind fun t_5 => some ((w64 (goBits .and .u64 t_5 255)), (spec_l1Cur.mk p_c.code (w64 (p_c.at_ + 1)) (⟨(IntKind.wrap .u64 ((IntKind.wrap .u64 ((IntKind.wrap .u64 (p_c.seed.v * 6364136223846793005)) + (IntKind.wrap .u64 b_4))) + 1442695040888963407))⟩ : K .u64))))))

noncomputable def spec_l1Cur_pick (p_c : spec_l1Cur) (p_n : Int) : Option (Int × spec_l1Cur) :=
  (cond (decide (p_n ≤ 1)) (some (0, p_c)) ((spec_l1Cur_next p_c).bind fun t_3 => (((cond (decide (200 < p_n)) ((spec_l1Cur_next t_3.2).bind fun t_6 => some ((w64 ((w64 (t_3.1 * 256)) + t_6.1)), t_6.2)) (some (t_3.1, t_3.2))) : Option (Int × spec_l1Cur)).bind fun (x_8, p_c_9) => ((goRem x_8 p_n).bind fun t_11 => some (t_11, p_c_9)))))

noncomputable def spec_l1Cur_schema_l1  : (List impl_Variable) × Int × spec_l1Cur → Option (Stp ((List impl_Variable) × Int × spec_l1Cur) ((List impl_Variable) × spec_l1Cur))
  | (out_3, k_5, p_c_6) => ((spec_l1Cur_pick p_c_6 3).bind fun t_9 => (cond (decide (k_5 < (w64 (1 + t_9.1)))) ((((goAt ([([115, 101, 120] : List UInt8), ([97, 103, 101] : List UInt8), ([106, 111, 98] : List UInt8), ([104, 111, 109, 101] : List UInt8), ([115, 105, 122, 101] : List UInt8), ([108, 97, 110, 103] : List UInt8)] : List (List UInt8)) k_5).bind fun e_11 => ((spec_l1Cur_pick t_9.2 3).bind fun t_17 => ((goApp 24 out_3 ([(impl_Variable.mk e_11 (w64 (2 + t_17.1)))] : List impl_Variable)).bind fun l_20 => some (l_20, t_17.2)))) : Option ((List impl_Variable) × spec_l1Cur)).bind fun (out_22, p_c_24) => some (.next (out_22, (w64 (k_5 + 1)), p_c_24))) (some (.done (out_3, t_9.2)))))

noncomputable def spec_l1Cur_schema (p_c : spec_l1Cur) : Option ((List impl_Variable) × spec_l1Cur) :=
  ((loopC (spec_l1Cur_schema_l1) (([] : List impl_Variable), 0, p_c)).bind fun (out_26, p_c_28) => some (out_26, p_c_28))

noncomputable def spec_l1Cur_among (p_c : spec_l1Cur) (p_list : List Int) : Option (Int × spec_l1Cur) :=
  ((spec_l1Cur_pick p_c (goLen p_list)).bind fun t_4 => ((goAt p_list t_4.1).bind fun e_6 => some (e_6, t_4.2)))

noncomputable def spec_l1Cur_of (p_c : spec_l1Cur) (p_list : List (List UInt8)) : Option ((List UInt8) × spec_l1Cur) :=
  ((spec_l1Cur_pick p_c (goLen p_list)).bind fun t_4 => ((goAt p_list t_4.1).bind fun e_6 => some (e_6, t_4.2)))

noncomputable def spec_l1Cur_anySchema_l1  : (List impl_Variable) × spec_l1Cur → Option (Stp ((List impl_Variable) × spec_l1Cur) ((List impl_Variable) × spec_l1Cur))
  | (s_9, p_c_11) => ((spec_l1Cur_pick p_c_11 2).bind fun t_14 => (cond (decide ((goLen s_9) < (w64 (6 + t_14.1)))) ((goCat ([120] : List UInt8) (goBytes ([(⟨(IntKind.wrap .u8 (w64 (97 + (goLen s_9))))⟩ : K .u8)] : List (K .u8)))).bind fun t_17 => ((goApp 24 s_9 ([(impl_Variable.mk t_17 2)] : List impl_Variable)).bind fun l_19 => some (.next (l_19, t_14.2)))) (some (.done (s_9, t_14.2)))))

noncomputable def spec_l1Cur_anySchema (p_c : spec_l1Cur) : Option ((List impl_Variable) × spec_l1Cur) :=
  ((spec_l1Cur_schema p_c).bind fun t_3 => ((spec_l1Cur_pick t_3.2 24).bind fun t_7 => (((cond (t_7.1 == 0) ((spec_l1Cur_among t_7.2 ([1, 8, 9] : List Int)).bind fun t_42 => ((goAt t_3.1 0).bind fun e_44 => some (.inl (goSet t_3.1 0 (impl_Variable.mk e_44.Name t_42.1), t_42.2)))) (((cond (t_7.1 == 1) ((spec_l1Cur_of t_7.2 ([([] : List UInt8), ([65, 103, 101] : List UInt8), ([97, 98, 99, 100, 101, 102, 103, 104, 105] : List UInt8), ([97, 103, 101] : List UInt8), ([97, 98, 32, 99, 100] : List UInt8)] : List (List UInt8))).bind fun t_31 => ((goAt t_3.1 0).bind fun e_33 => some (.inl (goSet t_3.1 0 (impl_Variable.mk t_31.1 e_33.Levels), t_31.2)))) (cond (t_7.1 == 2) (some (.inr (.inr (([] : List impl_Variable), t_7.2)))) (((cond (t_7.1 == 3) ((loopC (spec_l1Cur_anySchema_l1) (t_3.1, t_7.2)).bind fun (s_21, p_c_23) => some (s_21, p_c_23)) (some (t_3.1, t_7.2))) : Option ((List impl_Variable) × spec_l1Cur)).bind fun (s_25, p_c_27) => some (.inl (s_25, p_c_27))))) : Option (((List impl_Variable) × spec_l1Cur) ⊕ (((List impl_Variable) × spec_l1Cur) ⊕ ((List impl_Variable) × spec_l1Cur)))).bind fun | .inl (s_36, p_c_38) => some (.inl (s_36, p_c_38)) | .inr o => some o)) : Option (((List impl_Variable) × spec_l1Cur) ⊕ ((List impl_Variable) × spec_l1Cur))).bind fun | .inl (s_47, p_c_49) => some (s_47, p_c_49) | .inr o => some o)))

noncomputable def spec_l1Cur_one (p_c : spec_l1Cur) (p_n : Int) : Option (Bool × spec_l1Cur) :=
  ((spec_l1Cur_pick p_c p_n).bind fun t_3 => some (t_3.1 == 0, t_3.2))

noncomputable def spec_sCount_l1 (p_s : List impl_Variable) : Int × Int → Option (Stp (Int × Int) (Int))
  | (n_2, t_3) => (cond (decide (t_3 < (goLen p_s))) ((goAt p_s t_3).bind fun e_4 => some (.next ((w64 (n_2 * e_4.Levels)), (w64 (t_3 + 1))))) (some (.done n_2)))

noncomputable def spec_sCount (p_s : List impl_Variable) : Option (Int) :=
  ((loopC (spec_sCount_l1 p_s) (1, 0)).bind fun n_7 => some n_7)

noncomputable def spec_DrawCombinationAt (p_code : List (K .u8)) : Option ((List impl_Variable) × Int) :=
  ((spec_l1Cur_anySchema (spec_l1Cur.mk p_code 0 (⟨0⟩ : K .u64))).bind fun t_4 => ((spec_l1Cur_one t_4.2 8).bind fun t_8 => (cond t_8.1 ((spec_sCount t_4.1).bind fun t_15 => ((spec_sCount t_4.1).bind fun t_17 => ((spec_l1Cur_among t_8.2 ([-1, t_15, (w64 (t_17 - 1))] : List Int)).bind fun t_21 => some (t_4.1, t_21.1)))) ((spec_sCount t_4.1).bind fun t_10 => ((spec_l1Cur_pick t_8.2 t_10).bind fun t_13 => some (t_4.1, t_13.1))))))

noncomputable def impl_isWord_l1 (p_s : List UInt8) (t_2 : Int) : Option (Stp (Int) ((Unit) ⊕ (Bool))) :=
  (cond (decide (t_2 < (goLen p_s))) ((((goStrAt p_s t_2).bind fun t_3 => (cond (decide (t_3 < 97)) (some true) ((goStrAt p_s t_2).bind fun t_4 => some (decide (122 < t_4))))) : Option (Bool)).bind fun t_5 => (cond t_5 (some (.done (.inr false))) (some (.next (w64 (t_2 + 1)))))) (some (.done (.inl ()))))

noncomputable def impl_isWord (p_s : List UInt8) : Option (Bool) :=
  (((cond (decide ((goLen p_s) < 1)) (some true) (some (decide (8 < (goLen p_s))))) : Option (Bool)).bind fun t_1 => (cond t_1 (some false) ((loopC (impl_isWord_l1 p_s) 0).bind fun | .inl () => some true | .inr o => some o)))

noncomputable def impl_IsSchema_l2 (e_4 : impl_Variable) (l_9 : List impl_Variable) (t_11 : Int) : Option (Stp (Int) ((Unit) ⊕ (Stp (Int) ((Unit) ⊕ (Bool))))) :=
  (cond (decide (t_11 < (goLen l_9))) ((goAt l_9 t_11).bind fun e_12 => (cond (e_12.Name == e_4.Name) (some (.done (.inr (.done (.inr false))))) (some (.next (w64 (t_11 + 1)))))) (some (.done (.inl ()))))

noncomputable def impl_IsSchema_l1 (p_s : List impl_Variable) (t_3 : Int) : Option (Stp (Int) ((Unit) ⊕ (Bool))) :=
  (cond (decide (t_3 < (goLen p_s))) ((goAt p_s t_3).bind fun e_4 => ((((impl_isWord e_4.Name).bind fun t_7 => (cond (!t_7) (some true) (cond (decide (e_4.Levels < 2)) (some true) (some (decide (8 < e_4.Levels)))))) : Option (Bool)).bind fun t_8 => (cond t_8 (some (.done (.inr false))) ((goSub p_s 0 t_3).bind fun l_9 => ((loopC (impl_IsSchema_l2 e_4 l_9) 0).bind fun | .inl () => some (.next (w64 (t_3 + 1))) | .inr o => some o))))) (some (.done (.inl ()))))

noncomputable def impl_IsSchema (p_s : List impl_Variable) : Option (Bool) :=
  (((cond (decide ((goLen p_s) < 1)) (some true) (some (decide (6 < (goLen p_s))))) : Option (Bool)).bind fun t_2 => (cond t_2 (some false) ((loopC (impl_IsSchema_l1 p_s) 0).bind fun | .inl () => some true | .inr o => some o)))

noncomputable def impl_combinations_l1 (p_s : List impl_Variable) : Int × Int → Option (Stp (Int × Int) (Int))
  | (n_2, t_3) => (cond (decide (t_3 < (goLen p_s))) ((goAt p_s t_3).bind fun e_4 => some (.next ((w64 (n_2 * e_4.Levels)), (w64 (t_3 + 1))))) (some (.done n_2)))

noncomputable def impl_combinations (p_s : List impl_Variable) : Option (Int) :=
  ((loopC (impl_combinations_l1 p_s) (1, 0)).bind fun n_7 => some n_7)

noncomputable def impl_valuesAt_l1 (p_s : List impl_Variable) : Int × (List Int) × Int → Option (Stp (Int × (List Int) × Int) ((List Int)))
  | (i_4, values_5, k_7) => (cond (decide (0 ≤ k_7)) ((goAt p_s k_7).bind fun e_8 => ((goRem i_4 e_8.Levels).bind fun t_10 => ((goAt values_5 k_7).bind fun e_11 => ((goAt p_s k_7).bind fun e_14 => ((goQuo .i64 i_4 e_14.Levels).bind fun t_16 => some (.next (t_16, goSet values_5 k_7 t_10, (w64 (k_7 - 1))))))))) (some (.done values_5)))

noncomputable def impl_valuesAt (p_s : List impl_Variable) (p_i : Int) : Option ((List Int)) :=
  ((goMake 8 (goLen p_s) (0 : Int)).bind fun l_2 => ((loopC (impl_valuesAt_l1 p_s) (p_i, l_2, (w64 ((goLen p_s) - 1)))).bind fun values_17 => some values_17))

noncomputable def impl_CombinationAt (p_s : List impl_Variable) (p_i : Int) : Option ((List Int) × Bool) :=
  ((((impl_IsSchema p_s).bind fun t_2 => (cond (!t_2) (some true) (cond (decide (p_i < 0)) (some true) ((impl_combinations p_s).bind fun t_3 => some (decide (t_3 ≤ p_i)))))) : Option (Bool)).bind fun t_4 => (cond t_4 (some (([] : List Int), false)) ((impl_valuesAt p_s p_i).bind fun t_5 => some (t_5, true))))

noncomputable def spec_l1In (p_n : Int) (p_lo : Int) (p_hi : Int) : Option (Bool) :=
  (((cond (decide (p_lo ≤ p_n)) (some (decide (p_n ≤ p_hi))) (some false)) : Option (Bool)).bind fun t_1 => some t_1)

noncomputable def spec_sName_l1 (p_s : List UInt8) (i_1 : Int) : Option (Stp (Int) ((Unit) ⊕ (Bool))) :=
  (cond (decide (i_1 < (goLen p_s))) ((((goStrAt p_s i_1).bind fun t_2 => (cond (decide (t_2 < 97)) (some true) ((goStrAt p_s i_1).bind fun t_3 => some (decide (122 < t_3))))) : Option (Bool)).bind fun t_4 => (cond t_4 (some (.done (.inr false))) (some (.next (w64 (i_1 + 1)))))) (some (.done (.inl ()))))

noncomputable def spec_sName (p_s : List UInt8) : Option (Bool) :=
  ((loopC (spec_sName_l1 p_s) 0).bind fun | .inl () => ((spec_l1In (goLen p_s) 1 8).bind fun t_5 => some t_5) | .inr o => some o)

noncomputable def spec_sFind_l1 (p_s : List impl_Variable) (p_name : List UInt8) (t_2 : Int) : Option (Stp (Int) ((Unit) ⊕ (Int))) :=
  (cond (decide (t_2 < (goLen p_s))) ((goAt p_s t_2).bind fun e_3 => (cond (e_3.Name == p_name) (some (.done (.inr t_2))) (some (.next (w64 (t_2 + 1)))))) (some (.done (.inl ()))))

noncomputable def spec_sFind (p_s : List impl_Variable) (p_name : List UInt8) : Option (Int) :=
  ((loopC (spec_sFind_l1 p_s p_name) 0).bind fun | .inl () => some (-1) | .inr o => some o)

noncomputable def spec_sGood_l1 (p_s : List impl_Variable) (t_3 : Int) : Option (Stp (Int) ((Unit) ⊕ (Bool))) :=
  (cond (decide (t_3 < (goLen p_s))) ((goAt p_s t_3).bind fun e_4 => ((((spec_sName e_4.Name).bind fun t_7 => (cond (!t_7) (some true) ((spec_l1In e_4.Levels 2 8).bind fun t_8 => (cond (!t_8) (some true) ((goSub p_s 0 t_3).bind fun l_9 => ((spec_sFind l_9 e_4.Name).bind fun t_11 => some (decide (0 ≤ t_11)))))))) : Option (Bool)).bind fun t_12 => (cond t_12 (some (.done (.inr false))) (some (.next (w64 (t_3 + 1))))))) (some (.done (.inl ()))))

noncomputable def spec_sGood (p_s : List impl_Variable) : Option (Bool) :=
  ((spec_l1In (goLen p_s) 1 6).bind fun t_2 => (cond (!t_2) (some false) ((loopC (spec_sGood_l1 p_s) 0).bind fun | .inl () => some true | .inr o => some o)))

noncomputable def spec_sAt_l1 (p_s : List impl_Variable) : Int × (List Int) × Int → Option (Stp (Int × (List Int) × Int) ((List Int)))
  | (i_4, out_5, k_7) => (cond (decide (0 ≤ k_7)) ((goAt p_s k_7).bind fun e_8 => ((goRem i_4 e_8.Levels).bind fun t_10 => ((goAt out_5 k_7).bind fun e_11 => ((goAt p_s k_7).bind fun e_14 => ((goQuo .i64 i_4 e_14.Levels).bind fun t_16 => some (.next (t_16, goSet out_5 k_7 t_10, (w64 (k_7 - 1))))))))) (some (.done out_5)))

noncomputable def spec_sAt (p_s : List impl_Variable) (p_i : Int) : Option ((List Int)) :=
  ((goMake 8 (goLen p_s) (0 : Int)).bind fun l_2 => ((loopC (spec_sAt_l1 p_s) (p_i, l_2, (w64 ((goLen p_s) - 1)))).bind fun out_17 => some out_17))

noncomputable def spec_CombinationAt (p_s : List impl_Variable) (p_i : Int) : Option ((List Int) × Bool) :=
  ((((spec_sGood p_s).bind fun t_2 => (cond (!t_2) (some true) ((spec_sCount p_s).bind fun t_3 => ((spec_l1In p_i 0 (w64 (t_3 - 1))).bind fun t_4 => some (!t_4))))) : Option (Bool)).bind fun t_5 => (cond t_5 (some (([] : List Int), false)) ((spec_sAt p_s p_i).bind fun t_6 => some (t_6, true))))

noncomputable def spec_l1Least (p_a : Int) (p_b : Int) : Option (Int) :=
  (cond (decide (p_a < p_b)) (some p_a) (some p_b))

noncomputable def spec_l1Cur_grouping_l1 (p_s : List impl_Variable) (k_14 : Int) : Int × spec_l1Cur × impl_Grouping → Option (Stp (Int × spec_l1Cur × impl_Grouping) (spec_l1Cur × impl_Grouping))
  | (i_17, p_c_18, g_20) => ((goAt p_s g_20.Var).bind fun e_22 => (cond (decide (i_17 < e_22.Levels)) (((cond (decide (i_17 < k_14)) ((goApp 8 g_20.Groups ([i_17] : List Int)).bind fun l_38 => some (p_c_18, (impl_Grouping.mk g_20.Var l_38))) ((((spec_l1Cur_pick p_c_18 k_14).bind fun t_28 => ((goApp 8 g_20.Groups ([t_28.1] : List Int)).bind fun l_31 => some (t_28.2, (impl_Grouping.mk g_20.Var l_31)))) : Option (spec_l1Cur × impl_Grouping)).bind fun (p_c_33, g_35) => some (p_c_33, g_35))) : Option (spec_l1Cur × impl_Grouping)).bind fun (p_c_40, g_42) => some (.next ((w64 (i_17 + 1)), p_c_40, g_42))) (some (.done (p_c_18, g_20)))))

noncomputable def spec_l1Cur_grouping_l2 (g_48 : impl_Grouping) : Int × impl_Grouping → Option (Stp (Int × impl_Grouping) (impl_Grouping))
  | (t_55, g_56) => (cond (decide (t_55 < (goLen g_48.Groups))) ((goAt g_56.Groups t_55).bind fun e_58 => ((goRem e_58 2).bind fun t_60 => ((goAt g_56.Groups t_55).bind fun e_61 => some (.next ((w64 (t_55 + 1)), (impl_Grouping.mk g_56.Var (goSet g_56.Groups t_55 (w64 (2 * t_60))))))))) (some (.done g_56)))

noncomputable def spec_l1Cur_grouping (p_c : spec_l1Cur) (p_s : List impl_Variable) : Option (impl_Grouping × spec_l1Cur) :=
  (((cond (decide (0 < (goLen p_s))) ((spec_l1Cur_pick p_c (goLen p_s)).bind fun t_6 => ((goAt p_s t_6.1).bind fun e_8 => (((cond (decide (0 < e_8.Levels)) ((spec_l1Cur_pick t_6.2 3).bind fun t_11 => ((spec_l1Least (w64 (2 + t_11.1)) e_8.Levels).bind fun t_13 => some (t_13, t_11.2))) (some (1, t_6.2))) : Option (Int × spec_l1Cur)).bind fun (k_14, p_c_15) => ((loopC (spec_l1Cur_grouping_l1 p_s k_14) (0, p_c_15, (impl_Grouping.mk t_6.1 ([] : List Int)))).bind fun (p_c_44, g_46) => some (g_46, p_c_44))))) (some ((impl_Grouping.mk 0 ([] : List Int)), p_c))) : Option (impl_Grouping × spec_l1Cur)).bind fun (g_48, p_c_50) => ((spec_l1Cur_pick p_c_50 16).bind fun t_53 => (((cond (t_53.1 == 0) ((spec_l1Cur_among t_53.2 ([-1, 0, 1, 9] : List Int)).bind fun t_75 => some (t_75.2, (impl_Grouping.mk t_75.1 g_48.Groups))) (((cond (t_53.1 == 1) ((goApp 8 g_48.Groups ([0] : List Int)).bind fun l_69 => some (impl_Grouping.mk g_48.Var l_69)) (((cond (t_53.1 == 2) ((loopC (spec_l1Cur_grouping_l2 g_48) (0, g_48)).bind fun g_64 => some g_64) (some g_48)) : Option (impl_Grouping)).bind fun g_66 => some g_66)) : Option (impl_Grouping)).bind fun g_71 => some (t_53.2, g_71))) : Option (spec_l1Cur × impl_Grouping)).bind fun (p_c_77, g_79) => some (g_79, p_c_77))))

noncomputable def spec_l1Cur_values_l1 (p_s : List impl_Variable) : (List Int) × Int × spec_l1Cur → Option (Stp ((List Int) × Int × spec_l1Cur) ((List Int) × spec_l1Cur))
  | (out_3, t_5, p_c_6) => (cond (decide (t_5 < (goLen p_s))) ((goAt p_s t_5).bind fun e_8 => ((spec_l1Cur_pick p_c_6 e_8.Levels).bind fun t_12 => ((goApp 8 out_3 ([t_12.1] : List Int)).bind fun l_15 => some (.next (l_15, (w64 (t_5 + 1)), t_12.2))))) (some (.done (out_3, p_c_6))))

noncomputable def spec_l1Cur_values (p_c : spec_l1Cur) (p_s : List impl_Variable) : Option ((List Int) × spec_l1Cur) :=
  ((loopC (spec_l1Cur_values_l1 p_s) (([] : List Int), 0, p_c)).bind fun (out_17, p_c_19) => some (out_17, p_c_19))

noncomputable def spec_l1Cur_anyValues (p_c : spec_l1Cur) (p_s : List impl_Variable) : Option ((List Int) × spec_l1Cur) :=
  ((spec_l1Cur_values p_c p_s).bind fun t_4 => (((cond (decide (0 < (goLen t_4.1))) ((spec_l1Cur_one t_4.2 16).bind fun t_8 => some (t_8.1, t_8.2)) (some (false, t_4.2))) : Option (Bool × spec_l1Cur)).bind fun (t_10, p_c_11) => (((cond t_10 ((spec_l1Cur_pick p_c_11 (goLen t_4.1)).bind fun t_20 => ((spec_l1Cur_among t_20.2 ([-1, 2, 8] : List Int)).bind fun t_24 => ((goAt t_4.1 t_20.1).bind fun e_26 => some (.inl (goSet t_4.1 t_20.1 t_24.1, t_24.2))))) ((spec_l1Cur_one p_c_11 24).bind fun t_14 => (cond t_14.1 ((goApp 8 t_4.1 ([0] : List Int)).bind fun l_17 => some (.inr (l_17, t_14.2))) (some (.inl (t_4.1, t_14.2)))))) : Option (((List Int) × spec_l1Cur) ⊕ ((List Int) × spec_l1Cur))).bind fun | .inl (out_29, p_c_31) => some (out_29, p_c_31) | .inr o => some o)))

noncomputable def spec_DrawGroupValues (p_code : List (K .u8)) : Option ((List impl_Variable) × impl_Grouping × (List Int)) :=
  ((spec_l1Cur_anySchema (spec_l1Cur.mk p_code 0 (⟨0⟩ : K .u64))).bind fun t_5 => ((spec_l1Cur_grouping t_5.2 t_5.1).bind fun t_9 => ((spec_l1Cur_anyValues t_9.2 t_5.1).bind fun t_13 => some (t_5.1, t_9.1, t_13.1))))

noncomputable def impl_groupCount_l1 (p_g : impl_Grouping) : Int × Int × (Bool × Bool × Bool × Bool × Bool × Bool × Bool × Bool) → Option (Stp (Int × Int × (Bool × Bool × Bool × Bool × Bool × Bool × Bool × Bool)) ((Int × (Bool × Bool × Bool × Bool × Bool × Bool × Bool × Bool)) ⊕ (Int)))
  | (k_8, t_9, used_10) => (cond (decide (t_9 < (goLen p_g.Groups))) ((goAt p_g.Groups t_9).bind fun e_11 => (((cond (decide (e_11 < 0)) (some true) (some (decide (8 ≤ e_11)))) : Option (Bool)).bind fun t_13 => (cond t_13 (some (.done (.inr 0))) ((goIx 8 e_11).bind fun u_14 => ((some (goSet ([used_10.1, used_10.2.1, used_10.2.2.1, used_10.2.2.2.1, used_10.2.2.2.2.1, used_10.2.2.2.2.2.1, used_10.2.2.2.2.2.2.1, used_10.2.2.2.2.2.2.2] : List Bool) e_11 true)).bind fun l_15 => some (.next (max k_8 (w64 (e_11 + 1)), (w64 (t_9 + 1)), ((l_15.getD 0 (false : Bool)), (l_15.getD 1 (false : Bool)), (l_15.getD 2 (false : Bool)), (l_15.getD 3 (false : Bool)), (l_15.getD 4 (false : Bool)), (l_15.getD 5 (false : Bool)), (l_15.getD 6 (false : Bool)), (l_15.getD 7 (false : Bool)))))))))) (some (.done (.inl (k_8, used_10)))))

noncomputable def impl_groupCount_l2 (l_19 : List Bool) (t_20 : Int) : Option (Stp (Int) ((Unit) ⊕ (Int))) :=
  (cond (decide (t_20 < (goLen l_19))) ((goAt l_19 t_20).bind fun e_21 => (cond (!e_21) (some (.done (.inr 0))) (some (.next (w64 (t_20 + 1)))))) (some (.done (.inl ()))))

noncomputable def impl_groupCount (p_s : List impl_Variable) (p_g : impl_Grouping) : Option (Int) :=
  (((cond (decide (p_g.Var < 0)) (some true) (cond (decide ((goLen p_s) ≤ p_g.Var)) (some true) ((goAt p_s p_g.Var).bind fun e_4 => some ((goLen p_g.Groups) != e_4.Levels)))) : Option (Bool)).bind fun t_6 => (cond t_6 (some 0) ((loopC (impl_groupCount_l1 p_g) (0, 0, (false, false, false, false, false, false, false, false))).bind fun | .inl (k_16, used_17) => ((goSub ([used_17.1, used_17.2.1, used_17.2.2.1, used_17.2.2.2.1, used_17.2.2.2.2.1, used_17.2.2.2.2.2.1, used_17.2.2.2.2.2.2.1, used_17.2.2.2.2.2.2.2] : List Bool) 0 k_16).bind fun l_19 => ((loopC (impl_groupCount_l2 l_19) 0).bind fun | .inl () => (cond (decide (k_16 < 2)) (some 0) (some k_16)) | .inr o => some o)) | .inr o => some o)))

noncomputable def impl_areValues_l1 (p_s : List impl_Variable) (p_values : List Int) (t_3 : Int) : Option (Stp (Int) ((Unit) ⊕ (Bool))) :=
  (cond (decide (t_3 < (goLen p_values))) ((goAt p_values t_3).bind fun e_4 => (((cond (decide (e_4 < 0)) (some true) ((goAt p_s t_3).bind fun e_6 => some (decide (e_6.Levels ≤ e_4)))) : Option (Bool)).bind fun t_8 => (cond t_8 (some (.done (.inr false))) (some (.next (w64 (t_3 + 1))))))) (some (.done (.inl ()))))

noncomputable def impl_areValues (p_s : List impl_Variable) (p_values : List Int) : Option (Bool) :=
  (cond ((goLen p_values) != (goLen p_s)) (some false) ((loopC (impl_areValues_l1 p_s p_values) 0).bind fun | .inl () => some true | .inr o => some o))

noncomputable def slices_Clone_int_int (p_s : List Int) : Option ((List Int)) :=
  ((goApp 8 ([] : List Int) p_s).bind fun l_3 => some l_3)

noncomputable def impl_GroupValues (p_s : List impl_Variable) (p_g : impl_Grouping) (p_values : List Int) : Option ((List Int) × Bool) :=
  ((((impl_IsSchema p_s).bind fun t_5 => (cond (!t_5) (some true) ((impl_groupCount p_s p_g).bind fun t_6 => (cond (t_6 == 0) (some true) ((impl_areValues p_s p_values).bind fun t_7 => some (!t_7)))))) : Option (Bool)).bind fun t_8 => (cond t_8 (some (([] : List Int), false)) ((slices_Clone_int_int p_values).bind fun t_9 => ((goAt p_values p_g.Var).bind fun e_12 => ((goAt p_g.Groups e_12).bind fun e_14 => ((goAt t_9 p_g.Var).bind fun e_16 => some (goSet t_9 p_g.Var e_14, true)))))))

noncomputable def spec_l1All_l1 (p_l : List Int) (p_lo : Int) (p_hi : Int) (t_2 : Int) : Option (Stp (Int) ((Unit) ⊕ (Bool))) :=
  (cond (decide (t_2 < (goLen p_l))) ((goAt p_l t_2).bind fun e_3 => ((spec_l1In e_3 p_lo p_hi).bind fun t_5 => (cond (!t_5) (some (.done (.inr false))) (some (.next (w64 (t_2 + 1))))))) (some (.done (.inl ()))))

noncomputable def spec_l1All (p_l : List Int) (p_lo : Int) (p_hi : Int) : Option (Bool) :=
  ((loopC (spec_l1All_l1 p_l p_lo p_hi) 0).bind fun | .inl () => some true | .inr o => some o)

noncomputable def spec_l1Put_l1 (p_l : List Int) (p_n : Int) (k_2 : Int) : Option (Stp (Int) (Int)) :=
  (((cond (decide (k_2 < (goLen p_l))) ((goAt p_l k_2).bind fun e_3 => some (decide (e_3 < p_n))) (some false)) : Option (Bool)).bind fun t_5 => (cond t_5 (some (.next (w64 (k_2 + 1)))) (some (.done k_2))))

noncomputable def spec_l1Put (p_l : List Int) (p_n : Int) : Option ((List Int)) :=
  ((loopC (spec_l1Put_l1 p_l p_n) 0).bind fun k_6 => (((cond (decide (k_6 < (goLen p_l))) ((goAt p_l k_6).bind fun e_7 => some (e_7 == p_n)) (some false)) : Option (Bool)).bind fun t_9 => (cond t_9 (some p_l) ((goSub p_l 0 k_6).bind fun l_11 => ((goApp 8 ([] : List Int) l_11).bind fun l_13 => ((goApp 8 l_13 ([p_n] : List Int)).bind fun l_16 => ((goSub p_l k_6 (goLen p_l)).bind fun l_18 => ((goApp 8 l_16 l_18).bind fun l_20 => some l_20))))))))

noncomputable def spec_sGroups_l1 (p_g : impl_Grouping) : (List Int) × Int → Option (Stp ((List Int) × Int) ((List Int)))
  | (met_9, t_11) => (cond (decide (t_11 < (goLen p_g.Groups))) ((goAt p_g.Groups t_11).bind fun e_13 => ((spec_l1Put met_9 e_13).bind fun t_15 => some (.next (t_15, (w64 (t_11 + 1)))))) (some (.done met_9)))

noncomputable def spec_sGroups (p_s : List impl_Variable) (p_g : impl_Grouping) : Option (Int) :=
  ((((spec_l1In p_g.Var 0 (w64 ((goLen p_s) - 1))).bind fun t_4 => (cond (!t_4) (some true) ((goAt p_s p_g.Var).bind fun e_5 => (cond ((goLen p_g.Groups) != e_5.Levels) (some true) ((spec_l1All p_g.Groups 0 7).bind fun t_7 => some (!t_7)))))) : Option (Bool)).bind fun t_8 => (cond t_8 (some 0) ((loopC (spec_sGroups_l1 p_g) (([] : List Int), 0)).bind fun met_18 => (((cond (decide ((goLen met_18) < 2)) (some true) ((goAt met_18 (w64 ((goLen met_18) - 1))).bind fun e_21 => some (e_21 != (w64 ((goLen met_18) - 1))))) : Option (Bool)).bind fun t_23 => (cond t_23 (some 0) (some (goLen met_18)))))))

noncomputable def spec_sFits_l1 (p_s : List impl_Variable) (p_values : List Int) (t_3 : Int) : Option (Stp (Int) ((Unit) ⊕ (Bool))) :=
  (cond (decide (t_3 < (goLen p_s))) ((goAt p_s t_3).bind fun e_4 => ((goAt p_values t_3).bind fun e_7 => ((spec_l1In e_7 0 (w64 (e_4.Levels - 1))).bind fun t_9 => (cond (!t_9) (some (.done (.inr false))) (some (.next (w64 (t_3 + 1)))))))) (some (.done (.inl ()))))

noncomputable def spec_sFits (p_s : List impl_Variable) (p_values : List Int) : Option (Bool) :=
  (cond ((goLen p_values) != (goLen p_s)) (some false) ((loopC (spec_sFits_l1 p_s p_values) 0).bind fun | .inl () => some true | .inr o => some o))

noncomputable def spec_l1Own (p_l : List Int) : Option ((List Int)) :=
  ((goApp 8 ([] : List Int) p_l).bind fun l_3 => some l_3)

noncomputable def spec_GroupValues (p_s : List impl_Variable) (p_g : impl_Grouping) (p_values : List Int) : Option ((List Int) × Bool) :=
  ((((spec_sGood p_s).bind fun t_5 => (cond (!t_5) (some true) ((spec_sGroups p_s p_g).bind fun t_6 => (cond (t_6 == 0) (some true) ((spec_sFits p_s p_values).bind fun t_7 => some (!t_7)))))) : Option (Bool)).bind fun t_8 => (cond t_8 (some (([] : List Int), false)) ((spec_l1Own p_values).bind fun t_9 => ((goAt t_9 p_g.Var).bind fun e_12 => ((goAt p_g.Groups e_12).bind fun e_14 => ((goAt t_9 p_g.Var).bind fun e_16 => some (goSet t_9 p_g.Var e_14, true)))))))

noncomputable def laws_qInts_l1 (p_a : List Int) (p_b : List Int) (t_3 : Int) : Option (Stp (Int) ((Unit) ⊕ (Bool))) :=
  (cond (decide (t_3 < (goLen p_a))) ((goAt p_a t_3).bind fun e_4 => ((goAt p_b t_3).bind fun e_6 => (cond (e_4 != e_6) (some (.done (.inr false))) (some (.next (w64 (t_3 + 1))))))) (some (.done (.inl ()))))

noncomputable def laws_qInts (p_a : List Int) (p_b : List Int) : Option (Bool) :=
  (cond ((goLen p_a) != (goLen p_b)) (some false) ((loopC (laws_qInts_l1 p_a p_b) 0).bind fun | .inl () => some true | .inr o => some o))

noncomputable def slices_Clone_impl_Variable_impl_Variable (p_s : List impl_Variable) : Option ((List impl_Variable)) :=
  ((goApp 24 ([] : List impl_Variable) p_s).bind fun l_3 => some l_3)

noncomputable def impl_GroupSchema (p_s : List impl_Variable) (p_g : impl_Grouping) : Option ((List impl_Variable) × Bool) :=
  ((((impl_IsSchema p_s).bind fun t_4 => (cond (!t_4) (some true) ((impl_groupCount p_s p_g).bind fun t_5 => some (t_5 == 0)))) : Option (Bool)).bind fun t_6 => (cond t_6 (some (([] : List impl_Variable), false)) ((slices_Clone_impl_Variable_impl_Variable p_s).bind fun t_7 => ((impl_groupCount p_s p_g).bind fun t_10 => ((goAt t_7 p_g.Var).bind fun e_11 => some (goSet t_7 p_g.Var (impl_Variable.mk e_11.Name t_10), true))))))

noncomputable def impl_indexOfValues_l1 (p_s : List impl_Variable) (p_values : List Int) : Int × Int → Option (Stp (Int × Int) (Int))
  | (i_3, t_4) => (cond (decide (t_4 < (goLen p_values))) ((goAt p_values t_4).bind fun e_5 => ((goAt p_s t_4).bind fun e_7 => some (.next ((w64 ((w64 (i_3 * e_7.Levels)) + e_5)), (w64 (t_4 + 1)))))) (some (.done i_3)))

noncomputable def impl_indexOfValues (p_s : List impl_Variable) (p_values : List Int) : Option (Int) :=
  ((loopC (impl_indexOfValues_l1 p_s p_values) (0, 0)).bind fun i_9 => some i_9)

noncomputable def impl_CombinationIndex (p_s : List impl_Variable) (p_values : List Int) : Option (Int × Bool) :=
  ((((impl_IsSchema p_s).bind fun t_3 => (cond (!t_3) (some true) ((impl_areValues p_s p_values).bind fun t_4 => some (!t_4)))) : Option (Bool)).bind fun t_5 => (cond t_5 (some (0, false)) ((impl_indexOfValues p_s p_values).bind fun t_6 => some (t_6, true))))

noncomputable def impl_CombinationCount (p_s : List impl_Variable) : Option (Int × Bool) :=
  ((impl_IsSchema p_s).bind fun t_2 => (cond (!t_2) (some (0, false)) ((impl_combinations p_s).bind fun t_3 => some (t_3, true))))

noncomputable def strconv_Itoa (p_x : Int) : Option (List UInt8) :=
  cond (decide (-9223372036854775808 ≤ p_x ∧ p_x ≤ 9223372036854775807)) (some (Go.Lib.itoa p_x)) none

noncomputable def strings_Join (p_elems : List (List UInt8)) (p_sep : List UInt8) : Option ((List UInt8)) :=
  cond (decide (p_elems.length ≤ 140737488355328 ∧ (Go.Lib.join p_elems p_sep).length ≤ 140737488355328)) (some (Go.Lib.join p_elems p_sep)) none

noncomputable def impl_schemaText_l1 (p_s : List impl_Variable) : (List (List UInt8)) × Int → Option (Stp ((List (List UInt8)) × Int) ((List (List UInt8))))
  | (parts_4, t_6) => (cond (decide (t_6 < (goLen p_s))) ((goAt p_s t_6).bind fun e_7 => ((goCat e_7.Name ([58] : List UInt8)).bind fun t_10 => ((strconv_Itoa e_7.Levels).bind fun t_11 => ((goCat t_10 t_11).bind fun t_12 => ((goAt parts_4 t_6).bind fun e_13 => some (.next (goSet parts_4 t_6 t_12, (w64 (t_6 + 1))))))))) (some (.done parts_4)))

noncomputable def impl_schemaText (p_s : List impl_Variable) : Option ((List UInt8)) :=
  ((goMake 16 (goLen p_s) (([] : List UInt8) : List UInt8)).bind fun l_2 => ((loopC (impl_schemaText_l1 p_s) (l_2, 0)).bind fun parts_16 => ((strings_Join parts_16 ([44] : List UInt8)).bind fun t_18 => some t_18)))

noncomputable def impl_SchemaText (p_s : List impl_Variable) : Option ((List UInt8) × Bool) :=
  ((impl_IsSchema p_s).bind fun t_2 => (cond (!t_2) (some (([] : List UInt8), false)) ((impl_schemaText p_s).bind fun t_3 => some (t_3, true))))

noncomputable def impl_readNatural_l1 (p_s : List UInt8) (p_most : Int) : Int × Int → Option (Stp (Int × Int) ((Int × Int) ⊕ (Int × (List UInt8) × Bool)))
  | (n_1, i_2) => (((cond (decide (i_2 < (goLen p_s))) ((goStrAt p_s i_2).bind fun t_3 => (cond (decide (48 ≤ t_3)) ((goStrAt p_s i_2).bind fun t_4 => some (decide (t_4 ≤ 57))) (some false))) (some false)) : Option (Bool)).bind fun t_5 => (cond t_5 (((cond (decide (0 < i_2)) (some (n_1 == 0)) (some false)) : Option (Bool)).bind fun t_6 => (cond t_6 (some (.done (.inr (0, ([] : List UInt8), false)))) ((goStrAt p_s i_2).bind fun t_7 => (cond (decide (p_most < (w64 ((w64 (n_1 * 10)) + (w64 (IntKind.wrap .u8 (t_7 - 48))))))) (some (.done (.inr (0, ([] : List UInt8), false)))) (some (.next ((w64 ((w64 (n_1 * 10)) + (w64 (IntKind.wrap .u8 (t_7 - 48))))), (w64 (i_2 + 1))))))))) (some (.done (.inl (n_1, i_2))))))

noncomputable def impl_readNatural (p_s : List UInt8) (p_most : Int) : Option (Int × (List UInt8) × Bool) :=
  ((loopC (impl_readNatural_l1 p_s p_most) (0, 0)).bind fun | .inl (n_8, i_9) => (cond (i_9 == 0) (some (0, ([] : List UInt8), false)) ((goSub p_s i_9 (goLen p_s)).bind fun t_10 => some (n_8, t_10, true))) | .inr o => some o)

noncomputable def impl_wholeNatural (p_s : List UInt8) (p_most : Int) : Option (Int × Bool) :=
  ((impl_readNatural p_s p_most).bind fun t_1 => (((cond (!t_1.2.2) (some true) (some (t_1.2.1 != ([] : List UInt8)))) : Option (Bool)).bind fun t_2 => (cond t_2 (some (0, false)) (some (t_1.1, true)))))

noncomputable def strings_Cut (p_s : List UInt8) (p_sep : List UInt8) : Option ((List UInt8) × (List UInt8) × Bool) :=
  cond (decide (p_s.length < 4294967281)) (some (Go.Lib.cut p_s p_sep)) none

noncomputable def impl_ParseSchema_l1  : (List UInt8) × (List impl_Variable) → Option (Stp ((List UInt8) × (List impl_Variable)) (((List impl_Variable)) ⊕ ((List impl_Variable) × Bool)))
  | (s_1, schema_2) => ((strings_Cut s_1 ([44] : List UInt8)).bind fun t_4 => ((strings_Cut t_4.1 ([58] : List UInt8)).bind fun t_5 => ((impl_wholeNatural t_5.2.1 8).bind fun t_6 => (((cond (!t_5.2.2) (some true) (cond (!t_6.2) (some true) (some ((goLen schema_2) == 6)))) : Option (Bool)).bind fun t_7 => (cond t_7 (some (.done (.inr (([] : List impl_Variable), false)))) ((goApp 24 schema_2 ([(impl_Variable.mk t_5.1 t_6.1)] : List impl_Variable)).bind fun l_9 => (cond (!t_4.2.2) (some (.done (.inl l_9))) (some (.next (t_4.2.1, l_9))))))))))

noncomputable def impl_ParseSchema (p_s : List UInt8) : Option ((List impl_Variable) × Bool) :=
  ((loopC (impl_ParseSchema_l1) (p_s, ([] : List impl_Variable))).bind fun | .inl schema_11 => ((impl_IsSchema schema_11).bind fun t_13 => (cond (!t_13) (some (([] : List impl_Variable), false)) (some (schema_11, true)))) | .inr o => some o)

noncomputable def impl_ValueDistance_l1 (p_a : List Int) (p_b : List Int) : Int × Int → Option (Stp (Int × Int) (Int))
  | (n_8, t_9) => (cond (decide (t_9 < (goLen p_a))) ((goAt p_a t_9).bind fun e_10 => ((goAt p_b t_9).bind fun e_12 => (((cond (e_10 != e_12) (some (w64 (n_8 + 1))) (some n_8)) : Option (Int)).bind fun n_14 => some (.next (n_14, (w64 (t_9 + 1))))))) (some (.done n_8)))

noncomputable def impl_ValueDistance (p_s : List impl_Variable) (p_a : List Int) (p_b : List Int) : Option (Int × Bool) :=
  ((((impl_IsSchema p_s).bind fun t_4 => (cond (!t_4) (some true) ((impl_areValues p_s p_a).bind fun t_5 => (cond (!t_5) (some true) ((impl_areValues p_s p_b).bind fun t_6 => some (!t_6)))))) : Option (Bool)).bind fun t_7 => (cond t_7 (some (0, false)) ((loopC (impl_ValueDistance_l1 p_a p_b) (0, 0)).bind fun n_15 => some (n_15, true))))

noncomputable def laws_qSchema_l1 (p_a : List impl_Variable) (p_b : List impl_Variable) (t_3 : Int) : Option (Stp (Int) ((Unit) ⊕ (Bool))) :=
  (cond (decide (t_3 < (goLen p_a))) ((goAt p_a t_3).bind fun e_4 => ((goAt p_b t_3).bind fun e_6 => (cond (!((e_4.Name == e_6.Name) && ((e_4.Levels == e_6.Levels) && true))) (some (.done (.inr false))) (some (.next (w64 (t_3 + 1))))))) (some (.done (.inl ()))))

noncomputable def laws_qSchema (p_a : List impl_Variable) (p_b : List impl_Variable) : Option (Bool) :=
  (cond ((goLen p_a) != (goLen p_b)) (some false) ((loopC (laws_qSchema_l1 p_a p_b) 0).bind fun | .inl () => some true | .inr o => some o))

noncomputable def laws_FnSchemas (p_code : List (K .u8)) (p_more : List (K .u8)) : Option (Bool) :=
  (cond (decide (1048576 < (w64 ((goLen p_code) + (goLen p_more))))) (some true) ((spec_DrawCombinationAt p_code).bind fun t_3 => ((impl_CombinationAt t_3.1 t_3.2).bind fun t_6 => ((spec_CombinationAt t_3.1 t_3.2).bind fun t_10 => ((spec_DrawGroupValues p_more).bind fun t_14 => ((impl_GroupValues t_14.1 t_14.2.1 t_14.2.2).bind fun t_20 => ((spec_GroupValues t_14.1 t_14.2.1 t_14.2.2).bind fun t_24 => (((cond (t_6.2 != t_10.2) (some true) ((laws_qInts t_6.1 t_10.1).bind fun t_28 => (cond (!t_28) (some true) (cond (t_20.2 != t_24.2) (some true) ((laws_qInts t_20.1 t_24.1).bind fun t_30 => some (!t_30)))))) : Option (Bool)).bind fun t_32 => (cond t_32 (some false) (((cond t_20.2 ((impl_GroupSchema t_14.1 t_14.2.1).bind fun t_33 => ((impl_CombinationIndex t_33.1 t_20.1).bind fun t_37 => (((cond (!t_33.2) (some true) (some (!t_37.2))) : Option (Bool)).bind fun t_39 => (cond t_39 (some (.inr false)) (some (.inl ())))))) (some (.inl ()))) : Option ((Unit) ⊕ (Bool))).bind fun | .inl () => (cond (!t_6.2) (some true) ((impl_CombinationIndex t_3.1 t_6.1).bind fun t_40 => ((impl_CombinationCount t_3.1).bind fun t_42 => ((impl_SchemaText t_3.1).bind fun t_44 => ((impl_ParseSchema t_44.1).bind fun t_46 => ((impl_ValueDistance t_3.1 t_6.1 t_6.1).bind fun t_49 => (((cond t_40.2 (cond t_42.2 (cond t_44.2 (cond t_46.2 (cond t_49.2 (cond (t_40.1 == t_3.2) (cond (decide (t_3.2 < t_42.1)) ((laws_qSchema t_46.1 t_3.1).bind fun t_51 => (cond t_51 (some (t_49.1 == 0)) (some false))) (some false)) (some false)) (some false)) (some false)) (some false)) (some false)) (some false)) : Option (Bool)).bind fun t_53 => some t_53))))))) | .inr o => some o))))))))))

end Go.Gx.F
