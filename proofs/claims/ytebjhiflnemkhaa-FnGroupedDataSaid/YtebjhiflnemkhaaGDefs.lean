/- The plain functions that the walks come to. -/
import Derived.Test.YtebjhiflnemkhaaGy
namespace Go.Gx.F
open Go.Gx
set_option linter.all false

structure spec_l1Cur where
  code : List (K .u8)
  at_ : Int
  seed : K .u64

instance : Rep spec_l1Cur where
  wd := 3
  rd m cs x := ∃ s1 : Sl, cs = [s1.v, (.int .i64 x.at_), (.int .u64 x.seed.v)] ∧ Rd m s1 x.code
  mono hm h := by
    obtain ⟨s1, rfl, h1⟩ := h
    exact ⟨s1, rfl, h1.mono hm⟩
  len h := by obtain ⟨s1, rfl, _⟩ := h; rfl
  one h := by obtain ⟨s1, rfl, _⟩ := h; rfl

instance : Rng spec_l1Cur := ⟨fun x => Rng.ok x.code ∧ Rng.ok x.at_ ∧ Rng.ok x.seed⟩

structure impl_Variable where
  Name : List UInt8
  Levels : Int

instance : Rep impl_Variable where
  wd := 2
  rd m cs x := cs = [(strV x.Name), (.int .i64 x.Levels)]
  mono _ h := h
  len h := by subst h; rfl
  one h := by subst h; rfl

instance : Flat impl_Variable := ⟨fun h => h⟩

instance : Rng impl_Variable := ⟨fun x => Rng.ok x.Name ∧ Rng.ok x.Levels⟩

structure impl_Grouping where
  Var : Int
  Groups : List Int

instance : Rep impl_Grouping where
  wd := 2
  rd m cs x := ∃ s1 : Sl, cs = [(.int .i64 x.Var), s1.v] ∧ Rd m s1 x.Groups
  mono hm h := by
    obtain ⟨s1, rfl, h1⟩ := h
    exact ⟨s1, rfl, h1.mono hm⟩
  len h := by obtain ⟨s1, rfl, _⟩ := h; rfl
  one h := by obtain ⟨s1, rfl, _⟩ := h; rfl

instance : Rng impl_Grouping := ⟨fun x => Rng.ok x.Var ∧ Rng.ok x.Groups⟩

structure impl_Record where
  Area : Int
  House : Int
  Values : List Int

instance : Rep impl_Record where
  wd := 3
  rd m cs x := ∃ s1 : Sl, cs = [(.int .i64 x.Area), (.int .i64 x.House), s1.v] ∧ Rd m s1 x.Values
  mono hm h := by
    obtain ⟨s1, rfl, h1⟩ := h
    exact ⟨s1, rfl, h1.mono hm⟩
  len h := by obtain ⟨s1, rfl, _⟩ := h; rfl
  one h := by obtain ⟨s1, rfl, _⟩ := h; rfl

instance : Rng impl_Record := ⟨fun x => Rng.ok x.Area ∧ Rng.ok x.House ∧ Rng.ok x.Values⟩

noncomputable def spec_l1Cur_next (p_c : spec_l1Cur) : Option (Int × spec_l1Cur) :=
  (((cond (decide (p_c.at_ < (goLen p_c.code))) ((goAt p_c.code p_c.at_).bind fun e_2 => some (w64 e_2.v)) (some 0)) : Option (Int)).bind fun b_4 => (cond (decide ((w64 (p_c.at_ + 1)) ≤ (goLen p_c.code))) (some (b_4, (spec_l1Cur.mk p_c.code (w64 (p_c.at_ + 1)) (⟨(IntKind.wrap .u64 ((IntKind.wrap .u64 ((IntKind.wrap .u64 (p_c.seed.v * 6364136223846793005)) + (IntKind.wrap .u64 b_4))) + 1442695040888963407))⟩ : K .u64)))) ((goShr .u64 (IntKind.wrap .u64 ((IntKind.wrap .u64 ((IntKind.wrap .u64 (p_c.seed.v * 6364136223846793005)) + (IntKind.wrap .u64 b_4))) + 1442695040888963407)) 40).bind fun t_5 => some ((w64 (goBits .and .u64 t_5 255)), (spec_l1Cur.mk p_c.code (w64 (p_c.at_ + 1)) (⟨(IntKind.wrap .u64 ((IntKind.wrap .u64 ((IntKind.wrap .u64 (p_c.seed.v * 6364136223846793005)) + (IntKind.wrap .u64 b_4))) + 1442695040888963407))⟩ : K .u64))))))

noncomputable def spec_l1Cur_pick (p_c : spec_l1Cur) (p_n : Int) : Option (Int × spec_l1Cur) :=
  (cond (decide (p_n ≤ 1)) (some (0, p_c)) ((spec_l1Cur_next p_c).bind fun t_3 => (((cond (decide (200 < p_n)) ((spec_l1Cur_next t_3.2).bind fun t_6 => some ((w64 ((w64 (t_3.1 * 256)) + t_6.1)), t_6.2)) (some (t_3.1, t_3.2))) : Option (Int × spec_l1Cur)).bind fun (x_8, p_c_9) => ((goRem x_8 p_n).bind fun t_11 => some (t_11, p_c_9)))))

noncomputable def spec_l1Cur_schema_l1  : (List impl_Variable) × Int × spec_l1Cur → Option (Stp ((List impl_Variable) × Int × spec_l1Cur) ((List impl_Variable) × spec_l1Cur))
  | (out_3, k_5, p_c_6) => ((spec_l1Cur_pick p_c_6 3).bind fun t_9 => (cond (decide (k_5 < (w64 (1 + t_9.1)))) ((((goAt ([([115, 101, 120] : List UInt8), ([97, 103, 101] : List UInt8), ([106, 111, 98] : List UInt8), ([104, 111, 109, 101] : List UInt8), ([115, 105, 122, 101] : List UInt8), ([108, 97, 110, 103] : List UInt8)] : List (List UInt8)) k_5).bind fun e_11 => ((spec_l1Cur_pick t_9.2 3).bind fun t_17 => ((goApp 24 out_3 ([(impl_Variable.mk e_11 (w64 (2 + t_17.1)))] : List impl_Variable)).bind fun l_20 => some (l_20, t_17.2)))) : Option ((List impl_Variable) × spec_l1Cur)).bind fun (out_22, p_c_24) => some (.next (out_22, (w64 (k_5 + 1)), p_c_24))) (some (.done (out_3, t_9.2)))))

noncomputable def spec_l1Cur_schema (p_c : spec_l1Cur) : Option ((List impl_Variable) × spec_l1Cur) :=
  ((loopC (spec_l1Cur_schema_l1) (([] : List impl_Variable), 0, p_c)).bind fun (out_26, p_c_28) => some (out_26, p_c_28))

noncomputable def spec_l1Cur_among (p_c : spec_l1Cur) (p_list : List Int) : Option (Int × spec_l1Cur) :=
  ((spec_l1Cur_pick p_c (goLen p_list)).bind fun t_4 => ((goAt p_list t_4.1).bind fun e_6 => some (e_6, t_4.2)))

noncomputable def spec_l1Cur_of (p_c : spec_l1Cur) (p_list : List (List UInt8)) : Option ((List UInt8) × spec_l1Cur) :=
  ((spec_l1Cur_pick p_c (goLen p_list)).bind fun t_4 => ((goAt p_list t_4.1).bind fun e_6 => some (e_6, t_4.2)))

noncomputable def spec_l1Cur_anySchema_l1  : (List impl_Variable) × spec_l1Cur → Option (Stp ((List impl_Variable) × spec_l1Cur) ((List impl_Variable) × spec_l1Cur))
  | (s_9, p_c_11) => ((spec_l1Cur_pick p_c_11 2).bind fun t_14 => (cond (decide ((goLen s_9) < (w64 (6 + t_14.1)))) ((goCat ([120] : List UInt8) (goBytes ([(⟨(IntKind.wrap .u8 (w64 (97 + (goLen s_9))))⟩ : K .u8)] : List (K .u8)))).bind fun t_17 => ((goApp 24 s_9 ([(impl_Variable.mk t_17 2)] : List impl_Variable)).bind fun l_19 => some (.next (l_19, t_14.2)))) (some (.done (s_9, t_14.2)))))

noncomputable def spec_l1Cur_anySchema (p_c : spec_l1Cur) : Option ((List impl_Variable) × spec_l1Cur) :=
  ((spec_l1Cur_schema p_c).bind fun t_3 => ((spec_l1Cur_pick t_3.2 24).bind fun t_7 => (((cond (t_7.1 == 0) ((spec_l1Cur_among t_7.2 ([1, 8, 9] : List Int)).bind fun t_42 => ((goAt t_3.1 0).bind fun e_44 => some (.inl (goSet t_3.1 0 (impl_Variable.mk e_44.Name t_42.1), t_42.2)))) (((cond (t_7.1 == 1) ((spec_l1Cur_of t_7.2 ([([] : List UInt8), ([65, 103, 101] : List UInt8), ([97, 98, 99, 100, 101, 102, 103, 104, 105] : List UInt8), ([97, 103, 101] : List UInt8), ([97, 98, 32, 99, 100] : List UInt8)] : List (List UInt8))).bind fun t_31 => ((goAt t_3.1 0).bind fun e_33 => some (.inl (goSet t_3.1 0 (impl_Variable.mk t_31.1 e_33.Levels), t_31.2)))) (cond (t_7.1 == 2) (some (.inr (.inr (([] : List impl_Variable), t_7.2)))) (((cond (t_7.1 == 3) ((loopC (spec_l1Cur_anySchema_l1) (t_3.1, t_7.2)).bind fun (s_21, p_c_23) => some (s_21, p_c_23)) (some (t_3.1, t_7.2))) : Option ((List impl_Variable) × spec_l1Cur)).bind fun (s_25, p_c_27) => some (.inl (s_25, p_c_27))))) : Option (((List impl_Variable) × spec_l1Cur) ⊕ (((List impl_Variable) × spec_l1Cur) ⊕ ((List impl_Variable) × spec_l1Cur)))).bind fun | .inl (s_36, p_c_38) => some (.inl (s_36, p_c_38)) | .inr o => some o)) : Option (((List impl_Variable) × spec_l1Cur) ⊕ ((List impl_Variable) × spec_l1Cur))).bind fun | .inl (s_47, p_c_49) => some (s_47, p_c_49) | .inr o => some o)))

noncomputable def spec_l1Least (p_a : Int) (p_b : Int) : Option (Int) :=
  (cond (decide (p_a < p_b)) (some p_a) (some p_b))

noncomputable def spec_l1Cur_grouping_l1 (p_s : List impl_Variable) (k_14 : Int) : Int × spec_l1Cur × impl_Grouping → Option (Stp (Int × spec_l1Cur × impl_Grouping) (spec_l1Cur × impl_Grouping))
  | (i_17, p_c_18, g_20) => ((goAt p_s g_20.Var).bind fun e_22 => (cond (decide (i_17 < e_22.Levels)) (((cond (decide (i_17 < k_14)) ((goApp 8 g_20.Groups ([i_17] : List Int)).bind fun l_38 => some (p_c_18, (impl_Grouping.mk g_20.Var l_38))) ((((spec_l1Cur_pick p_c_18 k_14).bind fun t_28 => ((goApp 8 g_20.Groups ([t_28.1] : List Int)).bind fun l_31 => some (t_28.2, (impl_Grouping.mk g_20.Var l_31)))) : Option (spec_l1Cur × impl_Grouping)).bind fun (p_c_33, g_35) => some (p_c_33, g_35))) : Option (spec_l1Cur × impl_Grouping)).bind fun (p_c_40, g_42) => some (.next ((w64 (i_17 + 1)), p_c_40, g_42))) (some (.done (p_c_18, g_20)))))

noncomputable def spec_l1Cur_grouping_l2 (g_48 : impl_Grouping) : Int × impl_Grouping → Option (Stp (Int × impl_Grouping) (impl_Grouping))
  | (t_55, g_56) => (cond (decide (t_55 < (goLen g_48.Groups))) ((goAt g_56.Groups t_55).bind fun e_58 => ((goRem e_58 2).bind fun t_60 => ((goAt g_56.Groups t_55).bind fun e_61 => some (.next ((w64 (t_55 + 1)), (impl_Grouping.mk g_56.Var (goSet g_56.Groups t_55 (w64 (2 * t_60))))))))) (some (.done g_56)))

noncomputable def spec_l1Cur_grouping (p_c : spec_l1Cur) (p_s : List impl_Variable) : Option (impl_Grouping × spec_l1Cur) :=
  (((cond (decide (0 < (goLen p_s))) ((spec_l1Cur_pick p_c (goLen p_s)).bind fun t_6 => ((goAt p_s t_6.1).bind fun e_8 => (((cond (decide (0 < e_8.Levels)) ((spec_l1Cur_pick t_6.2 3).bind fun t_11 => ((spec_l1Least (w64 (2 + t_11.1)) e_8.Levels).bind fun t_13 => some (t_13, t_11.2))) (some (1, t_6.2))) : Option (Int × spec_l1Cur)).bind fun (k_14, p_c_15) => ((loopC (spec_l1Cur_grouping_l1 p_s k_14) (0, p_c_15, (impl_Grouping.mk t_6.1 ([] : List Int)))).bind fun (p_c_44, g_46) => some (g_46, p_c_44))))) (some ((impl_Grouping.mk 0 ([] : List Int)), p_c))) : Option (impl_Grouping × spec_l1Cur)).bind fun (g_48, p_c_50) => ((spec_l1Cur_pick p_c_50 16).bind fun t_53 => (((cond (t_53.1 == 0) ((spec_l1Cur_among t_53.2 ([-1, 0, 1, 9] : List Int)).bind fun t_75 => some (t_75.2, (impl_Grouping.mk t_75.1 g_48.Groups))) (((cond (t_53.1 == 1) ((goApp 8 g_48.Groups ([0] : List Int)).bind fun l_69 => some (impl_Grouping.mk g_48.Var l_69)) (((cond (t_53.1 == 2) ((loopC (spec_l1Cur_grouping_l2 g_48) (0, g_48)).bind fun g_64 => some g_64) (some g_48)) : Option (impl_Grouping)).bind fun g_66 => some g_66)) : Option (impl_Grouping)).bind fun g_71 => some (t_53.2, g_71))) : Option (spec_l1Cur × impl_Grouping)).bind fun (p_c_77, g_79) => some (g_79, p_c_77))))

noncomputable def spec_l1Cur_values_l1 (p_s : List impl_Variable) : (List Int) × Int × spec_l1Cur → Option (Stp ((List Int) × Int × spec_l1Cur) ((List Int) × spec_l1Cur))
  | (out_3, t_5, p_c_6) => (cond (decide (t_5 < (goLen p_s))) ((goAt p_s t_5).bind fun e_8 => ((spec_l1Cur_pick p_c_6 e_8.Levels).bind fun t_12 => ((goApp 8 out_3 ([t_12.1] : List Int)).bind fun l_15 => some (.next (l_15, (w64 (t_5 + 1)), t_12.2))))) (some (.done (out_3, p_c_6))))

noncomputable def spec_l1Cur_values (p_c : spec_l1Cur) (p_s : List impl_Variable) : Option ((List Int) × spec_l1Cur) :=
  ((loopC (spec_l1Cur_values_l1 p_s) (([] : List Int), 0, p_c)).bind fun (out_17, p_c_19) => some (out_17, p_c_19))

noncomputable def spec_l1Cur_record (p_c : spec_l1Cur) (p_s : List impl_Variable) (p_areas : List Int) : Option (impl_Record × spec_l1Cur) :=
  ((spec_l1Cur_among p_c p_areas).bind fun t_6 => ((spec_l1Cur_pick t_6.2 6).bind fun t_9 => ((spec_l1Cur_values t_9.2 p_s).bind fun t_12 => some ((impl_Record.mk t_6.1 t_9.1 t_12.1), t_12.2))))

noncomputable def spec_l1Cur_one (p_c : spec_l1Cur) (p_n : Int) : Option (Bool × spec_l1Cur) :=
  ((spec_l1Cur_pick p_c p_n).bind fun t_3 => some (t_3.1 == 0, t_3.2))

noncomputable def spec_l1Own (p_l : List Int) : Option ((List Int)) :=
  ((goApp 8 ([] : List Int) p_l).bind fun l_3 => some l_3)

noncomputable def spec_rOwn (p_r : impl_Record) : Option (impl_Record) :=
  ((spec_l1Own p_r.Values).bind fun t_4 => some (impl_Record.mk p_r.Area p_r.House t_4))

noncomputable def spec_l1Cur_data_l1 (p_s : List impl_Variable) (p_areas : List Int) : (List impl_Record) × Int × spec_l1Cur → Option (Stp ((List impl_Record) × Int × spec_l1Cur) ((List impl_Record) × spec_l1Cur))
  | (out_7, k_9, p_c_10) => (cond (decide (0 < k_9)) ((spec_l1Cur_record p_c_10 p_s p_areas).bind fun t_14 => ((goApp 40 out_7 ([t_14.1] : List impl_Record)).bind fun l_20 => ((spec_l1Cur_one t_14.2 4).bind fun t_23 => (((cond t_23.1 ((spec_rOwn t_14.1).bind fun t_25 => ((goApp 40 l_20 ([t_25] : List impl_Record)).bind fun l_30 => some l_30)) (some l_20)) : Option ((List impl_Record))).bind fun out_32 => some (.next (out_32, (w64 (k_9 - 1)), t_23.2)))))) (some (.done (out_7, p_c_10))))

noncomputable def spec_l1Cur_data (p_c : spec_l1Cur) (p_s : List impl_Variable) (p_areas : List Int) : Option ((List impl_Record) × spec_l1Cur) :=
  ((spec_l1Cur_pick p_c 12).bind fun t_5 => ((loopC (spec_l1Cur_data_l1 p_s p_areas) (([] : List impl_Record), t_5.1, t_5.2)).bind fun (out_35, p_c_37) => some (out_35, p_c_37)))

noncomputable def spec_l1Cur_anyValues (p_c : spec_l1Cur) (p_s : List impl_Variable) : Option ((List Int) × spec_l1Cur) :=
  ((spec_l1Cur_values p_c p_s).bind fun t_4 => (((cond (decide (0 < (goLen t_4.1))) ((spec_l1Cur_one t_4.2 16).bind fun t_8 => some (t_8.1, t_8.2)) (some (false, t_4.2))) : Option (Bool × spec_l1Cur)).bind fun (t_10, p_c_11) => (((cond t_10 ((spec_l1Cur_pick p_c_11 (goLen t_4.1)).bind fun t_20 => ((spec_l1Cur_among t_20.2 ([-1, 2, 8] : List Int)).bind fun t_24 => ((goAt t_4.1 t_20.1).bind fun e_26 => some (.inl (goSet t_4.1 t_20.1 t_24.1, t_24.2))))) ((spec_l1Cur_one p_c_11 24).bind fun t_14 => (cond t_14.1 ((goApp 8 t_4.1 ([0] : List Int)).bind fun l_17 => some (.inr (l_17, t_14.2))) (some (.inl (t_4.1, t_14.2)))))) : Option (((List Int) × spec_l1Cur) ⊕ ((List Int) × spec_l1Cur))).bind fun | .inl (out_29, p_c_31) => some (out_29, p_c_31) | .inr o => some o)))

noncomputable def spec_l1Cur_anyData_l1 (p_s : List impl_Variable) : (List impl_Record) × spec_l1Cur → Option (Stp ((List impl_Record) × spec_l1Cur) ((List impl_Record) × spec_l1Cur))
  | (out_12, p_c_14) => ((spec_l1Cur_pick p_c_14 2).bind fun t_18 => (cond (decide ((goLen out_12) < (w64 (40 + t_18.1)))) ((spec_l1Cur_values t_18.2 p_s).bind fun t_21 => ((goApp 40 out_12 ([(impl_Record.mk 0 0 t_21.1)] : List impl_Record)).bind fun l_26 => some (.next (l_26, t_21.2)))) (some (.done (out_12, t_18.2)))))

noncomputable def spec_l1Cur_anyData (p_c : spec_l1Cur) (p_s : List impl_Variable) : Option ((List impl_Record) × spec_l1Cur) :=
  ((spec_l1Cur_data p_c p_s ([0, 1, 2, 3] : List Int)).bind fun t_6 => ((spec_l1Cur_pick t_6.2 24).bind fun t_10 => (((cond (t_10.1 == 0) ((spec_l1Cur_among t_10.2 ([-1, 29, 30] : List Int)).bind fun t_40 => ((spec_l1Cur_among t_40.2 ([0, 999, 1000, -1] : List Int)).bind fun t_44 => ((spec_l1Cur_anyValues t_44.2 p_s).bind fun t_47 => ((goApp 40 t_6.1 ([(impl_Record.mk t_40.1 t_44.1 t_47.1)] : List impl_Record)).bind fun l_52 => some (l_52, t_47.2))))) (((cond (t_10.1 == 1) ((loopC (spec_l1Cur_anyData_l1 p_s) (t_6.1, t_10.2)).bind fun (out_28, p_c_30) => some (out_28, p_c_30)) (some (t_6.1, t_10.2))) : Option ((List impl_Record) × spec_l1Cur)).bind fun (out_33, p_c_35) => some (out_33, p_c_35))) : Option ((List impl_Record) × spec_l1Cur)).bind fun (out_54, p_c_56) => some (out_54, p_c_56))))

noncomputable def spec_DrawGroupData (p_code : List (K .u8)) : Option ((List impl_Variable) × impl_Grouping × (List impl_Record)) :=
  ((spec_l1Cur_anySchema (spec_l1Cur.mk p_code 0 (⟨0⟩ : K .u64))).bind fun t_5 => ((spec_l1Cur_grouping t_5.2 t_5.1).bind fun t_9 => ((spec_l1Cur_anyData t_9.2 t_5.1).bind fun t_14 => some (t_5.1, t_9.1, t_14.1))))

noncomputable def impl_isWord_l1 (p_s : List UInt8) (t_2 : Int) : Option (Stp (Int) ((Unit) ⊕ (Bool))) :=
  (cond (decide (t_2 < (goLen p_s))) ((((goStrAt p_s t_2).bind fun t_3 => (cond (decide (t_3 < 97)) (some true) ((goStrAt p_s t_2).bind fun t_4 => some (decide (122 < t_4))))) : Option (Bool)).bind fun t_5 => (cond t_5 (some (.done (.inr false))) (some (.next (w64 (t_2 + 1)))))) (some (.done (.inl ()))))

noncomputable def impl_isWord (p_s : List UInt8) : Option (Bool) :=
  (((cond (decide ((goLen p_s) < 1)) (some true) (some (decide (8 < (goLen p_s))))) : Option (Bool)).bind fun t_1 => (cond t_1 (some false) ((loopC (impl_isWord_l1 p_s) 0).bind fun | .inl () => some true | .inr o => some o)))

noncomputable def impl_IsSchema_l2 (e_4 : impl_Variable) (l_9 : List impl_Variable) (t_11 : Int) : Option (Stp (Int) ((Unit) ⊕ (Stp (Int) ((Unit) ⊕ (Bool))))) :=
  (cond (decide (t_11 < (goLen l_9))) ((goAt l_9 t_11).bind fun e_12 => (cond (e_12.Name == e_4.Name) (some (.done (.inr (.done (.inr false))))) (some (.next (w64 (t_11 + 1)))))) (some (.done (.inl ()))))

noncomputable def impl_IsSchema_l1 (p_s : List impl_Variable) (t_3 : Int) : Option (Stp (Int) ((Unit) ⊕ (Bool))) :=
  (cond (decide (t_3 < (goLen p_s))) ((goAt p_s t_3).bind fun e_4 => ((((impl_isWord e_4.Name).bind fun t_7 => (cond (!t_7) (some true) (cond (decide (e_4.Levels < 2)) (some true) (some (decide (8 < e_4.Levels)))))) : Option (Bool)).bind fun t_8 => (cond t_8 (some (.done (.inr false))) ((goSub p_s 0 t_3).bind fun l_9 => ((loopC (impl_IsSchema_l2 e_4 l_9) 0).bind fun | .inl () => some (.next (w64 (t_3 + 1))) | .inr o => some o))))) (some (.done (.inl ()))))

noncomputable def impl_IsSchema (p_s : List impl_Variable) : Option (Bool) :=
  (((cond (decide ((goLen p_s) < 1)) (some true) (some (decide (6 < (goLen p_s))))) : Option (Bool)).bind fun t_2 => (cond t_2 (some false) ((loopC (impl_IsSchema_l1 p_s) 0).bind fun | .inl () => some true | .inr o => some o)))

noncomputable def impl_groupCount_l1 (p_g : impl_Grouping) : Int × Int × (Bool × Bool × Bool × Bool × Bool × Bool × Bool × Bool) → Option (Stp (Int × Int × (Bool × Bool × Bool × Bool × Bool × Bool × Bool × Bool)) ((Int × (Bool × Bool × Bool × Bool × Bool × Bool × Bool × Bool)) ⊕ (Int)))
  | (k_8, t_9, used_10) => (cond (decide (t_9 < (goLen p_g.Groups))) ((goAt p_g.Groups t_9).bind fun e_11 => (((cond (decide (e_11 < 0)) (some true) (some (decide (8 ≤ e_11)))) : Option (Bool)).bind fun t_13 => (cond t_13 (some (.done (.inr 0))) ((goIx 8 e_11).bind fun u_14 => ((some (goSet ([used_10.1, used_10.2.1, used_10.2.2.1, used_10.2.2.2.1, used_10.2.2.2.2.1, used_10.2.2.2.2.2.1, used_10.2.2.2.2.2.2.1, used_10.2.2.2.2.2.2.2] : List Bool) e_11 true)).bind fun l_15 => some (.next (max k_8 (w64 (e_11 + 1)), (w64 (t_9 + 1)), ((l_15.getD 0 (false : Bool)), (l_15.getD 1 (false : Bool)), (l_15.getD 2 (false : Bool)), (l_15.getD 3 (false : Bool)), (l_15.getD 4 (false : Bool)), (l_15.getD 5 (false : Bool)), (l_15.getD 6 (false : Bool)), (l_15.getD 7 (false : Bool)))))))))) (some (.done (.inl (k_8, used_10)))))

noncomputable def impl_groupCount_l2 (l_19 : List Bool) (t_20 : Int) : Option (Stp (Int) ((Unit) ⊕ (Int))) :=
  (cond (decide (t_20 < (goLen l_19))) ((goAt l_19 t_20).bind fun e_21 => (cond (!e_21) (some (.done (.inr 0))) (some (.next (w64 (t_20 + 1)))))) (some (.done (.inl ()))))

noncomputable def impl_groupCount (p_s : List impl_Variable) (p_g : impl_Grouping) : Option (Int) :=
  (((cond (decide (p_g.Var < 0)) (some true) (cond (decide ((goLen p_s) ≤ p_g.Var)) (some true) ((goAt p_s p_g.Var).bind fun e_4 => some ((goLen p_g.Groups) != e_4.Levels)))) : Option (Bool)).bind fun t_6 => (cond t_6 (some 0) ((loopC (impl_groupCount_l1 p_g) (0, 0, (false, false, false, false, false, false, false, false))).bind fun | .inl (k_16, used_17) => ((goSub ([used_17.1, used_17.2.1, used_17.2.2.1, used_17.2.2.2.1, used_17.2.2.2.2.1, used_17.2.2.2.2.2.1, used_17.2.2.2.2.2.2.1, used_17.2.2.2.2.2.2.2] : List Bool) 0 k_16).bind fun l_19 => ((loopC (impl_groupCount_l2 l_19) 0).bind fun | .inl () => (cond (decide (k_16 < 2)) (some 0) (some k_16)) | .inr o => some o)) | .inr o => some o)))

noncomputable def impl_areValues_l1 (p_s : List impl_Variable) (p_values : List Int) (t_3 : Int) : Option (Stp (Int) ((Unit) ⊕ (Bool))) :=
  (cond (decide (t_3 < (goLen p_values))) ((goAt p_values t_3).bind fun e_4 => (((cond (decide (e_4 < 0)) (some true) ((goAt p_s t_3).bind fun e_6 => some (decide (e_6.Levels ≤ e_4)))) : Option (Bool)).bind fun t_8 => (cond t_8 (some (.done (.inr false))) (some (.next (w64 (t_3 + 1))))))) (some (.done (.inl ()))))

noncomputable def impl_areValues (p_s : List impl_Variable) (p_values : List Int) : Option (Bool) :=
  (cond ((goLen p_values) != (goLen p_s)) (some false) ((loopC (impl_areValues_l1 p_s p_values) 0).bind fun | .inl () => some true | .inr o => some o))

noncomputable def impl_isRecord (p_s : List impl_Variable) (p_r : impl_Record) : Option (Bool) :=
  (((cond (decide (0 ≤ p_r.Area)) (cond (decide (p_r.Area ≤ 29)) (cond (decide (0 ≤ p_r.House)) (cond (decide (p_r.House ≤ 999)) ((impl_areValues p_s p_r.Values).bind fun t_4 => some t_4) (some false)) (some false)) (some false)) (some false)) : Option (Bool)).bind fun t_5 => some t_5)

noncomputable def impl_isData_l1 (p_s : List impl_Variable) (p_l : List impl_Record) (t_3 : Int) : Option (Stp (Int) ((Unit) ⊕ (Bool))) :=
  (cond (decide (t_3 < (goLen p_l))) ((goAt p_l t_3).bind fun e_4 => ((impl_isRecord p_s e_4).bind fun t_8 => (cond (!t_8) (some (.done (.inr false))) (some (.next (w64 (t_3 + 1))))))) (some (.done (.inl ()))))

noncomputable def impl_isData (p_s : List impl_Variable) (p_l : List impl_Record) : Option (Bool) :=
  (cond (decide (40 < (goLen p_l))) (some false) ((loopC (impl_isData_l1 p_s p_l) 0).bind fun | .inl () => some true | .inr o => some o))

noncomputable def slices_Clone_int_int (p_s : List Int) : Option ((List Int)) :=
  ((goApp 8 ([] : List Int) p_s).bind fun l_3 => some l_3)

noncomputable def impl_copyRecord (p_r : impl_Record) : Option (impl_Record) :=
  ((slices_Clone_int_int p_r.Values).bind fun t_4 => some (impl_Record.mk p_r.Area p_r.House t_4))

noncomputable def impl_copyRecords_l1 (p_l : List impl_Record) : (List impl_Record) × Int → Option (Stp ((List impl_Record) × Int) ((List impl_Record)))
  | (c_4, t_6) => (cond (decide (t_6 < (goLen p_l))) ((goAt p_l t_6).bind fun e_8 => ((impl_copyRecord e_8).bind fun t_12 => ((goAt c_4 t_6).bind fun e_15 => some (.next (goSet c_4 t_6 t_12, (w64 (t_6 + 1))))))) (some (.done c_4)))

noncomputable def impl_copyRecords (p_l : List impl_Record) : Option ((List impl_Record)) :=
  ((goMake 40 (goLen p_l) ((impl_Record.mk 0 0 ([] : List Int)) : impl_Record)).bind fun l_2 => ((loopC (impl_copyRecords_l1 p_l) (l_2, 0)).bind fun c_20 => some c_20))

noncomputable def impl_GroupData_l1 (p_g : impl_Grouping) (n_0 : Int) : (List impl_Record) × Int → Option (Stp ((List impl_Record) × Int) ((List impl_Record)))
  | (out_8, t_10) => (cond (decide (t_10 < n_0)) ((goAt out_8 t_10).bind fun e_12 => ((goAt e_12.Values p_g.Var).bind fun e_20 => ((goAt p_g.Groups e_20).bind fun e_22 => some (.next (goSet out_8 t_10 (impl_Record.mk e_12.Area e_12.House (goSet e_12.Values p_g.Var e_22)), (w64 (t_10 + 1))))))) (some (.done out_8)))

noncomputable def impl_GroupData (p_s : List impl_Variable) (p_g : impl_Grouping) (p_l : List impl_Record) : Option ((List impl_Record) × Bool) :=
  ((((impl_IsSchema p_s).bind fun t_5 => (cond (!t_5) (some true) ((impl_groupCount p_s p_g).bind fun t_6 => (cond (t_6 == 0) (some true) ((impl_isData p_s p_l).bind fun t_7 => some (!t_7)))))) : Option (Bool)).bind fun t_8 => (cond t_8 (some (([] : List impl_Record), false)) ((impl_copyRecords p_l).bind fun t_9 => ((loopC (impl_GroupData_l1 p_g (goLen t_9)) (t_9, 0)).bind fun out_31 => some (out_31, true)))))

noncomputable def spec_l1In (p_n : Int) (p_lo : Int) (p_hi : Int) : Option (Bool) :=
  (((cond (decide (p_lo ≤ p_n)) (some (decide (p_n ≤ p_hi))) (some false)) : Option (Bool)).bind fun t_1 => some t_1)

noncomputable def spec_sName_l1 (p_s : List UInt8) (i_1 : Int) : Option (Stp (Int) ((Unit) ⊕ (Bool))) :=
  (cond (decide (i_1 < (goLen p_s))) ((((goStrAt p_s i_1).bind fun t_2 => (cond (decide (t_2 < 97)) (some true) ((goStrAt p_s i_1).bind fun t_3 => some (decide (122 < t_3))))) : Option (Bool)).bind fun t_4 => (cond t_4 (some (.done (.inr false))) (some (.next (w64 (i_1 + 1)))))) (some (.done (.inl ()))))

noncomputable def spec_sName (p_s : List UInt8) : Option (Bool) :=
  ((loopC (spec_sName_l1 p_s) 0).bind fun | .inl () => ((spec_l1In (goLen p_s) 1 8).bind fun t_5 => some t_5) | .inr o => some o)

noncomputable def spec_sFind_l1 (p_s : List impl_Variable) (p_name : List UInt8) (t_2 : Int) : Option (Stp (Int) ((Unit) ⊕ (Int))) :=
  (cond (decide (t_2 < (goLen p_s))) ((goAt p_s t_2).bind fun e_3 => (cond (e_3.Name == p_name) (some (.done (.inr t_2))) (some (.next (w64 (t_2 + 1)))))) (some (.done (.inl ()))))

noncomputable def spec_sFind (p_s : List impl_Variable) (p_name : List UInt8) : Option (Int) :=
  ((loopC (spec_sFind_l1 p_s p_name) 0).bind fun | .inl () => some (-1) | .inr o => some o)

noncomputable def spec_sGood_l1 (p_s : List impl_Variable) (t_3 : Int) : Option (Stp (Int) ((Unit) ⊕ (Bool))) :=
  (cond (decide (t_3 < (goLen p_s))) ((goAt p_s t_3).bind fun e_4 => ((((spec_sName e_4.Name).bind fun t_7 => (cond (!t_7) (some true) ((spec_l1In e_4.Levels 2 8).bind fun t_8 => (cond (!t_8) (some true) ((goSub p_s 0 t_3).bind fun l_9 => ((spec_sFind l_9 e_4.Name).bind fun t_11 => some (decide (0 ≤ t_11)))))))) : Option (Bool)).bind fun t_12 => (cond t_12 (some (.done (.inr false))) (some (.next (w64 (t_3 + 1))))))) (some (.done (.inl ()))))

noncomputable def spec_sGood (p_s : List impl_Variable) : Option (Bool) :=
  ((spec_l1In (goLen p_s) 1 6).bind fun t_2 => (cond (!t_2) (some false) ((loopC (spec_sGood_l1 p_s) 0).bind fun | .inl () => some true | .inr o => some o)))

noncomputable def spec_sFits_l1 (p_s : List impl_Variable) (p_values : List Int) (t_3 : Int) : Option (Stp (Int) ((Unit) ⊕ (Bool))) :=
  (cond (decide (t_3 < (goLen p_s))) ((goAt p_s t_3).bind fun e_4 => ((goAt p_values t_3).bind fun e_7 => ((spec_l1In e_7 0 (w64 (e_4.Levels - 1))).bind fun t_9 => (cond (!t_9) (some (.done (.inr false))) (some (.next (w64 (t_3 + 1)))))))) (some (.done (.inl ()))))

noncomputable def spec_sFits (p_s : List impl_Variable) (p_values : List Int) : Option (Bool) :=
  (cond ((goLen p_values) != (goLen p_s)) (some false) ((loopC (spec_sFits_l1 p_s p_values) 0).bind fun | .inl () => some true | .inr o => some o))

noncomputable def spec_rGood (p_s : List impl_Variable) (p_r : impl_Record) : Option (Bool) :=
  ((((spec_l1In p_r.Area 0 29).bind fun t_4 => (cond t_4 ((spec_l1In p_r.House 0 999).bind fun t_5 => (cond t_5 ((spec_sFits p_s p_r.Values).bind fun t_6 => some t_6) (some false))) (some false))) : Option (Bool)).bind fun t_7 => some t_7)

noncomputable def spec_dGood_l1 (p_s : List impl_Variable) (p_l : List impl_Record) (t_3 : Int) : Option (Stp (Int) ((Unit) ⊕ (Bool))) :=
  (cond (decide (t_3 < (goLen p_l))) ((goAt p_l t_3).bind fun e_4 => ((spec_rGood p_s e_4).bind fun t_8 => (cond (!t_8) (some (.done (.inr false))) (some (.next (w64 (t_3 + 1))))))) (some (.done (.inl ()))))

noncomputable def spec_dGood (p_s : List impl_Variable) (p_l : List impl_Record) : Option (Bool) :=
  ((loopC (spec_dGood_l1 p_s p_l) 0).bind fun | .inl () => some (decide ((goLen p_l) ≤ 40)) | .inr o => some o)

noncomputable def spec_dInput (p_s : List impl_Variable) (p_l : List impl_Record) : Option (Bool) :=
  ((((spec_sGood p_s).bind fun t_3 => (cond t_3 ((spec_dGood p_s p_l).bind fun t_4 => some t_4) (some false))) : Option (Bool)).bind fun t_5 => some t_5)

noncomputable def spec_l1All_l1 (p_l : List Int) (p_lo : Int) (p_hi : Int) (t_2 : Int) : Option (Stp (Int) ((Unit) ⊕ (Bool))) :=
  (cond (decide (t_2 < (goLen p_l))) ((goAt p_l t_2).bind fun e_3 => ((spec_l1In e_3 p_lo p_hi).bind fun t_5 => (cond (!t_5) (some (.done (.inr false))) (some (.next (w64 (t_2 + 1))))))) (some (.done (.inl ()))))

noncomputable def spec_l1All (p_l : List Int) (p_lo : Int) (p_hi : Int) : Option (Bool) :=
  ((loopC (spec_l1All_l1 p_l p_lo p_hi) 0).bind fun | .inl () => some true | .inr o => some o)

noncomputable def spec_l1Put_l1 (p_l : List Int) (p_n : Int) (k_2 : Int) : Option (Stp (Int) (Int)) :=
  (((cond (decide (k_2 < (goLen p_l))) ((goAt p_l k_2).bind fun e_3 => some (decide (e_3 < p_n))) (some false)) : Option (Bool)).bind fun t_5 => (cond t_5 (some (.next (w64 (k_2 + 1)))) (some (.done k_2))))

noncomputable def spec_l1Put (p_l : List Int) (p_n : Int) : Option ((List Int)) :=
  ((loopC (spec_l1Put_l1 p_l p_n) 0).bind fun k_6 => (((cond (decide (k_6 < (goLen p_l))) ((goAt p_l k_6).bind fun e_7 => some (e_7 == p_n)) (some false)) : Option (Bool)).bind fun t_9 => (cond t_9 (some p_l) ((goSub p_l 0 k_6).bind fun l_11 => ((goApp 8 ([] : List Int) l_11).bind fun l_13 => ((goApp 8 l_13 ([p_n] : List Int)).bind fun l_16 => ((goSub p_l k_6 (goLen p_l)).bind fun l_18 => ((goApp 8 l_16 l_18).bind fun l_20 => some l_20))))))))

noncomputable def spec_sGroups_l1 (p_g : impl_Grouping) : (List Int) × Int → Option (Stp ((List Int) × Int) ((List Int)))
  | (met_9, t_11) => (cond (decide (t_11 < (goLen p_g.Groups))) ((goAt p_g.Groups t_11).bind fun e_13 => ((spec_l1Put met_9 e_13).bind fun t_15 => some (.next (t_15, (w64 (t_11 + 1)))))) (some (.done met_9)))

noncomputable def spec_sGroups (p_s : List impl_Variable) (p_g : impl_Grouping) : Option (Int) :=
  ((((spec_l1In p_g.Var 0 (w64 ((goLen p_s) - 1))).bind fun t_4 => (cond (!t_4) (some true) ((goAt p_s p_g.Var).bind fun e_5 => (cond ((goLen p_g.Groups) != e_5.Levels) (some true) ((spec_l1All p_g.Groups 0 7).bind fun t_7 => some (!t_7)))))) : Option (Bool)).bind fun t_8 => (cond t_8 (some 0) ((loopC (spec_sGroups_l1 p_g) (([] : List Int), 0)).bind fun met_18 => (((cond (decide ((goLen met_18) < 2)) (some true) ((goAt met_18 (w64 ((goLen met_18) - 1))).bind fun e_21 => some (e_21 != (w64 ((goLen met_18) - 1))))) : Option (Bool)).bind fun t_23 => (cond t_23 (some 0) (some (goLen met_18)))))))

noncomputable def spec_GroupData_l1 (p_g : impl_Grouping) (p_l : List impl_Record) : (List impl_Record) × Int → Option (Stp ((List impl_Record) × Int) ((List impl_Record)))
  | (out_8, t_10) => (cond (decide (t_10 < (goLen p_l))) ((goAt p_l t_10).bind fun e_12 => ((spec_rOwn e_12).bind fun t_16 => ((goAt t_16.Values p_g.Var).bind fun e_20 => ((goAt p_g.Groups e_20).bind fun e_22 => ((goAt t_16.Values p_g.Var).bind fun e_24 => ((goApp 40 out_8 ([(impl_Record.mk t_16.Area t_16.House (goSet t_16.Values p_g.Var e_22))] : List impl_Record)).bind fun l_29 => some (.next (l_29, (w64 (t_10 + 1)))))))))) (some (.done out_8)))

noncomputable def spec_GroupData (p_s : List impl_Variable) (p_g : impl_Grouping) (p_l : List impl_Record) : Option ((List impl_Record) × Bool) :=
  ((((spec_dInput p_s p_l).bind fun t_5 => (cond (!t_5) (some true) ((spec_sGroups p_s p_g).bind fun t_6 => some (t_6 == 0)))) : Option (Bool)).bind fun t_7 => (cond t_7 (some (([] : List impl_Record), false)) ((loopC (spec_GroupData_l1 p_g p_l) (([] : List impl_Record), 0)).bind fun out_31 => some (out_31, true))))

noncomputable def spec_DrawRemoveRecord (p_code : List (K .u8)) : Option ((List impl_Variable) × (List impl_Record) × Int) :=
  ((spec_l1Cur_anySchema (spec_l1Cur.mk p_code 0 (⟨0⟩ : K .u64))).bind fun t_4 => ((spec_l1Cur_anyData t_4.2 t_4.1).bind fun t_9 => ((spec_l1Cur_pick t_9.2 (w64 ((goLen t_9.1) + 2))).bind fun t_13 => some (t_4.1, t_9.1, (w64 (t_13.1 - 1))))))

noncomputable def slices_Delete_impl_Record_impl_Record (p_s : List impl_Record) (p_i : Int) (p_j : Int) : Option ((List impl_Record)) :=
  ((goSub3 p_s p_i p_j (goLen p_s)).bind fun l_2 => (cond (p_i == p_j) (some p_s) ((goSub p_s 0 p_i).bind fun l_4 => ((goSub p_s p_j (goLen p_s)).bind fun l_6 => ((goDel p_s p_i p_j).bind fun l_7 => ((goLe (goLen l_7) (goLen p_s)).bind fun u_9 => some l_7))))))

noncomputable def impl_RemoveRecord (p_s : List impl_Variable) (p_l : List impl_Record) (p_i : Int) : Option ((List impl_Record) × Bool) :=
  ((((impl_IsSchema p_s).bind fun t_3 => (cond (!t_3) (some true) ((impl_isData p_s p_l).bind fun t_4 => (cond (!t_4) (some true) (cond (decide (p_i < 0)) (some true) (some (decide ((goLen p_l) ≤ p_i)))))))) : Option (Bool)).bind fun t_5 => (cond t_5 (some (([] : List impl_Record), false)) ((impl_copyRecords p_l).bind fun t_6 => ((slices_Delete_impl_Record_impl_Record t_6 p_i (w64 (p_i + 1))).bind fun t_10 => some (t_10, true)))))

noncomputable def spec_dWithout_l1 (p_l : List impl_Record) (p_i : Int) : (List impl_Record) × Int → Option (Stp ((List impl_Record) × Int) ((List impl_Record)))
  | (out_2, t_4) => (cond (decide (t_4 < (goLen p_l))) ((goAt p_l t_4).bind fun e_6 => (((cond (t_4 != p_i) ((spec_rOwn e_6).bind fun t_10 => ((goApp 40 out_2 ([t_10] : List impl_Record)).bind fun l_15 => some l_15)) (some out_2)) : Option ((List impl_Record))).bind fun out_17 => some (.next (out_17, (w64 (t_4 + 1)))))) (some (.done out_2)))

noncomputable def spec_dWithout (p_l : List impl_Record) (p_i : Int) : Option ((List impl_Record)) :=
  ((loopC (spec_dWithout_l1 p_l p_i) (([] : List impl_Record), 0)).bind fun out_20 => some out_20)

noncomputable def spec_RemoveRecord (p_s : List impl_Variable) (p_l : List impl_Record) (p_i : Int) : Option ((List impl_Record) × Bool) :=
  ((((spec_dInput p_s p_l).bind fun t_3 => (cond (!t_3) (some true) ((spec_l1In p_i 0 (w64 ((goLen p_l) - 1))).bind fun t_4 => some (!t_4)))) : Option (Bool)).bind fun t_5 => (cond t_5 (some (([] : List impl_Record), false)) ((spec_dWithout p_l p_i).bind fun t_6 => some (t_6, true))))

noncomputable def spec_DrawIsRecord (p_code : List (K .u8)) : Option ((List impl_Variable) × impl_Record) :=
  ((spec_l1Cur_anySchema (spec_l1Cur.mk p_code 0 (⟨0⟩ : K .u64))).bind fun t_5 => ((spec_l1Cur_record t_5.2 t_5.1 ([0, 1, 29] : List Int)).bind fun t_10 => ((spec_l1Cur_pick t_10.2 8).bind fun t_15 => (((cond (t_15.1 == 0) ((spec_l1Cur_among t_15.2 ([-1, 30, 29] : List Int)).bind fun t_31 => some (impl_Record.mk t_31.1 t_10.1.House t_10.1.Values)) (((cond (t_15.1 == 1) ((spec_l1Cur_among t_15.2 ([-1, 999, 1000] : List Int)).bind fun t_25 => some (impl_Record.mk t_10.1.Area t_25.1 t_10.1.Values)) (((cond (t_15.1 == 2) ((spec_l1Cur_anyValues t_15.2 t_5.1).bind fun t_18 => some (impl_Record.mk t_10.1.Area t_10.1.House t_18.1)) (some t_10.1)) : Option (impl_Record)).bind fun r_21 => some r_21)) : Option (impl_Record)).bind fun r_27 => some r_27)) : Option (impl_Record)).bind fun r_33 => some (t_5.1, r_33)))))

noncomputable def spec_DrawReplaceValues (p_code : List (K .u8)) : Option ((List impl_Variable) × impl_Record × (List Int)) :=
  ((spec_DrawIsRecord p_code).bind fun t_4 => ((spec_l1Cur_anyValues (spec_l1Cur.mk p_code 0 (⟨0⟩ : K .u64)) t_4.1).bind fun t_10 => some (t_4.1, t_4.2, t_10.1)))

noncomputable def impl_ReplaceValues (p_s : List impl_Variable) (p_r : impl_Record) (p_values : List Int) : Option (impl_Record × Bool) :=
  ((((impl_IsSchema p_s).bind fun t_6 => (cond (!t_6) (some true) ((impl_isRecord p_s p_r).bind fun t_7 => (cond (!t_7) (some true) ((impl_areValues p_s p_values).bind fun t_8 => some (!t_8)))))) : Option (Bool)).bind fun t_9 => (cond t_9 (some ((impl_Record.mk 0 0 ([] : List Int)), false)) ((slices_Clone_int_int p_values).bind fun t_10 => some ((impl_Record.mk p_r.Area p_r.House t_10), true))))

noncomputable def spec_ReplaceValues (p_s : List impl_Variable) (p_r : impl_Record) (p_values : List Int) : Option (impl_Record × Bool) :=
  ((((spec_sGood p_s).bind fun t_6 => (cond (!t_6) (some true) ((spec_rGood p_s p_r).bind fun t_7 => (cond (!t_7) (some true) ((spec_sFits p_s p_values).bind fun t_8 => some (!t_8)))))) : Option (Bool)).bind fun t_9 => (cond t_9 (some ((impl_Record.mk 0 0 ([] : List Int)), false)) ((spec_l1Own p_values).bind fun t_10 => some ((impl_Record.mk p_r.Area p_r.House t_10), true))))

noncomputable def laws_qInts_l1 (p_a : List Int) (p_b : List Int) (t_3 : Int) : Option (Stp (Int) ((Unit) ⊕ (Bool))) :=
  (cond (decide (t_3 < (goLen p_a))) ((goAt p_a t_3).bind fun e_4 => ((goAt p_b t_3).bind fun e_6 => (cond (e_4 != e_6) (some (.done (.inr false))) (some (.next (w64 (t_3 + 1))))))) (some (.done (.inl ()))))

noncomputable def laws_qInts (p_a : List Int) (p_b : List Int) : Option (Bool) :=
  (cond ((goLen p_a) != (goLen p_b)) (some false) ((loopC (laws_qInts_l1 p_a p_b) 0).bind fun | .inl () => some true | .inr o => some o))

noncomputable def laws_qRecord (p_a : impl_Record) (p_b : impl_Record) : Option (Bool) :=
  (((cond (p_a.Area == p_b.Area) (cond (p_a.House == p_b.House) ((laws_qInts p_a.Values p_b.Values).bind fun t_5 => some t_5) (some false)) (some false)) : Option (Bool)).bind fun t_6 => some t_6)

noncomputable def laws_qData_l1 (p_a : List impl_Record) (p_b : List impl_Record) (t_3 : Int) : Option (Stp (Int) ((Unit) ⊕ (Bool))) :=
  (cond (decide (t_3 < (goLen p_a))) ((goAt p_a t_3).bind fun e_4 => ((goAt p_b t_3).bind fun e_7 => ((laws_qRecord e_4 e_7).bind fun t_10 => (cond (!t_10) (some (.done (.inr false))) (some (.next (w64 (t_3 + 1)))))))) (some (.done (.inl ()))))

noncomputable def laws_qData (p_a : List impl_Record) (p_b : List impl_Record) : Option (Bool) :=
  (cond ((goLen p_a) != (goLen p_b)) (some false) ((loopC (laws_qData_l1 p_a p_b) 0).bind fun | .inl () => some true | .inr o => some o))

noncomputable def slices_Clone_impl_Variable_impl_Variable (p_s : List impl_Variable) : Option ((List impl_Variable)) :=
  ((goApp 24 ([] : List impl_Variable) p_s).bind fun l_3 => some l_3)

noncomputable def impl_GroupSchema (p_s : List impl_Variable) (p_g : impl_Grouping) : Option ((List impl_Variable) × Bool) :=
  ((((impl_IsSchema p_s).bind fun t_4 => (cond (!t_4) (some true) ((impl_groupCount p_s p_g).bind fun t_5 => some (t_5 == 0)))) : Option (Bool)).bind fun t_6 => (cond t_6 (some (([] : List impl_Variable), false)) ((slices_Clone_impl_Variable_impl_Variable p_s).bind fun t_7 => ((impl_groupCount p_s p_g).bind fun t_10 => ((goAt t_7 p_g.Var).bind fun e_11 => some (goSet t_7 p_g.Var (impl_Variable.mk e_11.Name t_10), true))))))

noncomputable def impl_IsData (p_s : List impl_Variable) (p_l : List impl_Record) : Option (Bool × Bool) :=
  ((impl_IsSchema p_s).bind fun t_3 => (cond (!t_3) (some (false, false)) ((impl_isData p_s p_l).bind fun t_4 => some (t_4, true))))

noncomputable def laws_FnGroupedData (p_code : List (K .u8)) (p_more : List (K .u8)) : Option (Bool) :=
  (cond (decide (1048576 < (w64 ((goLen p_code) + (goLen p_more))))) (some true) ((spec_DrawGroupData p_code).bind fun t_3 => ((impl_GroupData t_3.1 t_3.2.1 t_3.2.2).bind fun t_11 => ((spec_GroupData t_3.1 t_3.2.1 t_3.2.2).bind fun t_14 => ((spec_DrawRemoveRecord p_more).bind fun t_17 => ((impl_RemoveRecord t_17.1 t_17.2.1 t_17.2.2).bind fun t_22 => ((spec_RemoveRecord t_17.1 t_17.2.1 t_17.2.2).bind fun t_25 => ((spec_DrawReplaceValues p_more).bind fun t_28 => ((impl_ReplaceValues t_28.1 t_28.2.1 t_28.2.2).bind fun t_34 => ((spec_ReplaceValues t_28.1 t_28.2.1 t_28.2.2).bind fun t_39 => (((cond (t_11.2 != t_14.2) (some true) ((laws_qData t_11.1 t_14.1).bind fun t_44 => (cond (!t_44) (some true) (cond (t_22.2 != t_25.2) (some true) ((laws_qData t_22.1 t_25.1).bind fun t_46 => (cond (!t_46) (some true) (cond (t_34.2 != t_39.2) (some true) ((laws_qRecord t_34.1 t_39.1).bind fun t_48 => some (!t_48))))))))) : Option (Bool)).bind fun t_50 => (cond t_50 (some false) (((cond t_22.2 (some ((goLen t_22.1) != (w64 ((goLen t_17.2.1) - 1)))) (some false)) : Option (Bool)).bind fun t_51 => (cond t_51 (some false) (cond (!t_11.2) (some true) ((impl_GroupSchema t_3.1 t_3.2.1).bind fun t_52 => ((impl_IsData t_52.1 t_11.1).bind fun t_55 => (((cond t_52.2 (cond t_55.2 (cond t_55.1 (some ((goLen t_11.1) == (goLen t_3.2.2))) (some false)) (some false)) (some false)) : Option (Bool)).bind fun t_57 => some t_57))))))))))))))))))

end Go.Gx.F
