/- The plain functions that the walks come to. -/
import Derived.Lib.ItoaNum
import Derived.Lib.Join
import Derived.Lib.IndexMore
import Derived.Test.YtebjhiflnemkhaaGreatDoorGy
namespace Go.Gx.F
open Go.Gx
set_option linter.all false

structure spec_l1Cur where
  code : List (K .u8)
  at_ : Int
  seed : K .u64

instance : Rep spec_l1Cur where
  wd := 3
  rd m cs x := ∃ s1 : Sl, cs = [s1.v, (.int .i64 x.at_), (.int .u64 x.seed.v)] ∧ Rd m s1 x.code
  mono hm h := by
    obtain ⟨s1, rfl, h1⟩ := h
    exact ⟨s1, rfl, h1.mono hm⟩
  len h := by obtain ⟨s1, rfl, _⟩ := h; rfl
  one h := by obtain ⟨s1, rfl, _⟩ := h; rfl

instance : Rng spec_l1Cur := ⟨fun x => Rng.ok x.code ∧ Rng.ok x.at_ ∧ Rng.ok x.seed⟩

structure impl_Variable where
  Name : List UInt8
  Levels : Int

instance : Rep impl_Variable where
  wd := 2
  rd m cs x := cs = [(strV x.Name), (.int .i64 x.Levels)]
  mono _ h := h
  len h := by subst h; rfl
  one h := by subst h; rfl

instance : Flat impl_Variable := ⟨fun h => h⟩

instance : Rng impl_Variable := ⟨fun x => Rng.ok x.Name ∧ Rng.ok x.Levels⟩

structure impl_Record where
  Area : Int
  House : Int
  Values : List Int

instance : Rep impl_Record where
  wd := 3
  rd m cs x := ∃ s1 : Sl, cs = [(.int .i64 x.Area), (.int .i64 x.House), s1.v] ∧ Rd m s1 x.Values
  mono hm h := by
    obtain ⟨s1, rfl, h1⟩ := h
    exact ⟨s1, rfl, h1.mono hm⟩
  len h := by obtain ⟨s1, rfl, _⟩ := h; rfl
  one h := by obtain ⟨s1, rfl, _⟩ := h; rfl

instance : Rng impl_Record := ⟨fun x => Rng.ok x.Area ∧ Rng.ok x.House ∧ Rng.ok x.Values⟩

structure impl_Household where
  Area : Int
  House : Int
  Members : List Int

instance : Rep impl_Household where
  wd := 3
  rd m cs x := ∃ s1 : Sl, cs = [(.int .i64 x.Area), (.int .i64 x.House), s1.v] ∧ Rd m s1 x.Members
  mono hm h := by
    obtain ⟨s1, rfl, h1⟩ := h
    exact ⟨s1, rfl, h1.mono hm⟩
  len h := by obtain ⟨s1, rfl, _⟩ := h; rfl
  one h := by obtain ⟨s1, rfl, _⟩ := h; rfl

instance : Rng impl_Household := ⟨fun x => Rng.ok x.Area ∧ Rng.ok x.House ∧ Rng.ok x.Members⟩

noncomputable def spec_l1Cur_next (p_c : spec_l1Cur) : Option (Int × spec_l1Cur) :=
  (((cond (decide (p_c.at_ < (goLen p_c.code))) ((goAt p_c.code p_c.at_).bind fun e_2 => some (w64 e_2.v)) (some 0)) : Option (Int)).bind fun b_4 => (cond (decide ((w64 (p_c.at_ + 1)) ≤ (goLen p_c.code))) (some (b_4, (spec_l1Cur.mk p_c.code (w64 (p_c.at_ + 1)) (⟨(IntKind.wrap .u64 ((IntKind.wrap .u64 ((IntKind.wrap .u64 (p_c.seed.v * 6364136223846793005)) + (IntKind.wrap .u64 b_4))) + 1442695040888963407))⟩ : K .u64)))) ((goShr .u64 (IntKind.wrap .u64 ((IntKind.wrap .u64 ((IntKind.wrap .u64 (p_c.seed.v * 6364136223846793005)) + (IntKind.wrap .u64 b_4))) + 1442695040888963407)) 40).bind fun t_5 => some ((w64 (goBits .and .u64 t_5 255)), (spec_l1Cur.mk p_c.code (w64 (p_c.at_ + 1)) (⟨(IntKind.wrap .u64 ((IntKind.wrap .u64 ((IntKind.wrap .u64 (p_c.seed.v * 6364136223846793005)) + (IntKind.wrap .u64 b_4))) + 1442695040888963407))⟩ : K .u64))))))

noncomputable def spec_l1Cur_pick (p_c : spec_l1Cur) (p_n : Int) : Option (Int × spec_l1Cur) :=
  (cond (decide (p_n ≤ 1)) (some (0, p_c)) ((spec_l1Cur_next p_c).bind fun t_3 => (((cond (decide (200 < p_n)) ((spec_l1Cur_next t_3.2).bind fun t_6 => some ((w64 ((w64 (t_3.1 * 256)) + t_6.1)), t_6.2)) (some (t_3.1, t_3.2))) : Option (Int × spec_l1Cur)).bind fun (x_8, p_c_9) => ((goRem x_8 p_n).bind fun t_11 => some (t_11, p_c_9)))))

noncomputable def spec_l1Cur_schema_l1  : (List impl_Variable) × Int × spec_l1Cur → Option (Stp ((List impl_Variable) × Int × spec_l1Cur) ((List impl_Variable) × spec_l1Cur))
  | (out_3, k_5, p_c_6) => ((spec_l1Cur_pick p_c_6 3).bind fun t_9 => (cond (decide (k_5 < (w64 (1 + t_9.1)))) ((((goAt ([([115, 101, 120] : List UInt8), ([97, 103, 101] : List UInt8), ([106, 111, 98] : List UInt8), ([104, 111, 109, 101] : List UInt8), ([115, 105, 122, 101] : List UInt8), ([108, 97, 110, 103] : List UInt8)] : List (List UInt8)) k_5).bind fun e_11 => ((spec_l1Cur_pick t_9.2 3).bind fun t_17 => ((goApp 24 out_3 ([(impl_Variable.mk e_11 (w64 (2 + t_17.1)))] : List impl_Variable)).bind fun l_20 => some (l_20, t_17.2)))) : Option ((List impl_Variable) × spec_l1Cur)).bind fun (out_22, p_c_24) => some (.next (out_22, (w64 (k_5 + 1)), p_c_24))) (some (.done (out_3, t_9.2)))))

noncomputable def spec_l1Cur_schema (p_c : spec_l1Cur) : Option ((List impl_Variable) × spec_l1Cur) :=
  ((loopC (spec_l1Cur_schema_l1) (([] : List impl_Variable), 0, p_c)).bind fun (out_26, p_c_28) => some (out_26, p_c_28))

noncomputable def spec_l1Cur_among (p_c : spec_l1Cur) (p_list : List Int) : Option (Int × spec_l1Cur) :=
  ((spec_l1Cur_pick p_c (goLen p_list)).bind fun t_4 => ((goAt p_list t_4.1).bind fun e_6 => some (e_6, t_4.2)))

noncomputable def spec_l1Cur_of (p_c : spec_l1Cur) (p_list : List (List UInt8)) : Option ((List UInt8) × spec_l1Cur) :=
  ((spec_l1Cur_pick p_c (goLen p_list)).bind fun t_4 => ((goAt p_list t_4.1).bind fun e_6 => some (e_6, t_4.2)))

noncomputable def spec_l1Cur_anySchema_l1  : (List impl_Variable) × spec_l1Cur → Option (Stp ((List impl_Variable) × spec_l1Cur) ((List impl_Variable) × spec_l1Cur))
  | (s_9, p_c_11) => ((spec_l1Cur_pick p_c_11 2).bind fun t_14 => (cond (decide ((goLen s_9) < (w64 (6 + t_14.1)))) ((goCat ([120] : List UInt8) (goBytes ([(⟨(IntKind.wrap .u8 (w64 (97 + (goLen s_9))))⟩ : K .u8)] : List (K .u8)))).bind fun t_17 => ((goApp 24 s_9 ([(impl_Variable.mk t_17 2)] : List impl_Variable)).bind fun l_19 => some (.next (l_19, t_14.2)))) (some (.done (s_9, t_14.2)))))

noncomputable def spec_l1Cur_anySchema (p_c : spec_l1Cur) : Option ((List impl_Variable) × spec_l1Cur) :=
  ((spec_l1Cur_schema p_c).bind fun t_3 => ((spec_l1Cur_pick t_3.2 24).bind fun t_7 => (((cond (t_7.1 == 0) ((spec_l1Cur_among t_7.2 ([1, 8, 9] : List Int)).bind fun t_42 => ((goAt t_3.1 0).bind fun e_44 => some (.inl (goSet t_3.1 0 (impl_Variable.mk e_44.Name t_42.1), t_42.2)))) (((cond (t_7.1 == 1) ((spec_l1Cur_of t_7.2 ([([] : List UInt8), ([65, 103, 101] : List UInt8), ([97, 98, 99, 100, 101, 102, 103, 104, 105] : List UInt8), ([97, 103, 101] : List UInt8), ([97, 98, 32, 99, 100] : List UInt8)] : List (List UInt8))).bind fun t_31 => ((goAt t_3.1 0).bind fun e_33 => some (.inl (goSet t_3.1 0 (impl_Variable.mk t_31.1 e_33.Levels), t_31.2)))) (cond (t_7.1 == 2) (some (.inr (.inr (([] : List impl_Variable), t_7.2)))) (((cond (t_7.1 == 3) ((loopC (spec_l1Cur_anySchema_l1) (t_3.1, t_7.2)).bind fun (s_21, p_c_23) => some (s_21, p_c_23)) (some (t_3.1, t_7.2))) : Option ((List impl_Variable) × spec_l1Cur)).bind fun (s_25, p_c_27) => some (.inl (s_25, p_c_27))))) : Option (((List impl_Variable) × spec_l1Cur) ⊕ (((List impl_Variable) × spec_l1Cur) ⊕ ((List impl_Variable) × spec_l1Cur)))).bind fun | .inl (s_36, p_c_38) => some (.inl (s_36, p_c_38)) | .inr o => some o)) : Option (((List impl_Variable) × spec_l1Cur) ⊕ ((List impl_Variable) × spec_l1Cur))).bind fun | .inl (s_47, p_c_49) => some (s_47, p_c_49) | .inr o => some o)))

noncomputable def spec_l1Cur_values_l1 (p_s : List impl_Variable) : (List Int) × Int × spec_l1Cur → Option (Stp ((List Int) × Int × spec_l1Cur) ((List Int) × spec_l1Cur))
  | (out_3, t_5, p_c_6) => (cond (decide (t_5 < (goLen p_s))) ((goAt p_s t_5).bind fun e_8 => ((spec_l1Cur_pick p_c_6 e_8.Levels).bind fun t_12 => ((goApp 8 out_3 ([t_12.1] : List Int)).bind fun l_15 => some (.next (l_15, (w64 (t_5 + 1)), t_12.2))))) (some (.done (out_3, p_c_6))))

noncomputable def spec_l1Cur_values (p_c : spec_l1Cur) (p_s : List impl_Variable) : Option ((List Int) × spec_l1Cur) :=
  ((loopC (spec_l1Cur_values_l1 p_s) (([] : List Int), 0, p_c)).bind fun (out_17, p_c_19) => some (out_17, p_c_19))

noncomputable def spec_l1Cur_record (p_c : spec_l1Cur) (p_s : List impl_Variable) (p_areas : List Int) : Option (impl_Record × spec_l1Cur) :=
  ((spec_l1Cur_among p_c p_areas).bind fun t_6 => ((spec_l1Cur_pick t_6.2 6).bind fun t_9 => ((spec_l1Cur_values t_9.2 p_s).bind fun t_12 => some ((impl_Record.mk t_6.1 t_9.1 t_12.1), t_12.2))))

noncomputable def spec_l1Cur_one (p_c : spec_l1Cur) (p_n : Int) : Option (Bool × spec_l1Cur) :=
  ((spec_l1Cur_pick p_c p_n).bind fun t_3 => some (t_3.1 == 0, t_3.2))

noncomputable def spec_l1Own (p_l : List Int) : Option ((List Int)) :=
  ((goApp 8 ([] : List Int) p_l).bind fun l_3 => some l_3)

noncomputable def spec_rOwn (p_r : impl_Record) : Option (impl_Record) :=
  ((spec_l1Own p_r.Values).bind fun t_4 => some (impl_Record.mk p_r.Area p_r.House t_4))

noncomputable def spec_l1Cur_data_l1 (p_s : List impl_Variable) (p_areas : List Int) : (List impl_Record) × Int × spec_l1Cur → Option (Stp ((List impl_Record) × Int × spec_l1Cur) ((List impl_Record) × spec_l1Cur))
  | (out_7, k_9, p_c_10) => (cond (decide (0 < k_9)) ((spec_l1Cur_record p_c_10 p_s p_areas).bind fun t_14 => ((goApp 40 out_7 ([t_14.1] : List impl_Record)).bind fun l_20 => ((spec_l1Cur_one t_14.2 4).bind fun t_23 => (((cond t_23.1 ((spec_rOwn t_14.1).bind fun t_25 => ((goApp 40 l_20 ([t_25] : List impl_Record)).bind fun l_30 => some l_30)) (some l_20)) : Option ((List impl_Record))).bind fun out_32 => some (.next (out_32, (w64 (k_9 - 1)), t_23.2)))))) (some (.done (out_7, p_c_10))))

noncomputable def spec_l1Cur_data (p_c : spec_l1Cur) (p_s : List impl_Variable) (p_areas : List Int) : Option ((List impl_Record) × spec_l1Cur) :=
  ((spec_l1Cur_pick p_c 12).bind fun t_5 => ((loopC (spec_l1Cur_data_l1 p_s p_areas) (([] : List impl_Record), t_5.1, t_5.2)).bind fun (out_35, p_c_37) => some (out_35, p_c_37)))

noncomputable def spec_l1Cur_anyValues (p_c : spec_l1Cur) (p_s : List impl_Variable) : Option ((List Int) × spec_l1Cur) :=
  ((spec_l1Cur_values p_c p_s).bind fun t_4 => (((cond (decide (0 < (goLen t_4.1))) ((spec_l1Cur_one t_4.2 16).bind fun t_8 => some (t_8.1, t_8.2)) (some (false, t_4.2))) : Option (Bool × spec_l1Cur)).bind fun (t_10, p_c_11) => (((cond t_10 ((spec_l1Cur_pick p_c_11 (goLen t_4.1)).bind fun t_20 => ((spec_l1Cur_among t_20.2 ([-1, 2, 8] : List Int)).bind fun t_24 => ((goAt t_4.1 t_20.1).bind fun e_26 => some (.inl (goSet t_4.1 t_20.1 t_24.1, t_24.2))))) ((spec_l1Cur_one p_c_11 24).bind fun t_14 => (cond t_14.1 ((goApp 8 t_4.1 ([0] : List Int)).bind fun l_17 => some (.inr (l_17, t_14.2))) (some (.inl (t_4.1, t_14.2)))))) : Option (((List Int) × spec_l1Cur) ⊕ ((List Int) × spec_l1Cur))).bind fun | .inl (out_29, p_c_31) => some (out_29, p_c_31) | .inr o => some o)))

noncomputable def spec_l1Cur_anyData_l1 (p_s : List impl_Variable) : (List impl_Record) × spec_l1Cur → Option (Stp ((List impl_Record) × spec_l1Cur) ((List impl_Record) × spec_l1Cur))
  | (out_12, p_c_14) => ((spec_l1Cur_pick p_c_14 2).bind fun t_18 => (cond (decide ((goLen out_12) < (w64 (40 + t_18.1)))) ((spec_l1Cur_values t_18.2 p_s).bind fun t_21 => ((goApp 40 out_12 ([(impl_Record.mk 0 0 t_21.1)] : List impl_Record)).bind fun l_26 => some (.next (l_26, t_21.2)))) (some (.done (out_12, t_18.2)))))

noncomputable def spec_l1Cur_anyData (p_c : spec_l1Cur) (p_s : List impl_Variable) : Option ((List impl_Record) × spec_l1Cur) :=
  ((spec_l1Cur_data p_c p_s ([0, 1, 2, 3] : List Int)).bind fun t_6 => ((spec_l1Cur_pick t_6.2 24).bind fun t_10 => (((cond (t_10.1 == 0) ((spec_l1Cur_among t_10.2 ([-1, 29, 30] : List Int)).bind fun t_40 => ((spec_l1Cur_among t_40.2 ([0, 999, 1000, -1] : List Int)).bind fun t_44 => ((spec_l1Cur_anyValues t_44.2 p_s).bind fun t_47 => ((goApp 40 t_6.1 ([(impl_Record.mk t_40.1 t_44.1 t_47.1)] : List impl_Record)).bind fun l_52 => some (l_52, t_47.2))))) (((cond (t_10.1 == 1) ((loopC (spec_l1Cur_anyData_l1 p_s) (t_6.1, t_10.2)).bind fun (out_28, p_c_30) => some (out_28, p_c_30)) (some (t_6.1, t_10.2))) : Option ((List impl_Record) × spec_l1Cur)).bind fun (out_33, p_c_35) => some (out_33, p_c_35))) : Option ((List impl_Record) × spec_l1Cur)).bind fun (out_54, p_c_56) => some (out_54, p_c_56))))

noncomputable def spec_DrawIsData (p_code : List (K .u8)) : Option ((List impl_Variable) × (List impl_Record)) :=
  ((spec_l1Cur_anySchema (spec_l1Cur.mk p_code 0 (⟨0⟩ : K .u64))).bind fun t_4 => ((spec_l1Cur_anyData t_4.2 t_4.1).bind fun t_9 => some (t_4.1, t_9.1)))

noncomputable def spec_DrawSortData (p_code : List (K .u8)) : Option ((List impl_Variable) × (List impl_Record)) :=
  ((spec_DrawIsData p_code).bind fun t_2 => some (t_2.1, t_2.2))

noncomputable def impl_isWord_l1 (p_s : List UInt8) (t_2 : Int) : Option (Stp (Int) ((Unit) ⊕ (Bool))) :=
  (cond (decide (t_2 < (goLen p_s))) ((((goStrAt p_s t_2).bind fun t_3 => (cond (decide (t_3 < 97)) (some true) ((goStrAt p_s t_2).bind fun t_4 => some (decide (122 < t_4))))) : Option (Bool)).bind fun t_5 => (cond t_5 (some (.done (.inr false))) (some (.next (w64 (t_2 + 1)))))) (some (.done (.inl ()))))

noncomputable def impl_isWord (p_s : List UInt8) : Option (Bool) :=
  (((cond (decide ((goLen p_s) < 1)) (some true) (some (decide (8 < (goLen p_s))))) : Option (Bool)).bind fun t_1 => (cond t_1 (some false) ((loopC (impl_isWord_l1 p_s) 0).bind fun | .inl () => some true | .inr o => some o)))

noncomputable def impl_IsSchema_l2 (e_4 : impl_Variable) (l_9 : List impl_Variable) (t_11 : Int) : Option (Stp (Int) ((Unit) ⊕ (Stp (Int) ((Unit) ⊕ (Bool))))) :=
  (cond (decide (t_11 < (goLen l_9))) ((goAt l_9 t_11).bind fun e_12 => (cond (e_12.Name == e_4.Name) (some (.done (.inr (.done (.inr false))))) (some (.next (w64 (t_11 + 1)))))) (some (.done (.inl ()))))

noncomputable def impl_IsSchema_l1 (p_s : List impl_Variable) (t_3 : Int) : Option (Stp (Int) ((Unit) ⊕ (Bool))) :=
  (cond (decide (t_3 < (goLen p_s))) ((goAt p_s t_3).bind fun e_4 => ((((impl_isWord e_4.Name).bind fun t_7 => (cond (!t_7) (some true) (cond (decide (e_4.Levels < 2)) (some true) (some (decide (8 < e_4.Levels)))))) : Option (Bool)).bind fun t_8 => (cond t_8 (some (.done (.inr false))) ((goSub p_s 0 t_3).bind fun l_9 => ((loopC (impl_IsSchema_l2 e_4 l_9) 0).bind fun | .inl () => some (.next (w64 (t_3 + 1))) | .inr o => some o))))) (some (.done (.inl ()))))

noncomputable def impl_IsSchema (p_s : List impl_Variable) : Option (Bool) :=
  (((cond (decide ((goLen p_s) < 1)) (some true) (some (decide (6 < (goLen p_s))))) : Option (Bool)).bind fun t_2 => (cond t_2 (some false) ((loopC (impl_IsSchema_l1 p_s) 0).bind fun | .inl () => some true | .inr o => some o)))

noncomputable def impl_areValues_l1 (p_s : List impl_Variable) (p_values : List Int) (t_3 : Int) : Option (Stp (Int) ((Unit) ⊕ (Bool))) :=
  (cond (decide (t_3 < (goLen p_values))) ((goAt p_values t_3).bind fun e_4 => (((cond (decide (e_4 < 0)) (some true) ((goAt p_s t_3).bind fun e_6 => some (decide (e_6.Levels ≤ e_4)))) : Option (Bool)).bind fun t_8 => (cond t_8 (some (.done (.inr false))) (some (.next (w64 (t_3 + 1))))))) (some (.done (.inl ()))))

noncomputable def impl_areValues (p_s : List impl_Variable) (p_values : List Int) : Option (Bool) :=
  (cond ((goLen p_values) != (goLen p_s)) (some false) ((loopC (impl_areValues_l1 p_s p_values) 0).bind fun | .inl () => some true | .inr o => some o))

noncomputable def impl_isRecord (p_s : List impl_Variable) (p_r : impl_Record) : Option (Bool) :=
  (((cond (decide (0 ≤ p_r.Area)) (cond (decide (p_r.Area ≤ 29)) (cond (decide (0 ≤ p_r.House)) (cond (decide (p_r.House ≤ 999)) ((impl_areValues p_s p_r.Values).bind fun t_4 => some t_4) (some false)) (some false)) (some false)) (some false)) : Option (Bool)).bind fun t_5 => some t_5)

noncomputable def impl_isData_l1 (p_s : List impl_Variable) (p_l : List impl_Record) (t_3 : Int) : Option (Stp (Int) ((Unit) ⊕ (Bool))) :=
  (cond (decide (t_3 < (goLen p_l))) ((goAt p_l t_3).bind fun e_4 => ((impl_isRecord p_s e_4).bind fun t_8 => (cond (!t_8) (some (.done (.inr false))) (some (.next (w64 (t_3 + 1))))))) (some (.done (.inl ()))))

noncomputable def impl_isData (p_s : List impl_Variable) (p_l : List impl_Record) : Option (Bool) :=
  (cond (decide (40 < (goLen p_l))) (some false) ((loopC (impl_isData_l1 p_s p_l) 0).bind fun | .inl () => some true | .inr o => some o))

noncomputable def slices_Clone_int_int (p_s : List Int) : Option ((List Int)) :=
  ((goApp 8 ([] : List Int) p_s).bind fun l_3 => some l_3)

noncomputable def impl_copyRecord (p_r : impl_Record) : Option (impl_Record) :=
  ((slices_Clone_int_int p_r.Values).bind fun t_4 => some (impl_Record.mk p_r.Area p_r.House t_4))

noncomputable def impl_copyRecords_l1 (p_l : List impl_Record) : (List impl_Record) × Int → Option (Stp ((List impl_Record) × Int) ((List impl_Record)))
  | (c_4, t_6) => (cond (decide (t_6 < (goLen p_l))) ((goAt p_l t_6).bind fun e_8 => ((impl_copyRecord e_8).bind fun t_12 => ((goAt c_4 t_6).bind fun e_15 => some (.next (goSet c_4 t_6 t_12, (w64 (t_6 + 1))))))) (some (.done c_4)))

noncomputable def impl_copyRecords (p_l : List impl_Record) : Option ((List impl_Record)) :=
  ((goMake 40 (goLen p_l) ((impl_Record.mk 0 0 ([] : List Int)) : impl_Record)).bind fun l_2 => ((loopC (impl_copyRecords_l1 p_l) (l_2, 0)).bind fun c_20 => some c_20))

noncomputable def cmp_isNaN_int (p_x : Int) : Option (Bool) :=
  some (p_x != p_x)

noncomputable def cmp_Compare_int (p_x : Int) (p_y : Int) : Option (Int) :=
  ((cmp_isNaN_int p_x).bind fun t_1 => ((cmp_isNaN_int p_y).bind fun t_2 => (cond t_1 (cond t_2 (some 0) (some (-1))) (cond t_2 (some 1) (cond (decide (p_x < p_y)) (some (-1)) (cond (decide (p_y < p_x)) (some 1) (some 0)))))))

noncomputable def slices_Compare_int_int_l1 (p_s1 : List Int) (p_s2 : List Int) (t_3 : Int) : Option (Stp (Int) ((Unit) ⊕ (Int))) :=
  (cond (decide (t_3 < (goLen p_s1))) ((goAt p_s1 t_3).bind fun e_4 => (cond (decide ((goLen p_s2) ≤ t_3)) (some (.done (.inr 1))) ((goAt p_s2 t_3).bind fun e_6 => ((cmp_Compare_int e_4 e_6).bind fun t_8 => (cond (t_8 != 0) (some (.done (.inr t_8))) (some (.next (w64 (t_3 + 1))))))))) (some (.done (.inl ()))))

noncomputable def slices_Compare_int_int (p_s1 : List Int) (p_s2 : List Int) : Option (Int) :=
  ((loopC (slices_Compare_int_int_l1 p_s1 p_s2) 0).bind fun | .inl () => (cond (decide ((goLen p_s1) < (goLen p_s2))) (some (-1)) (some 0)) | .inr o => some o)

noncomputable def impl_CompareRecords (p_a : impl_Record) (p_b : impl_Record) : Option (Int) :=
  ((cmp_Compare_int p_a.Area p_b.Area).bind fun t_5 => (cond (t_5 != 0) (some t_5) ((cmp_Compare_int p_a.House p_b.House).bind fun t_6 => (cond (t_6 != 0) (some t_6) ((slices_Compare_int_int p_a.Values p_b.Values).bind fun t_7 => some t_7)))))

/-- lists in lexicographic order -/
def cmpL : List Int → List Int → Int
  | [], [] => 0
  | [], _ :: _ => -1
  | _ :: _, [] => 1
  | x :: a, y :: b => if x < y then -1 else if y < x then 1 else cmpL a b

theorem cmpL_neg : ∀ a b, cmpL b a = -cmpL a b
  | [], [] => rfl
  | [], _ :: _ => rfl
  | _ :: _, [] => rfl
  | x :: a, y :: b => by
    unfold cmpL
    have := cmpL_neg a b
    split <;> split <;> (try omega) <;> (try split) <;> (try omega)

theorem cmpL_eq : ∀ {a b}, cmpL a b = 0 → a = b
  | [], [], _ => rfl
  | [], _ :: _, h => by simp [cmpL] at h
  | _ :: _, [], h => by simp [cmpL] at h
  | x :: a, y :: b, h => by
    unfold cmpL at h
    split at h
    · omega
    · split at h
      · omega
      · rw [cmpL_eq h, show x = y by omega]

theorem cmpL_self : ∀ a, cmpL a a = 0
  | [] => rfl
  | x :: a => by
    unfold cmpL
    rw [if_neg (by omega), if_neg (by omega)]
    exact cmpL_self a

theorem cmpL_trans : ∀ {a b c}, cmpL a b ≤ 0 → cmpL b c ≤ 0 → cmpL a c ≤ 0
  | [], b, [], _, _ => by simp [cmpL]
  | [], b, _ :: _, _, _ => by simp [cmpL]
  | x :: a, [], c, h, _ => by simp [cmpL] at h
  | x :: a, y :: b, [], _, h => by simp [cmpL] at h
  | x :: a, y :: b, z :: c, h1, h2 => by
    unfold cmpL at h1 h2 ⊢
    have := @cmpL_trans a b c
    split at h1 <;> split at h2 <;> (try split at h1) <;> (try split at h2) <;> (try omega) <;> (try split) <;> (try split) <;> (try omega)

def keyR (x : impl_Record) : List Int := x.Area :: x.House :: x.Values

theorem keyR_inj {x y : impl_Record} (h : keyR x = keyR y) : x = y := by
  cases x; cases y
  simp [keyR] at h
  simp [h]

def cmpRecords (x y : impl_Record) : Int := cmpL (keyR x) (keyR y)

theorem cmp_some (x y : Int) : cmp_Compare_int x y = some (if x < y then -1 else if y < x then 1 else 0) := by
  unfold cmp_Compare_int cmp_isNaN_int
  simp only [bne_self_eq_false, Option.bind_some, cond_false]
  by_cases h1 : x < y
  · simp [h1]
  · by_cases h2 : y < x <;> simp [h1, h2]

theorem compare_at (a b : List Int) (ha : a.length ≤ 9223372036854775807) : ∀ (n j : Nat), a.length - j = n → j ≤ a.length →
    ((loopC (slices_Compare_int_int_l1 a b) (j : Int)).bind fun | .inl () => (cond (decide ((goLen a) < (goLen b))) (some (-1)) (some 0)) | .inr o => some o) = some (cmpL (a.drop j) (b.drop j)) := by
  intro n
  induction n with
  | zero =>
    intro j h1 h2
    have hj : j = a.length := by omega
    rw [loopC_eq]
    unfold slices_Compare_int_int_l1
    have e : decide ((j : Int) < goLen a) = false := decide_eq_false (by unfold goLen; omega)
    rw [e]
    simp only [cond_false, Option.bind_some]
    have ea : a.drop j = [] := by rw [List.drop_eq_nil_iff]; omega
    rw [ea]
    cases hb : b.drop j with
    | nil =>
      have : b.length ≤ j := by rw [← List.drop_eq_nil_iff]; exact hb
      have e2 : decide (goLen a < goLen b) = false := decide_eq_false (by unfold goLen; omega)
      rw [e2]; rfl
    | cons y r =>
      have : ¬ b.length ≤ j := by rw [← List.drop_eq_nil_iff, hb]; simp
      have e2 : decide (goLen a < goLen b) = true := decide_eq_true (by unfold goLen; omega)
      rw [e2]; rfl
  | succ n ih =>
    intro j h1 h2
    have hj : j < a.length := by omega
    rw [loopC_eq]
    unfold slices_Compare_int_int_l1
    have e : decide ((j : Int) < goLen a) = true := decide_eq_true (by unfold goLen; omega)
    have ga : goAt a (j : Int) = some a[j] := by unfold goAt; rw [decide_eq_true (by omega)]; simp [hj]
    rw [e, ga, List.drop_eq_getElem_cons hj]
    simp only [cond_true, Option.bind_some]
    by_cases hb : j < b.length
    · have e2 : decide (goLen b ≤ (j : Int)) = false := decide_eq_false (by unfold goLen; omega)
      have gb : goAt b (j : Int) = some b[j] := by unfold goAt; rw [decide_eq_true (by omega)]; simp [hb]
      rw [e2, gb, List.drop_eq_getElem_cons hb]
      simp only [cond_false, Option.bind_some, cmp_some, cmpL]
      by_cases h3 : a[j] < b[j]
      · simp [h3]
      · by_cases h4 : b[j] < a[j]
        · simp [h3, h4]
        · have hw : w64 ((j : Int) + 1) = ((j + 1 : Nat) : Int) := by
            have h := Go.IntWalk.i64_in ((j : Int) + 1) ⟨by omega, by omega⟩
            exact h.trans (by omega)
          have := ih (j + 1) (by omega) (by omega)
          simp only [h3, h4, if_false, bne_self_eq_false, cond_false, Option.bind_some, hw]
          unfold slices_Compare_int_int_l1 at this
          simp only [cmp_some] at this
          exact this
    · have e2 : decide (goLen b ≤ (j : Int)) = true := decide_eq_true (by unfold goLen; omega)
      have eb : b.drop j = [] := by rw [List.drop_eq_nil_iff]; omega
      rw [e2, eb]
      rfl

theorem compare_eq (a b : List Int) (ha : a.length ≤ 9223372036854775807) : slices_Compare_int_int a b = some (cmpL a b) := by
  unfold slices_Compare_int_int
  exact compare_at a b ha _ 0 rfl (Nat.zero_le _)

theorem compareRecords_eq (x y : impl_Record) (ha : x.Values.length ≤ 9223372036854775807) : impl_CompareRecords x y = some (cmpRecords x y) := by
  unfold impl_CompareRecords cmpRecords keyR
  rw [cmp_some, cmp_some, compare_eq _ _ ha]
  simp only [Option.bind_some, cmpL]
  by_cases h1 : x.Area < y.Area
  · simp [h1]
  · by_cases h2 : y.Area < x.Area
    · simp [h1, h2]
    · by_cases h3 : x.House < y.House
      · simp [h1, h2, h3]
      · by_cases h4 : y.House < x.House <;> simp [h1, h2, h3, h4]

noncomputable def impl_sortedRecords (p_l : List impl_Record) : Option (List impl_Record) :=
  (impl_copyRecords p_l).bind fun c => cond (decide (c.length < 4611686018427387904)) (some (c.mergeSort fun x y => decide (cmpRecords x y ≤ 0))) none

noncomputable def impl_SortData (p_s : List impl_Variable) (p_l : List impl_Record) : Option ((List impl_Record) × Bool) :=
  ((((impl_IsSchema p_s).bind fun t_3 => (cond (!t_3) (some true) ((impl_isData p_s p_l).bind fun t_4 => some (!t_4)))) : Option (Bool)).bind fun t_5 => (cond t_5 (some (([] : List impl_Record), false)) ((impl_sortedRecords p_l).bind fun t_6 => some (t_6, true))))

noncomputable def spec_l1In (p_n : Int) (p_lo : Int) (p_hi : Int) : Option (Bool) :=
  (((cond (decide (p_lo ≤ p_n)) (some (decide (p_n ≤ p_hi))) (some false)) : Option (Bool)).bind fun t_1 => some t_1)

noncomputable def spec_sName_l1 (p_s : List UInt8) (i_1 : Int) : Option (Stp (Int) ((Unit) ⊕ (Bool))) :=
  (cond (decide (i_1 < (goLen p_s))) ((((goStrAt p_s i_1).bind fun t_2 => (cond (decide (t_2 < 97)) (some true) ((goStrAt p_s i_1).bind fun t_3 => some (decide (122 < t_3))))) : Option (Bool)).bind fun t_4 => (cond t_4 (some (.done (.inr false))) (some (.next (w64 (i_1 + 1)))))) (some (.done (.inl ()))))

noncomputable def spec_sName (p_s : List UInt8) : Option (Bool) :=
  ((loopC (spec_sName_l1 p_s) 0).bind fun | .inl () => ((spec_l1In (goLen p_s) 1 8).bind fun t_5 => some t_5) | .inr o => some o)

noncomputable def spec_sFind_l1 (p_s : List impl_Variable) (p_name : List UInt8) (t_2 : Int) : Option (Stp (Int) ((Unit) ⊕ (Int))) :=
  (cond (decide (t_2 < (goLen p_s))) ((goAt p_s t_2).bind fun e_3 => (cond (e_3.Name == p_name) (some (.done (.inr t_2))) (some (.next (w64 (t_2 + 1)))))) (some (.done (.inl ()))))

noncomputable def spec_sFind (p_s : List impl_Variable) (p_name : List UInt8) : Option (Int) :=
  ((loopC (spec_sFind_l1 p_s p_name) 0).bind fun | .inl () => some (-1) | .inr o => some o)

noncomputable def spec_sGood_l1 (p_s : List impl_Variable) (t_3 : Int) : Option (Stp (Int) ((Unit) ⊕ (Bool))) :=
  (cond (decide (t_3 < (goLen p_s))) ((goAt p_s t_3).bind fun e_4 => ((((spec_sName e_4.Name).bind fun t_7 => (cond (!t_7) (some true) ((spec_l1In e_4.Levels 2 8).bind fun t_8 => (cond (!t_8) (some true) ((goSub p_s 0 t_3).bind fun l_9 => ((spec_sFind l_9 e_4.Name).bind fun t_11 => some (decide (0 ≤ t_11)))))))) : Option (Bool)).bind fun t_12 => (cond t_12 (some (.done (.inr false))) (some (.next (w64 (t_3 + 1))))))) (some (.done (.inl ()))))

noncomputable def spec_sGood (p_s : List impl_Variable) : Option (Bool) :=
  ((spec_l1In (goLen p_s) 1 6).bind fun t_2 => (cond (!t_2) (some false) ((loopC (spec_sGood_l1 p_s) 0).bind fun | .inl () => some true | .inr o => some o)))

noncomputable def spec_sFits_l1 (p_s : List impl_Variable) (p_values : List Int) (t_3 : Int) : Option (Stp (Int) ((Unit) ⊕ (Bool))) :=
  (cond (decide (t_3 < (goLen p_s))) ((goAt p_s t_3).bind fun e_4 => ((goAt p_values t_3).bind fun e_7 => ((spec_l1In e_7 0 (w64 (e_4.Levels - 1))).bind fun t_9 => (cond (!t_9) (some (.done (.inr false))) (some (.next (w64 (t_3 + 1)))))))) (some (.done (.inl ()))))

noncomputable def spec_sFits (p_s : List impl_Variable) (p_values : List Int) : Option (Bool) :=
  (cond ((goLen p_values) != (goLen p_s)) (some false) ((loopC (spec_sFits_l1 p_s p_values) 0).bind fun | .inl () => some true | .inr o => some o))

noncomputable def spec_rGood (p_s : List impl_Variable) (p_r : impl_Record) : Option (Bool) :=
  ((((spec_l1In p_r.Area 0 29).bind fun t_4 => (cond t_4 ((spec_l1In p_r.House 0 999).bind fun t_5 => (cond t_5 ((spec_sFits p_s p_r.Values).bind fun t_6 => some t_6) (some false))) (some false))) : Option (Bool)).bind fun t_7 => some t_7)

noncomputable def spec_dGood_l1 (p_s : List impl_Variable) (p_l : List impl_Record) (t_3 : Int) : Option (Stp (Int) ((Unit) ⊕ (Bool))) :=
  (cond (decide (t_3 < (goLen p_l))) ((goAt p_l t_3).bind fun e_4 => ((spec_rGood p_s e_4).bind fun t_8 => (cond (!t_8) (some (.done (.inr false))) (some (.next (w64 (t_3 + 1))))))) (some (.done (.inl ()))))

noncomputable def spec_dGood (p_s : List impl_Variable) (p_l : List impl_Record) : Option (Bool) :=
  ((loopC (spec_dGood_l1 p_s p_l) 0).bind fun | .inl () => some (decide ((goLen p_l) ≤ 40)) | .inr o => some o)

noncomputable def spec_dInput (p_s : List impl_Variable) (p_l : List impl_Record) : Option (Bool) :=
  ((((spec_sGood p_s).bind fun t_3 => (cond t_3 ((spec_dGood p_s p_l).bind fun t_4 => some t_4) (some false))) : Option (Bool)).bind fun t_5 => some t_5)

noncomputable def spec_l1Sign (p_n : Int) : Option (Int) :=
  (cond (decide (p_n < 0)) (some (-1)) (cond (decide (0 < p_n)) (some 1) (some 0)))

noncomputable def spec_l1Less_l1 (p_a : List Int) (p_b : List Int) (i_3 : Int) : Option (Stp (Int) ((Unit) ⊕ (Int))) :=
  (((cond (decide (i_3 < (goLen p_a))) (some (decide (i_3 < (goLen p_b)))) (some false)) : Option (Bool)).bind fun t_4 => (cond t_4 ((goAt p_a i_3).bind fun e_5 => ((goAt p_b i_3).bind fun e_7 => (cond (e_5 != e_7) ((goAt p_a i_3).bind fun e_9 => ((goAt p_b i_3).bind fun e_11 => (cond (decide (e_9 < e_11)) (some (.done (.inr (-1)))) (some (.done (.inr 1)))))) (some (.next (w64 (i_3 + 1))))))) (some (.done (.inl ())))))

noncomputable def spec_l1Less (p_a : List Int) (p_b : List Int) : Option (Int) :=
  ((loopC (spec_l1Less_l1 p_a p_b) 0).bind fun | .inl () => ((spec_l1Sign (w64 ((goLen p_a) - (goLen p_b)))).bind fun t_13 => some t_13) | .inr o => some o)

noncomputable def spec_rCompare (p_a : impl_Record) (p_b : impl_Record) : Option (Int) :=
  ((spec_l1Less ([p_a.Area, p_a.House] : List Int) ([p_b.Area, p_b.House] : List Int)).bind fun t_7 => (cond (t_7 != 0) (some t_7) ((spec_l1Less p_a.Values p_b.Values).bind fun t_9 => some t_9)))

noncomputable def spec_dSorted_l2 (e_6 : impl_Record) : (List impl_Record) × Int → Option (Stp ((List impl_Record) × Int) ((List impl_Record) × Int))
  | (out_17, k_19) => (((cond (decide (0 < k_19)) ((goAt out_17 (w64 (k_19 - 1))).bind fun e_20 => ((spec_rCompare e_20 e_6).bind fun t_23 => some (decide (0 < t_23)))) (some false)) : Option (Bool)).bind fun t_24 => (cond t_24 ((goAt out_17 (w64 (k_19 - 1))).bind fun e_25 => ((goAt out_17 k_19).bind fun e_28 => some (.next (goSet out_17 k_19 e_25, (w64 (k_19 - 1)))))) (some (.done (out_17, k_19)))))

noncomputable def spec_dSorted_l1 (p_l : List impl_Record) : (List impl_Record) × Int → Option (Stp ((List impl_Record) × Int) ((List impl_Record)))
  | (out_2, t_4) => (cond (decide (t_4 < (goLen p_l))) ((goAt p_l t_4).bind fun e_6 => ((spec_rOwn e_6).bind fun t_10 => ((goApp 40 out_2 ([t_10] : List impl_Record)).bind fun l_15 => ((loopC (spec_dSorted_l2 e_6) (l_15, goLen out_2)).bind fun (out_32, k_34) => ((spec_rOwn e_6).bind fun t_35 => ((goAt out_32 k_34).bind fun e_38 => some (.next (goSet out_32 k_34 t_35, (w64 (t_4 + 1)))))))))) (some (.done out_2)))

noncomputable def spec_dSorted (p_l : List impl_Record) : Option ((List impl_Record)) :=
  ((loopC (spec_dSorted_l1 p_l) (([] : List impl_Record), 0)).bind fun out_43 => some out_43)

noncomputable def spec_SortData (p_s : List impl_Variable) (p_l : List impl_Record) : Option ((List impl_Record) × Bool) :=
  ((spec_dInput p_s p_l).bind fun t_3 => (cond (!t_3) (some (([] : List impl_Record), false)) ((spec_dSorted p_l).bind fun t_4 => some (t_4, true))))

noncomputable def spec_l1Num_B (rcf : Int → Option ((List UInt8))) (p_n : Int) : Option ((List UInt8)) :=
  (cond (decide (p_n < 10)) (some (goBytes ([(⟨(IntKind.wrap .u8 (w64 (48 + p_n)))⟩ : K .u8)] : List (K .u8)))) ((((goQuo .i64 p_n 10).bind fun t_1 => ((goRem p_n 10).bind fun t_4 => ((rcf t_1).bind fun t_9 => ((goCat t_9 (goBytes ([(⟨(IntKind.wrap .u8 (w64 (48 + t_4)))⟩ : K .u8)] : List (K .u8)))).bind fun t_11 => some t_11)))) : Option ((List UInt8))).bind fun t_12 => some t_12))

noncomputable def spec_l1Num_k : Nat → Int → Option ((List UInt8))
  | 0 => fun _ => none
  | k + 1 => spec_l1Num_B (spec_l1Num_k k)

noncomputable def spec_l1Num (p_n : Int) : Option ((List UInt8)) := recO (fun k => spec_l1Num_k k p_n)

noncomputable def spec_dText_l2 (e_4 : impl_Record) : (List UInt8) × Int → Option (Stp ((List UInt8) × Int) ((List UInt8)))
  | (out_16, t_17) => (cond (decide (t_17 < (goLen e_4.Values))) ((goAt e_4.Values t_17).bind fun e_18 => ((spec_l1Num e_18).bind fun t_20 => ((goCat out_16 t_20).bind fun t_21 => some (.next (t_21, (w64 (t_17 + 1))))))) (some (.done out_16)))

noncomputable def spec_dText_l1 (p_l : List impl_Record) : (List UInt8) × Int → Option (Stp ((List UInt8) × Int) ((List UInt8)))
  | (out_2, t_3) => (cond (decide (t_3 < (goLen p_l))) ((goAt p_l t_3).bind fun e_4 => ((spec_l1Num e_4.Area).bind fun t_10 => ((goCat t_10 ([32] : List UInt8)).bind fun t_11 => ((spec_l1Num e_4.House).bind fun t_12 => ((goCat t_11 t_12).bind fun t_13 => ((goCat t_13 ([32] : List UInt8)).bind fun t_14 => ((goCat out_2 t_14).bind fun t_15 => ((loopC (spec_dText_l2 e_4) (t_15, 0)).bind fun out_22 => ((goCat out_22 ([10] : List UInt8)).bind fun t_23 => some (.next (t_23, (w64 (t_3 + 1))))))))))))) (some (.done out_2)))

noncomputable def spec_dText (p_l : List impl_Record) : Option ((List UInt8)) :=
  ((loopC (spec_dText_l1 p_l) (([] : List UInt8), 0)).bind fun out_24 => some out_24)

noncomputable def spec_l1Cur_spoilt_l1 (p_with : List UInt8) : (List UInt8) × Int × spec_l1Cur → Option (Stp ((List UInt8) × Int × spec_l1Cur) ((List UInt8) × spec_l1Cur))
  | (t_5, n_6, p_c_7) => (((cond (decide (0 < n_6)) (some (decide (0 < (goLen t_5)))) (some false)) : Option (Bool)).bind fun t_9 => (cond t_9 ((spec_l1Cur_pick p_c_7 (goLen t_5)).bind fun t_11 => ((spec_l1Cur_pick t_11.2 (goLen p_with)).bind fun t_14 => ((goStrAt p_with t_14.1).bind fun t_16 => ((spec_l1Cur_pick t_14.2 3).bind fun t_19 => (((cond (t_19.1 == 0) ((goSub t_5 0 t_11.1).bind fun t_29 => ((goCat t_29 (goBytes ([(⟨t_16⟩ : K .u8)] : List (K .u8)))).bind fun t_30 => ((goSub t_5 t_11.1 (goLen t_5)).bind fun t_31 => ((goCat t_30 t_31).bind fun t_32 => some t_32)))) (((cond (t_19.1 == 1) ((goSub t_5 0 t_11.1).bind fun t_24 => ((goCat t_24 (goBytes ([(⟨t_16⟩ : K .u8)] : List (K .u8)))).bind fun t_25 => ((goSub t_5 (w64 (t_11.1 + 1)) (goLen t_5)).bind fun t_26 => ((goCat t_25 t_26).bind fun t_27 => some t_27)))) ((goSub t_5 0 t_11.1).bind fun t_21 => ((goSub t_5 (w64 (t_11.1 + 1)) (goLen t_5)).bind fun t_22 => ((goCat t_21 t_22).bind fun t_23 => some t_23)))) : Option ((List UInt8))).bind fun t_28 => some t_28)) : Option ((List UInt8))).bind fun t_33 => some (.next (t_33, (w64 (n_6 - 1)), t_19.2))))))) (some (.done (t_5, p_c_7)))))

noncomputable def spec_l1Cur_spoilt (p_c : spec_l1Cur) (p_t : List UInt8) (p_with : List UInt8) : Option ((List UInt8) × spec_l1Cur) :=
  ((spec_l1Cur_pick p_c 2).bind fun t_3 => ((loopC (spec_l1Cur_spoilt_l1 p_with) (p_t, (w64 (1 + t_3.1)), t_3.2)).bind fun (t_34, p_c_35) => some (t_34, p_c_35)))

noncomputable def spec_DrawParseData (p_code : List (K .u8)) : Option ((List impl_Variable) × (List UInt8)) :=
  ((spec_l1Cur_schema (spec_l1Cur.mk p_code 0 (⟨0⟩ : K .u64))).bind fun t_4 => ((spec_l1Cur_data t_4.2 t_4.1 ([0, 1, 12] : List Int)).bind fun t_11 => ((spec_dText t_11.1).bind fun t_14 => ((spec_l1Cur_one t_11.2 3).bind fun t_17 => (cond t_17.1 ((spec_l1Cur_spoilt t_17.2 t_14 ([48, 49, 50, 32, 10, 57] : List UInt8)).bind fun t_20 => some (t_4.1, t_20.1)) (some (t_4.1, t_14)))))))

noncomputable def impl_readNatural_l1 (p_s : List UInt8) (p_most : Int) : Int × Int → Option (Stp (Int × Int) ((Int × Int) ⊕ (Int × (List UInt8) × Bool)))
  | (n_1, i_2) => (((cond (decide (i_2 < (goLen p_s))) ((goStrAt p_s i_2).bind fun t_3 => (cond (decide (48 ≤ t_3)) ((goStrAt p_s i_2).bind fun t_4 => some (decide (t_4 ≤ 57))) (some false))) (some false)) : Option (Bool)).bind fun t_5 => (cond t_5 (((cond (decide (0 < i_2)) (some (n_1 == 0)) (some false)) : Option (Bool)).bind fun t_6 => (cond t_6 (some (.done (.inr (0, ([] : List UInt8), false)))) ((goStrAt p_s i_2).bind fun t_7 => (cond (decide (p_most < (w64 ((w64 (n_1 * 10)) + (w64 (IntKind.wrap .u8 (t_7 - 48))))))) (some (.done (.inr (0, ([] : List UInt8), false)))) (some (.next ((w64 ((w64 (n_1 * 10)) + (w64 (IntKind.wrap .u8 (t_7 - 48))))), (w64 (i_2 + 1))))))))) (some (.done (.inl (n_1, i_2))))))

noncomputable def impl_readNatural (p_s : List UInt8) (p_most : Int) : Option (Int × (List UInt8) × Bool) :=
  ((loopC (impl_readNatural_l1 p_s p_most) (0, 0)).bind fun | .inl (n_8, i_9) => (cond (i_9 == 0) (some (0, ([] : List UInt8), false)) ((goSub p_s i_9 (goLen p_s)).bind fun t_10 => some (n_8, t_10, true))) | .inr o => some o)

noncomputable def impl_wholeNatural (p_s : List UInt8) (p_most : Int) : Option (Int × Bool) :=
  ((impl_readNatural p_s p_most).bind fun t_1 => (((cond (!t_1.2.2) (some true) (some (t_1.2.1 != ([] : List UInt8)))) : Option (Bool)).bind fun t_2 => (cond t_2 (some (0, false)) (some (t_1.1, true)))))

noncomputable def strings_SplitN (p_s : List UInt8) (p_sep : List UInt8) (p_n : Int) : Option ((List (List UInt8))) :=
  cond (decide (p_s.length < 4294967281 ∧ p_sep.length = 1 ∧ 1 ≤ p_n ∧ p_n ≤ 9223372036854775807)) (some (splitBN (p_sep.headD 0) (min p_n.toNat (p_s.length + 1) - 1) p_s)) none

noncomputable def impl_parseRecord_l1 (t_3 : List (List UInt8)) (l_15 : List Int) : (List Int) × Int → Option (Stp ((List Int) × Int) ((List Int)))
  | (values_17, t_19) => (cond (decide (t_19 < (goLen l_15))) ((goAt t_3 2).bind fun e_20 => ((goStrAt e_20 t_19).bind fun t_22 => ((goAt values_17 t_19).bind fun e_23 => some (.next (goSet values_17 t_19 (w64 ((w64 t_22) - 48)), (w64 (t_19 + 1))))))) (some (.done values_17)))

noncomputable def impl_parseRecord (p_s : List impl_Variable) (p_line : List UInt8) : Option (impl_Record × Bool) :=
  ((strings_SplitN p_line ([32] : List UInt8) 3).bind fun t_3 => (((cond ((goLen t_3) != 3) (some true) ((goAt t_3 2).bind fun e_6 => some ((goLen e_6) != (goLen p_s)))) : Option (Bool)).bind fun t_8 => (cond t_8 (some ((impl_Record.mk 0 0 ([] : List Int)), false)) ((goAt t_3 0).bind fun e_9 => ((impl_wholeNatural e_9 29).bind fun t_11 => (cond (!t_11.2) (some ((impl_Record.mk 0 0 ([] : List Int)), false)) ((goAt t_3 1).bind fun e_12 => ((impl_wholeNatural e_12 999).bind fun t_14 => (cond (!t_14.2) (some ((impl_Record.mk 0 0 ([] : List Int)), false)) ((goMake 8 (goLen p_s) (0 : Int)).bind fun l_15 => ((loopC (impl_parseRecord_l1 t_3 l_15) (l_15, 0)).bind fun values_26 => ((impl_areValues p_s values_26).bind fun t_28 => (cond (!t_28) (some ((impl_Record.mk 0 0 ([] : List Int)), false)) (some ((impl_Record.mk t_11.1 t_14.1 values_26), true)))))))))))))))

noncomputable def strings_Cut (p_s : List UInt8) (p_sep : List UInt8) : Option ((List UInt8) × (List UInt8) × Bool) :=
  cond (decide (p_s.length < 4294967281)) (some (Go.Lib.cut p_s p_sep)) none

noncomputable def impl_ParseData_l1 (p_s : List impl_Variable) : (List UInt8) × (List impl_Record) → Option (Stp ((List UInt8) × (List impl_Record)) (((List impl_Record)) ⊕ ((List impl_Record) × Bool)))
  | (t_3, l_4) => (cond (t_3 != ([] : List UInt8)) ((strings_Cut t_3 ([10] : List UInt8)).bind fun t_7 => ((impl_parseRecord p_s t_7.1).bind fun t_8 => (((cond (!t_7.2.2) (some true) (cond (!t_8.2) (some true) (some ((goLen l_4) == 40)))) : Option (Bool)).bind fun t_12 => (cond t_12 (some (.done (.inr (([] : List impl_Record), false)))) ((goApp 40 l_4 ([t_8.1] : List impl_Record)).bind fun l_15 => some (.next (t_7.2.1, l_15))))))) (some (.done (.inl l_4))))

noncomputable def impl_ParseData (p_s : List impl_Variable) (p_t : List UInt8) : Option ((List impl_Record) × Bool) :=
  ((impl_IsSchema p_s).bind fun t_2 => (cond (!t_2) (some (([] : List impl_Record), false)) ((loopC (impl_ParseData_l1 p_s) (p_t, ([] : List impl_Record))).bind fun | .inl l_17 => some (l_17, true) | .inr o => some o)))

noncomputable def spec_l1Split_l1 (p_s : List UInt8) (p_b : K .u8) : (List (List UInt8)) × Int × Int → Option (Stp ((List (List UInt8)) × Int × Int) ((List (List UInt8)) × Int))
  | (out_1, from_3, i_4) => (cond (decide (i_4 < (goLen p_s))) ((goStrAt p_s i_4).bind fun t_5 => (((cond (t_5 == p_b.v) ((goSub p_s from_3 i_4).bind fun t_6 => ((goApp 16 out_1 ([t_6] : List (List UInt8))).bind fun l_8 => some (l_8, (w64 (i_4 + 1))))) (some (out_1, from_3))) : Option ((List (List UInt8)) × Int)).bind fun (out_10, from_12) => some (.next (out_10, from_12, (w64 (i_4 + 1)))))) (some (.done (out_1, from_3))))

noncomputable def spec_l1Split (p_s : List UInt8) (p_b : K .u8) : Option ((List (List UInt8))) :=
  ((loopC (spec_l1Split_l1 p_s p_b) (([] : List (List UInt8)), 0, 0)).bind fun (out_13, from_15) => ((goSub p_s from_15 (goLen p_s)).bind fun t_16 => ((goApp 16 out_13 ([t_16] : List (List UInt8))).bind fun l_18 => some l_18)))

noncomputable def spec_l1Read_l1 (p_s : List UInt8) : Int × Int → Option (Stp (Int × Int) ((Int) ⊕ (Int)))
  | (n_4, i_5) => (cond (decide (i_5 < (goLen p_s))) ((((goStrAt p_s i_5).bind fun t_6 => (cond (decide (t_6 < 48)) (some true) ((goStrAt p_s i_5).bind fun t_7 => some (decide (57 < t_7))))) : Option (Bool)).bind fun t_8 => (cond t_8 (some (.done (.inr (-1)))) ((goStrAt p_s i_5).bind fun t_9 => some (.next ((w64 ((w64 (10 * n_4)) + (w64 (IntKind.wrap .u8 (t_9 - 48))))), (w64 (i_5 + 1))))))) (some (.done (.inl n_4))))

noncomputable def spec_l1Read (p_s : List UInt8) : Option (Int) :=
  ((((spec_l1In (goLen p_s) 1 6).bind fun t_1 => (cond (!t_1) (some true) ((goStrAt p_s 0).bind fun t_2 => (cond (t_2 == 48) (some (decide (1 < (goLen p_s)))) (some false))))) : Option (Bool)).bind fun t_3 => (cond t_3 (some (-1)) ((loopC (spec_l1Read_l1 p_s) (0, 0)).bind fun | .inl n_10 => some n_10 | .inr o => some o)))

noncomputable def spec_ParseData_l2 (t_15 : List (List UInt8)) : Int × impl_Record → Option (Stp (Int × impl_Record) (impl_Record))
  | (i_30, r_31) => ((goAt t_15 2).bind fun e_33 => (cond (decide (i_30 < (goLen e_33))) ((goAt t_15 2).bind fun e_35 => ((goStrAt e_35 i_30).bind fun t_37 => ((goApp 8 r_31.Values ([(w64 ((w64 t_37) - 48))] : List Int)).bind fun l_39 => some (.next ((w64 (i_30 + 1)), (impl_Record.mk r_31.Area r_31.House l_39)))))) (some (.done r_31))))

noncomputable def spec_ParseData_l1 (l_7 : List (List UInt8)) : (List impl_Record) × Int → Option (Stp ((List impl_Record) × Int) (((List impl_Record)) ⊕ ((List impl_Record) × Bool)))
  | (out_9, t_11) => (cond (decide (t_11 < (goLen l_7))) ((goAt l_7 t_11).bind fun e_13 => ((spec_l1Split e_13 (⟨32⟩ : K .u8)).bind fun t_15 => (cond ((goLen t_15) != 3) (some (.done (.inr (([] : List impl_Record), false)))) ((((goAt t_15 0).bind fun e_18 => ((goAt t_15 1).bind fun e_22 => ((spec_l1Read e_18).bind fun t_26 => ((spec_l1Read e_22).bind fun t_27 => some (impl_Record.mk t_26 t_27 ([] : List Int)))))) : Option (impl_Record)).bind fun r_29 => ((loopC (spec_ParseData_l2 t_15) (0, (impl_Record.mk r_29.Area r_29.House ([] : List Int)))).bind fun r_41 => ((goApp 40 out_9 ([r_41] : List impl_Record)).bind fun l_45 => some (.next (l_45, (w64 (t_11 + 1)))))))))) (some (.done (.inl out_9))))

noncomputable def spec_ParseData (p_s : List impl_Variable) (p_t : List UInt8) : Option ((List impl_Record) × Bool) :=
  ((((spec_sGood p_s).bind fun t_2 => (cond (!t_2) (some true) (some (decide (1000 < (goLen p_t)))))) : Option (Bool)).bind fun t_3 => (cond t_3 (some (([] : List impl_Record), false)) ((spec_l1Split p_t (⟨10⟩ : K .u8)).bind fun t_4 => ((goSub t_4 0 (w64 ((goLen t_4) - 1))).bind fun l_7 => ((loopC (spec_ParseData_l1 l_7) (([] : List impl_Record), 0)).bind fun | .inl out_47 => ((((spec_dGood p_s out_47).bind fun t_50 => (cond (!t_50) (some true) ((spec_dText out_47).bind fun t_52 => some (t_52 != p_t)))) : Option (Bool)).bind fun t_54 => (cond t_54 (some (([] : List impl_Record), false)) (some (out_47, true)))) | .inr o => some o)))))

noncomputable def laws_qInts_l1 (p_a : List Int) (p_b : List Int) (t_3 : Int) : Option (Stp (Int) ((Unit) ⊕ (Bool))) :=
  (cond (decide (t_3 < (goLen p_a))) ((goAt p_a t_3).bind fun e_4 => ((goAt p_b t_3).bind fun e_6 => (cond (e_4 != e_6) (some (.done (.inr false))) (some (.next (w64 (t_3 + 1))))))) (some (.done (.inl ()))))

noncomputable def laws_qInts (p_a : List Int) (p_b : List Int) : Option (Bool) :=
  (cond ((goLen p_a) != (goLen p_b)) (some false) ((loopC (laws_qInts_l1 p_a p_b) 0).bind fun | .inl () => some true | .inr o => some o))

noncomputable def laws_qRecord (p_a : impl_Record) (p_b : impl_Record) : Option (Bool) :=
  (((cond (p_a.Area == p_b.Area) (cond (p_a.House == p_b.House) ((laws_qInts p_a.Values p_b.Values).bind fun t_5 => some t_5) (some false)) (some false)) : Option (Bool)).bind fun t_6 => some t_6)

noncomputable def laws_qData_l1 (p_a : List impl_Record) (p_b : List impl_Record) (t_3 : Int) : Option (Stp (Int) ((Unit) ⊕ (Bool))) :=
  (cond (decide (t_3 < (goLen p_a))) ((goAt p_a t_3).bind fun e_4 => ((goAt p_b t_3).bind fun e_7 => ((laws_qRecord e_4 e_7).bind fun t_10 => (cond (!t_10) (some (.done (.inr false))) (some (.next (w64 (t_3 + 1)))))))) (some (.done (.inl ()))))

noncomputable def laws_qData (p_a : List impl_Record) (p_b : List impl_Record) : Option (Bool) :=
  (cond ((goLen p_a) != (goLen p_b)) (some false) ((loopC (laws_qData_l1 p_a p_b) 0).bind fun | .inl () => some true | .inr o => some o))

noncomputable def strconv_Itoa (p_x : Int) : Option (List UInt8) :=
  cond (decide (-9223372036854775808 ≤ p_x ∧ p_x ≤ 9223372036854775807)) (some (Go.Lib.itoa p_x)) none

noncomputable def impl_DataText_l2 (e_8 : impl_Record) : (List UInt8) × Int → Option (Stp ((List UInt8) × Int) ((List UInt8)))
  | (b_18, t_19) => (cond (decide (t_19 < (goLen e_8.Values))) ((goAt e_8.Values t_19).bind fun e_20 => ((goBld b_18 ([UInt8.ofNat (IntKind.wrap .u8 (w64 (48 + e_20))).toNat] : List UInt8)).bind fun t_22 => some (.next (t_22, (w64 (t_19 + 1)))))) (some (.done b_18)))

noncomputable def impl_DataText_l1 (p_l : List impl_Record) : (List UInt8) × Int → Option (Stp ((List UInt8) × Int) ((List UInt8)))
  | (b_6, t_7) => (cond (decide (t_7 < (goLen p_l))) ((goAt p_l t_7).bind fun e_8 => ((strconv_Itoa e_8.Area).bind fun t_12 => ((goBld b_6 t_12).bind fun t_13 => ((goBld t_13 ([32] : List UInt8)).bind fun t_14 => ((strconv_Itoa e_8.House).bind fun t_15 => ((goBld t_14 t_15).bind fun t_16 => ((goBld t_16 ([32] : List UInt8)).bind fun t_17 => ((loopC (impl_DataText_l2 e_8) (t_17, 0)).bind fun b_23 => ((goBld b_23 ([10] : List UInt8)).bind fun t_24 => some (.next (t_24, (w64 (t_7 + 1))))))))))))) (some (.done b_6)))

noncomputable def impl_DataText (p_s : List impl_Variable) (p_l : List impl_Record) : Option ((List UInt8) × Bool) :=
  ((((impl_IsSchema p_s).bind fun t_3 => (cond (!t_3) (some true) ((impl_isData p_s p_l).bind fun t_4 => some (!t_4)))) : Option (Bool)).bind fun t_5 => (cond t_5 (some (([] : List UInt8), false)) ((loopC (impl_DataText_l1 p_l) (([] : List UInt8), 0)).bind fun b_25 => some (b_25, true))))

noncomputable def impl_SameData_1 (p_x : impl_Record) (p_y : impl_Record) : Option (Bool) :=
  ((impl_CompareRecords p_x p_y).bind fun t_5 => some (t_5 == 0))

noncomputable def slices_EqualFunc_impl_Record_impl_Record_impl_Record_impl_Record_of_impl_SameData_1_l1 (p_s1 : List impl_Record) (p_s2 : List impl_Record) (t_3 : Int) : Option (Stp (Int) ((Unit) ⊕ (Bool))) :=
  (cond (decide (t_3 < (goLen p_s1))) ((goAt p_s1 t_3).bind fun e_4 => ((goAt p_s2 t_3).bind fun e_8 => ((impl_SameData_1 e_4 e_8).bind fun t_12 => (cond (!t_12) (some (.done (.inr false))) (some (.next (w64 (t_3 + 1)))))))) (some (.done (.inl ()))))

noncomputable def slices_EqualFunc_impl_Record_impl_Record_impl_Record_impl_Record_of_impl_SameData_1 (p_s1 : List impl_Record) (p_s2 : List impl_Record) : Option (Bool) :=
  (cond ((goLen p_s1) != (goLen p_s2)) (some false) ((loopC (slices_EqualFunc_impl_Record_impl_Record_impl_Record_impl_Record_of_impl_SameData_1_l1 p_s1 p_s2) 0).bind fun | .inl () => some true | .inr o => some o))

noncomputable def impl_SameData (p_s : List impl_Variable) (p_a : List impl_Record) (p_b : List impl_Record) : Option (Bool × Bool) :=
  ((((impl_IsSchema p_s).bind fun t_4 => (cond (!t_4) (some true) ((impl_isData p_s p_a).bind fun t_5 => (cond (!t_5) (some true) ((impl_isData p_s p_b).bind fun t_6 => some (!t_6)))))) : Option (Bool)).bind fun t_7 => (cond t_7 (some (false, false)) ((impl_sortedRecords p_a).bind fun t_8 => ((impl_sortedRecords p_b).bind fun t_11 => ((slices_EqualFunc_impl_Record_impl_Record_impl_Record_impl_Record_of_impl_SameData_1 t_8 t_11).bind fun t_14 => some (t_14, true))))))

/-- a household's area and number -/
structure HKey where
  Area : Int
  House : Int

def hkey (h : impl_Household) : HKey := ⟨h.Area, h.House⟩

noncomputable def hkCmp (p_h : HKey) (p_r : impl_Record) : Option (Int) :=
  ((cmp_Compare_int p_h.Area p_r.Area).bind fun t_5 => (cond (t_5 != 0) (some t_5) ((cmp_Compare_int p_h.House p_r.House).bind fun t_6 => some t_6)))

noncomputable def hkSearch_l1 (p_x : List HKey) (p_target : impl_Record) : Int × Int → Option (Stp (Int × Int) (Int))
  | (i_4, j_5) => (cond (decide (i_4 < j_5)) ((goShr .u64 (IntKind.wrap .u64 (w64 (i_4 + j_5))) 1).bind fun t_6 => ((goAt p_x (w64 t_6)).bind fun e_7 => ((hkCmp e_7 p_target).bind fun t_10 => (((cond (decide (t_10 < 0)) (some ((w64 ((w64 t_6) + 1)), j_5)) (some (i_4, (w64 t_6)))) : Option (Int × Int)).bind fun (i_11, j_12) => some (.next (i_11, j_12)))))) (some (.done i_4)))

noncomputable def hkSearch (p_x : List HKey) (p_target : impl_Record) : Option (Int × Bool) :=
  ((loopC (hkSearch_l1 p_x p_target) (0, goLen p_x)).bind fun i_13 => (((cond (decide (i_13 < (goLen p_x))) ((goAt p_x i_13).bind fun e_14 => ((hkCmp e_14 p_target).bind fun t_17 => some (t_17 == 0))) (some false)) : Option (Bool)).bind fun t_18 => some (i_13, t_18)))

def goIns {α : Type} (b : Nat) (l : List α) (i : Int) (x : α) : Option (List α) := cond (decide (0 ≤ i ∧ i ≤ (l.length : Int) ∧ (l.length + 1) * b ≤ 140737488355328)) (some (l.take i.toNat ++ [x] ++ l.drop i.toNat)) none

noncomputable def impl_householdsOf_l1 (p_l : List impl_Record) : (List impl_Household) × Int → Option (Stp ((List impl_Household) × Int) (List impl_Household))
  | (hs, t) => cond (decide (t < goLen p_l)) ((goAt p_l t).bind fun e => ((hkSearch (hs.map hkey) e).bind fun p => (((cond (!p.2) (goIns 40 hs p.1 ⟨e.Area, e.House, []⟩) (some hs)) : Option (List impl_Household)).bind fun hs2 => ((goAt hs2 p.1).bind fun h => ((goApp 8 h.Members [t]).bind fun mem => some (.next (goSet hs2 p.1 ⟨h.Area, h.House, mem⟩, w64 (t + 1)))))))) (some (.done hs))

noncomputable def impl_householdsOf (p_l : List impl_Record) : Option (List impl_Household) :=
  (loopC (impl_householdsOf_l1 p_l) ([], 0)).bind fun hs => some hs

noncomputable def impl_HouseholdsOf (p_s : List impl_Variable) (p_l : List impl_Record) : Option ((List impl_Household) × Bool) :=
  ((((impl_IsSchema p_s).bind fun t_3 => (cond (!t_3) (some true) ((impl_isData p_s p_l).bind fun t_4 => some (!t_4)))) : Option (Bool)).bind fun t_5 => (cond t_5 (some (([] : List impl_Household), false)) ((impl_householdsOf p_l).bind fun t_6 => some (t_6, true))))

noncomputable def laws_FnData_l2 (t_3 : (List impl_Variable) × (List impl_Record)) (e_38 : impl_Household) : Int × Int → Option (Stp (Int × Int) ((Int) ⊕ (Stp (Int × Int) ((Int) ⊕ (Bool)))))
  | (n_42, t_43) => (cond (decide (t_43 < (goLen e_38.Members))) ((goAt e_38.Members t_43).bind fun e_44 => (((cond (decide (e_44 < 0)) (some true) (cond (decide ((goLen t_3.2) ≤ e_44)) (some true) ((goAt t_3.2 e_44).bind fun e_46 => (cond (e_46.Area != e_38.Area) (some true) ((goAt t_3.2 e_44).bind fun e_49 => some (e_49.House != e_38.House)))))) : Option (Bool)).bind fun t_52 => (cond t_52 (some (.done (.inr (.done (.inr false))))) (some (.next ((w64 (n_42 + 1)), (w64 (t_43 + 1)))))))) (some (.done (.inl n_42))))

noncomputable def laws_FnData_l1 (t_3 : (List impl_Variable) × (List impl_Record)) (t_33 : (List impl_Household) × Bool) : Int × Int → Option (Stp (Int × Int) ((Int) ⊕ (Bool)))
  | (n_36, t_37) => (cond (decide (t_37 < (goLen t_33.1))) ((goAt t_33.1 t_37).bind fun e_38 => ((loopC (laws_FnData_l2 t_3 e_38) (n_36, 0)).bind fun | .inl n_53 => some (.next (n_53, (w64 (t_37 + 1)))) | .inr o => some o)) (some (.done (.inl n_36))))

noncomputable def laws_FnData_l3 (t_8 : (List impl_Record) × Bool) (i_55 : Int) : Option (Stp (Int) ((Unit) ⊕ (Bool))) :=
  (cond (decide (i_55 < (goLen t_8.1))) ((goAt t_8.1 (w64 (i_55 - 1))).bind fun e_56 => ((goAt t_8.1 i_55).bind fun e_59 => ((impl_CompareRecords e_56 e_59).bind fun t_62 => (cond (decide (0 < t_62)) (some (.done (.inr false))) (some (.next (w64 (i_55 + 1)))))))) (some (.done (.inl ()))))

noncomputable def laws_FnData (p_code : List (K .u8)) (p_more : List (K .u8)) : Option (Bool) :=
  (cond (decide (1048576 < (w64 ((goLen p_code) + (goLen p_more))))) (some true) ((spec_DrawSortData p_code).bind fun t_3 => ((impl_SortData t_3.1 t_3.2).bind fun t_8 => ((spec_SortData t_3.1 t_3.2).bind fun t_11 => ((spec_DrawParseData p_more).bind fun t_14 => ((impl_ParseData t_14.1 t_14.2).bind fun t_17 => ((spec_ParseData t_14.1 t_14.2).bind fun t_20 => (((cond (t_8.2 != t_11.2) (some true) ((laws_qData t_8.1 t_11.1).bind fun t_23 => (cond (!t_23) (some true) (cond (t_17.2 != t_20.2) (some true) ((laws_qData t_17.1 t_20.1).bind fun t_25 => some (!t_25)))))) : Option (Bool)).bind fun t_27 => (cond t_27 (some false) (((cond t_17.2 ((impl_DataText t_14.1 t_17.1).bind fun t_28 => (((cond (!t_28.2) (some true) (some (t_28.1 != t_14.2))) : Option (Bool)).bind fun t_30 => (cond t_30 (some (.inr false)) (some (.inl ()))))) (some (.inl ()))) : Option ((Unit) ⊕ (Bool))).bind fun | .inl () => (cond (!t_8.2) (some true) ((impl_SameData t_3.1 t_3.2 t_8.1).bind fun t_31 => ((impl_HouseholdsOf t_3.1 t_3.2).bind fun t_33 => ((loopC (laws_FnData_l1 t_3 t_33) (0, 0)).bind fun | .inl n_54 => ((loopC (laws_FnData_l3 t_8) 1).bind fun | .inl () => (((cond t_31.2 (cond t_33.2 (cond t_31.1 (some (n_54 == (goLen t_3.2))) (some false)) (some false)) (some false)) : Option (Bool)).bind fun t_63 => some t_63) | .inr o => some o) | .inr o => some o)))) | .inr o => some o))))))))))

end Go.Gx.F
