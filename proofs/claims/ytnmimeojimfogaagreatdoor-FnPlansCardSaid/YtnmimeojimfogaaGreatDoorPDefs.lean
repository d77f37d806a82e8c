/- The plain functions that the walks come to. -/
import Derived.Lib.ItoaNum
import Derived.Lib.Join
import Derived.Lib.IndexMore
import Derived.Test.YtnmimeojimfogaaGreatDoorGy
namespace Go.Gx.F
open Go.Gx
set_option linter.all false

structure spec_l1Cur where
  code : List (K .u8)
  at_ : Int
  seed : K .u64

instance : Rep spec_l1Cur where
  wd := 3
  rd m cs x := ∃ s1 : Sl, cs = [s1.v, (.int .i64 x.at_), (.int .u64 x.seed.v)] ∧ Rd m s1 x.code
  mono hm h := by
    obtain ⟨s1, rfl, h1⟩ := h
    exact ⟨s1, rfl, h1.mono hm⟩
  len h := by obtain ⟨s1, rfl, _⟩ := h; rfl
  one h := by obtain ⟨s1, rfl, _⟩ := h; rfl

instance : Rng spec_l1Cur := ⟨fun x => Rng.ok x.code ∧ Rng.ok x.at_ ∧ Rng.ok x.seed⟩

structure impl_Geo where
  Parents : List Int

instance : Rep impl_Geo where
  wd := 1
  rd m cs x := ∃ s1 : Sl, cs = [s1.v] ∧ Rd m s1 x.Parents
  mono hm h := by
    obtain ⟨s1, rfl, h1⟩ := h
    exact ⟨s1, rfl, h1.mono hm⟩
  len h := by obtain ⟨s1, rfl, _⟩ := h; rfl
  one h := by obtain ⟨s1, rfl, _⟩ := h; rfl

instance : Rng impl_Geo := ⟨fun x => Rng.ok x.Parents⟩

structure impl_Variable where
  Name : List UInt8
  Levels : Int

instance : Rep impl_Variable where
  wd := 2
  rd m cs x := cs = [(strV x.Name), (.int .i64 x.Levels)]
  mono _ h := h
  len h := by subst h; rfl
  one h := by subst h; rfl

instance : Flat impl_Variable := ⟨fun h => h⟩

instance : Rng impl_Variable := ⟨fun x => Rng.ok x.Name ∧ Rng.ok x.Levels⟩

structure impl_Record where
  Area : Int
  House : Int
  Values : List Int

instance : Rep impl_Record where
  wd := 3
  rd m cs x := ∃ s1 : Sl, cs = [(.int .i64 x.Area), (.int .i64 x.House), s1.v] ∧ Rd m s1 x.Values
  mono hm h := by
    obtain ⟨s1, rfl, h1⟩ := h
    exact ⟨s1, rfl, h1.mono hm⟩
  len h := by obtain ⟨s1, rfl, _⟩ := h; rfl
  one h := by obtain ⟨s1, rfl, _⟩ := h; rfl

instance : Rng impl_Record := ⟨fun x => Rng.ok x.Area ∧ Rng.ok x.House ∧ Rng.ok x.Values⟩

structure impl_Table where
  Level : Int
  Vars : List Int
  Where : List Int
  Sum : Int

instance : Rep impl_Table where
  wd := 4
  rd m cs x := ∃ s1 s2 : Sl, cs = [(.int .i64 x.Level), s1.v, s2.v, (.int .i64 x.Sum)] ∧ Rd m s1 x.Vars ∧ Rd m s2 x.Where
  mono hm h := by
    obtain ⟨s1, s2, rfl, h1, h2⟩ := h
    exact ⟨s1, s2, rfl, h1.mono hm, h2.mono hm⟩
  len h := by obtain ⟨s1, s2, rfl, _⟩ := h; rfl
  one h := by obtain ⟨s1, s2, rfl, _⟩ := h; rfl

instance : Rng impl_Table := ⟨fun x => Rng.ok x.Level ∧ Rng.ok x.Vars ∧ Rng.ok x.Where ∧ Rng.ok x.Sum⟩

noncomputable def laws_big (p_code : List (K .u8)) (p_more : List (K .u8)) : Option (Bool) :=
  (((cond (decide (1048576 < (goLen p_code))) (some true) (some (decide ((w64 (1048576 - (goLen p_code))) < (goLen p_more))))) : Option (Bool)).bind fun t_3 => some t_3)

noncomputable def spec_l1Cur_next (p_c : spec_l1Cur) : Option (Int × spec_l1Cur) :=
  (((cond (decide (p_c.at_ < (goLen p_c.code))) ((goAt p_c.code p_c.at_).bind fun e_2 => some (w64 e_2.v)) (some 0)) : Option (Int)).bind fun b_4 => (cond (decide ((w64 (p_c.at_ + 1)) ≤ (goLen p_c.code))) (some (b_4, (spec_l1Cur.mk p_c.code (w64 (p_c.at_ + 1)) (⟨(IntKind.wrap .u64 ((IntKind.wrap .u64 ((IntKind.wrap .u64 (p_c.seed.v * 6364136223846793005)) + (IntKind.wrap .u64 b_4))) + 1442695040888963407))⟩ : K .u64)))) ((goShr .u64 (IntKind.wrap .u64 ((IntKind.wrap .u64 ((IntKind.wrap .u64 (p_c.seed.v * 6364136223846793005)) + (IntKind.wrap .u64 b_4))) + 1442695040888963407)) 40).bind fun t_5 => some ((w64 (goBits .and .u64 t_5 255)), (spec_l1Cur.mk p_c.code (w64 (p_c.at_ + 1)) (⟨(IntKind.wrap .u64 ((IntKind.wrap .u64 ((IntKind.wrap .u64 (p_c.seed.v * 6364136223846793005)) + (IntKind.wrap .u64 b_4))) + 1442695040888963407))⟩ : K .u64))))))

noncomputable def spec_l1Cur_pick (p_c : spec_l1Cur) (p_n : Int) : Option (Int × spec_l1Cur) :=
  (cond (decide (p_n ≤ 1)) (some (0, p_c)) ((spec_l1Cur_next p_c).bind fun t_3 => (((cond (decide (200 < p_n)) ((spec_l1Cur_next t_3.2).bind fun t_6 => some ((w64 ((w64 (t_3.1 * 256)) + t_6.1)), t_6.2)) (some (t_3.1, t_3.2))) : Option (Int × spec_l1Cur)).bind fun (x_8, p_c_9) => ((goRem x_8 p_n).bind fun t_11 => some (t_11, p_c_9)))))

noncomputable def spec_l1Own (p_l : List Int) : Option ((List Int)) :=
  ((goApp 8 ([] : List Int) p_l).bind fun l_3 => some l_3)

noncomputable def spec_l1Cur_geo_l1  : Int × spec_l1Cur × impl_Geo → Option (Stp (Int × spec_l1Cur × impl_Geo) (spec_l1Cur × impl_Geo))
  | (k_29, p_c_30, g_32) => (cond (decide (0 < k_29)) ((((spec_l1Cur_pick p_c_30 (goLen g_32.Parents)).bind fun t_35 => ((goApp 8 g_32.Parents ([t_35.1] : List Int)).bind fun l_38 => some (t_35.2, (impl_Geo.mk l_38)))) : Option (spec_l1Cur × impl_Geo)).bind fun (p_c_40, g_42) => some (.next ((w64 (k_29 - 1)), p_c_40, g_42))) (some (.done (p_c_30, g_32))))

noncomputable def spec_l1Cur_geo (p_c : spec_l1Cur) : Option (impl_Geo × spec_l1Cur) :=
  ((spec_l1Cur_pick p_c (goLen ([([-1, 0, 0] : List Int), ([-1, 0, 0, 1, 1, 2, 2] : List Int), ([-1, 0, 0, 0, 1, 1, 2, 3] : List Int), ([-1, 0, 0, 1, 1] : List Int), ([-1] : List Int), ([-1, 0, 1, 2] : List Int)] : List (List Int)))).bind fun t_17 => ((goAt ([([-1, 0, 0] : List Int), ([-1, 0, 0, 1, 1, 2, 2] : List Int), ([-1, 0, 0, 0, 1, 1, 2, 3] : List Int), ([-1, 0, 0, 1, 1] : List Int), ([-1] : List Int), ([-1, 0, 1, 2] : List Int)] : List (List Int)) t_17.1).bind fun e_19 => ((spec_l1Own e_19).bind fun t_22 => ((spec_l1Cur_pick t_17.2 4).bind fun t_27 => ((loopC (spec_l1Cur_geo_l1) (t_27.1, t_27.2, (impl_Geo.mk t_22))).bind fun (p_c_44, g_46) => some (g_46, p_c_44))))))

noncomputable def spec_l1Cur_schema_l1  : (List impl_Variable) × Int × spec_l1Cur → Option (Stp ((List impl_Variable) × Int × spec_l1Cur) ((List impl_Variable) × spec_l1Cur))
  | (out_3, k_5, p_c_6) => ((spec_l1Cur_pick p_c_6 3).bind fun t_9 => (cond (decide (k_5 < (w64 (1 + t_9.1)))) ((((goAt ([([115, 101, 120] : List UInt8), ([97, 103, 101] : List UInt8), ([106, 111, 98] : List UInt8), ([104, 111, 109, 101] : List UInt8), ([115, 105, 122, 101] : List UInt8), ([108, 97, 110, 103] : List UInt8)] : List (List UInt8)) k_5).bind fun e_11 => ((spec_l1Cur_pick t_9.2 3).bind fun t_17 => ((goApp 24 out_3 ([(impl_Variable.mk e_11 (w64 (2 + t_17.1)))] : List impl_Variable)).bind fun l_20 => some (l_20, t_17.2)))) : Option ((List impl_Variable) × spec_l1Cur)).bind fun (out_22, p_c_24) => some (.next (out_22, (w64 (k_5 + 1)), p_c_24))) (some (.done (out_3, t_9.2)))))

noncomputable def spec_l1Cur_schema (p_c : spec_l1Cur) : Option ((List impl_Variable) × spec_l1Cur) :=
  ((loopC (spec_l1Cur_schema_l1) (([] : List impl_Variable), 0, p_c)).bind fun (out_26, p_c_28) => some (out_26, p_c_28))

noncomputable def spec_gChildren_l1 (p_g : impl_Geo) (p_i : Int) : (List Int) × Int → Option (Stp ((List Int) × Int) ((List Int)))
  | (out_3, t_5) => (cond (decide (t_5 < (goLen p_g.Parents))) ((goAt p_g.Parents t_5).bind fun e_6 => (((cond (e_6 == p_i) ((goApp 8 out_3 ([t_5] : List Int)).bind fun l_9 => some l_9) (some out_3)) : Option ((List Int))).bind fun out_11 => some (.next (out_11, (w64 (t_5 + 1)))))) (some (.done out_3)))

noncomputable def spec_gChildren (p_g : impl_Geo) (p_i : Int) : Option ((List Int)) :=
  ((loopC (spec_gChildren_l1 p_g p_i) (([] : List Int), 0)).bind fun out_13 => some out_13)

noncomputable def spec_gLeaves_l1 (p_g : impl_Geo) : (List Int) × Int → Option (Stp ((List Int) × Int) ((List Int)))
  | (out_3, t_5) => (cond (decide (t_5 < (goLen p_g.Parents))) ((spec_gChildren p_g t_5).bind fun t_6 => (((cond ((goLen t_6) == 0) ((goApp 8 out_3 ([t_5] : List Int)).bind fun l_10 => some l_10) (some out_3)) : Option ((List Int))).bind fun out_12 => some (.next (out_12, (w64 (t_5 + 1)))))) (some (.done out_3)))

noncomputable def spec_gLeaves (p_g : impl_Geo) : Option ((List Int)) :=
  ((loopC (spec_gLeaves_l1 p_g) (([] : List Int), 0)).bind fun out_14 => some out_14)

noncomputable def spec_l1Cur_among (p_c : spec_l1Cur) (p_list : List Int) : Option (Int × spec_l1Cur) :=
  ((spec_l1Cur_pick p_c (goLen p_list)).bind fun t_4 => ((goAt p_list t_4.1).bind fun e_6 => some (e_6, t_4.2)))

noncomputable def spec_l1Cur_values_l1 (p_s : List impl_Variable) : (List Int) × Int × spec_l1Cur → Option (Stp ((List Int) × Int × spec_l1Cur) ((List Int) × spec_l1Cur))
  | (out_3, t_5, p_c_6) => (cond (decide (t_5 < (goLen p_s))) ((goAt p_s t_5).bind fun e_8 => ((spec_l1Cur_pick p_c_6 e_8.Levels).bind fun t_12 => ((goApp 8 out_3 ([t_12.1] : List Int)).bind fun l_15 => some (.next (l_15, (w64 (t_5 + 1)), t_12.2))))) (some (.done (out_3, p_c_6))))

noncomputable def spec_l1Cur_values (p_c : spec_l1Cur) (p_s : List impl_Variable) : Option ((List Int) × spec_l1Cur) :=
  ((loopC (spec_l1Cur_values_l1 p_s) (([] : List Int), 0, p_c)).bind fun (out_17, p_c_19) => some (out_17, p_c_19))

noncomputable def spec_l1Cur_record (p_c : spec_l1Cur) (p_s : List impl_Variable) (p_areas : List Int) : Option (impl_Record × spec_l1Cur) :=
  ((spec_l1Cur_among p_c p_areas).bind fun t_6 => ((spec_l1Cur_pick t_6.2 6).bind fun t_9 => ((spec_l1Cur_values t_9.2 p_s).bind fun t_12 => some ((impl_Record.mk t_6.1 t_9.1 t_12.1), t_12.2))))

noncomputable def spec_l1Cur_one (p_c : spec_l1Cur) (p_n : Int) : Option (Bool × spec_l1Cur) :=
  ((spec_l1Cur_pick p_c p_n).bind fun t_3 => some (t_3.1 == 0, t_3.2))

noncomputable def spec_rOwn (p_r : impl_Record) : Option (impl_Record) :=
  ((spec_l1Own p_r.Values).bind fun t_4 => some (impl_Record.mk p_r.Area p_r.House t_4))

noncomputable def spec_l1Cur_data_l1 (p_s : List impl_Variable) (p_areas : List Int) : (List impl_Record) × Int × spec_l1Cur → Option (Stp ((List impl_Record) × Int × spec_l1Cur) ((List impl_Record) × spec_l1Cur))
  | (out_7, k_9, p_c_10) => (cond (decide (0 < k_9)) ((spec_l1Cur_record p_c_10 p_s p_areas).bind fun t_14 => ((goApp 40 out_7 ([t_14.1] : List impl_Record)).bind fun l_20 => ((spec_l1Cur_one t_14.2 4).bind fun t_23 => (((cond t_23.1 ((spec_rOwn t_14.1).bind fun t_25 => ((goApp 40 l_20 ([t_25] : List impl_Record)).bind fun l_30 => some l_30)) (some l_20)) : Option ((List impl_Record))).bind fun out_32 => some (.next (out_32, (w64 (k_9 - 1)), t_23.2)))))) (some (.done (out_7, p_c_10))))

noncomputable def spec_l1Cur_data (p_c : spec_l1Cur) (p_s : List impl_Variable) (p_areas : List Int) : Option ((List impl_Record) × spec_l1Cur) :=
  ((spec_l1Cur_pick p_c 12).bind fun t_5 => ((loopC (spec_l1Cur_data_l1 p_s p_areas) (([] : List impl_Record), t_5.1, t_5.2)).bind fun (out_35, p_c_37) => some (out_35, p_c_37)))

noncomputable def spec_l1Cur_survey (p_c : spec_l1Cur) : Option (impl_Geo × (List impl_Variable) × (List impl_Record) × spec_l1Cur) :=
  ((spec_l1Cur_geo p_c).bind fun t_4 => ((spec_l1Cur_schema t_4.2).bind fun t_9 => ((spec_gLeaves t_4.1).bind fun t_12 => ((spec_l1Cur_data t_9.2 t_9.1 t_12).bind fun t_19 => some (t_4.1, t_9.1, t_19.1, t_19.2)))))

noncomputable def spec_l1Cur_anyGeo (p_c : spec_l1Cur) : Option (impl_Geo × spec_l1Cur) :=
  ((spec_l1Cur_geo p_c).bind fun t_4 => ((spec_l1Cur_pick t_4.2 24).bind fun t_9 => (((cond (t_9.1 == 0) ((goAt t_4.1.Parents 0).bind fun e_38 => some (.inl (t_9.2, (impl_Geo.mk (goSet t_4.1.Parents 0 0))))) (((cond (t_9.1 == 1) ((((spec_l1Cur_among t_9.2 ([-1, goLen t_4.1.Parents, 0] : List Int)).bind fun t_25 => ((goApp 8 t_4.1.Parents ([t_25.1] : List Int)).bind fun l_28 => some (t_25.2, (impl_Geo.mk l_28)))) : Option (spec_l1Cur × impl_Geo)).bind fun (p_c_30, g_32) => some (.inl (p_c_30, g_32))) (cond (t_9.1 == 2) (some (.inr (.inr ((impl_Geo.mk ([] : List Int)), t_9.2)))) (((cond (t_9.1 == 3) ((spec_l1Cur_pick t_9.2 2).bind fun t_15 => ((goAppZ 8 t_4.1.Parents (w64 ((w64 (30 - (goLen t_4.1.Parents))) + t_15.1)) (0 : Int)).bind fun l_17 => some (t_15.2, (impl_Geo.mk l_17)))) (some (t_9.2, t_4.1))) : Option (spec_l1Cur × impl_Geo)).bind fun (p_c_19, g_21) => some (.inl (p_c_19, g_21))))) : Option ((spec_l1Cur × impl_Geo) ⊕ ((spec_l1Cur × impl_Geo) ⊕ (impl_Geo × spec_l1Cur)))).bind fun | .inl (p_c_34, g_36) => some (.inl (p_c_34, g_36)) | .inr o => some o)) : Option ((spec_l1Cur × impl_Geo) ⊕ (impl_Geo × spec_l1Cur))).bind fun | .inl (p_c_41, g_43) => some (g_43, p_c_41) | .inr o => some o)))

noncomputable def spec_l1Cur_of (p_c : spec_l1Cur) (p_list : List (List UInt8)) : Option ((List UInt8) × spec_l1Cur) :=
  ((spec_l1Cur_pick p_c (goLen p_list)).bind fun t_4 => ((goAt p_list t_4.1).bind fun e_6 => some (e_6, t_4.2)))

noncomputable def spec_l1Cur_anySchema_l1  : (List impl_Variable) × spec_l1Cur → Option (Stp ((List impl_Variable) × spec_l1Cur) ((List impl_Variable) × spec_l1Cur))
  | (s_9, p_c_11) => ((spec_l1Cur_pick p_c_11 2).bind fun t_14 => (cond (decide ((goLen s_9) < (w64 (6 + t_14.1)))) ((goCat ([120] : List UInt8) (goBytes ([(⟨(IntKind.wrap .u8 (w64 (97 + (goLen s_9))))⟩ : K .u8)] : List (K .u8)))).bind fun t_17 => ((goApp 24 s_9 ([(impl_Variable.mk t_17 2)] : List impl_Variable)).bind fun l_19 => some (.next (l_19, t_14.2)))) (some (.done (s_9, t_14.2)))))

noncomputable def spec_l1Cur_anySchema (p_c : spec_l1Cur) : Option ((List impl_Variable) × spec_l1Cur) :=
  ((spec_l1Cur_schema p_c).bind fun t_3 => ((spec_l1Cur_pick t_3.2 24).bind fun t_7 => (((cond (t_7.1 == 0) ((spec_l1Cur_among t_7.2 ([1, 8, 9] : List Int)).bind fun t_42 => ((goAt t_3.1 0).bind fun e_44 => some (.inl (goSet t_3.1 0 (impl_Variable.mk e_44.Name t_42.1), t_42.2)))) (((cond (t_7.1 == 1) ((spec_l1Cur_of t_7.2 ([([] : List UInt8), ([65, 103, 101] : List UInt8), ([97, 98, 99, 100, 101, 102, 103, 104, 105] : List UInt8), ([97, 103, 101] : List UInt8), ([97, 98, 32, 99, 100] : List UInt8)] : List (List UInt8))).bind fun t_31 => ((goAt t_3.1 0).bind fun e_33 => some (.inl (goSet t_3.1 0 (impl_Variable.mk t_31.1 e_33.Levels), t_31.2)))) (cond (t_7.1 == 2) (some (.inr (.inr (([] : List impl_Variable), t_7.2)))) (((cond (t_7.1 == 3) ((loopC (spec_l1Cur_anySchema_l1) (t_3.1, t_7.2)).bind fun (s_21, p_c_23) => some (s_21, p_c_23)) (some (t_3.1, t_7.2))) : Option ((List impl_Variable) × spec_l1Cur)).bind fun (s_25, p_c_27) => some (.inl (s_25, p_c_27))))) : Option (((List impl_Variable) × spec_l1Cur) ⊕ (((List impl_Variable) × spec_l1Cur) ⊕ ((List impl_Variable) × spec_l1Cur)))).bind fun | .inl (s_36, p_c_38) => some (.inl (s_36, p_c_38)) | .inr o => some o)) : Option (((List impl_Variable) × spec_l1Cur) ⊕ ((List impl_Variable) × spec_l1Cur))).bind fun | .inl (s_47, p_c_49) => some (s_47, p_c_49) | .inr o => some o)))

noncomputable def spec_l1Cur_anySurvey (p_c : spec_l1Cur) : Option (impl_Geo × (List impl_Variable) × (List impl_Record) × spec_l1Cur) :=
  ((spec_l1Cur_survey p_c).bind fun t_4 => ((spec_l1Cur_pick t_4.2.2.2 20).bind fun t_11 => (cond (t_11.1 == 0) ((spec_l1Cur_anyGeo t_11.2).bind fun t_40 => some (t_40.1, t_4.2.1, t_4.2.2.1, t_40.2)) (cond (t_11.1 == 1) ((spec_l1Cur_anySchema t_11.2).bind fun t_35 => some (t_4.1, t_35.1, t_4.2.2.1, t_35.2)) (((cond (t_11.1 == 2) ((spec_l1Cur_among t_11.2 ([0, 29, -1] : List Int)).bind fun t_15 => ((spec_l1Cur_values t_15.2 t_4.2.1).bind fun t_18 => ((goApp 40 t_4.2.2.1 ([(impl_Record.mk t_15.1 0 t_18.1)] : List impl_Record)).bind fun l_23 => some (l_23, t_18.2)))) (some (t_4.2.2.1, t_11.2))) : Option ((List impl_Record) × spec_l1Cur)).bind fun (l_25, p_c_27) => some (t_4.1, t_4.2.1, l_25, p_c_27))))))

noncomputable def spec_l1Cur_where_l1 (p_s : List impl_Variable) : (List Int) × Int × spec_l1Cur → Option (Stp ((List Int) × Int × spec_l1Cur) ((List Int) × spec_l1Cur))
  | (out_3, t_5, p_c_6) => (cond (decide (t_5 < (goLen p_s))) ((goAt p_s t_5).bind fun e_8 => ((spec_l1Cur_one p_c_6 3).bind fun t_12 => (((cond t_12.1 ((goShl .i64 1 (IntKind.wrap .u64 e_8.Levels)).bind fun t_14 => ((spec_l1Cur_pick t_12.2 (w64 (t_14 - 1))).bind fun t_16 => some ((w64 (1 + t_16.1)), t_16.2))) (some (0, t_12.2))) : Option (Int × spec_l1Cur)).bind fun (set_18, p_c_19) => ((goApp 8 out_3 ([set_18] : List Int)).bind fun l_22 => some (.next (l_22, (w64 (t_5 + 1)), p_c_19)))))) (some (.done (out_3, p_c_6))))

noncomputable def spec_l1Cur_where (p_c : spec_l1Cur) (p_s : List impl_Variable) : Option ((List Int) × spec_l1Cur) :=
  ((loopC (spec_l1Cur_where_l1 p_s) (([] : List Int), 0, p_c)).bind fun (out_24, p_c_26) => some (out_24, p_c_26))

noncomputable def spec_l1In (p_n : Int) (p_lo : Int) (p_hi : Int) : Option (Bool) :=
  (((cond (decide (p_lo ≤ p_n)) (some (decide (p_n ≤ p_hi))) (some false)) : Option (Bool)).bind fun t_1 => some t_1)

noncomputable def spec_gGood_l1 (p_g : impl_Geo) (t_7 : Int) : Option (Stp (Int) ((Unit) ⊕ (Bool))) :=
  (cond (decide (t_7 < (goLen p_g.Parents))) ((goAt p_g.Parents t_7).bind fun e_8 => (((cond (decide (0 < t_7)) ((spec_l1In e_8 0 (w64 (t_7 - 1))).bind fun t_10 => some (!t_10)) (some false)) : Option (Bool)).bind fun t_11 => (cond t_11 (some (.done (.inr false))) (some (.next (w64 (t_7 + 1))))))) (some (.done (.inl ()))))

noncomputable def spec_gGood (p_g : impl_Geo) : Option (Bool) :=
  ((((spec_l1In (goLen p_g.Parents) 1 30).bind fun t_3 => (cond (!t_3) (some true) ((goAt p_g.Parents 0).bind fun e_4 => some (e_4 != (-1))))) : Option (Bool)).bind fun t_6 => (cond t_6 (some false) ((loopC (spec_gGood_l1 p_g) 0).bind fun | .inl () => some true | .inr o => some o)))

noncomputable def spec_gDepth_l1 (p_g : impl_Geo) : Int × Int → Option (Stp (Int × Int) (Int))
  | (i_3, n_4) => ((goAt p_g.Parents i_3).bind fun e_5 => (cond (decide (0 ≤ e_5)) ((goAt p_g.Parents i_3).bind fun e_7 => some (.next (e_7, (w64 (n_4 + 1))))) (some (.done n_4))))

noncomputable def spec_gDepth (p_g : impl_Geo) (p_i : Int) : Option (Int) :=
  ((loopC (spec_gDepth_l1 p_g) (p_i, 0)).bind fun n_9 => some n_9)

noncomputable def spec_gLevel_l1 (p_g : impl_Geo) (p_level : Int) : (List Int) × Int → Option (Stp ((List Int) × Int) ((List Int)))
  | (out_3, t_5) => (cond (decide (t_5 < (goLen p_g.Parents))) ((spec_gDepth p_g t_5).bind fun t_6 => (((cond (t_6 == p_level) ((goApp 8 out_3 ([t_5] : List Int)).bind fun l_8 => some l_8) (some out_3)) : Option ((List Int))).bind fun out_10 => some (.next (out_10, (w64 (t_5 + 1)))))) (some (.done out_3)))

noncomputable def spec_gLevel (p_g : impl_Geo) (p_level : Int) : Option ((List Int)) :=
  ((loopC (spec_gLevel_l1 p_g p_level) (([] : List Int), 0)).bind fun out_12 => some out_12)

noncomputable def spec_l1Cur_table_l1 (p_s : List impl_Variable) : Int × impl_Table × spec_l1Cur → Option (Stp (Int × impl_Table × spec_l1Cur) (impl_Table × spec_l1Cur))
  | (t_11, t_12, p_c_15) => (cond (decide (t_11 < (goLen p_s))) ((spec_l1Cur_one p_c_15 2).bind fun t_18 => (((cond t_18.1 ((goApp 8 t_12.Vars ([t_11] : List Int)).bind fun l_21 => some (impl_Table.mk t_12.Level l_21 t_12.Where t_12.Sum)) (some t_12)) : Option (impl_Table)).bind fun t_23 => some (.next ((w64 (t_11 + 1)), t_23, t_18.2)))) (some (.done (t_12, p_c_15))))

noncomputable def spec_l1Cur_table (p_c : spec_l1Cur) (p_g : impl_Geo) (p_s : List impl_Variable) : Option (impl_Table × spec_l1Cur) :=
  ((spec_l1Cur_where p_c p_s).bind fun t_7 => ((loopC (spec_l1Cur_table_l1 p_s) (0, (impl_Table.mk 0 ([] : List Int) t_7.1 (-1)), t_7.2)).bind fun (t_26, p_c_29) => ((spec_gGood p_g).bind fun t_31 => (((cond t_31 ((spec_l1Cur_pick p_c_29 3).bind fun t_33 => ((spec_gLevel p_g t_33.1).bind fun t_35 => (((cond ((goLen t_35) == 0) (some (impl_Table.mk 0 t_26.Vars t_26.Where t_26.Sum)) (some (impl_Table.mk t_33.1 t_26.Vars t_26.Where t_26.Sum))) : Option (impl_Table)).bind fun t_38 => some (t_38, t_33.2)))) (some (t_26, p_c_29))) : Option (impl_Table × spec_l1Cur)).bind fun (t_41, p_c_44) => ((((spec_l1Cur_one p_c_44 3).bind fun t_47 => (cond t_47.1 (some (decide (0 < (goLen p_s)), t_47.2)) (some (false, t_47.2)))) : Option (Bool × spec_l1Cur)).bind fun (t_49, p_c_50) => (((cond t_49 ((spec_l1Cur_pick p_c_50 (goLen p_s)).bind fun t_53 => some (t_53.2, (impl_Table.mk t_41.Level t_41.Vars t_41.Where t_53.1))) (some (p_c_50, t_41))) : Option (spec_l1Cur × impl_Table)).bind fun (p_c_55, t_57) => some (t_57, p_c_55)))))))

noncomputable def spec_l1Cur_anyTable (p_c : spec_l1Cur) (p_g : impl_Geo) (p_s : List impl_Variable) : Option (impl_Table × spec_l1Cur) :=
  ((spec_l1Cur_table p_c p_g p_s).bind fun t_7 => ((spec_l1Cur_pick t_7.2 24).bind fun t_13 => (((cond (t_13.1 == 0) ((spec_l1Cur_among t_13.2 ([-1, 3, 4] : List Int)).bind fun t_69 => some (t_69.2, (impl_Table.mk t_69.1 t_7.1.Vars t_7.1.Where t_7.1.Sum))) (((cond (t_13.1 == 1) ((((spec_l1Cur_among t_13.2 ([-1, 0, 6] : List Int)).bind fun t_52 => ((goApp 8 t_7.1.Vars ([t_52.1] : List Int)).bind fun l_55 => some (t_52.2, (impl_Table.mk t_7.1.Level l_55 t_7.1.Where t_7.1.Sum)))) : Option (spec_l1Cur × impl_Table)).bind fun (p_c_57, t_59) => some (p_c_57, t_59)) (((cond (t_13.1 == 2) ((goApp 8 t_7.1.Where ([0] : List Int)).bind fun l_42 => some (t_13.2, (impl_Table.mk t_7.1.Level t_7.1.Vars l_42 t_7.1.Sum))) (((cond (t_13.1 == 3) ((spec_l1Cur_among t_13.2 ([-2, 3, 6] : List Int)).bind fun t_34 => some (t_34.2, (impl_Table.mk t_7.1.Level t_7.1.Vars t_7.1.Where t_34.1))) (((cond (t_13.1 == 4) (((cond (decide (0 < (goLen t_7.1.Where))) ((spec_l1Cur_among t_13.2 ([-1, 255, 256] : List Int)).bind fun t_17 => ((goAt t_7.1.Where 0).bind fun e_19 => some (t_17.2, (impl_Table.mk t_7.1.Level t_7.1.Vars (goSet t_7.1.Where 0 t_17.1) t_7.1.Sum)))) (some (t_13.2, t_7.1))) : Option (spec_l1Cur × impl_Table)).bind fun (p_c_22, t_24) => some (p_c_22, t_24)) (some (t_13.2, t_7.1))) : Option (spec_l1Cur × impl_Table)).bind fun (p_c_27, t_29) => some (p_c_27, t_29))) : Option (spec_l1Cur × impl_Table)).bind fun (p_c_36, t_38) => some (p_c_36, t_38))) : Option (spec_l1Cur × impl_Table)).bind fun (p_c_44, t_46) => some (p_c_44, t_46))) : Option (spec_l1Cur × impl_Table)).bind fun (p_c_62, t_64) => some (p_c_62, t_64))) : Option (spec_l1Cur × impl_Table)).bind fun (p_c_71, t_73) => some (t_73, p_c_71))))

noncomputable def spec_l1Cur_tables_l1 (p_g : impl_Geo) (p_s : List impl_Variable) : (List impl_Table) × Int × spec_l1Cur → Option (Stp ((List impl_Table) × Int × spec_l1Cur) ((List impl_Table) × spec_l1Cur))
  | (l_8, k_10, p_c_11) => (cond (decide (0 < k_10)) ((spec_l1Cur_table p_c_11 p_g p_s).bind fun t_15 => ((goApp 64 l_8 ([t_15.1] : List impl_Table)).bind fun l_22 => some (.next (l_22, (w64 (k_10 - 1)), t_15.2)))) (some (.done (l_8, p_c_11))))

noncomputable def spec_l1Cur_tables_l2 (p_g : impl_Geo) (p_s : List impl_Variable) : (List impl_Table) × spec_l1Cur → Option (Stp ((List impl_Table) × spec_l1Cur) ((List impl_Table) × spec_l1Cur))
  | (l_47, p_c_49) => ((spec_l1Cur_pick p_c_49 2).bind fun t_53 => (cond (decide ((goLen l_47) < (w64 (20 + t_53.1)))) ((spec_l1Cur_table t_53.2 p_g p_s).bind fun t_56 => ((goApp 64 l_47 ([t_56.1] : List impl_Table)).bind fun l_63 => some (.next (l_63, t_56.2)))) (some (.done (l_47, t_53.2)))))

noncomputable def spec_l1Cur_tables (p_c : spec_l1Cur) (p_g : impl_Geo) (p_s : List impl_Variable) : Option ((List impl_Table) × spec_l1Cur) :=
  ((spec_l1Cur_pick p_c 5).bind fun t_6 => ((loopC (spec_l1Cur_tables_l1 p_g p_s) (([] : List impl_Table), t_6.1, t_6.2)).bind fun (l_24, p_c_26) => ((spec_l1Cur_pick p_c_26 30).bind fun t_30 => (((cond (t_30.1 == 0) ((loopC (spec_l1Cur_tables_l2 p_g p_s) (l_24, t_30.2)).bind fun (l_65, p_c_67) => some (l_65, p_c_67)) (((cond (t_30.1 == 1) ((spec_l1Cur_anyTable t_30.2 p_g p_s).bind fun t_33 => ((goApp 64 l_24 ([t_33.1] : List impl_Table)).bind fun l_40 => some (l_40, t_33.2))) (some (l_24, t_30.2))) : Option ((List impl_Table) × spec_l1Cur)).bind fun (l_42, p_c_44) => some (l_42, p_c_44))) : Option ((List impl_Table) × spec_l1Cur)).bind fun (l_70, p_c_72) => some (l_70, p_c_72)))))

noncomputable def spec_DrawPlanText (p_code : List (K .u8)) : Option (impl_Geo × (List impl_Variable) × (List impl_Table)) :=
  ((spec_l1Cur_anySurvey (spec_l1Cur.mk p_code 0 (⟨0⟩ : K .u64))).bind fun t_5 => ((spec_l1Cur_tables t_5.2.2.2 t_5.1 t_5.2.1).bind fun t_13 => some (t_5.1, t_5.2.1, t_13.1)))

noncomputable def impl_IsGeo_l1 (p_g : impl_Geo) (i_6 : Int) : Option (Stp (Int) ((Unit) ⊕ (Bool))) :=
  (cond (decide (i_6 < (goLen p_g.Parents))) ((((goAt p_g.Parents i_6).bind fun e_7 => (cond (decide (e_7 < 0)) (some true) ((goAt p_g.Parents i_6).bind fun e_9 => some (decide (i_6 ≤ e_9))))) : Option (Bool)).bind fun t_11 => (cond t_11 (some (.done (.inr false))) (some (.next (w64 (i_6 + 1)))))) (some (.done (.inl ()))))

noncomputable def impl_IsGeo (p_g : impl_Geo) : Option (Bool) :=
  (((cond (decide ((goLen p_g.Parents) < 1)) (some true) (cond (decide (30 < (goLen p_g.Parents))) (some true) ((goAt p_g.Parents 0).bind fun e_3 => some (e_3 != (-1))))) : Option (Bool)).bind fun t_5 => (cond t_5 (some false) ((loopC (impl_IsGeo_l1 p_g) 1).bind fun | .inl () => some true | .inr o => some o)))

noncomputable def impl_isWord_l1 (p_s : List UInt8) (t_2 : Int) : Option (Stp (Int) ((Unit) ⊕ (Bool))) :=
  (cond (decide (t_2 < (goLen p_s))) ((((goStrAt p_s t_2).bind fun t_3 => (cond (decide (t_3 < 97)) (some true) ((goStrAt p_s t_2).bind fun t_4 => some (decide (122 < t_4))))) : Option (Bool)).bind fun t_5 => (cond t_5 (some (.done (.inr false))) (some (.next (w64 (t_2 + 1)))))) (some (.done (.inl ()))))

noncomputable def impl_isWord (p_s : List UInt8) : Option (Bool) :=
  (((cond (decide ((goLen p_s) < 1)) (some true) (some (decide (8 < (goLen p_s))))) : Option (Bool)).bind fun t_1 => (cond t_1 (some false) ((loopC (impl_isWord_l1 p_s) 0).bind fun | .inl () => some true | .inr o => some o)))

noncomputable def impl_IsSchema_l2 (e_4 : impl_Variable) (l_9 : List impl_Variable) (t_11 : Int) : Option (Stp (Int) ((Unit) ⊕ (Stp (Int) ((Unit) ⊕ (Bool))))) :=
  (cond (decide (t_11 < (goLen l_9))) ((goAt l_9 t_11).bind fun e_12 => (cond (e_12.Name == e_4.Name) (some (.done (.inr (.done (.inr false))))) (some (.next (w64 (t_11 + 1)))))) (some (.done (.inl ()))))

noncomputable def impl_IsSchema_l1 (p_s : List impl_Variable) (t_3 : Int) : Option (Stp (Int) ((Unit) ⊕ (Bool))) :=
  (cond (decide (t_3 < (goLen p_s))) ((goAt p_s t_3).bind fun e_4 => ((((impl_isWord e_4.Name).bind fun t_7 => (cond (!t_7) (some true) (cond (decide (e_4.Levels < 2)) (some true) (some (decide (8 < e_4.Levels)))))) : Option (Bool)).bind fun t_8 => (cond t_8 (some (.done (.inr false))) ((goSub p_s 0 t_3).bind fun l_9 => ((loopC (impl_IsSchema_l2 e_4 l_9) 0).bind fun | .inl () => some (.next (w64 (t_3 + 1))) | .inr o => some o))))) (some (.done (.inl ()))))

noncomputable def impl_IsSchema (p_s : List impl_Variable) : Option (Bool) :=
  (((cond (decide ((goLen p_s) < 1)) (some true) (some (decide (6 < (goLen p_s))))) : Option (Bool)).bind fun t_2 => (cond t_2 (some false) ((loopC (impl_IsSchema_l1 p_s) 0).bind fun | .inl () => some true | .inr o => some o)))

noncomputable def impl_areVars_l1 (p_s : List impl_Variable) (p_vars : List Int) : Int × Int → Option (Stp (Int × Int) ((Unit) ⊕ (Bool)))
  | (last_3, t_4) => (cond (decide (t_4 < (goLen p_vars))) ((goAt p_vars t_4).bind fun e_5 => (((cond (decide (e_5 ≤ last_3)) (some true) (some (decide ((goLen p_s) ≤ e_5)))) : Option (Bool)).bind fun t_7 => (cond t_7 (some (.done (.inr false))) (some (.next (e_5, (w64 (t_4 + 1)))))))) (some (.done (.inl ()))))

noncomputable def impl_areVars (p_s : List impl_Variable) (p_vars : List Int) : Option (Bool) :=
  ((loopC (impl_areVars_l1 p_s p_vars) (-1, 0)).bind fun | .inl () => some true | .inr o => some o)

noncomputable def impl_fullSet (p_v : impl_Variable) : Option (Int) :=
  ((goShl .i64 1 p_v.Levels).bind fun t_2 => some (w64 (t_2 - 1)))

noncomputable def impl_isWhere_l1 (p_s : List impl_Variable) (p_where : List Int) (t_3 : Int) : Option (Stp (Int) ((Unit) ⊕ (Bool))) :=
  (cond (decide (t_3 < (goLen p_where))) ((goAt p_where t_3).bind fun e_4 => (((cond (decide (e_4 < 0)) (some true) ((goAt p_s t_3).bind fun e_6 => ((impl_fullSet e_6).bind fun t_8 => some (decide (t_8 < e_4))))) : Option (Bool)).bind fun t_9 => (cond t_9 (some (.done (.inr false))) (some (.next (w64 (t_3 + 1))))))) (some (.done (.inl ()))))

noncomputable def impl_isWhere (p_s : List impl_Variable) (p_where : List Int) : Option (Bool) :=
  (cond ((goLen p_where) != (goLen p_s)) (some false) ((loopC (impl_isWhere_l1 p_s p_where) 0).bind fun | .inl () => some true | .inr o => some o))

noncomputable def impl_depthOf_l1 (p_g : impl_Geo) : Int × Int → Option (Stp (Int × Int) (Int))
  | (i_3, d_4) => (cond (decide (0 < i_3)) ((goAt p_g.Parents i_3).bind fun e_5 => some (.next (e_5, (w64 (d_4 + 1))))) (some (.done d_4)))

noncomputable def impl_depthOf (p_g : impl_Geo) (p_i : Int) : Option (Int) :=
  ((loopC (impl_depthOf_l1 p_g) (p_i, 0)).bind fun d_7 => some d_7)

noncomputable def impl_areasAt_l1 (p_g : impl_Geo) (p_level : Int) : (List Int) × Int → Option (Stp ((List Int) × Int) ((List Int)))
  | (list_3, t_5) => (cond (decide (t_5 < (goLen p_g.Parents))) ((impl_depthOf p_g t_5).bind fun t_6 => (((cond (t_6 == p_level) ((goApp 8 list_3 ([t_5] : List Int)).bind fun l_8 => some l_8) (some list_3)) : Option ((List Int))).bind fun list_10 => some (.next (list_10, (w64 (t_5 + 1)))))) (some (.done list_3)))

noncomputable def impl_areasAt (p_g : impl_Geo) (p_level : Int) : Option ((List Int)) :=
  ((loopC (impl_areasAt_l1 p_g p_level) (([] : List Int), 0)).bind fun list_12 => some list_12)

noncomputable def impl_crossed_l1 (p_s : List impl_Variable) (p_t : impl_Table) : (List impl_Variable) × Int → Option (Stp ((List impl_Variable) × Int) ((List impl_Variable)))
  | (out_7, t_9) => (cond (decide (t_9 < (goLen p_t.Vars))) ((goAt p_t.Vars t_9).bind fun e_10 => ((goAt p_s e_10).bind fun e_12 => ((goAt out_7 t_9).bind fun e_14 => some (.next (goSet out_7 t_9 e_12, (w64 (t_9 + 1))))))) (some (.done out_7)))

noncomputable def impl_crossed (p_s : List impl_Variable) (p_t : impl_Table) : Option ((List impl_Variable)) :=
  ((goMake 24 (goLen p_t.Vars) ((impl_Variable.mk ([] : List UInt8) 0) : impl_Variable)).bind fun l_5 => ((loopC (impl_crossed_l1 p_s p_t) (l_5, 0)).bind fun out_17 => some out_17))

noncomputable def impl_combinations_l1 (p_s : List impl_Variable) : Int × Int → Option (Stp (Int × Int) (Int))
  | (n_2, t_3) => (cond (decide (t_3 < (goLen p_s))) ((goAt p_s t_3).bind fun e_4 => some (.next ((w64 (n_2 * e_4.Levels)), (w64 (t_3 + 1))))) (some (.done n_2)))

noncomputable def impl_combinations (p_s : List impl_Variable) : Option (Int) :=
  ((loopC (impl_combinations_l1 p_s) (1, 0)).bind fun n_7 => some n_7)

noncomputable def impl_cellCount (p_g : impl_Geo) (p_s : List impl_Variable) (p_t : impl_Table) : Option (Int) :=
  ((impl_areasAt p_g p_t.Level).bind fun t_13 => ((impl_crossed p_s p_t).bind fun t_16 => ((impl_combinations t_16).bind fun t_19 => some (w64 ((goLen t_13) * t_19)))))

noncomputable def impl_isTable (p_g : impl_Geo) (p_s : List impl_Variable) (p_t : impl_Table) : Option (Bool) :=
  ((((impl_areVars p_s p_t.Vars).bind fun t_7 => (cond (!t_7) (some true) ((impl_isWhere p_s p_t.Where).bind fun t_8 => (cond (!t_8) (some true) (cond (decide (p_t.Sum < (-1))) (some true) (some (decide ((goLen p_s) ≤ p_t.Sum)))))))) : Option (Bool)).bind fun t_9 => (cond t_9 (some false) ((impl_cellCount p_g p_s p_t).bind fun t_10 => (((cond (decide (0 < t_10)) (some (decide (t_10 ≤ 600))) (some false)) : Option (Bool)).bind fun t_11 => some t_11))))

noncomputable def impl_isPlan_l1 (p_g : impl_Geo) (p_s : List impl_Variable) (p_l : List impl_Table) (t_8 : Int) : Option (Stp (Int) ((Unit) ⊕ (Bool))) :=
  (cond (decide (t_8 < (goLen p_l))) ((goAt p_l t_8).bind fun e_9 => ((impl_isTable p_g p_s e_9).bind fun t_14 => (cond (!t_14) (some (.done (.inr false))) (some (.next (w64 (t_8 + 1))))))) (some (.done (.inl ()))))

noncomputable def impl_isPlan (p_g : impl_Geo) (p_s : List impl_Variable) (p_l : List impl_Table) : Option (Bool) :=
  ((((impl_IsGeo p_g).bind fun t_5 => (cond (!t_5) (some true) ((impl_IsSchema p_s).bind fun t_6 => (cond (!t_6) (some true) (some (decide (20 < (goLen p_l)))))))) : Option (Bool)).bind fun t_7 => (cond t_7 (some false) ((loopC (impl_isPlan_l1 p_g p_s p_l) 0).bind fun | .inl () => some true | .inr o => some o)))

noncomputable def strings_Join (p_elems : List (List UInt8)) (p_sep : List UInt8) : Option ((List UInt8)) :=
  cond (decide (p_elems.length ≤ 140737488355328 ∧ (Go.Lib.join p_elems p_sep).length ≤ 140737488355328)) (some (Go.Lib.join p_elems p_sep)) none

noncomputable def impl_setText_l1 (p_set : Int) : (List (List UInt8)) × Int → Option (Stp ((List (List UInt8)) × Int) ((List (List UInt8))))
  | (parts_1, t_3) => (cond (decide (t_3 < 8)) ((goShr .i64 p_set t_3).bind fun t_4 => (((cond ((goBits .and .i64 t_4 1) == 1) ((goRune (IntKind.wrap .i32 (w64 (48 + t_3)))).bind fun t_5 => ((goApp 16 parts_1 ([t_5] : List (List UInt8))).bind fun l_7 => some l_7)) (some parts_1)) : Option ((List (List UInt8)))).bind fun parts_9 => some (.next (parts_9, (w64 (t_3 + 1)))))) (some (.done parts_1)))

noncomputable def impl_setText (p_set : Int) : Option ((List UInt8)) :=
  ((loopC (impl_setText_l1 p_set) (([] : List (List UInt8)), 0)).bind fun parts_11 => ((strings_Join parts_11 ([44] : List UInt8)).bind fun t_13 => some t_13))

noncomputable def strconv_Itoa (p_x : Int) : Option (List UInt8) :=
  cond (decide (-9223372036854775808 ≤ p_x ∧ p_x ≤ 9223372036854775807)) (some (Go.Lib.itoa p_x)) none

noncomputable def impl_tableText_l1 (p_s : List impl_Variable) (p_t : impl_Table) : (List (List UInt8)) × Int → Option (Stp ((List (List UInt8)) × Int) ((List (List UInt8))))
  | (names_12, t_14) => (cond (decide (t_14 < (goLen p_t.Vars))) ((goAt p_t.Vars t_14).bind fun e_15 => ((goAt p_s e_15).bind fun e_17 => ((goApp 16 names_12 ([e_17.Name] : List (List UInt8))).bind fun l_20 => some (.next (l_20, (w64 (t_14 + 1))))))) (some (.done names_12)))

noncomputable def impl_tableText_l2 (p_s : List impl_Variable) (p_t : impl_Table) : (List UInt8) × (List UInt8) × Int → Option (Stp ((List UInt8) × (List UInt8) × Int) ((List UInt8)))
  | (text_29, word_30, t_31) => (cond (decide (t_31 < (goLen p_t.Where))) ((goAt p_t.Where t_31).bind fun e_32 => (((cond (e_32 != 0) ((goAt p_s t_31).bind fun e_34 => ((goCat word_30 e_34.Name).bind fun t_36 => ((goCat t_36 ([61] : List UInt8)).bind fun t_37 => ((impl_setText e_32).bind fun t_38 => ((goCat t_37 t_38).bind fun t_39 => ((goCat text_29 t_39).bind fun t_40 => some (t_40, ([32] : List UInt8)))))))) (some (text_29, word_30))) : Option ((List UInt8) × (List UInt8))).bind fun (text_41, word_42) => some (.next (text_41, word_42, (w64 (t_31 + 1)))))) (some (.done text_29)))

noncomputable def impl_tableText (p_s : List impl_Variable) (p_t : impl_Table) : Option ((List UInt8)) :=
  (((cond (decide (0 ≤ p_t.Sum)) ((goAt p_s p_t.Sum).bind fun e_5 => ((goCat ([115, 117, 109, 32] : List UInt8) e_5.Name).bind fun t_7 => some t_7)) (some ([99, 111, 117, 110, 116] : List UInt8))) : Option ((List UInt8))).bind fun text_8 => ((strconv_Itoa p_t.Level).bind fun t_9 => ((goCat ([32, 108, 101, 118, 101, 108, 32] : List UInt8) t_9).bind fun t_10 => ((goCat text_8 t_10).bind fun t_11 => (((cond (decide (0 < (goLen p_t.Vars))) ((loopC (impl_tableText_l1 p_s p_t) (([] : List (List UInt8)), 0)).bind fun names_22 => ((strings_Join names_22 ([44] : List UInt8)).bind fun t_24 => ((goCat ([32, 98, 121, 32] : List UInt8) t_24).bind fun t_26 => ((goCat t_11 t_26).bind fun t_27 => some t_27)))) (some t_11)) : Option ((List UInt8))).bind fun text_28 => ((loopC (impl_tableText_l2 p_s p_t) (text_28, ([32, 119, 104, 101, 114, 101, 32] : List UInt8), 0)).bind fun text_43 => some text_43))))))

noncomputable def impl_planText_l1 (p_s : List impl_Variable) (p_l : List impl_Table) : (List UInt8) × Int → Option (Stp ((List UInt8) × Int) ((List UInt8)))
  | (text_3, t_4) => (cond (decide (t_4 < (goLen p_l))) ((goAt p_l t_4).bind fun e_5 => ((impl_tableText p_s e_5).bind fun t_10 => ((goCat t_10 ([10] : List UInt8)).bind fun t_11 => ((goCat text_3 t_11).bind fun t_12 => some (.next (t_12, (w64 (t_4 + 1)))))))) (some (.done text_3)))

noncomputable def impl_planText (p_s : List impl_Variable) (p_l : List impl_Table) : Option ((List UInt8)) :=
  ((loopC (impl_planText_l1 p_s p_l) (([] : List UInt8), 0)).bind fun text_13 => some text_13)

noncomputable def impl_PlanText (p_g : impl_Geo) (p_s : List impl_Variable) (p_l : List impl_Table) : Option ((List UInt8) × Bool) :=
  ((impl_isPlan p_g p_s p_l).bind fun t_5 => (cond (!t_5) (some (([] : List UInt8), false)) ((impl_planText p_s p_l).bind fun t_6 => some (t_6, true))))

noncomputable def spec_sName_l1 (p_s : List UInt8) (i_1 : Int) : Option (Stp (Int) ((Unit) ⊕ (Bool))) :=
  (cond (decide (i_1 < (goLen p_s))) ((((goStrAt p_s i_1).bind fun t_2 => (cond (decide (t_2 < 97)) (some true) ((goStrAt p_s i_1).bind fun t_3 => some (decide (122 < t_3))))) : Option (Bool)).bind fun t_4 => (cond t_4 (some (.done (.inr false))) (some (.next (w64 (i_1 + 1)))))) (some (.done (.inl ()))))

noncomputable def spec_sName (p_s : List UInt8) : Option (Bool) :=
  ((loopC (spec_sName_l1 p_s) 0).bind fun | .inl () => ((spec_l1In (goLen p_s) 1 8).bind fun t_5 => some t_5) | .inr o => some o)

noncomputable def spec_sFind_l1 (p_s : List impl_Variable) (p_name : List UInt8) (t_2 : Int) : Option (Stp (Int) ((Unit) ⊕ (Int))) :=
  (cond (decide (t_2 < (goLen p_s))) ((goAt p_s t_2).bind fun e_3 => (cond (e_3.Name == p_name) (some (.done (.inr t_2))) (some (.next (w64 (t_2 + 1)))))) (some (.done (.inl ()))))

noncomputable def spec_sFind (p_s : List impl_Variable) (p_name : List UInt8) : Option (Int) :=
  ((loopC (spec_sFind_l1 p_s p_name) 0).bind fun | .inl () => some (-1) | .inr o => some o)

noncomputable def spec_sGood_l1 (p_s : List impl_Variable) (t_3 : Int) : Option (Stp (Int) ((Unit) ⊕ (Bool))) :=
  (cond (decide (t_3 < (goLen p_s))) ((goAt p_s t_3).bind fun e_4 => ((((spec_sName e_4.Name).bind fun t_7 => (cond (!t_7) (some true) ((spec_l1In e_4.Levels 2 8).bind fun t_8 => (cond (!t_8) (some true) ((goSub p_s 0 t_3).bind fun l_9 => ((spec_sFind l_9 e_4.Name).bind fun t_11 => some (decide (0 ≤ t_11)))))))) : Option (Bool)).bind fun t_12 => (cond t_12 (some (.done (.inr false))) (some (.next (w64 (t_3 + 1))))))) (some (.done (.inl ()))))

noncomputable def spec_sGood (p_s : List impl_Variable) : Option (Bool) :=
  ((spec_l1In (goLen p_s) 1 6).bind fun t_2 => (cond (!t_2) (some false) ((loopC (spec_sGood_l1 p_s) 0).bind fun | .inl () => some true | .inr o => some o)))

noncomputable def spec_nInput (p_g : impl_Geo) (p_s : List impl_Variable) : Option (Bool) :=
  ((((spec_gGood p_g).bind fun t_4 => (cond t_4 ((spec_sGood p_s).bind fun t_5 => some t_5) (some false))) : Option (Bool)).bind fun t_6 => some t_6)

noncomputable def spec_l1Rising_l1 (p_l : List Int) (p_lo : Int) (p_hi : Int) (t_2 : Int) : Option (Stp (Int) ((Unit) ⊕ (Bool))) :=
  (cond (decide (t_2 < (goLen p_l))) ((goAt p_l t_2).bind fun e_3 => ((((spec_l1In e_3 p_lo p_hi).bind fun t_5 => (cond (!t_5) (some true) (cond (decide (0 < t_2)) ((goAt p_l (w64 (t_2 - 1))).bind fun e_6 => some (decide (e_3 ≤ e_6))) (some false)))) : Option (Bool)).bind fun t_8 => (cond t_8 (some (.done (.inr false))) (some (.next (w64 (t_2 + 1))))))) (some (.done (.inl ()))))

noncomputable def spec_l1Rising (p_l : List Int) (p_lo : Int) (p_hi : Int) : Option (Bool) :=
  ((loopC (spec_l1Rising_l1 p_l p_lo p_hi) 0).bind fun | .inl () => some true | .inr o => some o)

noncomputable def spec_uWhere_l1 (p_s : List impl_Variable) (p_where : List Int) (t_3 : Int) : Option (Stp (Int) ((Unit) ⊕ (Bool))) :=
  (cond (decide (t_3 < (goLen p_s))) ((goAt p_s t_3).bind fun e_4 => ((goAt p_where t_3).bind fun e_7 => ((goShl .i64 1 (IntKind.wrap .u64 e_4.Levels)).bind fun t_9 => ((spec_l1In e_7 0 (w64 (t_9 - 1))).bind fun t_10 => (cond (!t_10) (some (.done (.inr false))) (some (.next (w64 (t_3 + 1))))))))) (some (.done (.inl ()))))

noncomputable def spec_uWhere (p_s : List impl_Variable) (p_where : List Int) : Option (Bool) :=
  (cond ((goLen p_where) != (goLen p_s)) (some false) ((loopC (spec_uWhere_l1 p_s p_where) 0).bind fun | .inl () => some true | .inr o => some o))

noncomputable def spec_sPart_l1 (p_s : List impl_Variable) (p_vars : List Int) : (List impl_Variable) × Int → Option (Stp ((List impl_Variable) × Int) ((List impl_Variable)))
  | (out_3, t_5) => (cond (decide (t_5 < (goLen p_vars))) ((goAt p_vars t_5).bind fun e_6 => ((goAt p_s e_6).bind fun e_8 => ((goApp 24 out_3 ([e_8] : List impl_Variable)).bind fun l_11 => some (.next (l_11, (w64 (t_5 + 1))))))) (some (.done out_3)))

noncomputable def spec_sPart (p_s : List impl_Variable) (p_vars : List Int) : Option ((List impl_Variable)) :=
  ((loopC (spec_sPart_l1 p_s p_vars) (([] : List impl_Variable), 0)).bind fun out_13 => some out_13)

noncomputable def spec_sCount_l1 (p_s : List impl_Variable) : Int × Int → Option (Stp (Int × Int) (Int))
  | (n_2, t_3) => (cond (decide (t_3 < (goLen p_s))) ((goAt p_s t_3).bind fun e_4 => some (.next ((w64 (n_2 * e_4.Levels)), (w64 (t_3 + 1))))) (some (.done n_2)))

noncomputable def spec_sCount (p_s : List impl_Variable) : Option (Int) :=
  ((loopC (spec_sCount_l1 p_s) (1, 0)).bind fun n_7 => some n_7)

noncomputable def spec_uCount (p_g : impl_Geo) (p_s : List impl_Variable) (p_t : impl_Table) : Option (Int) :=
  ((spec_gLevel p_g p_t.Level).bind fun t_16 => ((spec_sPart p_s p_t.Vars).bind fun t_19 => ((spec_sCount t_19).bind fun t_22 => some (w64 ((goLen t_16) * t_22)))))

noncomputable def spec_uGood (p_g : impl_Geo) (p_s : List impl_Variable) (p_t : impl_Table) : Option (Bool) :=
  ((((spec_gGood p_g).bind fun t_7 => (cond (!t_7) (some true) ((spec_sGood p_s).bind fun t_8 => (cond (!t_8) (some true) ((spec_gLevel p_g p_t.Level).bind fun t_9 => (cond ((goLen t_9) == 0) (some true) ((spec_l1Rising p_t.Vars 0 (w64 ((goLen p_s) - 1))).bind fun t_12 => (cond (!t_12) (some true) ((spec_uWhere p_s p_t.Where).bind fun t_13 => (cond (!t_13) (some true) ((spec_l1In p_t.Sum (-1) (w64 ((goLen p_s) - 1))).bind fun t_14 => some (!t_14)))))))))))) : Option (Bool)).bind fun t_15 => (cond t_15 (some false) ((spec_uCount p_g p_s p_t).bind fun t_16 => some (decide (t_16 ≤ 600)))))

noncomputable def spec_nPlan_l1 (p_g : impl_Geo) (p_s : List impl_Variable) (p_l : List impl_Table) (t_7 : Int) : Option (Stp (Int) ((Unit) ⊕ (Bool))) :=
  (cond (decide (t_7 < (goLen p_l))) ((goAt p_l t_7).bind fun e_8 => ((spec_uGood p_g p_s e_8).bind fun t_13 => (cond (!t_13) (some (.done (.inr false))) (some (.next (w64 (t_7 + 1))))))) (some (.done (.inl ()))))

noncomputable def spec_nPlan (p_g : impl_Geo) (p_s : List impl_Variable) (p_l : List impl_Table) : Option (Bool) :=
  ((((spec_nInput p_g p_s).bind fun t_5 => (cond (!t_5) (some true) (some (decide (20 < (goLen p_l)))))) : Option (Bool)).bind fun t_6 => (cond t_6 (some false) ((loopC (spec_nPlan_l1 p_g p_s p_l) 0).bind fun | .inl () => some true | .inr o => some o)))

noncomputable def spec_l1Num_B (rcf : Int → Option ((List UInt8))) (p_n : Int) : Option ((List UInt8)) :=
  (cond (decide (p_n < 10)) (some (goBytes ([(⟨(IntKind.wrap .u8 (w64 (48 + p_n)))⟩ : K .u8)] : List (K .u8)))) ((((goQuo .i64 p_n 10).bind fun t_1 => ((goRem p_n 10).bind fun t_4 => ((rcf t_1).bind fun t_9 => ((goCat t_9 (goBytes ([(⟨(IntKind.wrap .u8 (w64 (48 + t_4)))⟩ : K .u8)] : List (K .u8)))).bind fun t_11 => some t_11)))) : Option ((List UInt8))).bind fun t_12 => some t_12))

noncomputable def spec_l1Num_k : Nat → Int → Option ((List UInt8))
  | 0 => fun _ => none
  | k + 1 => spec_l1Num_B (spec_l1Num_k k)

noncomputable def spec_l1Num (p_n : Int) : Option ((List UInt8)) := recO (fun k => spec_l1Num_k k p_n)

noncomputable def spec_nNames_l1 (p_s : List impl_Variable) (p_vars : List Int) : (List UInt8) × Int → Option (Stp ((List UInt8) × Int) ((List UInt8)))
  | (out_3, t_4) => (cond (decide (t_4 < (goLen p_vars))) ((goAt p_vars t_4).bind fun e_5 => (((cond (decide (0 < t_4)) ((goCat out_3 ([44] : List UInt8)).bind fun t_7 => some t_7) (some out_3)) : Option ((List UInt8))).bind fun out_8 => ((goAt p_s e_5).bind fun e_9 => ((goCat out_8 e_9.Name).bind fun t_11 => some (.next (t_11, (w64 (t_4 + 1)))))))) (some (.done out_3)))

noncomputable def spec_nNames (p_s : List impl_Variable) (p_vars : List Int) : Option ((List UInt8)) :=
  ((loopC (spec_nNames_l1 p_s p_vars) (([] : List UInt8), 0)).bind fun out_12 => some out_12)

noncomputable def spec_eLevels_l1 (p_set : Int) : (List Int) × Int → Option (Stp ((List Int) × Int) ((List Int)))
  | (out_1, x_3) => ((goShr .i64 p_set (IntKind.wrap .u64 x_3)).bind fun t_4 => (cond (decide (0 < t_4)) ((goShr .i64 p_set (IntKind.wrap .u64 x_3)).bind fun t_5 => (((cond ((goBits .and .i64 t_5 1) == 1) ((goApp 8 out_1 ([x_3] : List Int)).bind fun l_7 => some l_7) (some out_1)) : Option ((List Int))).bind fun out_9 => some (.next (out_9, (w64 (x_3 + 1)))))) (some (.done out_1))))

noncomputable def spec_eLevels (p_set : Int) : Option ((List Int)) :=
  ((loopC (spec_eLevels_l1 p_set) (([] : List Int), 0)).bind fun out_11 => some out_11)

noncomputable def spec_nTable_l2 (t_29 : List Int) : (List UInt8) × Int → Option (Stp ((List UInt8) × Int) ((List UInt8)))
  | (out_32, t_33) => (cond (decide (t_33 < (goLen t_29))) ((goAt t_29 t_33).bind fun e_34 => (((cond (decide (0 < t_33)) ((goCat out_32 ([44] : List UInt8)).bind fun t_36 => some t_36) (some out_32)) : Option ((List UInt8))).bind fun out_37 => ((spec_l1Num e_34).bind fun t_38 => ((goCat out_37 t_38).bind fun t_39 => some (.next (t_39, (w64 (t_33 + 1)))))))) (some (.done out_32)))

noncomputable def spec_nTable_l1 (p_s : List impl_Variable) (p_t : impl_Table) : (List UInt8) × Bool × Int → Option (Stp ((List UInt8) × Bool × Int) ((List UInt8)))
  | (out_16, first_17, t_18) => (cond (decide (t_18 < (goLen p_t.Where))) ((((goAt p_t.Where t_18).bind fun e_19 => (cond (e_19 == 0) (some (out_16, first_17)) (((cond first_17 ((goCat out_16 ([32, 119, 104, 101, 114, 101] : List UInt8)).bind fun t_21 => some (t_21, false)) (some (out_16, first_17))) : Option ((List UInt8) × Bool)).bind fun (out_22, first_23) => ((goAt p_s t_18).bind fun e_24 => ((goCat ([32] : List UInt8) e_24.Name).bind fun t_26 => ((goCat t_26 ([61] : List UInt8)).bind fun t_27 => ((goCat out_22 t_27).bind fun t_28 => ((spec_eLevels e_19).bind fun t_29 => ((loopC (spec_nTable_l2 t_29) (t_28, 0)).bind fun out_40 => some (out_40, first_23)))))))))) : Option ((List UInt8) × Bool)).bind fun (out_41, first_42) => some (.next (out_41, first_42, (w64 (t_18 + 1))))) (some (.done out_16)))

noncomputable def spec_nTable (p_s : List impl_Variable) (p_t : impl_Table) : Option ((List UInt8)) :=
  (((cond (decide (0 ≤ p_t.Sum)) ((goAt p_s p_t.Sum).bind fun e_5 => ((goCat ([115, 117, 109, 32] : List UInt8) e_5.Name).bind fun t_7 => some t_7)) (some ([99, 111, 117, 110, 116] : List UInt8))) : Option ((List UInt8))).bind fun out_8 => ((spec_l1Num p_t.Level).bind fun t_9 => ((goCat ([32, 108, 101, 118, 101, 108, 32] : List UInt8) t_9).bind fun t_10 => ((goCat out_8 t_10).bind fun t_11 => (((cond (decide (0 < (goLen p_t.Vars))) ((spec_nNames p_s p_t.Vars).bind fun t_12 => ((goCat ([32, 98, 121, 32] : List UInt8) t_12).bind fun t_13 => ((goCat t_11 t_13).bind fun t_14 => some t_14))) (some t_11)) : Option ((List UInt8))).bind fun out_15 => ((loopC (spec_nTable_l1 p_s p_t) (out_15, true, 0)).bind fun out_43 => some out_43))))))

noncomputable def spec_PlanText_l1 (p_s : List impl_Variable) (p_l : List impl_Table) : (List UInt8) × Int → Option (Stp ((List UInt8) × Int) ((List UInt8)))
  | (out_6, t_7) => (cond (decide (t_7 < (goLen p_l))) ((goAt p_l t_7).bind fun e_8 => ((spec_nTable p_s e_8).bind fun t_13 => ((goCat t_13 ([10] : List UInt8)).bind fun t_14 => ((goCat out_6 t_14).bind fun t_15 => some (.next (t_15, (w64 (t_7 + 1)))))))) (some (.done out_6)))

noncomputable def spec_PlanText (p_g : impl_Geo) (p_s : List impl_Variable) (p_l : List impl_Table) : Option ((List UInt8) × Bool) :=
  ((spec_nPlan p_g p_s p_l).bind fun t_5 => (cond (!t_5) (some (([] : List UInt8), false)) ((loopC (spec_PlanText_l1 p_s p_l) (([] : List UInt8), 0)).bind fun out_16 => some (out_16, true))))

noncomputable def impl_nameIndex_1 (p_v : impl_Variable) (p_x1 : List UInt8) : Option (Bool) :=
  some (p_v.Name == p_x1)

noncomputable def slices_IndexFunc_impl_Variable_impl_Variable_of_impl_nameIndex_1_l1 (p_s : List impl_Variable) (p_x200 : List UInt8) (t_2 : Int) : Option (Stp (Int) ((Unit) ⊕ (Int))) :=
  (cond (decide (t_2 < (goLen p_s))) ((goAt p_s t_2).bind fun e_3 => ((impl_nameIndex_1 e_3 p_x200).bind fun t_6 => (cond t_6 (some (.done (.inr t_2))) (some (.next (w64 (t_2 + 1))))))) (some (.done (.inl ()))))

noncomputable def slices_IndexFunc_impl_Variable_impl_Variable_of_impl_nameIndex_1 (p_s : List impl_Variable) (p_x200 : List UInt8) : Option (Int) :=
  ((loopC (slices_IndexFunc_impl_Variable_impl_Variable_of_impl_nameIndex_1_l1 p_s p_x200) 0).bind fun | .inl () => some (-1) | .inr o => some o)

noncomputable def impl_nameIndex (p_s : List impl_Variable) (p_name : List UInt8) : Option (Int) :=
  ((slices_IndexFunc_impl_Variable_impl_Variable_of_impl_nameIndex_1 p_s p_name).bind fun t_4 => some t_4)

noncomputable def impl_readNatural_l1 (p_s : List UInt8) (p_most : Int) : Int × Int → Option (Stp (Int × Int) ((Int × Int) ⊕ (Int × (List UInt8) × Bool)))
  | (n_1, i_2) => (((cond (decide (i_2 < (goLen p_s))) ((goStrAt p_s i_2).bind fun t_3 => (cond (decide (48 ≤ t_3)) ((goStrAt p_s i_2).bind fun t_4 => some (decide (t_4 ≤ 57))) (some false))) (some false)) : Option (Bool)).bind fun t_5 => (cond t_5 (((cond (decide (0 < i_2)) (some (n_1 == 0)) (some false)) : Option (Bool)).bind fun t_6 => (cond t_6 (some (.done (.inr (0, ([] : List UInt8), false)))) ((goStrAt p_s i_2).bind fun t_7 => (cond (decide (p_most < (w64 ((w64 (n_1 * 10)) + (w64 (IntKind.wrap .u8 (t_7 - 48))))))) (some (.done (.inr (0, ([] : List UInt8), false)))) (some (.next ((w64 ((w64 (n_1 * 10)) + (w64 (IntKind.wrap .u8 (t_7 - 48))))), (w64 (i_2 + 1))))))))) (some (.done (.inl (n_1, i_2))))))

noncomputable def impl_readNatural (p_s : List UInt8) (p_most : Int) : Option (Int × (List UInt8) × Bool) :=
  ((loopC (impl_readNatural_l1 p_s p_most) (0, 0)).bind fun | .inl (n_8, i_9) => (cond (i_9 == 0) (some (0, ([] : List UInt8), false)) ((goSub p_s i_9 (goLen p_s)).bind fun t_10 => some (n_8, t_10, true))) | .inr o => some o)

noncomputable def impl_wholeNatural (p_s : List UInt8) (p_most : Int) : Option (Int × Bool) :=
  ((impl_readNatural p_s p_most).bind fun t_1 => (((cond (!t_1.2.2) (some true) (some (t_1.2.1 != ([] : List UInt8)))) : Option (Bool)).bind fun t_2 => (cond t_2 (some (0, false)) (some (t_1.1, true)))))

noncomputable def impl_wholeNaturalIf (p_ok : Bool) (p_s : List UInt8) (p_most : Int) : Option (Int × Bool) :=
  ((impl_wholeNatural p_s p_most).bind fun t_1 => (((cond p_ok (some t_1.2) (some false)) : Option (Bool)).bind fun t_2 => some (t_1.1, t_2)))

noncomputable def impl_parseSet_l1 (p_levels : Int) (p_8 : List UInt8) : Int × Int → Option (Stp (Int × Int) (Unit))
  | (last_6, set_7) => (cond ((goLen p_8) != 1) (some (.done ())) ((goStrAt p_8 0).bind fun t_9 => (((cond (decide ((w64 ((w64 t_9) - 48)) ≤ last_6)) (some true) (some (decide (p_levels ≤ (w64 ((w64 t_9) - 48)))))) : Option (Bool)).bind fun t_10 => (cond t_10 (some (.done ())) ((goShl .i64 1 (w64 ((w64 t_9) - 48))).bind fun t_11 => some (.next ((w64 ((w64 t_9) - 48)), goBits .or .i64 set_7 t_11)))))))

noncomputable def impl_parseSet (p_text : List UInt8) (p_levels : Int) : Option (Int) :=
  ((goSpl p_text).bind fun u5 => ((seqC (impl_parseSet_l1 p_levels) (splitB 44 p_text) (-1, 0)).bind fun | .inl (last_6, set_7) => some set_7 | .inr () => some 0))

noncomputable def strings_Split (p_s : List UInt8) (p_sep : List UInt8) : Option ((List (List UInt8))) :=
  cond (decide (p_s.length < 4294967281 ∧ p_sep.length = 1)) (some (splitB (p_sep.headD 0) p_s)) none

noncomputable def impl_parseTable_1 (p_x0 : List (List UInt8)) : Option ((List UInt8) × (List (List UInt8))) :=
  (cond ((goLen p_x0) == 0) (some (([] : List UInt8), p_x0)) ((goAt p_x0 0).bind fun e_2 => ((goSub p_x0 1 (goLen p_x0)).bind fun l_4 => some (e_2, l_4))))

noncomputable def strings_Cut (p_s : List UInt8) (p_sep : List UInt8) : Option ((List UInt8) × (List UInt8) × Bool) :=
  cond (decide (p_s.length < 4294967281)) (some (Go.Lib.cut p_s p_sep)) none

noncomputable def impl_parseTable_l1 (p_s : List impl_Variable) (p_45 : List UInt8) (t_42 : impl_Table) : Option (Stp (impl_Table) (Unit)) :=
  ((impl_nameIndex p_s p_45).bind fun t_46 => (cond (decide (t_46 < 0)) (some (.done ())) ((goApp 8 t_42.Vars ([t_46] : List Int)).bind fun l_48 => some (.next (impl_Table.mk t_42.Level l_48 t_42.Where t_42.Sum)))))

noncomputable def impl_parseTable_l2 (p_s : List impl_Variable) : (List (List UInt8)) × impl_Table → Option (Stp ((List (List UInt8)) × impl_Table) ((impl_Table) ⊕ (impl_Table × Bool)))
  | (words_65, t_67) => (cond (decide (0 < (goLen words_65))) ((impl_parseTable_1 words_65).bind fun t_72 => ((strings_Cut t_72.1 ([61] : List UInt8)).bind fun t_74 => ((impl_nameIndex p_s t_74.1).bind fun t_75 => (cond (decide (t_75 < 0)) (some (.done (.inr ((impl_Table.mk 0 ([] : List Int) ([] : List Int) 0), false)))) ((goAt p_s t_75).bind fun e_76 => ((impl_parseSet t_74.2.1 e_76.Levels).bind fun t_78 => ((goAt t_67.Where t_75).bind fun e_79 => some (.next (t_72.2, (impl_Table.mk t_67.Level t_67.Vars (goSet t_67.Where t_75 t_78) t_67.Sum)))))))))) (some (.done (.inl t_67))))

noncomputable def impl_parseTable (p_s : List impl_Variable) (p_x : List UInt8) : Option (impl_Table × Bool) :=
  ((goMake 8 (goLen p_s) (0 : Int)).bind fun l_5 => ((strings_Split p_x ([32] : List UInt8)).bind fun t_8 => ((impl_parseTable_1 t_8).bind fun t_14 => (((cond (t_14.1 == ([99, 111, 117, 110, 116] : List UInt8)) (some (.inl (t_14.2, (impl_Table.mk 0 ([] : List Int) l_5 (-1))))) (cond (t_14.1 == ([115, 117, 109] : List UInt8)) ((impl_parseTable_1 t_14.2).bind fun t_17 => ((impl_nameIndex p_s t_17.1).bind fun t_19 => (cond (decide (t_19 < 0)) (some (.inr ((impl_Table.mk 0 ([] : List Int) ([] : List Int) 0), false))) (some (.inl (t_17.2, (impl_Table.mk 0 ([] : List Int) l_5 t_19))))))) (some (.inr ((impl_Table.mk 0 ([] : List Int) ([] : List Int) 0), false))))) : Option (((List (List UInt8)) × impl_Table) ⊕ (impl_Table × Bool))).bind fun | .inl (words_20, t_22) => ((impl_parseTable_1 words_20).bind fun t_26 => ((impl_parseTable_1 t_26.2).bind fun t_29 => ((impl_wholeNaturalIf (t_26.1 == ([108, 101, 118, 101, 108] : List UInt8)) t_29.1 30).bind fun t_31 => (cond (!t_31.2) (some ((impl_Table.mk 0 ([] : List Int) ([] : List Int) 0), false)) (((cond (decide (0 < (goLen t_29.2))) ((goAt t_29.2 0).bind fun e_32 => some (e_32 == ([98, 121] : List UInt8))) (some false)) : Option (Bool)).bind fun t_34 => (((cond t_34 ((impl_parseTable_1 t_29.2).bind fun t_36 => ((impl_parseTable_1 t_36.2).bind fun t_39 => ((goSpl t_39.1).bind fun u41 => ((seqC (impl_parseTable_l1 p_s) (splitB 44 t_39.1) (impl_Table.mk t_31.1 ([] : List Int) t_22.Where t_22.Sum)).bind fun | .inl t_42 => some (.inl (t_39.2, t_42)) | .inr () => some (.inr ((impl_Table.mk 0 ([] : List Int) ([] : List Int) 0), false)))))) (some (.inl (t_29.2, (impl_Table.mk t_31.1 ([] : List Int) t_22.Where t_22.Sum))))) : Option (((List (List UInt8)) × impl_Table) ⊕ (impl_Table × Bool))).bind fun | .inl (words_52, t_54) => (((cond (decide (0 < (goLen words_52))) ((impl_parseTable_1 words_52).bind fun t_59 => some (t_59.1 != ([119, 104, 101, 114, 101] : List UInt8), t_59.2)) (some (false, words_52))) : Option (Bool × (List (List UInt8)))).bind fun (t_61, words_62) => (cond t_61 (some ((impl_Table.mk 0 ([] : List Int) ([] : List Int) 0), false)) ((loopC (impl_parseTable_l2 p_s) (words_62, t_54)).bind fun | .inl t_82 => some (t_82, true) | .inr o => some o))) | .inr o => some o)))))) | .inr o => some o))))

noncomputable def impl_ParseTable (p_g : impl_Geo) (p_s : List impl_Variable) (p_x : List UInt8) : Option (impl_Table × Bool) :=
  ((((impl_IsGeo p_g).bind fun t_5 => (cond (!t_5) (some true) ((impl_IsSchema p_s).bind fun t_6 => some (!t_6)))) : Option (Bool)).bind fun t_7 => (cond t_7 (some ((impl_Table.mk 0 ([] : List Int) ([] : List Int) 0), false)) ((impl_parseTable p_s p_x).bind fun t_8 => (((cond (!t_8.2) (some true) ((impl_isTable p_g p_s t_8.1).bind fun t_13 => (cond (!t_13) (some true) ((impl_tableText p_s t_8.1).bind fun t_15 => some (t_15 != p_x))))) : Option (Bool)).bind fun t_17 => (cond t_17 (some ((impl_Table.mk 0 ([] : List Int) ([] : List Int) 0), false)) (some (t_8.1, true)))))))

noncomputable def impl_ParsePlan_l1 (p_g : impl_Geo) (p_s : List impl_Variable) : (List UInt8) × (List impl_Table) → Option (Stp ((List UInt8) × (List impl_Table)) (((List impl_Table)) ⊕ ((List impl_Table) × Int × Bool)))
  | (x_7, l_8) => (cond (x_7 != ([] : List UInt8)) ((strings_Cut x_7 ([10] : List UInt8)).bind fun t_11 => ((impl_ParseTable p_g p_s t_11.1).bind fun t_12 => (((cond (!t_11.2.2) (some true) (cond (!t_12.2) (some true) (some ((goLen l_8) == 20)))) : Option (Bool)).bind fun t_17 => (cond t_17 (some (.done (.inr (([] : List impl_Table), (w64 ((goLen l_8) + 1)), false)))) ((goApp 64 l_8 ([t_12.1] : List impl_Table)).bind fun l_21 => some (.next (t_11.2.1, l_21))))))) (some (.done (.inl l_8))))

noncomputable def impl_ParsePlan (p_g : impl_Geo) (p_s : List impl_Variable) (p_x : List UInt8) : Option ((List impl_Table) × Int × Bool) :=
  ((((impl_IsGeo p_g).bind fun t_4 => (cond (!t_4) (some true) ((impl_IsSchema p_s).bind fun t_5 => some (!t_5)))) : Option (Bool)).bind fun t_6 => (cond t_6 (some (([] : List impl_Table), 0, false)) ((loopC (impl_ParsePlan_l1 p_g p_s) (p_x, ([] : List impl_Table))).bind fun | .inl l_23 => some (l_23, 0, true) | .inr o => some o)))

noncomputable def laws_sameInts_l1 (p_a : List Int) (p_b : List Int) (t_3 : Int) : Option (Stp (Int) ((Unit) ⊕ (Bool))) :=
  (cond (decide (t_3 < (goLen p_a))) ((goAt p_a t_3).bind fun e_4 => ((goAt p_b t_3).bind fun e_6 => (cond (e_4 != e_6) (some (.done (.inr false))) (some (.next (w64 (t_3 + 1))))))) (some (.done (.inl ()))))

noncomputable def laws_sameInts (p_a : List Int) (p_b : List Int) : Option (Bool) :=
  (cond ((goLen p_a) != (goLen p_b)) (some false) ((loopC (laws_sameInts_l1 p_a p_b) 0).bind fun | .inl () => some true | .inr o => some o))

noncomputable def laws_pSameTable (p_a : impl_Table) (p_b : impl_Table) : Option (Bool) :=
  (((cond (p_a.Level == p_b.Level) ((laws_sameInts p_a.Vars p_b.Vars).bind fun t_7 => (cond t_7 ((laws_sameInts p_a.Where p_b.Where).bind fun t_8 => (cond t_8 (some (p_a.Sum == p_b.Sum)) (some false))) (some false))) (some false)) : Option (Bool)).bind fun t_9 => some t_9)

noncomputable def laws_pSameTables_l1 (p_a : List impl_Table) (p_b : List impl_Table) (t_3 : Int) : Option (Stp (Int) ((Unit) ⊕ (Bool))) :=
  (cond (decide (t_3 < (goLen p_a))) ((goAt p_a t_3).bind fun e_4 => ((goAt p_b t_3).bind fun e_8 => ((laws_pSameTable e_4 e_8).bind fun t_12 => (cond (!t_12) (some (.done (.inr false))) (some (.next (w64 (t_3 + 1)))))))) (some (.done (.inl ()))))

noncomputable def laws_pSameTables (p_a : List impl_Table) (p_b : List impl_Table) : Option (Bool) :=
  (cond ((goLen p_a) != (goLen p_b)) (some false) ((loopC (laws_pSameTables_l1 p_a p_b) 0).bind fun | .inl () => some true | .inr o => some o))

noncomputable def spec_l1Cur_spoilt_l1 (p_with : List UInt8) : (List UInt8) × Int × spec_l1Cur → Option (Stp ((List UInt8) × Int × spec_l1Cur) ((List UInt8) × spec_l1Cur))
  | (t_5, n_6, p_c_7) => (((cond (decide (0 < n_6)) (some (decide (0 < (goLen t_5)))) (some false)) : Option (Bool)).bind fun t_9 => (cond t_9 ((spec_l1Cur_pick p_c_7 (goLen t_5)).bind fun t_11 => ((spec_l1Cur_pick t_11.2 (goLen p_with)).bind fun t_14 => ((goStrAt p_with t_14.1).bind fun t_16 => ((spec_l1Cur_pick t_14.2 3).bind fun t_19 => (((cond (t_19.1 == 0) ((goSub t_5 0 t_11.1).bind fun t_29 => ((goCat t_29 (goBytes ([(⟨t_16⟩ : K .u8)] : List (K .u8)))).bind fun t_30 => ((goSub t_5 t_11.1 (goLen t_5)).bind fun t_31 => ((goCat t_30 t_31).bind fun t_32 => some t_32)))) (((cond (t_19.1 == 1) ((goSub t_5 0 t_11.1).bind fun t_24 => ((goCat t_24 (goBytes ([(⟨t_16⟩ : K .u8)] : List (K .u8)))).bind fun t_25 => ((goSub t_5 (w64 (t_11.1 + 1)) (goLen t_5)).bind fun t_26 => ((goCat t_25 t_26).bind fun t_27 => some t_27)))) ((goSub t_5 0 t_11.1).bind fun t_21 => ((goSub t_5 (w64 (t_11.1 + 1)) (goLen t_5)).bind fun t_22 => ((goCat t_21 t_22).bind fun t_23 => some t_23)))) : Option ((List UInt8))).bind fun t_28 => some t_28)) : Option ((List UInt8))).bind fun t_33 => some (.next (t_33, (w64 (n_6 - 1)), t_19.2))))))) (some (.done (t_5, p_c_7)))))

noncomputable def spec_l1Cur_spoilt (p_c : spec_l1Cur) (p_t : List UInt8) (p_with : List UInt8) : Option ((List UInt8) × spec_l1Cur) :=
  ((spec_l1Cur_pick p_c 2).bind fun t_3 => ((loopC (spec_l1Cur_spoilt_l1 p_with) (p_t, (w64 (1 + t_3.1)), t_3.2)).bind fun (t_34, p_c_35) => some (t_34, p_c_35)))

noncomputable def spec_DrawParsePlan (p_code : List (K .u8)) : Option (impl_Geo × (List impl_Variable) × (List UInt8)) :=
  ((spec_DrawPlanText p_code).bind fun t_4 => ((spec_PlanText t_4.1 t_4.2.1 t_4.2.2).bind fun t_10 => (cond (!t_10.2) (some (t_4.1, t_4.2.1, ([99, 111, 117, 110, 116, 32, 108, 101, 118, 101, 108, 32, 48, 10] : List UInt8))) ((spec_l1Cur_one (spec_l1Cur.mk p_code 0 (⟨0⟩ : K .u64)) 3).bind fun t_13 => (((cond t_13.1 ((spec_l1Cur_spoilt t_13.2 t_10.1 ([99, 111, 117, 110, 116, 32, 108, 101, 118, 101, 108, 32, 98, 121, 10, 48] : List UInt8)).bind fun t_16 => some t_16.1) (some t_10.1)) : Option ((List UInt8))).bind fun x_18 => some (t_4.1, t_4.2.1, x_18))))))

noncomputable def spec_l1Split_l1 (p_s : List UInt8) (p_b : K .u8) : (List (List UInt8)) × Int × Int → Option (Stp ((List (List UInt8)) × Int × Int) ((List (List UInt8)) × Int))
  | (out_1, from_3, i_4) => (cond (decide (i_4 < (goLen p_s))) ((goStrAt p_s i_4).bind fun t_5 => (((cond (t_5 == p_b.v) ((goSub p_s from_3 i_4).bind fun t_6 => ((goApp 16 out_1 ([t_6] : List (List UInt8))).bind fun l_8 => some (l_8, (w64 (i_4 + 1))))) (some (out_1, from_3))) : Option ((List (List UInt8)) × Int)).bind fun (out_10, from_12) => some (.next (out_10, from_12, (w64 (i_4 + 1)))))) (some (.done (out_1, from_3))))

noncomputable def spec_l1Split (p_s : List UInt8) (p_b : K .u8) : Option ((List (List UInt8))) :=
  ((loopC (spec_l1Split_l1 p_s p_b) (([] : List (List UInt8)), 0, 0)).bind fun (out_13, from_15) => ((goSub p_s from_15 (goLen p_s)).bind fun t_16 => ((goApp 16 out_13 ([t_16] : List (List UInt8))).bind fun l_18 => some l_18)))

noncomputable def spec_l1Read_l1 (p_s : List UInt8) : Int × Int → Option (Stp (Int × Int) ((Int) ⊕ (Int)))
  | (n_4, i_5) => (cond (decide (i_5 < (goLen p_s))) ((((goStrAt p_s i_5).bind fun t_6 => (cond (decide (t_6 < 48)) (some true) ((goStrAt p_s i_5).bind fun t_7 => some (decide (57 < t_7))))) : Option (Bool)).bind fun t_8 => (cond t_8 (some (.done (.inr (-1)))) ((goStrAt p_s i_5).bind fun t_9 => some (.next ((w64 ((w64 (10 * n_4)) + (w64 (IntKind.wrap .u8 (t_9 - 48))))), (w64 (i_5 + 1))))))) (some (.done (.inl n_4))))

noncomputable def spec_l1Read (p_s : List UInt8) : Option (Int) :=
  ((((spec_l1In (goLen p_s) 1 6).bind fun t_1 => (cond (!t_1) (some true) ((goStrAt p_s 0).bind fun t_2 => (cond (t_2 == 48) (some (decide (1 < (goLen p_s)))) (some false))))) : Option (Bool)).bind fun t_3 => (cond t_3 (some (-1)) ((loopC (spec_l1Read_l1 p_s) (0, 0)).bind fun | .inl n_10 => some n_10 | .inr o => some o)))

noncomputable def spec_nSet_l1 (p_s : List impl_Variable) (t_9 : Int) (t_13 : List (List UInt8)) : Int × impl_Table → Option (Stp (Int × impl_Table) (impl_Table))
  | (t_16, p_t_17) => (cond (decide (t_16 < (goLen t_13))) ((goAt t_13 t_16).bind fun e_20 => ((spec_l1Read e_20).bind fun t_22 => ((goAt p_s t_9).bind fun e_23 => ((spec_l1In t_22 0 (w64 (e_23.Levels - 1))).bind fun t_25 => (((cond t_25 ((goAt p_t_17.Where t_9).bind fun e_26 => ((goShl .i64 1 (IntKind.wrap .u64 t_22)).bind fun t_28 => ((goAt p_t_17.Where t_9).bind fun e_29 => some (impl_Table.mk p_t_17.Level p_t_17.Vars (goSet p_t_17.Where t_9 (goBits .or .i64 e_26 t_28)) p_t_17.Sum)))) (some p_t_17)) : Option (impl_Table)).bind fun p_t_32 => some (.next ((w64 (t_16 + 1)), p_t_32))))))) (some (.done p_t_17)))

noncomputable def spec_nSet (p_s : List impl_Variable) (p_t : impl_Table) (p_w : List UInt8) : Option (impl_Table) :=
  ((spec_l1Split p_w (⟨61⟩ : K .u8)).bind fun t_4 => ((goAt t_4 0).bind fun e_7 => ((spec_sFind p_s e_7).bind fun t_9 => (((cond ((goLen t_4) != 2) (some true) (some (decide (t_9 < 0)))) : Option (Bool)).bind fun t_10 => (cond t_10 (some p_t) ((goAt t_4 1).bind fun e_11 => ((spec_l1Split e_11 (⟨44⟩ : K .u8)).bind fun t_13 => ((loopC (spec_nSet_l1 p_s t_9 t_13) (0, p_t)).bind fun p_t_35 => some p_t_35))))))))

noncomputable def spec_nGuess_l2 (p_s : List impl_Variable) (t_27 : List (List UInt8)) : Int × impl_Table → Option (Stp (Int × impl_Table) (impl_Table))
  | (t_30, t_31) => (cond (decide (t_30 < (goLen t_27))) ((goAt t_27 t_30).bind fun e_34 => ((spec_sFind p_s e_34).bind fun t_36 => ((goApp 8 t_31.Vars ([t_36] : List Int)).bind fun l_38 => some (.next ((w64 (t_30 + 1)), (impl_Table.mk t_31.Level l_38 t_31.Where t_31.Sum)))))) (some (.done t_31)))

noncomputable def spec_nGuess_l1 (p_s : List impl_Variable) (t_6 : List (List UInt8)) : Bool × Int × impl_Table → Option (Stp (Bool × Int × impl_Table) (impl_Table))
  | (conditions_9, i_10, t_11) => (cond (decide (i_10 < (goLen t_6))) (((cond conditions_9 ((goAt t_6 i_10).bind fun e_66 => ((spec_nSet p_s t_11 e_66).bind fun t_69 => some (conditions_9, i_10, t_69))) ((goAt t_6 i_10).bind fun e_14 => (((cond (e_14 == ([119, 104, 101, 114, 101] : List UInt8)) (some (true, i_10, t_11)) ((((goAt t_6 i_10).bind fun e_16 => (cond (e_16 == ([115, 117, 109] : List UInt8)) (some (!(i_10 == (w64 ((goLen t_6) - 1))))) (some false))) : Option (Bool)).bind fun t_18 => (((cond t_18 ((goAt t_6 (w64 (i_10 + 1))).bind fun e_54 => ((spec_sFind p_s e_54).bind fun t_56 => some ((w64 (i_10 + 1)), (impl_Table.mk t_11.Level t_11.Vars t_11.Where t_56)))) ((((goAt t_6 i_10).bind fun e_19 => (cond (e_19 == ([108, 101, 118, 101, 108] : List UInt8)) (some (!(i_10 == (w64 ((goLen t_6) - 1))))) (some false))) : Option (Bool)).bind fun t_21 => (((cond t_21 ((goAt t_6 (w64 (i_10 + 1))).bind fun e_47 => ((spec_l1Read e_47).bind fun t_49 => some ((w64 (i_10 + 1)), (impl_Table.mk t_49 t_11.Vars t_11.Where t_11.Sum)))) ((((goAt t_6 i_10).bind fun e_22 => (cond (e_22 == ([98, 121] : List UInt8)) (some (!(i_10 == (w64 ((goLen t_6) - 1))))) (some false))) : Option (Bool)).bind fun t_24 => (((cond t_24 ((goAt t_6 (w64 (i_10 + 1))).bind fun e_25 => ((spec_l1Split e_25 (⟨44⟩ : K .u8)).bind fun t_27 => ((loopC (spec_nGuess_l2 p_s t_27) (0, t_11)).bind fun t_40 => some ((w64 (i_10 + 1)), t_40)))) (some (i_10, t_11))) : Option (Int × impl_Table)).bind fun (i_43, t_44) => some (i_43, t_44)))) : Option (Int × impl_Table)).bind fun (i_50, t_51) => some (i_50, t_51)))) : Option (Int × impl_Table)).bind fun (i_57, t_58) => some (conditions_9, i_57, t_58)))) : Option (Bool × Int × impl_Table)).bind fun (conditions_61, i_62, t_63) => some (conditions_61, i_62, t_63)))) : Option (Bool × Int × impl_Table)).bind fun (conditions_72, i_73, t_74) => some (.next (conditions_72, (w64 (i_73 + 1)), t_74))) (some (.done t_11)))

noncomputable def spec_nGuess (p_s : List impl_Variable) (p_x : List UInt8) : Option (impl_Table) :=
  ((goMake 8 (goLen p_s) (0 : Int)).bind fun l_3 => ((spec_l1Split p_x (⟨32⟩ : K .u8)).bind fun t_6 => ((loopC (spec_nGuess_l1 p_s t_6) (false, 0, (impl_Table.mk 0 ([] : List Int) l_3 (-1)))).bind fun t_77 => some t_77)))

noncomputable def spec_nParse (p_g : impl_Geo) (p_s : List impl_Variable) (p_x : List UInt8) : Option (impl_Table × Bool) :=
  ((spec_nGuess p_s p_x).bind fun t_5 => ((((spec_uGood p_g p_s t_5).bind fun t_10 => (cond (!t_10) (some true) ((spec_nTable p_s t_5).bind fun t_12 => some (t_12 != p_x)))) : Option (Bool)).bind fun t_14 => (cond t_14 (some ((impl_Table.mk 0 ([] : List Int) ([] : List Int) 0), false)) (some (t_5, true)))))

noncomputable def spec_ParsePlan_l1 (p_g : impl_Geo) (p_s : List impl_Variable) (t_5 : List (List UInt8)) : (List impl_Table) × Int → Option (Stp ((List impl_Table) × Int) (((List impl_Table)) ⊕ ((List impl_Table) × Int × Bool)))
  | (out_8, t_10) => (cond (decide (t_10 < (goLen t_5))) ((goAt t_5 t_10).bind fun e_12 => (cond (t_10 == (w64 ((goLen t_5) - 1))) (cond (e_12 != ([] : List UInt8)) (some (.done (.inr (([] : List impl_Table), (w64 (t_10 + 1)), false)))) (some (.done (.inl out_8)))) ((spec_nParse p_g p_s e_12).bind fun t_14 => (((cond (!t_14.2) (some true) (some (t_10 == 20))) : Option (Bool)).bind fun t_19 => (cond t_19 (some (.done (.inr (([] : List impl_Table), (w64 (t_10 + 1)), false)))) ((goApp 64 out_8 ([t_14.1] : List impl_Table)).bind fun l_23 => some (.next (l_23, (w64 (t_10 + 1)))))))))) (some (.done (.inl out_8))))

noncomputable def spec_ParsePlan (p_g : impl_Geo) (p_s : List impl_Variable) (p_x : List UInt8) : Option ((List impl_Table) × Int × Bool) :=
  ((spec_nInput p_g p_s).bind fun t_4 => (cond (!t_4) (some (([] : List impl_Table), 0, false)) ((spec_l1Split p_x (⟨10⟩ : K .u8)).bind fun t_5 => ((loopC (spec_ParsePlan_l1 p_g p_s t_5) (([] : List impl_Table), 0)).bind fun | .inl out_25 => some (out_25, 0, true) | .inr o => some o))))

noncomputable def spec_DrawMergePlans (p_code : List (K .u8)) : Option (impl_Geo × (List impl_Variable) × (List impl_Table) × (List impl_Table)) :=
  ((spec_DrawPlanText p_code).bind fun t_4 => ((spec_l1Cur_tables (spec_l1Cur.mk p_code 0 (⟨0⟩ : K .u64)) t_4.1 t_4.2.1).bind fun t_11 => (((cond (decide (0 < (goLen t_4.2.2))) ((spec_l1Cur_one t_11.2 2).bind fun t_15 => some t_15.1) (some false)) : Option (Bool)).bind fun t_17 => (((cond t_17 ((goAt t_4.2.2 0).bind fun e_18 => ((goApp 64 t_11.1 ([e_18] : List impl_Table)).bind fun l_23 => some l_23)) (some t_11.1)) : Option ((List impl_Table))).bind fun b_25 => some (t_4.1, t_4.2.1, t_4.2.2, b_25)))))

noncomputable def slices_Grow_impl_Table (p_n : Int) : Option (List impl_Table) :=
  cond (decide (0 ≤ p_n ∧ p_n.toNat * 64 ≤ 140737488355328)) (some []) none

noncomputable def slices_Concat_impl_Table_impl_Table_l1 (p_slices : List (List impl_Table)) : Int × Int → Option (Stp (Int × Int) (Int))
  | (size_2, t_3) => (cond (decide (t_3 < (goLen p_slices))) ((goAt p_slices t_3).bind fun e_4 => (cond (decide ((w64 (size_2 + (goLen e_4))) < 0)) none (some (.next ((w64 (size_2 + (goLen e_4))), (w64 (t_3 + 1))))))) (some (.done size_2)))

noncomputable def slices_Concat_impl_Table_impl_Table_l2 (p_slices : List (List impl_Table)) : (List impl_Table) × Int → Option (Stp ((List impl_Table) × Int) ((List impl_Table)))
  | (newslice_11, t_13) => (cond (decide (t_13 < (goLen p_slices))) ((goAt p_slices t_13).bind fun e_14 => ((goApp 64 newslice_11 e_14).bind fun l_17 => some (.next (l_17, (w64 (t_13 + 1)))))) (some (.done newslice_11)))

noncomputable def slices_Concat_impl_Table_impl_Table (p_slices : List (List impl_Table)) : Option ((List impl_Table)) :=
  ((loopC (slices_Concat_impl_Table_impl_Table_l1 p_slices) (0, 0)).bind fun size_7 => ((slices_Grow_impl_Table size_7).bind fun t_8 => ((loopC (slices_Concat_impl_Table_impl_Table_l2 p_slices) (t_8, 0)).bind fun newslice_19 => some newslice_19)))

noncomputable def slices_Clone_int_int (p_s : List Int) : Option ((List Int)) :=
  ((goApp 8 ([] : List Int) p_s).bind fun l_3 => some l_3)

noncomputable def impl_copyTable (p_t : impl_Table) : Option (impl_Table) :=
  ((slices_Clone_int_int p_t.Vars).bind fun t_11 => ((slices_Clone_int_int p_t.Where).bind fun t_17 => some (impl_Table.mk p_t.Level t_11 t_17 p_t.Sum)))

noncomputable def impl_normalTable_l1 (p_s : List impl_Variable) (t_6 : impl_Table) : impl_Table × Int → Option (Stp (impl_Table × Int) (impl_Table))
  | (t_10, t_13) => (cond (decide (t_13 < (goLen t_6.Where))) ((goAt t_10.Where t_13).bind fun e_14 => ((goAt p_s t_13).bind fun e_16 => ((impl_fullSet e_16).bind fun t_18 => (((cond (e_14 == t_18) ((goAt t_10.Where t_13).bind fun e_19 => some (impl_Table.mk t_10.Level t_10.Vars (goSet t_10.Where t_13 0) t_10.Sum)) (some t_10)) : Option (impl_Table)).bind fun t_22 => some (.next (t_22, (w64 (t_13 + 1)))))))) (some (.done t_10)))

noncomputable def impl_normalTable (p_s : List impl_Variable) (p_t : impl_Table) : Option (impl_Table) :=
  ((impl_copyTable p_t).bind fun t_6 => ((loopC (impl_normalTable_l1 p_s t_6) (t_6, 0)).bind fun t_25 => some t_25))

noncomputable def slices_Equal_int_int_l1 (p_s1 : List Int) (p_s2 : List Int) (t_3 : Int) : Option (Stp (Int) ((Unit) ⊕ (Bool))) :=
  (cond (decide (t_3 < (goLen p_s1))) ((goAt p_s1 t_3).bind fun e_4 => ((goAt p_s2 t_3).bind fun e_6 => (cond (e_4 != e_6) (some (.done (.inr false))) (some (.next (w64 (t_3 + 1))))))) (some (.done (.inl ()))))

noncomputable def slices_Equal_int_int (p_s1 : List Int) (p_s2 : List Int) : Option (Bool) :=
  (cond ((goLen p_s1) != (goLen p_s2)) (some false) ((loopC (slices_Equal_int_int_l1 p_s1 p_s2) 0).bind fun | .inl () => some true | .inr o => some o))

noncomputable def impl_sameMeaning (p_s : List impl_Variable) (p_a : impl_Table) (p_b : impl_Table) : Option (Bool) :=
  ((impl_normalTable p_s p_a).bind fun t_16 => ((impl_normalTable p_s p_b).bind fun t_20 => (((cond (t_16.Level == t_20.Level) (cond (t_16.Sum == t_20.Sum) ((slices_Equal_int_int t_16.Vars t_20.Vars).bind fun t_24 => (cond t_24 ((slices_Equal_int_int t_16.Where t_20.Where).bind fun t_26 => some t_26) (some false))) (some false)) (some false)) : Option (Bool)).bind fun t_28 => some t_28)))

noncomputable def impl_MergePlans_1 (p_u : impl_Table) (p_x1 : List impl_Variable) (p_x2 : impl_Table) : Option (Bool) :=
  ((impl_sameMeaning p_x1 p_x2 p_u).bind fun t_7 => some t_7)

noncomputable def slices_IndexFunc_impl_Table_impl_Table_of_impl_MergePlans_1_l1 (p_s : List impl_Table) (p_x200 : List impl_Variable) (p_x201 : impl_Table) (t_5 : Int) : Option (Stp (Int) ((Unit) ⊕ (Int))) :=
  (cond (decide (t_5 < (goLen p_s))) ((goAt p_s t_5).bind fun e_6 => ((impl_MergePlans_1 e_6 p_x200 p_x201).bind fun t_11 => (cond t_11 (some (.done (.inr t_5))) (some (.next (w64 (t_5 + 1))))))) (some (.done (.inl ()))))

noncomputable def slices_IndexFunc_impl_Table_impl_Table_of_impl_MergePlans_1 (p_s : List impl_Table) (p_x200 : List impl_Variable) (p_x201 : impl_Table) : Option (Int) :=
  ((loopC (slices_IndexFunc_impl_Table_impl_Table_of_impl_MergePlans_1_l1 p_s p_x200 p_x201) 0).bind fun | .inl () => some (-1) | .inr o => some o)

noncomputable def slices_ContainsFunc_impl_Table_impl_Table_of_impl_MergePlans_1 (p_s : List impl_Table) (p_x200 : List impl_Variable) (p_x201 : impl_Table) : Option (Bool) :=
  ((slices_IndexFunc_impl_Table_impl_Table_of_impl_MergePlans_1 p_s p_x200 p_x201).bind fun t_6 => some (decide (0 ≤ t_6)))

noncomputable def impl_MergePlans_l1 (p_s : List impl_Variable) (t_12 : List impl_Table) : (List impl_Table) × Int → Option (Stp ((List impl_Table) × Int) ((List impl_Table)))
  | (out_15, t_17) => (cond (decide (t_17 < (goLen t_12))) ((goAt t_12 t_17).bind fun e_19 => ((slices_ContainsFunc_impl_Table_impl_Table_of_impl_MergePlans_1 out_15 p_s e_19).bind fun t_25 => (((cond (!t_25) ((impl_copyTable e_19).bind fun t_26 => ((goApp 64 out_15 ([t_26] : List impl_Table)).bind fun l_33 => some l_33)) (some out_15)) : Option ((List impl_Table))).bind fun out_35 => some (.next (out_35, (w64 (t_17 + 1))))))) (some (.done out_15)))

noncomputable def impl_MergePlans (p_g : impl_Geo) (p_s : List impl_Variable) (p_a : List impl_Table) (p_b : List impl_Table) : Option ((List impl_Table) × Bool) :=
  ((((impl_isPlan p_g p_s p_a).bind fun t_7 => (cond (!t_7) (some true) ((impl_isPlan p_g p_s p_b).bind fun t_8 => some (!t_8)))) : Option (Bool)).bind fun t_9 => (cond t_9 (some (([] : List impl_Table), false)) ((slices_Concat_impl_Table_impl_Table ([p_a, p_b] : List (List impl_Table))).bind fun t_12 => ((loopC (impl_MergePlans_l1 p_s t_12) (([] : List impl_Table), 0)).bind fun out_38 => (cond (decide (20 < (goLen out_38))) (some (([] : List impl_Table), false)) (some (out_38, true)))))))

noncomputable def spec_nOwn (p_t : impl_Table) : Option (impl_Table) :=
  ((spec_l1Own p_t.Vars).bind fun t_17 => ((spec_l1Own p_t.Where).bind fun t_20 => some (impl_Table.mk p_t.Level t_17 t_20 p_t.Sum)))

noncomputable def spec_eFull (p_s : List impl_Variable) (p_v : Int) : Option (Int) :=
  ((goAt p_s p_v).bind fun e_2 => ((goShl .i64 1 (IntKind.wrap .u64 e_2.Levels)).bind fun t_4 => some (w64 (t_4 - 1))))

noncomputable def spec_nNormal_l1 (p_s : List impl_Variable) : Int × impl_Table → Option (Stp (Int × impl_Table) (impl_Table))
  | (t_11, out_12) => (cond (decide (t_11 < (goLen p_s))) ((goAt out_12.Where t_11).bind fun e_15 => ((spec_eFull p_s t_11).bind fun t_17 => (((cond (e_15 == t_17) ((goAt out_12.Where t_11).bind fun e_18 => some (impl_Table.mk out_12.Level out_12.Vars (goSet out_12.Where t_11 0) out_12.Sum)) (some out_12)) : Option (impl_Table)).bind fun out_21 => some (.next ((w64 (t_11 + 1)), out_21))))) (some (.done out_12)))

noncomputable def spec_nNormal (p_s : List impl_Variable) (p_t : impl_Table) : Option (impl_Table) :=
  ((spec_nOwn p_t).bind fun t_6 => ((loopC (spec_nNormal_l1 p_s) (0, t_6)).bind fun out_24 => some out_24))

noncomputable def spec_l1Same_l1 (p_a : List Int) (p_b : List Int) (t_3 : Int) : Option (Stp (Int) ((Unit) ⊕ (Bool))) :=
  (cond (decide (t_3 < (goLen p_a))) ((goAt p_a t_3).bind fun e_4 => ((goAt p_b t_3).bind fun e_6 => (cond (e_4 != e_6) (some (.done (.inr false))) (some (.next (w64 (t_3 + 1))))))) (some (.done (.inl ()))))

noncomputable def spec_l1Same (p_a : List Int) (p_b : List Int) : Option (Bool) :=
  (cond ((goLen p_a) != (goLen p_b)) (some false) ((loopC (spec_l1Same_l1 p_a p_b) 0).bind fun | .inl () => some true | .inr o => some o))

noncomputable def spec_nSame (p_s : List impl_Variable) (p_a : impl_Table) (p_b : impl_Table) : Option (Bool) :=
  ((((spec_nNormal p_s p_a).bind fun t_20 => ((spec_nNormal p_s p_b).bind fun t_24 => some (t_24, t_20))) : Option (impl_Table × impl_Table)).bind fun (y_30, x_33) => (((cond (x_33.Level == y_30.Level) ((spec_l1Same x_33.Vars y_30.Vars).bind fun t_36 => (cond t_36 ((spec_l1Same x_33.Where y_30.Where).bind fun t_38 => (cond t_38 (some (x_33.Sum == y_30.Sum)) (some false))) (some false))) (some false)) : Option (Bool)).bind fun t_40 => some t_40))

noncomputable def spec_MergePlans_l2 (p_s : List impl_Variable) (out_14 : List impl_Table) (e_18 : impl_Table) : Bool × Int → Option (Stp (Bool × Int) (Bool))
  | (known_23, t_24) => (cond (decide (t_24 < (goLen out_14))) ((goAt out_14 t_24).bind fun e_25 => (((cond known_23 (some true) ((spec_nSame p_s e_18 e_25).bind fun t_30 => some t_30)) : Option (Bool)).bind fun known_31 => some (.next (known_31, (w64 (t_24 + 1)))))) (some (.done known_23)))

noncomputable def spec_MergePlans_l1 (p_s : List impl_Variable) (l_12 : List impl_Table) : (List impl_Table) × Int → Option (Stp ((List impl_Table) × Int) ((List impl_Table)))
  | (out_14, t_16) => (cond (decide (t_16 < (goLen l_12))) ((goAt l_12 t_16).bind fun e_18 => ((loopC (spec_MergePlans_l2 p_s out_14 e_18) (false, 0)).bind fun known_32 => (((cond (!known_32) ((spec_nOwn e_18).bind fun t_33 => ((goApp 64 out_14 ([t_33] : List impl_Table)).bind fun l_40 => some l_40)) (some out_14)) : Option ((List impl_Table))).bind fun out_42 => some (.next (out_42, (w64 (t_16 + 1))))))) (some (.done out_14)))

noncomputable def spec_MergePlans (p_g : impl_Geo) (p_s : List impl_Variable) (p_a : List impl_Table) (p_b : List impl_Table) : Option ((List impl_Table) × Bool) :=
  ((((spec_nPlan p_g p_s p_a).bind fun t_6 => (cond (!t_6) (some true) ((spec_nPlan p_g p_s p_b).bind fun t_7 => some (!t_7)))) : Option (Bool)).bind fun t_8 => (cond t_8 (some (([] : List impl_Table), false)) ((goApp 64 ([] : List impl_Table) p_a).bind fun l_10 => ((goApp 64 l_10 p_b).bind fun l_12 => ((loopC (spec_MergePlans_l1 p_s l_12) (([] : List impl_Table), 0)).bind fun out_45 => (cond (decide (20 < (goLen out_45))) (some (([] : List impl_Table), false)) (some (out_45, true))))))))

noncomputable def slices_Index_int_int_l1 (p_s : List Int) (p_v : Int) (t_2 : Int) : Option (Stp (Int) ((Unit) ⊕ (Int))) :=
  (cond (decide (t_2 < (goLen p_s))) ((goAt p_s t_2).bind fun e_3 => (cond (p_v == e_3) (some (.done (.inr t_2))) (some (.next (w64 (t_2 + 1)))))) (some (.done (.inl ()))))

noncomputable def slices_Index_int_int (p_s : List Int) (p_v : Int) : Option (Int) :=
  ((loopC (slices_Index_int_int_l1 p_s p_v) 0).bind fun | .inl () => some (-1) | .inr o => some o)

noncomputable def slices_Contains_int_int (p_s : List Int) (p_v : Int) : Option (Bool) :=
  ((slices_Index_int_int p_s p_v).bind fun t_2 => some (decide (0 ≤ t_2)))

noncomputable def impl_isLeaf (p_g : impl_Geo) (p_i : Int) : Option (Bool) :=
  ((slices_Contains_int_int p_g.Parents p_i).bind fun t_3 => some (!t_3))

noncomputable def impl_leavesOf_l1 (p_g : impl_Geo) : (List Int) × Int → Option (Stp ((List Int) × Int) ((List Int)))
  | (list_3, t_5) => (cond (decide (t_5 < (goLen p_g.Parents))) ((impl_isLeaf p_g t_5).bind fun t_6 => (((cond t_6 ((goApp 8 list_3 ([t_5] : List Int)).bind fun l_8 => some l_8) (some list_3)) : Option ((List Int))).bind fun list_10 => some (.next (list_10, (w64 (t_5 + 1)))))) (some (.done list_3)))

noncomputable def impl_leavesOf (p_g : impl_Geo) : Option ((List Int)) :=
  ((loopC (impl_leavesOf_l1 p_g) (([] : List Int), 0)).bind fun list_12 => some list_12)

noncomputable def impl_conditionOf (p_s : List impl_Variable) (p_t : impl_Table) (p_v : Int) : Option (Int) :=
  ((goAt p_t.Where p_v).bind fun e_5 => (cond (e_5 == 0) ((goAt p_s p_v).bind fun e_9 => ((impl_fullSet e_9).bind fun t_11 => some t_11)) ((goAt p_t.Where p_v).bind fun e_7 => some e_7)))

noncomputable def impl_followsFrom_l1 (p_g : impl_Geo) (p_t : impl_Table) (p_u : impl_Table) (t_10 : List Int) (t_13 : Int) : Option (Stp (Int) ((Unit) ⊕ ((Unit) ⊕ (Bool)))) :=
  (cond (decide (t_13 < (goLen t_10))) ((goAt t_10 t_13).bind fun e_14 => ((impl_depthOf p_g e_14).bind fun t_16 => (((cond (decide (p_t.Level ≤ t_16)) (some (decide (t_16 < p_u.Level))) (some false)) : Option (Bool)).bind fun t_17 => (cond t_17 (some (.done (.inr (.inr false)))) (some (.next (w64 (t_13 + 1)))))))) (some (.done (.inl ()))))

noncomputable def impl_followsFrom_l2 (p_t : impl_Table) (p_u : impl_Table) (t_18 : Int) : Option (Stp (Int) ((Unit) ⊕ (Bool))) :=
  (cond (decide (t_18 < (goLen p_t.Vars))) ((goAt p_t.Vars t_18).bind fun e_19 => ((slices_Contains_int_int p_u.Vars e_19).bind fun t_21 => (cond (!t_21) (some (.done (.inr false))) (some (.next (w64 (t_18 + 1))))))) (some (.done (.inl ()))))

noncomputable def impl_followsFrom_l3 (p_s : List impl_Variable) (p_t : impl_Table) (p_u : impl_Table) (t_22 : Int) : Option (Stp (Int) ((Unit) ⊕ (Bool))) :=
  (cond (decide (t_22 < (goLen p_s))) ((impl_conditionOf p_s p_t t_22).bind fun t_26 => ((impl_conditionOf p_s p_u t_22).bind fun t_27 => ((((slices_Contains_int_int p_u.Vars t_22).bind fun t_28 => (cond t_28 (cond ((goBits .andNot .i64 t_26 t_27) != 0) (some true) ((slices_Contains_int_int p_u.Vars t_22).bind fun t_30 => (cond (!t_30) (some (t_26 != t_27)) (some false)))) ((slices_Contains_int_int p_u.Vars t_22).bind fun t_29 => (cond (!t_29) (some (t_26 != t_27)) (some false))))) : Option (Bool)).bind fun t_31 => (cond t_31 (some (.done (.inr false))) (some (.next (w64 (t_22 + 1)))))))) (some (.done (.inl ()))))

noncomputable def impl_followsFrom (p_g : impl_Geo) (p_s : List impl_Variable) (p_t : impl_Table) (p_u : impl_Table) : Option (Bool) :=
  (((cond (p_t.Level != p_u.Level) (cond (decide (p_u.Level < p_t.Level)) (some (.inr false)) ((impl_leavesOf p_g).bind fun t_10 => ((loopC (impl_followsFrom_l1 p_g p_t p_u t_10) 0).bind fun | .inl () => some (.inl ()) | .inr o => some o))) (some (.inl ()))) : Option ((Unit) ⊕ (Bool))).bind fun | .inl () => ((loopC (impl_followsFrom_l2 p_t p_u) 0).bind fun | .inl () => ((loopC (impl_followsFrom_l3 p_s p_t p_u) 0).bind fun | .inl () => (((cond (p_t.Sum == p_u.Sum) (some true) (cond (p_u.Sum == (-1)) ((slices_Contains_int_int p_u.Vars p_t.Sum).bind fun t_32 => some t_32) (some false))) : Option (Bool)).bind fun t_33 => some t_33) | .inr o => some o) | .inr o => some o) | .inr o => some o)

noncomputable def impl_CoversPlan_1 (p_u : impl_Table) (p_x1 : impl_Geo) (p_x2 : List impl_Variable) (p_x3 : impl_Table) : Option (Bool) :=
  ((impl_followsFrom p_x1 p_x2 p_x3 p_u).bind fun t_8 => some t_8)

noncomputable def slices_IndexFunc_impl_Table_impl_Table_of_impl_CoversPlan_1_l1 (p_s : List impl_Table) (p_x200 : impl_Geo) (p_x201 : List impl_Variable) (p_x202 : impl_Table) (t_6 : Int) : Option (Stp (Int) ((Unit) ⊕ (Int))) :=
  (cond (decide (t_6 < (goLen p_s))) ((goAt p_s t_6).bind fun e_7 => ((impl_CoversPlan_1 e_7 p_x200 p_x201 p_x202).bind fun t_12 => (cond t_12 (some (.done (.inr t_6))) (some (.next (w64 (t_6 + 1))))))) (some (.done (.inl ()))))

noncomputable def slices_IndexFunc_impl_Table_impl_Table_of_impl_CoversPlan_1 (p_s : List impl_Table) (p_x200 : impl_Geo) (p_x201 : List impl_Variable) (p_x202 : impl_Table) : Option (Int) :=
  ((loopC (slices_IndexFunc_impl_Table_impl_Table_of_impl_CoversPlan_1_l1 p_s p_x200 p_x201 p_x202) 0).bind fun | .inl () => some (-1) | .inr o => some o)

noncomputable def slices_ContainsFunc_impl_Table_impl_Table_of_impl_CoversPlan_1 (p_s : List impl_Table) (p_x200 : impl_Geo) (p_x201 : List impl_Variable) (p_x202 : impl_Table) : Option (Bool) :=
  ((slices_IndexFunc_impl_Table_impl_Table_of_impl_CoversPlan_1 p_s p_x200 p_x201 p_x202).bind fun t_7 => some (decide (0 ≤ t_7)))

noncomputable def impl_CoversPlan_l1 (p_g : impl_Geo) (p_s : List impl_Variable) (p_l : List impl_Table) (p_m : List impl_Table) (t_10 : Int) : Option (Stp (Int) ((Unit) ⊕ (Bool × Bool))) :=
  (cond (decide (t_10 < (goLen p_m))) ((goAt p_m t_10).bind fun e_11 => ((slices_ContainsFunc_impl_Table_impl_Table_of_impl_CoversPlan_1 p_l p_g p_s e_11).bind fun t_17 => (cond (!t_17) (some (.done (.inr (false, true)))) (some (.next (w64 (t_10 + 1))))))) (some (.done (.inl ()))))

noncomputable def impl_CoversPlan (p_g : impl_Geo) (p_s : List impl_Variable) (p_l : List impl_Table) (p_m : List impl_Table) : Option (Bool × Bool) :=
  ((((impl_isPlan p_g p_s p_l).bind fun t_7 => (cond (!t_7) (some true) ((impl_isPlan p_g p_s p_m).bind fun t_8 => some (!t_8)))) : Option (Bool)).bind fun t_9 => (cond t_9 (some (false, false)) ((loopC (impl_CoversPlan_l1 p_g p_s p_l p_m) 0).bind fun | .inl () => some (true, true) | .inr o => some o)))

noncomputable def laws_FnPlans (p_code : List (K .u8)) (p_more : List (K .u8)) : Option (Bool) :=
  ((laws_big p_code p_more).bind fun t_3 => (cond t_3 (some true) ((spec_DrawPlanText p_code).bind fun t_4 => ((impl_PlanText t_4.1 t_4.2.1 t_4.2.2).bind fun t_10 => ((spec_PlanText t_4.1 t_4.2.1 t_4.2.2).bind fun t_12 => (((cond (t_10.2 != t_12.2) (some true) (some (t_10.1 != t_12.1))) : Option (Bool)).bind fun t_14 => (cond t_14 (some false) (((cond t_10.2 ((impl_ParsePlan t_4.1 t_4.2.1 t_10.1).bind fun t_15 => (((cond (!t_15.2.2) (some true) (cond (t_15.2.1 != 0) (some true) ((laws_pSameTables t_15.1 t_4.2.2).bind fun t_18 => some (!t_18)))) : Option (Bool)).bind fun t_20 => (cond t_20 (some (.inr false)) (some (.inl ()))))) (some (.inl ()))) : Option ((Unit) ⊕ (Bool))).bind fun | .inl () => ((spec_DrawParsePlan p_more).bind fun t_22 => ((impl_ParsePlan t_22.1 t_22.2.1 t_22.2.2).bind fun t_27 => ((spec_ParsePlan t_22.1 t_22.2.1 t_22.2.2).bind fun t_30 => (((cond (t_27.2.2 != t_30.2.2) (some true) (cond (t_27.2.1 != t_30.2.1) (some true) ((laws_pSameTables t_27.1 t_30.1).bind fun t_33 => some (!t_33)))) : Option (Bool)).bind fun t_35 => (cond t_35 (some false) ((spec_DrawMergePlans p_more).bind fun t_36 => ((impl_MergePlans t_36.1 t_36.2.1 t_36.2.2.1 t_36.2.2.2).bind fun t_45 => ((spec_MergePlans t_36.1 t_36.2.1 t_36.2.2.1 t_36.2.2.2).bind fun t_48 => (((cond (t_45.2 != t_48.2) (some true) ((laws_pSameTables t_45.1 t_48.1).bind fun t_51 => some (!t_51))) : Option (Bool)).bind fun t_53 => (cond t_53 (some false) (cond t_45.2 ((impl_CoversPlan t_36.1 t_36.2.1 t_45.1 t_36.2.2.1).bind fun t_54 => ((impl_CoversPlan t_36.1 t_36.2.1 t_45.1 t_36.2.2.2).bind fun t_56 => (((cond t_54.2 (cond t_56.2 (cond t_54.1 (some t_56.1) (some false)) (some false)) (some false)) : Option (Bool)).bind fun t_58 => some t_58))) (some true)))))))))))) | .inr o => some o))))))))

end Go.Gx.F
