/- The plain functions that the walks come to. -/
import Derived.Test.YtnmimeojimfogaaGy
namespace Go.Gx.F
open Go.Gx
set_option linter.all false

structure spec_l1Cur where
  code : List (K .u8)
  at_ : Int
  seed : K .u64

instance : Rep spec_l1Cur where
  wd := 3
  rd m cs x := ∃ s1 : Sl, cs = [s1.v, (.int .i64 x.at_), (.int .u64 x.seed.v)] ∧ Rd m s1 x.code
  mono hm h := by
    obtain ⟨s1, rfl, h1⟩ := h
    exact ⟨s1, rfl, h1.mono hm⟩
  len h := by obtain ⟨s1, rfl, _⟩ := h; rfl
  one h := by obtain ⟨s1, rfl, _⟩ := h; rfl

instance : Rng spec_l1Cur := ⟨fun x => Rng.ok x.code ∧ Rng.ok x.at_ ∧ Rng.ok x.seed⟩

structure impl_Geo where
  Parents : List Int

instance : Rep impl_Geo where
  wd := 1
  rd m cs x := ∃ s1 : Sl, cs = [s1.v] ∧ Rd m s1 x.Parents
  mono hm h := by
    obtain ⟨s1, rfl, h1⟩ := h
    exact ⟨s1, rfl, h1.mono hm⟩
  len h := by obtain ⟨s1, rfl, _⟩ := h; rfl
  one h := by obtain ⟨s1, rfl, _⟩ := h; rfl

instance : Rng impl_Geo := ⟨fun x => Rng.ok x.Parents⟩

structure impl_Variable where
  Name : List UInt8
  Levels : Int

instance : Rep impl_Variable where
  wd := 2
  rd m cs x := cs = [(strV x.Name), (.int .i64 x.Levels)]
  mono _ h := h
  len h := by subst h; rfl
  one h := by subst h; rfl

instance : Flat impl_Variable := ⟨fun h => h⟩

instance : Rng impl_Variable := ⟨fun x => Rng.ok x.Name ∧ Rng.ok x.Levels⟩

structure impl_Record where
  Area : Int
  House : Int
  Values : List Int

instance : Rep impl_Record where
  wd := 3
  rd m cs x := ∃ s1 : Sl, cs = [(.int .i64 x.Area), (.int .i64 x.House), s1.v] ∧ Rd m s1 x.Values
  mono hm h := by
    obtain ⟨s1, rfl, h1⟩ := h
    exact ⟨s1, rfl, h1.mono hm⟩
  len h := by obtain ⟨s1, rfl, _⟩ := h; rfl
  one h := by obtain ⟨s1, rfl, _⟩ := h; rfl

instance : Rng impl_Record := ⟨fun x => Rng.ok x.Area ∧ Rng.ok x.House ∧ Rng.ok x.Values⟩

structure impl_Table where
  Level : Int
  Vars : List Int
  Where : List Int
  Sum : Int

instance : Rep impl_Table where
  wd := 4
  rd m cs x := ∃ s1 s2 : Sl, cs = [(.int .i64 x.Level), s1.v, s2.v, (.int .i64 x.Sum)] ∧ Rd m s1 x.Vars ∧ Rd m s2 x.Where
  mono hm h := by
    obtain ⟨s1, s2, rfl, h1, h2⟩ := h
    exact ⟨s1, s2, rfl, h1.mono hm, h2.mono hm⟩
  len h := by obtain ⟨s1, s2, rfl, _⟩ := h; rfl
  one h := by obtain ⟨s1, s2, rfl, _⟩ := h; rfl

instance : Rng impl_Table := ⟨fun x => Rng.ok x.Level ∧ Rng.ok x.Vars ∧ Rng.ok x.Where ∧ Rng.ok x.Sum⟩

noncomputable def laws_big (p_code : List (K .u8)) (p_more : List (K .u8)) : Option (Bool) :=
  (((cond (decide (1048576 < (goLen p_code))) (some true) (some (decide ((w64 (1048576 - (goLen p_code))) < (goLen p_more))))) : Option (Bool)).bind fun t_3 => some t_3)

noncomputable def spec_l1Cur_next (p_c : spec_l1Cur) : Option (Int × spec_l1Cur) :=
  (((cond (decide (p_c.at_ < (goLen p_c.code))) ((goAt p_c.code p_c.at_).bind fun e_2 => some (w64 e_2.v)) (some 0)) : Option (Int)).bind fun b_4 => (cond (decide ((w64 (p_c.at_ + 1)) ≤ (goLen p_c.code))) (some (b_4, (spec_l1Cur.mk p_c.code (w64 (p_c.at_ + 1)) (⟨(IntKind.wrap .u64 ((IntKind.wrap .u64 ((IntKind.wrap .u64 (p_c.seed.v * 6364136223846793005)) + (IntKind.wrap .u64 b_4))) + 1442695040888963407))⟩ : K .u64)))) ((goShr .u64 (IntKind.wrap .u64 ((IntKind.wrap .u64 ((IntKind.wrap .u64 (p_c.seed.v * 6364136223846793005)) + (IntKind.wrap .u64 b_4))) + 1442695040888963407)) 40).bind fun t_5 => some ((w64 (goBits .and .u64 t_5 255)), (spec_l1Cur.mk p_c.code (w64 (p_c.at_ + 1)) (⟨(IntKind.wrap .u64 ((IntKind.wrap .u64 ((IntKind.wrap .u64 (p_c.seed.v * 6364136223846793005)) + (IntKind.wrap .u64 b_4))) + 1442695040888963407))⟩ : K .u64))))))

noncomputable def spec_l1Cur_pick (p_c : spec_l1Cur) (p_n : Int) : Option (Int × spec_l1Cur) :=
  (cond (decide (p_n ≤ 1)) (some (0, p_c)) ((spec_l1Cur_next p_c).bind fun t_3 => (((cond (decide (200 < p_n)) ((spec_l1Cur_next t_3.2).bind fun t_6 => some ((w64 ((w64 (t_3.1 * 256)) + t_6.1)), t_6.2)) (some (t_3.1, t_3.2))) : Option (Int × spec_l1Cur)).bind fun (x_8, p_c_9) => ((goRem x_8 p_n).bind fun t_11 => some (t_11, p_c_9)))))

noncomputable def spec_l1Own (p_l : List Int) : Option ((List Int)) :=
  ((goApp 8 ([] : List Int) p_l).bind fun l_3 => some l_3)

noncomputable def spec_l1Cur_geo_l1  : Int × spec_l1Cur × impl_Geo → Option (Stp (Int × spec_l1Cur × impl_Geo) (spec_l1Cur × impl_Geo))
  | (k_29, p_c_30, g_32) => (cond (decide (0 < k_29)) ((((spec_l1Cur_pick p_c_30 (goLen g_32.Parents)).bind fun t_35 => ((goApp 8 g_32.Parents ([t_35.1] : List Int)).bind fun l_38 => some (t_35.2, (impl_Geo.mk l_38)))) : Option (spec_l1Cur × impl_Geo)).bind fun (p_c_40, g_42) => some (.next ((w64 (k_29 - 1)), p_c_40, g_42))) (some (.done (p_c_30, g_32))))

noncomputable def spec_l1Cur_geo (p_c : spec_l1Cur) : Option (impl_Geo × spec_l1Cur) :=
  ((spec_l1Cur_pick p_c (goLen ([([-1, 0, 0] : List Int), ([-1, 0, 0, 1, 1, 2, 2] : List Int), ([-1, 0, 0, 0, 1, 1, 2, 3] : List Int), ([-1, 0, 0, 1, 1] : List Int), ([-1] : List Int), ([-1, 0, 1, 2] : List Int)] : List (List Int)))).bind fun t_17 => ((goAt ([([-1, 0, 0] : List Int), ([-1, 0, 0, 1, 1, 2, 2] : List Int), ([-1, 0, 0, 0, 1, 1, 2, 3] : List Int), ([-1, 0, 0, 1, 1] : List Int), ([-1] : List Int), ([-1, 0, 1, 2] : List Int)] : List (List Int)) t_17.1).bind fun e_19 => ((spec_l1Own e_19).bind fun t_22 => ((spec_l1Cur_pick t_17.2 4).bind fun t_27 => ((loopC (spec_l1Cur_geo_l1) (t_27.1, t_27.2, (impl_Geo.mk t_22))).bind fun (p_c_44, g_46) => some (g_46, p_c_44))))))

noncomputable def spec_l1Cur_schema_l1  : (List impl_Variable) × Int × spec_l1Cur → Option (Stp ((List impl_Variable) × Int × spec_l1Cur) ((List impl_Variable) × spec_l1Cur))
  | (out_3, k_5, p_c_6) => ((spec_l1Cur_pick p_c_6 3).bind fun t_9 => (cond (decide (k_5 < (w64 (1 + t_9.1)))) ((((goAt ([([115, 101, 120] : List UInt8), ([97, 103, 101] : List UInt8), ([106, 111, 98] : List UInt8), ([104, 111, 109, 101] : List UInt8), ([115, 105, 122, 101] : List UInt8), ([108, 97, 110, 103] : List UInt8)] : List (List UInt8)) k_5).bind fun e_11 => ((spec_l1Cur_pick t_9.2 3).bind fun t_17 => ((goApp 24 out_3 ([(impl_Variable.mk e_11 (w64 (2 + t_17.1)))] : List impl_Variable)).bind fun l_20 => some (l_20, t_17.2)))) : Option ((List impl_Variable) × spec_l1Cur)).bind fun (out_22, p_c_24) => some (.next (out_22, (w64 (k_5 + 1)), p_c_24))) (some (.done (out_3, t_9.2)))))

noncomputable def spec_l1Cur_schema (p_c : spec_l1Cur) : Option ((List impl_Variable) × spec_l1Cur) :=
  ((loopC (spec_l1Cur_schema_l1) (([] : List impl_Variable), 0, p_c)).bind fun (out_26, p_c_28) => some (out_26, p_c_28))

noncomputable def spec_gChildren_l1 (p_g : impl_Geo) (p_i : Int) : (List Int) × Int → Option (Stp ((List Int) × Int) ((List Int)))
  | (out_3, t_5) => (cond (decide (t_5 < (goLen p_g.Parents))) ((goAt p_g.Parents t_5).bind fun e_6 => (((cond (e_6 == p_i) ((goApp 8 out_3 ([t_5] : List Int)).bind fun l_9 => some l_9) (some out_3)) : Option ((List Int))).bind fun out_11 => some (.next (out_11, (w64 (t_5 + 1)))))) (some (.done out_3)))

noncomputable def spec_gChildren (p_g : impl_Geo) (p_i : Int) : Option ((List Int)) :=
  ((loopC (spec_gChildren_l1 p_g p_i) (([] : List Int), 0)).bind fun out_13 => some out_13)

noncomputable def spec_gLeaves_l1 (p_g : impl_Geo) : (List Int) × Int → Option (Stp ((List Int) × Int) ((List Int)))
  | (out_3, t_5) => (cond (decide (t_5 < (goLen p_g.Parents))) ((spec_gChildren p_g t_5).bind fun t_6 => (((cond ((goLen t_6) == 0) ((goApp 8 out_3 ([t_5] : List Int)).bind fun l_10 => some l_10) (some out_3)) : Option ((List Int))).bind fun out_12 => some (.next (out_12, (w64 (t_5 + 1)))))) (some (.done out_3)))

noncomputable def spec_gLeaves (p_g : impl_Geo) : Option ((List Int)) :=
  ((loopC (spec_gLeaves_l1 p_g) (([] : List Int), 0)).bind fun out_14 => some out_14)

noncomputable def spec_l1Cur_among (p_c : spec_l1Cur) (p_list : List Int) : Option (Int × spec_l1Cur) :=
  ((spec_l1Cur_pick p_c (goLen p_list)).bind fun t_4 => ((goAt p_list t_4.1).bind fun e_6 => some (e_6, t_4.2)))

noncomputable def spec_l1Cur_values_l1 (p_s : List impl_Variable) : (List Int) × Int × spec_l1Cur → Option (Stp ((List Int) × Int × spec_l1Cur) ((List Int) × spec_l1Cur))
  | (out_3, t_5, p_c_6) => (cond (decide (t_5 < (goLen p_s))) ((goAt p_s t_5).bind fun e_8 => ((spec_l1Cur_pick p_c_6 e_8.Levels).bind fun t_12 => ((goApp 8 out_3 ([t_12.1] : List Int)).bind fun l_15 => some (.next (l_15, (w64 (t_5 + 1)), t_12.2))))) (some (.done (out_3, p_c_6))))

noncomputable def spec_l1Cur_values (p_c : spec_l1Cur) (p_s : List impl_Variable) : Option ((List Int) × spec_l1Cur) :=
  ((loopC (spec_l1Cur_values_l1 p_s) (([] : List Int), 0, p_c)).bind fun (out_17, p_c_19) => some (out_17, p_c_19))

noncomputable def spec_l1Cur_record (p_c : spec_l1Cur) (p_s : List impl_Variable) (p_areas : List Int) : Option (impl_Record × spec_l1Cur) :=
  ((spec_l1Cur_among p_c p_areas).bind fun t_6 => ((spec_l1Cur_pick t_6.2 6).bind fun t_9 => ((spec_l1Cur_values t_9.2 p_s).bind fun t_12 => some ((impl_Record.mk t_6.1 t_9.1 t_12.1), t_12.2))))

noncomputable def spec_l1Cur_one (p_c : spec_l1Cur) (p_n : Int) : Option (Bool × spec_l1Cur) :=
  ((spec_l1Cur_pick p_c p_n).bind fun t_3 => some (t_3.1 == 0, t_3.2))

noncomputable def spec_rOwn (p_r : impl_Record) : Option (impl_Record) :=
  ((spec_l1Own p_r.Values).bind fun t_4 => some (impl_Record.mk p_r.Area p_r.House t_4))

noncomputable def spec_l1Cur_data_l1 (p_s : List impl_Variable) (p_areas : List Int) : (List impl_Record) × Int × spec_l1Cur → Option (Stp ((List impl_Record) × Int × spec_l1Cur) ((List impl_Record) × spec_l1Cur))
  | (out_7, k_9, p_c_10) => (cond (decide (0 < k_9)) ((spec_l1Cur_record p_c_10 p_s p_areas).bind fun t_14 => ((goApp 40 out_7 ([t_14.1] : List impl_Record)).bind fun l_20 => ((spec_l1Cur_one t_14.2 4).bind fun t_23 => (((cond t_23.1 ((spec_rOwn t_14.1).bind fun t_25 => ((goApp 40 l_20 ([t_25] : List impl_Record)).bind fun l_30 => some l_30)) (some l_20)) : Option ((List impl_Record))).bind fun out_32 => some (.next (out_32, (w64 (k_9 - 1)), t_23.2)))))) (some (.done (out_7, p_c_10))))

noncomputable def spec_l1Cur_data (p_c : spec_l1Cur) (p_s : List impl_Variable) (p_areas : List Int) : Option ((List impl_Record) × spec_l1Cur) :=
  ((spec_l1Cur_pick p_c 12).bind fun t_5 => ((loopC (spec_l1Cur_data_l1 p_s p_areas) (([] : List impl_Record), t_5.1, t_5.2)).bind fun (out_35, p_c_37) => some (out_35, p_c_37)))

noncomputable def spec_l1Cur_survey (p_c : spec_l1Cur) : Option (impl_Geo × (List impl_Variable) × (List impl_Record) × spec_l1Cur) :=
  ((spec_l1Cur_geo p_c).bind fun t_4 => ((spec_l1Cur_schema t_4.2).bind fun t_9 => ((spec_gLeaves t_4.1).bind fun t_12 => ((spec_l1Cur_data t_9.2 t_9.1 t_12).bind fun t_19 => some (t_4.1, t_9.1, t_19.1, t_19.2)))))

noncomputable def spec_l1Cur_anyGeo (p_c : spec_l1Cur) : Option (impl_Geo × spec_l1Cur) :=
  ((spec_l1Cur_geo p_c).bind fun t_4 => ((spec_l1Cur_pick t_4.2 24).bind fun t_9 => (((cond (t_9.1 == 0) ((goAt t_4.1.Parents 0).bind fun e_38 => some (.inl (t_9.2, (impl_Geo.mk (goSet t_4.1.Parents 0 0))))) (((cond (t_9.1 == 1) ((((spec_l1Cur_among t_9.2 ([-1, goLen t_4.1.Parents, 0] : List Int)).bind fun t_25 => ((goApp 8 t_4.1.Parents ([t_25.1] : List Int)).bind fun l_28 => some (t_25.2, (impl_Geo.mk l_28)))) : Option (spec_l1Cur × impl_Geo)).bind fun (p_c_30, g_32) => some (.inl (p_c_30, g_32))) (cond (t_9.1 == 2) (some (.inr (.inr ((impl_Geo.mk ([] : List Int)), t_9.2)))) (((cond (t_9.1 == 3) ((spec_l1Cur_pick t_9.2 2).bind fun t_15 => ((goAppZ 8 t_4.1.Parents (w64 ((w64 (30 - (goLen t_4.1.Parents))) + t_15.1)) (0 : Int)).bind fun l_17 => some (t_15.2, (impl_Geo.mk l_17)))) (some (t_9.2, t_4.1))) : Option (spec_l1Cur × impl_Geo)).bind fun (p_c_19, g_21) => some (.inl (p_c_19, g_21))))) : Option ((spec_l1Cur × impl_Geo) ⊕ ((spec_l1Cur × impl_Geo) ⊕ (impl_Geo × spec_l1Cur)))).bind fun | .inl (p_c_34, g_36) => some (.inl (p_c_34, g_36)) | .inr o => some o)) : Option ((spec_l1Cur × impl_Geo) ⊕ (impl_Geo × spec_l1Cur))).bind fun | .inl (p_c_41, g_43) => some (g_43, p_c_41) | .inr o => some o)))

noncomputable def spec_l1Cur_of (p_c : spec_l1Cur) (p_list : List (List UInt8)) : Option ((List UInt8) × spec_l1Cur) :=
  ((spec_l1Cur_pick p_c (goLen p_list)).bind fun t_4 => ((goAt p_list t_4.1).bind fun e_6 => some (e_6, t_4.2)))

noncomputable def spec_l1Cur_anySchema_l1  : (List impl_Variable) × spec_l1Cur → Option (Stp ((List impl_Variable) × spec_l1Cur) ((List impl_Variable) × spec_l1Cur))
  | (s_9, p_c_11) => ((spec_l1Cur_pick p_c_11 2).bind fun t_14 => (cond (decide ((goLen s_9) < (w64 (6 + t_14.1)))) ((goCat ([120] : List UInt8) (goBytes ([(⟨(IntKind.wrap .u8 (w64 (97 + (goLen s_9))))⟩ : K .u8)] : List (K .u8)))).bind fun t_17 => ((goApp 24 s_9 ([(impl_Variable.mk t_17 2)] : List impl_Variable)).bind fun l_19 => some (.next (l_19, t_14.2)))) (some (.done (s_9, t_14.2)))))

noncomputable def spec_l1Cur_anySchema (p_c : spec_l1Cur) : Option ((List impl_Variable) × spec_l1Cur) :=
  ((spec_l1Cur_schema p_c).bind fun t_3 => ((spec_l1Cur_pick t_3.2 24).bind fun t_7 => (((cond (t_7.1 == 0) ((spec_l1Cur_among t_7.2 ([1, 8, 9] : List Int)).bind fun t_42 => ((goAt t_3.1 0).bind fun e_44 => some (.inl (goSet t_3.1 0 (impl_Variable.mk e_44.Name t_42.1), t_42.2)))) (((cond (t_7.1 == 1) ((spec_l1Cur_of t_7.2 ([([] : List UInt8), ([65, 103, 101] : List UInt8), ([97, 98, 99, 100, 101, 102, 103, 104, 105] : List UInt8), ([97, 103, 101] : List UInt8), ([97, 98, 32, 99, 100] : List UInt8)] : List (List UInt8))).bind fun t_31 => ((goAt t_3.1 0).bind fun e_33 => some (.inl (goSet t_3.1 0 (impl_Variable.mk t_31.1 e_33.Levels), t_31.2)))) (cond (t_7.1 == 2) (some (.inr (.inr (([] : List impl_Variable), t_7.2)))) (((cond (t_7.1 == 3) ((loopC (spec_l1Cur_anySchema_l1) (t_3.1, t_7.2)).bind fun (s_21, p_c_23) => some (s_21, p_c_23)) (some (t_3.1, t_7.2))) : Option ((List impl_Variable) × spec_l1Cur)).bind fun (s_25, p_c_27) => some (.inl (s_25, p_c_27))))) : Option (((List impl_Variable) × spec_l1Cur) ⊕ (((List impl_Variable) × spec_l1Cur) ⊕ ((List impl_Variable) × spec_l1Cur)))).bind fun | .inl (s_36, p_c_38) => some (.inl (s_36, p_c_38)) | .inr o => some o)) : Option (((List impl_Variable) × spec_l1Cur) ⊕ ((List impl_Variable) × spec_l1Cur))).bind fun | .inl (s_47, p_c_49) => some (s_47, p_c_49) | .inr o => some o)))

noncomputable def spec_l1Cur_anySurvey (p_c : spec_l1Cur) : Option (impl_Geo × (List impl_Variable) × (List impl_Record) × spec_l1Cur) :=
  ((spec_l1Cur_survey p_c).bind fun t_4 => ((spec_l1Cur_pick t_4.2.2.2 20).bind fun t_11 => (cond (t_11.1 == 0) ((spec_l1Cur_anyGeo t_11.2).bind fun t_40 => some (t_40.1, t_4.2.1, t_4.2.2.1, t_40.2)) (cond (t_11.1 == 1) ((spec_l1Cur_anySchema t_11.2).bind fun t_35 => some (t_4.1, t_35.1, t_4.2.2.1, t_35.2)) (((cond (t_11.1 == 2) ((spec_l1Cur_among t_11.2 ([0, 29, -1] : List Int)).bind fun t_15 => ((spec_l1Cur_values t_15.2 t_4.2.1).bind fun t_18 => ((goApp 40 t_4.2.2.1 ([(impl_Record.mk t_15.1 0 t_18.1)] : List impl_Record)).bind fun l_23 => some (l_23, t_18.2)))) (some (t_4.2.2.1, t_11.2))) : Option ((List impl_Record) × spec_l1Cur)).bind fun (l_25, p_c_27) => some (t_4.1, t_4.2.1, l_25, p_c_27))))))

noncomputable def spec_l1Cur_where_l1 (p_s : List impl_Variable) : (List Int) × Int × spec_l1Cur → Option (Stp ((List Int) × Int × spec_l1Cur) ((List Int) × spec_l1Cur))
  | (out_3, t_5, p_c_6) => (cond (decide (t_5 < (goLen p_s))) ((goAt p_s t_5).bind fun e_8 => ((spec_l1Cur_one p_c_6 3).bind fun t_12 => (((cond t_12.1 ((goShl .i64 1 (IntKind.wrap .u64 e_8.Levels)).bind fun t_14 => ((spec_l1Cur_pick t_12.2 (w64 (t_14 - 1))).bind fun t_16 => some ((w64 (1 + t_16.1)), t_16.2))) (some (0, t_12.2))) : Option (Int × spec_l1Cur)).bind fun (set_18, p_c_19) => ((goApp 8 out_3 ([set_18] : List Int)).bind fun l_22 => some (.next (l_22, (w64 (t_5 + 1)), p_c_19)))))) (some (.done (out_3, p_c_6))))

noncomputable def spec_l1Cur_where (p_c : spec_l1Cur) (p_s : List impl_Variable) : Option ((List Int) × spec_l1Cur) :=
  ((loopC (spec_l1Cur_where_l1 p_s) (([] : List Int), 0, p_c)).bind fun (out_24, p_c_26) => some (out_24, p_c_26))

noncomputable def spec_l1In (p_n : Int) (p_lo : Int) (p_hi : Int) : Option (Bool) :=
  (((cond (decide (p_lo ≤ p_n)) (some (decide (p_n ≤ p_hi))) (some false)) : Option (Bool)).bind fun t_1 => some t_1)

noncomputable def spec_gGood_l1 (p_g : impl_Geo) (t_7 : Int) : Option (Stp (Int) ((Unit) ⊕ (Bool))) :=
  (cond (decide (t_7 < (goLen p_g.Parents))) ((goAt p_g.Parents t_7).bind fun e_8 => (((cond (decide (0 < t_7)) ((spec_l1In e_8 0 (w64 (t_7 - 1))).bind fun t_10 => some (!t_10)) (some false)) : Option (Bool)).bind fun t_11 => (cond t_11 (some (.done (.inr false))) (some (.next (w64 (t_7 + 1))))))) (some (.done (.inl ()))))

noncomputable def spec_gGood (p_g : impl_Geo) : Option (Bool) :=
  ((((spec_l1In (goLen p_g.Parents) 1 30).bind fun t_3 => (cond (!t_3) (some true) ((goAt p_g.Parents 0).bind fun e_4 => some (e_4 != (-1))))) : Option (Bool)).bind fun t_6 => (cond t_6 (some false) ((loopC (spec_gGood_l1 p_g) 0).bind fun | .inl () => some true | .inr o => some o)))

noncomputable def spec_gDepth_l1 (p_g : impl_Geo) : Int × Int → Option (Stp (Int × Int) (Int))
  | (i_3, n_4) => ((goAt p_g.Parents i_3).bind fun e_5 => (cond (decide (0 ≤ e_5)) ((goAt p_g.Parents i_3).bind fun e_7 => some (.next (e_7, (w64 (n_4 + 1))))) (some (.done n_4))))

noncomputable def spec_gDepth (p_g : impl_Geo) (p_i : Int) : Option (Int) :=
  ((loopC (spec_gDepth_l1 p_g) (p_i, 0)).bind fun n_9 => some n_9)

noncomputable def spec_gLevel_l1 (p_g : impl_Geo) (p_level : Int) : (List Int) × Int → Option (Stp ((List Int) × Int) ((List Int)))
  | (out_3, t_5) => (cond (decide (t_5 < (goLen p_g.Parents))) ((spec_gDepth p_g t_5).bind fun t_6 => (((cond (t_6 == p_level) ((goApp 8 out_3 ([t_5] : List Int)).bind fun l_8 => some l_8) (some out_3)) : Option ((List Int))).bind fun out_10 => some (.next (out_10, (w64 (t_5 + 1)))))) (some (.done out_3)))

noncomputable def spec_gLevel (p_g : impl_Geo) (p_level : Int) : Option ((List Int)) :=
  ((loopC (spec_gLevel_l1 p_g p_level) (([] : List Int), 0)).bind fun out_12 => some out_12)

noncomputable def spec_l1Cur_table_l1 (p_s : List impl_Variable) : Int × impl_Table × spec_l1Cur → Option (Stp (Int × impl_Table × spec_l1Cur) (impl_Table × spec_l1Cur))
  | (t_11, t_12, p_c_15) => (cond (decide (t_11 < (goLen p_s))) ((spec_l1Cur_one p_c_15 2).bind fun t_18 => (((cond t_18.1 ((goApp 8 t_12.Vars ([t_11] : List Int)).bind fun l_21 => some (impl_Table.mk t_12.Level l_21 t_12.Where t_12.Sum)) (some t_12)) : Option (impl_Table)).bind fun t_23 => some (.next ((w64 (t_11 + 1)), t_23, t_18.2)))) (some (.done (t_12, p_c_15))))

noncomputable def spec_l1Cur_table (p_c : spec_l1Cur) (p_g : impl_Geo) (p_s : List impl_Variable) : Option (impl_Table × spec_l1Cur) :=
  ((spec_l1Cur_where p_c p_s).bind fun t_7 => ((loopC (spec_l1Cur_table_l1 p_s) (0, (impl_Table.mk 0 ([] : List Int) t_7.1 (-1)), t_7.2)).bind fun (t_26, p_c_29) => ((spec_gGood p_g).bind fun t_31 => (((cond t_31 ((spec_l1Cur_pick p_c_29 3).bind fun t_33 => ((spec_gLevel p_g t_33.1).bind fun t_35 => (((cond ((goLen t_35) == 0) (some (impl_Table.mk 0 t_26.Vars t_26.Where t_26.Sum)) (some (impl_Table.mk t_33.1 t_26.Vars t_26.Where t_26.Sum))) : Option (impl_Table)).bind fun t_38 => some (t_38, t_33.2)))) (some (t_26, p_c_29))) : Option (impl_Table × spec_l1Cur)).bind fun (t_41, p_c_44) => ((((spec_l1Cur_one p_c_44 3).bind fun t_47 => (cond t_47.1 (some (decide (0 < (goLen p_s)), t_47.2)) (some (false, t_47.2)))) : Option (Bool × spec_l1Cur)).bind fun (t_49, p_c_50) => (((cond t_49 ((spec_l1Cur_pick p_c_50 (goLen p_s)).bind fun t_53 => some (t_53.2, (impl_Table.mk t_41.Level t_41.Vars t_41.Where t_53.1))) (some (p_c_50, t_41))) : Option (spec_l1Cur × impl_Table)).bind fun (p_c_55, t_57) => some (t_57, p_c_55)))))))

noncomputable def spec_l1Cur_anyTable (p_c : spec_l1Cur) (p_g : impl_Geo) (p_s : List impl_Variable) : Option (impl_Table × spec_l1Cur) :=
  ((spec_l1Cur_table p_c p_g p_s).bind fun t_7 => ((spec_l1Cur_pick t_7.2 24).bind fun t_13 => (((cond (t_13.1 == 0) ((spec_l1Cur_among t_13.2 ([-1, 3, 4] : List Int)).bind fun t_69 => some (t_69.2, (impl_Table.mk t_69.1 t_7.1.Vars t_7.1.Where t_7.1.Sum))) (((cond (t_13.1 == 1) ((((spec_l1Cur_among t_13.2 ([-1, 0, 6] : List Int)).bind fun t_52 => ((goApp 8 t_7.1.Vars ([t_52.1] : List Int)).bind fun l_55 => some (t_52.2, (impl_Table.mk t_7.1.Level l_55 t_7.1.Where t_7.1.Sum)))) : Option (spec_l1Cur × impl_Table)).bind fun (p_c_57, t_59) => some (p_c_57, t_59)) (((cond (t_13.1 == 2) ((goApp 8 t_7.1.Where ([0] : List Int)).bind fun l_42 => some (t_13.2, (impl_Table.mk t_7.1.Level t_7.1.Vars l_42 t_7.1.Sum))) (((cond (t_13.1 == 3) ((spec_l1Cur_among t_13.2 ([-2, 3, 6] : List Int)).bind fun t_34 => some (t_34.2, (impl_Table.mk t_7.1.Level t_7.1.Vars t_7.1.Where t_34.1))) (((cond (t_13.1 == 4) (((cond (decide (0 < (goLen t_7.1.Where))) ((spec_l1Cur_among t_13.2 ([-1, 255, 256] : List Int)).bind fun t_17 => ((goAt t_7.1.Where 0).bind fun e_19 => some (t_17.2, (impl_Table.mk t_7.1.Level t_7.1.Vars (goSet t_7.1.Where 0 t_17.1) t_7.1.Sum)))) (some (t_13.2, t_7.1))) : Option (spec_l1Cur × impl_Table)).bind fun (p_c_22, t_24) => some (p_c_22, t_24)) (some (t_13.2, t_7.1))) : Option (spec_l1Cur × impl_Table)).bind fun (p_c_27, t_29) => some (p_c_27, t_29))) : Option (spec_l1Cur × impl_Table)).bind fun (p_c_36, t_38) => some (p_c_36, t_38))) : Option (spec_l1Cur × impl_Table)).bind fun (p_c_44, t_46) => some (p_c_44, t_46))) : Option (spec_l1Cur × impl_Table)).bind fun (p_c_62, t_64) => some (p_c_62, t_64))) : Option (spec_l1Cur × impl_Table)).bind fun (p_c_71, t_73) => some (t_73, p_c_71))))

noncomputable def spec_l1Cur_tables_l1 (p_g : impl_Geo) (p_s : List impl_Variable) : (List impl_Table) × Int × spec_l1Cur → Option (Stp ((List impl_Table) × Int × spec_l1Cur) ((List impl_Table) × spec_l1Cur))
  | (l_8, k_10, p_c_11) => (cond (decide (0 < k_10)) ((spec_l1Cur_table p_c_11 p_g p_s).bind fun t_15 => ((goApp 64 l_8 ([t_15.1] : List impl_Table)).bind fun l_22 => some (.next (l_22, (w64 (k_10 - 1)), t_15.2)))) (some (.done (l_8, p_c_11))))

noncomputable def spec_l1Cur_tables_l2 (p_g : impl_Geo) (p_s : List impl_Variable) : (List impl_Table) × spec_l1Cur → Option (Stp ((List impl_Table) × spec_l1Cur) ((List impl_Table) × spec_l1Cur))
  | (l_47, p_c_49) => ((spec_l1Cur_pick p_c_49 2).bind fun t_53 => (cond (decide ((goLen l_47) < (w64 (20 + t_53.1)))) ((spec_l1Cur_table t_53.2 p_g p_s).bind fun t_56 => ((goApp 64 l_47 ([t_56.1] : List impl_Table)).bind fun l_63 => some (.next (l_63, t_56.2)))) (some (.done (l_47, t_53.2)))))

noncomputable def spec_l1Cur_tables (p_c : spec_l1Cur) (p_g : impl_Geo) (p_s : List impl_Variable) : Option ((List impl_Table) × spec_l1Cur) :=
  ((spec_l1Cur_pick p_c 5).bind fun t_6 => ((loopC (spec_l1Cur_tables_l1 p_g p_s) (([] : List impl_Table), t_6.1, t_6.2)).bind fun (l_24, p_c_26) => ((spec_l1Cur_pick p_c_26 30).bind fun t_30 => (((cond (t_30.1 == 0) ((loopC (spec_l1Cur_tables_l2 p_g p_s) (l_24, t_30.2)).bind fun (l_65, p_c_67) => some (l_65, p_c_67)) (((cond (t_30.1 == 1) ((spec_l1Cur_anyTable t_30.2 p_g p_s).bind fun t_33 => ((goApp 64 l_24 ([t_33.1] : List impl_Table)).bind fun l_40 => some (l_40, t_33.2))) (some (l_24, t_30.2))) : Option ((List impl_Table) × spec_l1Cur)).bind fun (l_42, p_c_44) => some (l_42, p_c_44))) : Option ((List impl_Table) × spec_l1Cur)).bind fun (l_70, p_c_72) => some (l_70, p_c_72)))))

noncomputable def spec_DrawPlanText (p_code : List (K .u8)) : Option (impl_Geo × (List impl_Variable) × (List impl_Table)) :=
  ((spec_l1Cur_anySurvey (spec_l1Cur.mk p_code 0 (⟨0⟩ : K .u64))).bind fun t_5 => ((spec_l1Cur_tables t_5.2.2.2 t_5.1 t_5.2.1).bind fun t_13 => some (t_5.1, t_5.2.1, t_13.1)))

noncomputable def spec_nOwn (p_t : impl_Table) : Option (impl_Table) :=
  ((spec_l1Own p_t.Vars).bind fun t_17 => ((spec_l1Own p_t.Where).bind fun t_20 => some (impl_Table.mk p_t.Level t_17 t_20 p_t.Sum)))

noncomputable def spec_l1Cur_below_l1 (p_s : List impl_Variable) (t_22 : impl_Table) : (List Int) × Int × spec_l1Cur × impl_Table → Option (Stp ((List Int) × Int × spec_l1Cur × impl_Table) ((List Int) × spec_l1Cur × impl_Table))
  | (vars_25, t_27, p_c_28, t_30) => (cond (decide (t_27 < (goLen t_22.Vars))) ((goAt t_22.Vars t_27).bind fun e_33 => ((spec_l1Cur_one p_c_28 3).bind fun t_36 => (((cond (!t_36.1) ((goApp 8 vars_25 ([e_33] : List Int)).bind fun l_61 => some (t_36.2, t_30, l_61)) ((((spec_l1Cur_one t_36.2 2).bind fun t_39 => (cond t_39.1 ((spec_l1In e_33 0 (w64 ((goLen t_30.Where) - 1))).bind fun t_41 => (cond t_41 ((spec_l1In e_33 0 (w64 ((goLen p_s) - 1))).bind fun t_42 => some (t_39.2, t_42)) (some (t_39.2, false)))) (some (t_39.2, false)))) : Option (spec_l1Cur × Bool)).bind fun (p_c_43, t_45) => (((cond t_45 ((goAt p_s e_33).bind fun e_46 => ((spec_l1Cur_pick p_c_43 e_46.Levels).bind fun t_49 => ((goShl .i64 1 (IntKind.wrap .u64 t_49.1)).bind fun t_51 => ((goAt t_30.Where e_33).bind fun e_52 => some (t_49.2, (impl_Table.mk t_30.Level t_30.Vars (goSet t_30.Where e_33 t_51) t_30.Sum)))))) (some (p_c_43, t_30))) : Option (spec_l1Cur × impl_Table)).bind fun (p_c_55, t_57) => some (p_c_55, t_57, vars_25)))) : Option (spec_l1Cur × impl_Table × (List Int))).bind fun (p_c_63, t_65, vars_68) => some (.next (vars_68, (w64 (t_27 + 1)), p_c_63, t_65))))) (some (.done (vars_25, p_c_28, t_30))))

noncomputable def spec_l1Cur_below (p_c : spec_l1Cur) (p_g : impl_Geo) (p_s : List impl_Variable) (p_u : impl_Table) : Option (impl_Table × spec_l1Cur) :=
  ((spec_nOwn p_u).bind fun t_9 => ((spec_l1Cur_one p_c 2).bind fun t_15 => (((cond t_15.1 ((spec_l1Cur_pick t_15.2 (w64 (t_9.Level + 1))).bind fun t_18 => some (t_18.2, (impl_Table.mk t_18.1 t_9.Vars t_9.Where t_9.Sum))) (some (t_15.2, t_9))) : Option (spec_l1Cur × impl_Table)).bind fun (p_c_20, t_22) => ((loopC (spec_l1Cur_below_l1 p_s t_22) (([] : List Int), 0, p_c_20, t_22)).bind fun (vars_70, p_c_72, t_74) => (((cond (decide (0 < (goLen t_74.Vars))) (cond (t_74.Sum == (-1)) ((spec_l1Cur_one p_c_72 3).bind fun t_78 => some (t_78.1, t_78.2)) (some (false, p_c_72))) (some (false, p_c_72))) : Option (Bool × spec_l1Cur)).bind fun (t_80, p_c_81) => (((cond t_80 ((goAt t_74.Vars 0).bind fun e_83 => some (impl_Table.mk t_74.Level t_74.Vars t_74.Where e_83)) (some t_74)) : Option (impl_Table)).bind fun t_85 => some ((impl_Table.mk t_85.Level vars_70 t_85.Where t_85.Sum), p_c_81)))))))

noncomputable def spec_DrawSourcesIn (p_code : List (K .u8)) : Option (impl_Geo × (List impl_Variable) × (List impl_Table)) :=
  ((spec_DrawPlanText p_code).bind fun t_4 => (((cond (decide (0 < (goLen t_4.2.2))) ((spec_l1Cur_one (spec_l1Cur.mk p_code 0 (⟨0⟩ : K .u64)) 2).bind fun t_11 => some (t_11.1, t_11.2)) (some (false, (spec_l1Cur.mk p_code 0 (⟨0⟩ : K .u64))))) : Option (Bool × spec_l1Cur)).bind fun (t_13, t_14) => (((cond t_13 ((goAt t_4.2.2 0).bind fun e_16 => ((spec_l1Cur_below t_14 t_4.1 t_4.2.1 e_16).bind fun t_21 => ((goApp 64 t_4.2.2 ([t_21.1] : List impl_Table)).bind fun l_28 => some l_28))) (some t_4.2.2)) : Option ((List impl_Table))).bind fun l_30 => some (t_4.1, t_4.2.1, l_30))))

noncomputable def spec_DrawBaseTables (p_code : List (K .u8)) : Option (impl_Geo × (List impl_Variable) × (List impl_Table)) :=
  ((spec_DrawSourcesIn p_code).bind fun t_3 => some (t_3.1, t_3.2.1, t_3.2.2))

noncomputable def impl_IsGeo_l1 (p_g : impl_Geo) (i_6 : Int) : Option (Stp (Int) ((Unit) ⊕ (Bool))) :=
  (cond (decide (i_6 < (goLen p_g.Parents))) ((((goAt p_g.Parents i_6).bind fun e_7 => (cond (decide (e_7 < 0)) (some true) ((goAt p_g.Parents i_6).bind fun e_9 => some (decide (i_6 ≤ e_9))))) : Option (Bool)).bind fun t_11 => (cond t_11 (some (.done (.inr false))) (some (.next (w64 (i_6 + 1)))))) (some (.done (.inl ()))))

noncomputable def impl_IsGeo (p_g : impl_Geo) : Option (Bool) :=
  (((cond (decide ((goLen p_g.Parents) < 1)) (some true) (cond (decide (30 < (goLen p_g.Parents))) (some true) ((goAt p_g.Parents 0).bind fun e_3 => some (e_3 != (-1))))) : Option (Bool)).bind fun t_5 => (cond t_5 (some false) ((loopC (impl_IsGeo_l1 p_g) 1).bind fun | .inl () => some true | .inr o => some o)))

noncomputable def impl_isWord_l1 (p_s : List UInt8) (t_2 : Int) : Option (Stp (Int) ((Unit) ⊕ (Bool))) :=
  (cond (decide (t_2 < (goLen p_s))) ((((goStrAt p_s t_2).bind fun t_3 => (cond (decide (t_3 < 97)) (some true) ((goStrAt p_s t_2).bind fun t_4 => some (decide (122 < t_4))))) : Option (Bool)).bind fun t_5 => (cond t_5 (some (.done (.inr false))) (some (.next (w64 (t_2 + 1)))))) (some (.done (.inl ()))))

noncomputable def impl_isWord (p_s : List UInt8) : Option (Bool) :=
  (((cond (decide ((goLen p_s) < 1)) (some true) (some (decide (8 < (goLen p_s))))) : Option (Bool)).bind fun t_1 => (cond t_1 (some false) ((loopC (impl_isWord_l1 p_s) 0).bind fun | .inl () => some true | .inr o => some o)))

noncomputable def impl_IsSchema_l2 (e_4 : impl_Variable) (l_9 : List impl_Variable) (t_11 : Int) : Option (Stp (Int) ((Unit) ⊕ (Stp (Int) ((Unit) ⊕ (Bool))))) :=
  (cond (decide (t_11 < (goLen l_9))) ((goAt l_9 t_11).bind fun e_12 => (cond (e_12.Name == e_4.Name) (some (.done (.inr (.done (.inr false))))) (some (.next (w64 (t_11 + 1)))))) (some (.done (.inl ()))))

noncomputable def impl_IsSchema_l1 (p_s : List impl_Variable) (t_3 : Int) : Option (Stp (Int) ((Unit) ⊕ (Bool))) :=
  (cond (decide (t_3 < (goLen p_s))) ((goAt p_s t_3).bind fun e_4 => ((((impl_isWord e_4.Name).bind fun t_7 => (cond (!t_7) (some true) (cond (decide (e_4.Levels < 2)) (some true) (some (decide (8 < e_4.Levels)))))) : Option (Bool)).bind fun t_8 => (cond t_8 (some (.done (.inr false))) ((goSub p_s 0 t_3).bind fun l_9 => ((loopC (impl_IsSchema_l2 e_4 l_9) 0).bind fun | .inl () => some (.next (w64 (t_3 + 1))) | .inr o => some o))))) (some (.done (.inl ()))))

noncomputable def impl_IsSchema (p_s : List impl_Variable) : Option (Bool) :=
  (((cond (decide ((goLen p_s) < 1)) (some true) (some (decide (6 < (goLen p_s))))) : Option (Bool)).bind fun t_2 => (cond t_2 (some false) ((loopC (impl_IsSchema_l1 p_s) 0).bind fun | .inl () => some true | .inr o => some o)))

noncomputable def impl_areVars_l1 (p_s : List impl_Variable) (p_vars : List Int) : Int × Int → Option (Stp (Int × Int) ((Unit) ⊕ (Bool)))
  | (last_3, t_4) => (cond (decide (t_4 < (goLen p_vars))) ((goAt p_vars t_4).bind fun e_5 => (((cond (decide (e_5 ≤ last_3)) (some true) (some (decide ((goLen p_s) ≤ e_5)))) : Option (Bool)).bind fun t_7 => (cond t_7 (some (.done (.inr false))) (some (.next (e_5, (w64 (t_4 + 1)))))))) (some (.done (.inl ()))))

noncomputable def impl_areVars (p_s : List impl_Variable) (p_vars : List Int) : Option (Bool) :=
  ((loopC (impl_areVars_l1 p_s p_vars) (-1, 0)).bind fun | .inl () => some true | .inr o => some o)

noncomputable def impl_fullSet (p_v : impl_Variable) : Option (Int) :=
  ((goShl .i64 1 p_v.Levels).bind fun t_2 => some (w64 (t_2 - 1)))

noncomputable def impl_isWhere_l1 (p_s : List impl_Variable) (p_where : List Int) (t_3 : Int) : Option (Stp (Int) ((Unit) ⊕ (Bool))) :=
  (cond (decide (t_3 < (goLen p_where))) ((goAt p_where t_3).bind fun e_4 => (((cond (decide (e_4 < 0)) (some true) ((goAt p_s t_3).bind fun e_6 => ((impl_fullSet e_6).bind fun t_8 => some (decide (t_8 < e_4))))) : Option (Bool)).bind fun t_9 => (cond t_9 (some (.done (.inr false))) (some (.next (w64 (t_3 + 1))))))) (some (.done (.inl ()))))

noncomputable def impl_isWhere (p_s : List impl_Variable) (p_where : List Int) : Option (Bool) :=
  (cond ((goLen p_where) != (goLen p_s)) (some false) ((loopC (impl_isWhere_l1 p_s p_where) 0).bind fun | .inl () => some true | .inr o => some o))

noncomputable def impl_depthOf_l1 (p_g : impl_Geo) : Int × Int → Option (Stp (Int × Int) (Int))
  | (i_3, d_4) => (cond (decide (0 < i_3)) ((goAt p_g.Parents i_3).bind fun e_5 => some (.next (e_5, (w64 (d_4 + 1))))) (some (.done d_4)))

noncomputable def impl_depthOf (p_g : impl_Geo) (p_i : Int) : Option (Int) :=
  ((loopC (impl_depthOf_l1 p_g) (p_i, 0)).bind fun d_7 => some d_7)

noncomputable def impl_areasAt_l1 (p_g : impl_Geo) (p_level : Int) : (List Int) × Int → Option (Stp ((List Int) × Int) ((List Int)))
  | (list_3, t_5) => (cond (decide (t_5 < (goLen p_g.Parents))) ((impl_depthOf p_g t_5).bind fun t_6 => (((cond (t_6 == p_level) ((goApp 8 list_3 ([t_5] : List Int)).bind fun l_8 => some l_8) (some list_3)) : Option ((List Int))).bind fun list_10 => some (.next (list_10, (w64 (t_5 + 1)))))) (some (.done list_3)))

noncomputable def impl_areasAt (p_g : impl_Geo) (p_level : Int) : Option ((List Int)) :=
  ((loopC (impl_areasAt_l1 p_g p_level) (([] : List Int), 0)).bind fun list_12 => some list_12)

noncomputable def impl_crossed_l1 (p_s : List impl_Variable) (p_t : impl_Table) : (List impl_Variable) × Int → Option (Stp ((List impl_Variable) × Int) ((List impl_Variable)))
  | (out_7, t_9) => (cond (decide (t_9 < (goLen p_t.Vars))) ((goAt p_t.Vars t_9).bind fun e_10 => ((goAt p_s e_10).bind fun e_12 => ((goAt out_7 t_9).bind fun e_14 => some (.next (goSet out_7 t_9 e_12, (w64 (t_9 + 1))))))) (some (.done out_7)))

noncomputable def impl_crossed (p_s : List impl_Variable) (p_t : impl_Table) : Option ((List impl_Variable)) :=
  ((goMake 24 (goLen p_t.Vars) ((impl_Variable.mk ([] : List UInt8) 0) : impl_Variable)).bind fun l_5 => ((loopC (impl_crossed_l1 p_s p_t) (l_5, 0)).bind fun out_17 => some out_17))

noncomputable def impl_combinations_l1 (p_s : List impl_Variable) : Int × Int → Option (Stp (Int × Int) (Int))
  | (n_2, t_3) => (cond (decide (t_3 < (goLen p_s))) ((goAt p_s t_3).bind fun e_4 => some (.next ((w64 (n_2 * e_4.Levels)), (w64 (t_3 + 1))))) (some (.done n_2)))

noncomputable def impl_combinations (p_s : List impl_Variable) : Option (Int) :=
  ((loopC (impl_combinations_l1 p_s) (1, 0)).bind fun n_7 => some n_7)

noncomputable def impl_cellCount (p_g : impl_Geo) (p_s : List impl_Variable) (p_t : impl_Table) : Option (Int) :=
  ((impl_areasAt p_g p_t.Level).bind fun t_13 => ((impl_crossed p_s p_t).bind fun t_16 => ((impl_combinations t_16).bind fun t_19 => some (w64 ((goLen t_13) * t_19)))))

noncomputable def impl_isTable (p_g : impl_Geo) (p_s : List impl_Variable) (p_t : impl_Table) : Option (Bool) :=
  ((((impl_areVars p_s p_t.Vars).bind fun t_7 => (cond (!t_7) (some true) ((impl_isWhere p_s p_t.Where).bind fun t_8 => (cond (!t_8) (some true) (cond (decide (p_t.Sum < (-1))) (some true) (some (decide ((goLen p_s) ≤ p_t.Sum)))))))) : Option (Bool)).bind fun t_9 => (cond t_9 (some false) ((impl_cellCount p_g p_s p_t).bind fun t_10 => (((cond (decide (0 < t_10)) (some (decide (t_10 ≤ 600))) (some false)) : Option (Bool)).bind fun t_11 => some t_11))))

noncomputable def impl_isPlan_l1 (p_g : impl_Geo) (p_s : List impl_Variable) (p_l : List impl_Table) (t_8 : Int) : Option (Stp (Int) ((Unit) ⊕ (Bool))) :=
  (cond (decide (t_8 < (goLen p_l))) ((goAt p_l t_8).bind fun e_9 => ((impl_isTable p_g p_s e_9).bind fun t_14 => (cond (!t_14) (some (.done (.inr false))) (some (.next (w64 (t_8 + 1))))))) (some (.done (.inl ()))))

noncomputable def impl_isPlan (p_g : impl_Geo) (p_s : List impl_Variable) (p_l : List impl_Table) : Option (Bool) :=
  ((((impl_IsGeo p_g).bind fun t_5 => (cond (!t_5) (some true) ((impl_IsSchema p_s).bind fun t_6 => (cond (!t_6) (some true) (some (decide (20 < (goLen p_l)))))))) : Option (Bool)).bind fun t_7 => (cond t_7 (some false) ((loopC (impl_isPlan_l1 p_g p_s p_l) 0).bind fun | .inl () => some true | .inr o => some o)))

noncomputable def slices_Index_int_int_l1 (p_s : List Int) (p_v : Int) (t_2 : Int) : Option (Stp (Int) ((Unit) ⊕ (Int))) :=
  (cond (decide (t_2 < (goLen p_s))) ((goAt p_s t_2).bind fun e_3 => (cond (p_v == e_3) (some (.done (.inr t_2))) (some (.next (w64 (t_2 + 1)))))) (some (.done (.inl ()))))

noncomputable def slices_Index_int_int (p_s : List Int) (p_v : Int) : Option (Int) :=
  ((loopC (slices_Index_int_int_l1 p_s p_v) 0).bind fun | .inl () => some (-1) | .inr o => some o)

noncomputable def slices_Contains_int_int (p_s : List Int) (p_v : Int) : Option (Bool) :=
  ((slices_Index_int_int p_s p_v).bind fun t_2 => some (decide (0 ≤ t_2)))

noncomputable def impl_isLeaf (p_g : impl_Geo) (p_i : Int) : Option (Bool) :=
  ((slices_Contains_int_int p_g.Parents p_i).bind fun t_3 => some (!t_3))

noncomputable def impl_leavesOf_l1 (p_g : impl_Geo) : (List Int) × Int → Option (Stp ((List Int) × Int) ((List Int)))
  | (list_3, t_5) => (cond (decide (t_5 < (goLen p_g.Parents))) ((impl_isLeaf p_g t_5).bind fun t_6 => (((cond t_6 ((goApp 8 list_3 ([t_5] : List Int)).bind fun l_8 => some l_8) (some list_3)) : Option ((List Int))).bind fun list_10 => some (.next (list_10, (w64 (t_5 + 1)))))) (some (.done list_3)))

noncomputable def impl_leavesOf (p_g : impl_Geo) : Option ((List Int)) :=
  ((loopC (impl_leavesOf_l1 p_g) (([] : List Int), 0)).bind fun list_12 => some list_12)

noncomputable def impl_conditionOf (p_s : List impl_Variable) (p_t : impl_Table) (p_v : Int) : Option (Int) :=
  ((goAt p_t.Where p_v).bind fun e_5 => (cond (e_5 == 0) ((goAt p_s p_v).bind fun e_9 => ((impl_fullSet e_9).bind fun t_11 => some t_11)) ((goAt p_t.Where p_v).bind fun e_7 => some e_7)))

noncomputable def impl_followsFrom_l1 (p_g : impl_Geo) (p_t : impl_Table) (p_u : impl_Table) (t_10 : List Int) (t_13 : Int) : Option (Stp (Int) ((Unit) ⊕ ((Unit) ⊕ (Bool)))) :=
  (cond (decide (t_13 < (goLen t_10))) ((goAt t_10 t_13).bind fun e_14 => ((impl_depthOf p_g e_14).bind fun t_16 => (((cond (decide (p_t.Level ≤ t_16)) (some (decide (t_16 < p_u.Level))) (some false)) : Option (Bool)).bind fun t_17 => (cond t_17 (some (.done (.inr (.inr false)))) (some (.next (w64 (t_13 + 1)))))))) (some (.done (.inl ()))))

noncomputable def impl_followsFrom_l2 (p_t : impl_Table) (p_u : impl_Table) (t_18 : Int) : Option (Stp (Int) ((Unit) ⊕ (Bool))) :=
  (cond (decide (t_18 < (goLen p_t.Vars))) ((goAt p_t.Vars t_18).bind fun e_19 => ((slices_Contains_int_int p_u.Vars e_19).bind fun t_21 => (cond (!t_21) (some (.done (.inr false))) (some (.next (w64 (t_18 + 1))))))) (some (.done (.inl ()))))

noncomputable def impl_followsFrom_l3 (p_s : List impl_Variable) (p_t : impl_Table) (p_u : impl_Table) (t_22 : Int) : Option (Stp (Int) ((Unit) ⊕ (Bool))) :=
  (cond (decide (t_22 < (goLen p_s))) ((impl_conditionOf p_s p_t t_22).bind fun t_26 => ((impl_conditionOf p_s p_u t_22).bind fun t_27 => ((((slices_Contains_int_int p_u.Vars t_22).bind fun t_28 => (cond t_28 (cond ((goBits .andNot .i64 t_26 t_27) != 0) (some true) ((slices_Contains_int_int p_u.Vars t_22).bind fun t_30 => (cond (!t_30) (some (t_26 != t_27)) (some false)))) ((slices_Contains_int_int p_u.Vars t_22).bind fun t_29 => (cond (!t_29) (some (t_26 != t_27)) (some false))))) : Option (Bool)).bind fun t_31 => (cond t_31 (some (.done (.inr false))) (some (.next (w64 (t_22 + 1)))))))) (some (.done (.inl ()))))

noncomputable def impl_followsFrom (p_g : impl_Geo) (p_s : List impl_Variable) (p_t : impl_Table) (p_u : impl_Table) : Option (Bool) :=
  (((cond (p_t.Level != p_u.Level) (cond (decide (p_u.Level < p_t.Level)) (some (.inr false)) ((impl_leavesOf p_g).bind fun t_10 => ((loopC (impl_followsFrom_l1 p_g p_t p_u t_10) 0).bind fun | .inl () => some (.inl ()) | .inr o => some o))) (some (.inl ()))) : Option ((Unit) ⊕ (Bool))).bind fun | .inl () => ((loopC (impl_followsFrom_l2 p_t p_u) 0).bind fun | .inl () => ((loopC (impl_followsFrom_l3 p_s p_t p_u) 0).bind fun | .inl () => (((cond (p_t.Sum == p_u.Sum) (some true) (cond (p_u.Sum == (-1)) ((slices_Contains_int_int p_u.Vars p_t.Sum).bind fun t_32 => some t_32) (some false))) : Option (Bool)).bind fun t_33 => some t_33) | .inr o => some o) | .inr o => some o) | .inr o => some o)

noncomputable def impl_BaseTables_l2 (p_g : impl_Geo) (p_s : List impl_Variable) (p_l : List impl_Table) (t_8 : Int) (e_9 : impl_Table) : Bool × Int → Option (Stp (Bool × Int) (Bool))
  | (base_14, t_15) => (cond (decide (t_15 < (goLen p_l))) ((goAt p_l t_15).bind fun e_16 => (((cond (t_15 != t_8) ((impl_followsFrom p_g p_s e_9 e_16).bind fun t_21 => (cond t_21 (cond (decide (t_8 < t_15)) ((impl_followsFrom p_g p_s e_16 e_9).bind fun t_22 => some (!t_22)) (some (!false))) (some false))) (some false)) : Option (Bool)).bind fun t_23 => (((cond t_23 (some false) (some base_14)) : Option (Bool)).bind fun base_24 => some (.next (base_24, (w64 (t_15 + 1))))))) (some (.done base_14)))

noncomputable def impl_BaseTables_l1 (p_g : impl_Geo) (p_s : List impl_Variable) (p_l : List impl_Table) : (List Int) × Int → Option (Stp ((List Int) × Int) ((List Int)))
  | (out_6, t_8) => (cond (decide (t_8 < (goLen p_l))) ((goAt p_l t_8).bind fun e_9 => ((loopC (impl_BaseTables_l2 p_g p_s p_l t_8 e_9) (true, 0)).bind fun base_25 => (((cond base_25 ((goApp 8 out_6 ([t_8] : List Int)).bind fun l_27 => some l_27) (some out_6)) : Option ((List Int))).bind fun out_29 => some (.next (out_29, (w64 (t_8 + 1))))))) (some (.done out_6)))

noncomputable def impl_BaseTables (p_g : impl_Geo) (p_s : List impl_Variable) (p_l : List impl_Table) : Option ((List Int) × Bool) :=
  ((impl_isPlan p_g p_s p_l).bind fun t_5 => (cond (!t_5) (some (([] : List Int), false)) ((loopC (impl_BaseTables_l1 p_g p_s p_l) (([] : List Int), 0)).bind fun out_31 => some (out_31, true))))

noncomputable def spec_sName_l1 (p_s : List UInt8) (i_1 : Int) : Option (Stp (Int) ((Unit) ⊕ (Bool))) :=
  (cond (decide (i_1 < (goLen p_s))) ((((goStrAt p_s i_1).bind fun t_2 => (cond (decide (t_2 < 97)) (some true) ((goStrAt p_s i_1).bind fun t_3 => some (decide (122 < t_3))))) : Option (Bool)).bind fun t_4 => (cond t_4 (some (.done (.inr false))) (some (.next (w64 (i_1 + 1)))))) (some (.done (.inl ()))))

noncomputable def spec_sName (p_s : List UInt8) : Option (Bool) :=
  ((loopC (spec_sName_l1 p_s) 0).bind fun | .inl () => ((spec_l1In (goLen p_s) 1 8).bind fun t_5 => some t_5) | .inr o => some o)

noncomputable def spec_sFind_l1 (p_s : List impl_Variable) (p_name : List UInt8) (t_2 : Int) : Option (Stp (Int) ((Unit) ⊕ (Int))) :=
  (cond (decide (t_2 < (goLen p_s))) ((goAt p_s t_2).bind fun e_3 => (cond (e_3.Name == p_name) (some (.done (.inr t_2))) (some (.next (w64 (t_2 + 1)))))) (some (.done (.inl ()))))

noncomputable def spec_sFind (p_s : List impl_Variable) (p_name : List UInt8) : Option (Int) :=
  ((loopC (spec_sFind_l1 p_s p_name) 0).bind fun | .inl () => some (-1) | .inr o => some o)

noncomputable def spec_sGood_l1 (p_s : List impl_Variable) (t_3 : Int) : Option (Stp (Int) ((Unit) ⊕ (Bool))) :=
  (cond (decide (t_3 < (goLen p_s))) ((goAt p_s t_3).bind fun e_4 => ((((spec_sName e_4.Name).bind fun t_7 => (cond (!t_7) (some true) ((spec_l1In e_4.Levels 2 8).bind fun t_8 => (cond (!t_8) (some true) ((goSub p_s 0 t_3).bind fun l_9 => ((spec_sFind l_9 e_4.Name).bind fun t_11 => some (decide (0 ≤ t_11)))))))) : Option (Bool)).bind fun t_12 => (cond t_12 (some (.done (.inr false))) (some (.next (w64 (t_3 + 1))))))) (some (.done (.inl ()))))

noncomputable def spec_sGood (p_s : List impl_Variable) : Option (Bool) :=
  ((spec_l1In (goLen p_s) 1 6).bind fun t_2 => (cond (!t_2) (some false) ((loopC (spec_sGood_l1 p_s) 0).bind fun | .inl () => some true | .inr o => some o)))

noncomputable def spec_nInput (p_g : impl_Geo) (p_s : List impl_Variable) : Option (Bool) :=
  ((((spec_gGood p_g).bind fun t_4 => (cond t_4 ((spec_sGood p_s).bind fun t_5 => some t_5) (some false))) : Option (Bool)).bind fun t_6 => some t_6)

noncomputable def spec_l1Rising_l1 (p_l : List Int) (p_lo : Int) (p_hi : Int) (t_2 : Int) : Option (Stp (Int) ((Unit) ⊕ (Bool))) :=
  (cond (decide (t_2 < (goLen p_l))) ((goAt p_l t_2).bind fun e_3 => ((((spec_l1In e_3 p_lo p_hi).bind fun t_5 => (cond (!t_5) (some true) (cond (decide (0 < t_2)) ((goAt p_l (w64 (t_2 - 1))).bind fun e_6 => some (decide (e_3 ≤ e_6))) (some false)))) : Option (Bool)).bind fun t_8 => (cond t_8 (some (.done (.inr false))) (some (.next (w64 (t_2 + 1))))))) (some (.done (.inl ()))))

noncomputable def spec_l1Rising (p_l : List Int) (p_lo : Int) (p_hi : Int) : Option (Bool) :=
  ((loopC (spec_l1Rising_l1 p_l p_lo p_hi) 0).bind fun | .inl () => some true | .inr o => some o)

noncomputable def spec_uWhere_l1 (p_s : List impl_Variable) (p_where : List Int) (t_3 : Int) : Option (Stp (Int) ((Unit) ⊕ (Bool))) :=
  (cond (decide (t_3 < (goLen p_s))) ((goAt p_s t_3).bind fun e_4 => ((goAt p_where t_3).bind fun e_7 => ((goShl .i64 1 (IntKind.wrap .u64 e_4.Levels)).bind fun t_9 => ((spec_l1In e_7 0 (w64 (t_9 - 1))).bind fun t_10 => (cond (!t_10) (some (.done (.inr false))) (some (.next (w64 (t_3 + 1))))))))) (some (.done (.inl ()))))

noncomputable def spec_uWhere (p_s : List impl_Variable) (p_where : List Int) : Option (Bool) :=
  (cond ((goLen p_where) != (goLen p_s)) (some false) ((loopC (spec_uWhere_l1 p_s p_where) 0).bind fun | .inl () => some true | .inr o => some o))

noncomputable def spec_sPart_l1 (p_s : List impl_Variable) (p_vars : List Int) : (List impl_Variable) × Int → Option (Stp ((List impl_Variable) × Int) ((List impl_Variable)))
  | (out_3, t_5) => (cond (decide (t_5 < (goLen p_vars))) ((goAt p_vars t_5).bind fun e_6 => ((goAt p_s e_6).bind fun e_8 => ((goApp 24 out_3 ([e_8] : List impl_Variable)).bind fun l_11 => some (.next (l_11, (w64 (t_5 + 1))))))) (some (.done out_3)))

noncomputable def spec_sPart (p_s : List impl_Variable) (p_vars : List Int) : Option ((List impl_Variable)) :=
  ((loopC (spec_sPart_l1 p_s p_vars) (([] : List impl_Variable), 0)).bind fun out_13 => some out_13)

noncomputable def spec_sCount_l1 (p_s : List impl_Variable) : Int × Int → Option (Stp (Int × Int) (Int))
  | (n_2, t_3) => (cond (decide (t_3 < (goLen p_s))) ((goAt p_s t_3).bind fun e_4 => some (.next ((w64 (n_2 * e_4.Levels)), (w64 (t_3 + 1))))) (some (.done n_2)))

noncomputable def spec_sCount (p_s : List impl_Variable) : Option (Int) :=
  ((loopC (spec_sCount_l1 p_s) (1, 0)).bind fun n_7 => some n_7)

noncomputable def spec_uCount (p_g : impl_Geo) (p_s : List impl_Variable) (p_t : impl_Table) : Option (Int) :=
  ((spec_gLevel p_g p_t.Level).bind fun t_16 => ((spec_sPart p_s p_t.Vars).bind fun t_19 => ((spec_sCount t_19).bind fun t_22 => some (w64 ((goLen t_16) * t_22)))))

noncomputable def spec_uGood (p_g : impl_Geo) (p_s : List impl_Variable) (p_t : impl_Table) : Option (Bool) :=
  ((((spec_gGood p_g).bind fun t_7 => (cond (!t_7) (some true) ((spec_sGood p_s).bind fun t_8 => (cond (!t_8) (some true) ((spec_gLevel p_g p_t.Level).bind fun t_9 => (cond ((goLen t_9) == 0) (some true) ((spec_l1Rising p_t.Vars 0 (w64 ((goLen p_s) - 1))).bind fun t_12 => (cond (!t_12) (some true) ((spec_uWhere p_s p_t.Where).bind fun t_13 => (cond (!t_13) (some true) ((spec_l1In p_t.Sum (-1) (w64 ((goLen p_s) - 1))).bind fun t_14 => some (!t_14)))))))))))) : Option (Bool)).bind fun t_15 => (cond t_15 (some false) ((spec_uCount p_g p_s p_t).bind fun t_16 => some (decide (t_16 ≤ 600)))))

noncomputable def spec_nPlan_l1 (p_g : impl_Geo) (p_s : List impl_Variable) (p_l : List impl_Table) (t_7 : Int) : Option (Stp (Int) ((Unit) ⊕ (Bool))) :=
  (cond (decide (t_7 < (goLen p_l))) ((goAt p_l t_7).bind fun e_8 => ((spec_uGood p_g p_s e_8).bind fun t_13 => (cond (!t_13) (some (.done (.inr false))) (some (.next (w64 (t_7 + 1))))))) (some (.done (.inl ()))))

noncomputable def spec_nPlan (p_g : impl_Geo) (p_s : List impl_Variable) (p_l : List impl_Table) : Option (Bool) :=
  ((((spec_nInput p_g p_s).bind fun t_5 => (cond (!t_5) (some true) (some (decide (20 < (goLen p_l)))))) : Option (Bool)).bind fun t_6 => (cond t_6 (some false) ((loopC (spec_nPlan_l1 p_g p_s p_l) 0).bind fun | .inl () => some true | .inr o => some o)))

noncomputable def spec_gUp_l1 (p_g : impl_Geo) (p_level : Int) : Int × Int → Option (Stp (Int × Int) (Int × Int))
  | (i_4, d_5) => (cond (decide (p_level < d_5)) ((goAt p_g.Parents i_4).bind fun e_6 => some (.next (e_6, (w64 (d_5 - 1))))) (some (.done (i_4, d_5))))

noncomputable def spec_gUp (p_g : impl_Geo) (p_i : Int) (p_level : Int) : Option (Int) :=
  ((spec_gDepth p_g p_i).bind fun t_3 => (cond (decide (p_level < 0)) (some (-1)) ((loopC (spec_gUp_l1 p_g p_level) (p_i, t_3)).bind fun (i_8, d_9) => (cond (decide (d_9 < p_level)) (some (-1)) (some i_8)))))

noncomputable def spec_lLevels_l1 (p_g : impl_Geo) (p_t : impl_Table) (p_u : impl_Table) (t_9 : List Int) (t_12 : Int) : Option (Stp (Int) ((Unit) ⊕ (Bool))) :=
  (cond (decide (t_12 < (goLen t_9))) ((goAt t_9 t_12).bind fun e_13 => ((((spec_gUp p_g e_13 p_t.Level).bind fun t_15 => (cond (decide (0 ≤ t_15)) ((spec_gUp p_g e_13 p_u.Level).bind fun t_16 => some (decide (t_16 < 0))) (some false))) : Option (Bool)).bind fun t_17 => (cond t_17 (some (.done (.inr false))) (some (.next (w64 (t_12 + 1))))))) (some (.done (.inl ()))))

noncomputable def spec_lLevels (p_g : impl_Geo) (p_t : impl_Table) (p_u : impl_Table) : Option (Bool) :=
  (cond (decide (p_u.Level ≤ p_t.Level)) (some (p_t.Level == p_u.Level)) ((spec_gLeaves p_g).bind fun t_9 => ((loopC (spec_lLevels_l1 p_g p_t p_u t_9) 0).bind fun | .inl () => some true | .inr o => some o)))

noncomputable def spec_l1Has_l1 (p_l : List Int) (p_n : Int) (t_2 : Int) : Option (Stp (Int) ((Unit) ⊕ (Bool))) :=
  (cond (decide (t_2 < (goLen p_l))) ((goAt p_l t_2).bind fun e_3 => (cond (e_3 == p_n) (some (.done (.inr true))) (some (.next (w64 (t_2 + 1)))))) (some (.done (.inl ()))))

noncomputable def spec_l1Has (p_l : List Int) (p_n : Int) : Option (Bool) :=
  ((loopC (spec_l1Has_l1 p_l p_n) 0).bind fun | .inl () => some false | .inr o => some o)

noncomputable def spec_eFull (p_s : List impl_Variable) (p_v : Int) : Option (Int) :=
  ((goAt p_s p_v).bind fun e_2 => ((goShl .i64 1 (IntKind.wrap .u64 e_2.Levels)).bind fun t_4 => some (w64 (t_4 - 1))))

noncomputable def spec_lSet (p_s : List impl_Variable) (p_t : impl_Table) (p_v : Int) : Option (Int) :=
  ((goAt p_t.Where p_v).bind fun e_5 => (cond (e_5 == 0) ((spec_eFull p_s p_v).bind fun t_9 => some t_9) ((goAt p_t.Where p_v).bind fun e_7 => some e_7)))

noncomputable def spec_lFollows_l1 (p_t : impl_Table) (p_u : impl_Table) (t_13 : Int) : Option (Stp (Int) ((Unit) ⊕ (Bool))) :=
  (cond (decide (t_13 < (goLen p_t.Vars))) ((goAt p_t.Vars t_13).bind fun e_14 => ((spec_l1Has p_u.Vars e_14).bind fun t_16 => (cond (!t_16) (some (.done (.inr false))) (some (.next (w64 (t_13 + 1))))))) (some (.done (.inl ()))))

noncomputable def spec_lFollows_l2 (p_s : List impl_Variable) (p_t : impl_Table) (p_u : impl_Table) (t_17 : Int) : Option (Stp (Int) ((Unit) ⊕ (Bool))) :=
  (cond (decide (t_17 < (goLen p_s))) ((spec_lSet p_s p_t t_17).bind fun t_21 => ((spec_lSet p_s p_u t_17).bind fun t_22 => (((cond (t_21 != t_22) ((spec_l1Has p_u.Vars t_17).bind fun t_23 => (cond (!t_23) (some true) (some ((goBits .and .i64 t_21 t_22) != t_21)))) (some false)) : Option (Bool)).bind fun t_24 => (cond t_24 (some (.done (.inr false))) (some (.next (w64 (t_17 + 1)))))))) (some (.done (.inl ()))))

noncomputable def spec_lFollows (p_g : impl_Geo) (p_s : List impl_Variable) (p_t : impl_Table) (p_u : impl_Table) : Option (Bool) :=
  ((((spec_lLevels p_g p_t p_u).bind fun t_10 => (cond (!t_10) (some true) (cond (p_t.Sum != p_u.Sum) (cond (p_u.Sum != (-1)) (some true) ((spec_l1Has p_u.Vars p_t.Sum).bind fun t_11 => some (!t_11))) (some false)))) : Option (Bool)).bind fun t_12 => (cond t_12 (some false) ((loopC (spec_lFollows_l1 p_t p_u) 0).bind fun | .inl () => ((loopC (spec_lFollows_l2 p_s p_t p_u) 0).bind fun | .inl () => some true | .inr o => some o) | .inr o => some o)))

noncomputable def spec_BaseTables_l2 (p_g : impl_Geo) (p_s : List impl_Variable) (p_l : List impl_Table) (t_8 : Int) (e_9 : impl_Table) : Bool × Int → Option (Stp (Bool × Int) (Bool))
  | (base_14, t_15) => (cond (decide (t_15 < (goLen p_l))) ((goAt p_l t_15).bind fun e_16 => (((cond (t_15 != t_8) ((spec_lFollows p_g p_s e_9 e_16).bind fun t_21 => (cond t_21 (cond (decide (t_15 < t_8)) (some true) ((spec_lFollows p_g p_s e_16 e_9).bind fun t_22 => some (!t_22))) (some false))) (some false)) : Option (Bool)).bind fun t_23 => (((cond t_23 (some false) (some base_14)) : Option (Bool)).bind fun base_24 => some (.next (base_24, (w64 (t_15 + 1))))))) (some (.done base_14)))

noncomputable def spec_BaseTables_l1 (p_g : impl_Geo) (p_s : List impl_Variable) (p_l : List impl_Table) : (List Int) × Int → Option (Stp ((List Int) × Int) ((List Int)))
  | (out_6, t_8) => (cond (decide (t_8 < (goLen p_l))) ((goAt p_l t_8).bind fun e_9 => ((loopC (spec_BaseTables_l2 p_g p_s p_l t_8 e_9) (true, 0)).bind fun base_25 => (((cond base_25 ((goApp 8 out_6 ([t_8] : List Int)).bind fun l_27 => some l_27) (some out_6)) : Option ((List Int))).bind fun out_29 => some (.next (out_29, (w64 (t_8 + 1))))))) (some (.done out_6)))

noncomputable def spec_BaseTables (p_g : impl_Geo) (p_s : List impl_Variable) (p_l : List impl_Table) : Option ((List Int) × Bool) :=
  ((spec_nPlan p_g p_s p_l).bind fun t_5 => (cond (!t_5) (some (([] : List Int), false)) ((loopC (spec_BaseTables_l1 p_g p_s p_l) (([] : List Int), 0)).bind fun out_31 => some (out_31, true))))

noncomputable def laws_sameInts_l1 (p_a : List Int) (p_b : List Int) (t_3 : Int) : Option (Stp (Int) ((Unit) ⊕ (Bool))) :=
  (cond (decide (t_3 < (goLen p_a))) ((goAt p_a t_3).bind fun e_4 => ((goAt p_b t_3).bind fun e_6 => (cond (e_4 != e_6) (some (.done (.inr false))) (some (.next (w64 (t_3 + 1))))))) (some (.done (.inl ()))))

noncomputable def laws_sameInts (p_a : List Int) (p_b : List Int) : Option (Bool) :=
  (cond ((goLen p_a) != (goLen p_b)) (some false) ((loopC (laws_sameInts_l1 p_a p_b) 0).bind fun | .inl () => some true | .inr o => some o))

noncomputable def impl_CoversPlan_1 (p_u : impl_Table) (p_x1 : impl_Geo) (p_x2 : List impl_Variable) (p_x3 : impl_Table) : Option (Bool) :=
  ((impl_followsFrom p_x1 p_x2 p_x3 p_u).bind fun t_8 => some t_8)

noncomputable def slices_IndexFunc_impl_Table_impl_Table_of_impl_CoversPlan_1_l1 (p_s : List impl_Table) (p_x200 : impl_Geo) (p_x201 : List impl_Variable) (p_x202 : impl_Table) (t_6 : Int) : Option (Stp (Int) ((Unit) ⊕ (Int))) :=
  (cond (decide (t_6 < (goLen p_s))) ((goAt p_s t_6).bind fun e_7 => ((impl_CoversPlan_1 e_7 p_x200 p_x201 p_x202).bind fun t_12 => (cond t_12 (some (.done (.inr t_6))) (some (.next (w64 (t_6 + 1))))))) (some (.done (.inl ()))))

noncomputable def slices_IndexFunc_impl_Table_impl_Table_of_impl_CoversPlan_1 (p_s : List impl_Table) (p_x200 : impl_Geo) (p_x201 : List impl_Variable) (p_x202 : impl_Table) : Option (Int) :=
  ((loopC (slices_IndexFunc_impl_Table_impl_Table_of_impl_CoversPlan_1_l1 p_s p_x200 p_x201 p_x202) 0).bind fun | .inl () => some (-1) | .inr o => some o)

noncomputable def slices_ContainsFunc_impl_Table_impl_Table_of_impl_CoversPlan_1 (p_s : List impl_Table) (p_x200 : impl_Geo) (p_x201 : List impl_Variable) (p_x202 : impl_Table) : Option (Bool) :=
  ((slices_IndexFunc_impl_Table_impl_Table_of_impl_CoversPlan_1 p_s p_x200 p_x201 p_x202).bind fun t_7 => some (decide (0 ≤ t_7)))

noncomputable def impl_CoversPlan_l1 (p_g : impl_Geo) (p_s : List impl_Variable) (p_l : List impl_Table) (p_m : List impl_Table) (t_10 : Int) : Option (Stp (Int) ((Unit) ⊕ (Bool × Bool))) :=
  (cond (decide (t_10 < (goLen p_m))) ((goAt p_m t_10).bind fun e_11 => ((slices_ContainsFunc_impl_Table_impl_Table_of_impl_CoversPlan_1 p_l p_g p_s e_11).bind fun t_17 => (cond (!t_17) (some (.done (.inr (false, true)))) (some (.next (w64 (t_10 + 1))))))) (some (.done (.inl ()))))

noncomputable def impl_CoversPlan (p_g : impl_Geo) (p_s : List impl_Variable) (p_l : List impl_Table) (p_m : List impl_Table) : Option (Bool × Bool) :=
  ((((impl_isPlan p_g p_s p_l).bind fun t_7 => (cond (!t_7) (some true) ((impl_isPlan p_g p_s p_m).bind fun t_8 => some (!t_8)))) : Option (Bool)).bind fun t_9 => (cond t_9 (some (false, false)) ((loopC (impl_CoversPlan_l1 p_g p_s p_l p_m) 0).bind fun | .inl () => some (true, true) | .inr o => some o)))

noncomputable def impl_SourcesIn_l2 (p_g : impl_Geo) (p_s : List impl_Variable) (p_l : List impl_Table) (t_10 : Int) (e_11 : impl_Table) : (List (List Int)) × Int → Option (Stp ((List (List Int)) × Int) ((List (List Int))))
  | (out_16, t_18) => (cond (decide (t_18 < (goLen p_l))) ((goAt p_l t_18).bind fun e_19 => ((impl_followsFrom p_g p_s e_11 e_19).bind fun t_24 => (((cond t_24 ((goAt out_16 t_10).bind fun e_25 => ((goApp 8 e_25 ([t_18] : List Int)).bind fun l_29 => ((goAt out_16 t_10).bind fun e_31 => some (goSet out_16 t_10 l_29)))) (some out_16)) : Option ((List (List Int)))).bind fun out_34 => some (.next (out_34, (w64 (t_18 + 1))))))) (some (.done out_16)))

noncomputable def impl_SourcesIn_l1 (p_g : impl_Geo) (p_s : List impl_Variable) (p_l : List impl_Table) : (List (List Int)) × Int → Option (Stp ((List (List Int)) × Int) ((List (List Int))))
  | (out_8, t_10) => (cond (decide (t_10 < (goLen p_l))) ((goAt p_l t_10).bind fun e_11 => ((loopC (impl_SourcesIn_l2 p_g p_s p_l t_10 e_11) (out_8, 0)).bind fun out_36 => some (.next (out_36, (w64 (t_10 + 1)))))) (some (.done out_8)))

noncomputable def impl_SourcesIn (p_g : impl_Geo) (p_s : List impl_Variable) (p_l : List impl_Table) : Option ((List (List Int)) × Bool) :=
  ((impl_isPlan p_g p_s p_l).bind fun t_5 => (cond (!t_5) (some (([] : List (List Int)), false)) ((goMake 24 (goLen p_l) ([] : List Int)).bind fun l_6 => ((loopC (impl_SourcesIn_l1 p_g p_s p_l) (l_6, 0)).bind fun out_38 => some (out_38, true)))))

noncomputable def spec_SourcesIn_l2 (p_g : impl_Geo) (p_s : List impl_Variable) (p_l : List impl_Table) (e_10 : impl_Table) : (List Int) × Int → Option (Stp ((List Int) × Int) ((List Int)))
  | (from_15, t_17) => (cond (decide (t_17 < (goLen p_l))) ((goAt p_l t_17).bind fun e_18 => ((spec_lFollows p_g p_s e_10 e_18).bind fun t_23 => (((cond t_23 ((goApp 8 from_15 ([t_17] : List Int)).bind fun l_25 => some l_25) (some from_15)) : Option ((List Int))).bind fun from_27 => some (.next (from_27, (w64 (t_17 + 1))))))) (some (.done from_15)))

noncomputable def spec_SourcesIn_l1 (p_g : impl_Geo) (p_s : List impl_Variable) (p_l : List impl_Table) : (List (List Int)) × Int → Option (Stp ((List (List Int)) × Int) ((List (List Int))))
  | (out_6, t_8) => (cond (decide (t_8 < (goLen p_l))) ((goAt p_l t_8).bind fun e_10 => ((loopC (spec_SourcesIn_l2 p_g p_s p_l e_10) (([] : List Int), 0)).bind fun from_29 => ((goApp 24 out_6 ([from_29] : List (List Int))).bind fun l_33 => some (.next (l_33, (w64 (t_8 + 1))))))) (some (.done out_6)))

noncomputable def spec_SourcesIn (p_g : impl_Geo) (p_s : List impl_Variable) (p_l : List impl_Table) : Option ((List (List Int)) × Bool) :=
  ((spec_nPlan p_g p_s p_l).bind fun t_5 => (cond (!t_5) (some (([] : List (List Int)), false)) ((loopC (spec_SourcesIn_l1 p_g p_s p_l) (([] : List (List Int)), 0)).bind fun out_35 => some (out_35, true))))

noncomputable def impl_PlanSizes_l1 (p_g : impl_Geo) (p_s : List impl_Variable) (p_l : List impl_Table) : (List Int) × Int → Option (Stp ((List Int) × Int) ((List Int)))
  | (sizes_8, t_10) => (cond (decide (t_10 < (goLen p_l))) ((goAt p_l t_10).bind fun e_11 => ((impl_cellCount p_g p_s e_11).bind fun t_16 => ((goAt sizes_8 t_10).bind fun e_17 => some (.next (goSet sizes_8 t_10 t_16, (w64 (t_10 + 1))))))) (some (.done sizes_8)))

noncomputable def impl_PlanSizes (p_g : impl_Geo) (p_s : List impl_Variable) (p_l : List impl_Table) : Option ((List Int) × Bool) :=
  ((impl_isPlan p_g p_s p_l).bind fun t_5 => (cond (!t_5) (some (([] : List Int), false)) ((goMake 8 (goLen p_l) (0 : Int)).bind fun l_6 => ((loopC (impl_PlanSizes_l1 p_g p_s p_l) (l_6, 0)).bind fun sizes_20 => some (sizes_20, true)))))

noncomputable def spec_PlanSizes_l1 (p_g : impl_Geo) (p_s : List impl_Variable) (p_l : List impl_Table) : (List Int) × Int → Option (Stp ((List Int) × Int) ((List Int)))
  | (out_6, t_8) => (cond (decide (t_8 < (goLen p_l))) ((goAt p_l t_8).bind fun e_9 => ((spec_uCount p_g p_s e_9).bind fun t_14 => ((goApp 8 out_6 ([t_14] : List Int)).bind fun l_16 => some (.next (l_16, (w64 (t_8 + 1))))))) (some (.done out_6)))

noncomputable def spec_PlanSizes (p_g : impl_Geo) (p_s : List impl_Variable) (p_l : List impl_Table) : Option ((List Int) × Bool) :=
  ((spec_nPlan p_g p_s p_l).bind fun t_5 => (cond (!t_5) (some (([] : List Int), false)) ((loopC (spec_PlanSizes_l1 p_g p_s p_l) (([] : List Int), 0)).bind fun out_18 => some (out_18, true))))

noncomputable def laws_sameLists_l1 (p_a : List (List Int)) (p_b : List (List Int)) (t_3 : Int) : Option (Stp (Int) ((Unit) ⊕ (Bool))) :=
  (cond (decide (t_3 < (goLen p_a))) ((goAt p_a t_3).bind fun e_4 => ((goAt p_b t_3).bind fun e_7 => ((laws_sameInts e_4 e_7).bind fun t_10 => (cond (!t_10) (some (.done (.inr false))) (some (.next (w64 (t_3 + 1)))))))) (some (.done (.inl ()))))

noncomputable def laws_sameLists (p_a : List (List Int)) (p_b : List (List Int)) : Option (Bool) :=
  (cond ((goLen p_a) != (goLen p_b)) (some false) ((loopC (laws_sameLists_l1 p_a p_b) 0).bind fun | .inl () => some true | .inr o => some o))

noncomputable def slices_Clone_int_int (p_s : List Int) : Option ((List Int)) :=
  ((goApp 8 ([] : List Int) p_s).bind fun l_3 => some l_3)

/-- an entry of the memo: empty where it is nil -/
structure NL where
  l : List Int

noncomputable def impl_LongestChain_1_l1 (rcf : Int → List NL → List impl_Table → impl_Geo → List impl_Variable → Int → Option ((List Int) × (List NL))) (p_i : Int) (p_x2 : List impl_Table) (p_x3 : impl_Geo) (p_x4 : List impl_Variable) (p_x5 : Int) : (List Int) × Int × (List NL) → Option (Stp ((List Int) × Int × (List NL)) ((List Int) × (List NL)))
  | (best_8, t_10, p_x1_11) => (cond (decide (t_10 < (goLen p_x2))) ((((goAt p_x2 t_10).bind fun e_14 => ((((goAt p_x2 p_i).bind fun e_19 => ((impl_followsFrom p_x3 p_x4 e_14 e_19).bind fun t_23 => (cond (!t_23) (some true) ((goAt p_x2 p_i).bind fun e_24 => ((impl_followsFrom p_x3 p_x4 e_24 e_14).bind fun t_28 => some t_28))))) : Option (Bool)).bind fun t_29 => (cond t_29 (some (best_8, p_x1_11)) ((rcf t_10 p_x1_11 p_x2 p_x3 p_x4 p_x5).bind fun t_31 => (((cond (decide ((goLen best_8) < (goLen t_31.1))) (some t_31.1) (some best_8)) : Option ((List Int))).bind fun best_34 => some (best_34, t_31.2)))))) : Option ((List Int) × (List NL))).bind fun (best_36, p_x1_38) => some (.next (best_36, (w64 (t_10 + 1)), p_x1_38))) (some (.done (best_8, p_x1_11))))

noncomputable def impl_LongestChain_1_B (rcf : Int → List NL → List impl_Table → impl_Geo → List impl_Variable → Int → Option ((List Int) × (List NL))) (p_i : Int) (p_x1 : List NL) (p_x2 : List impl_Table) (p_x3 : impl_Geo) (p_x4 : List impl_Variable) (p_x5 : Int) : Option ((List Int) × (List NL)) :=
  ((goAt p_x1 p_i).bind fun e_5 => (((cond e_5.l.isEmpty ((loopC (impl_LongestChain_1_l1 rcf p_i p_x2 p_x3 p_x4 p_x5) (([] : List Int), 0, p_x1)).bind fun (best_41, p_x1_43) => ((goApp 8 ([p_i] : List Int) best_41).bind fun l_48 => ((goAt p_x1_43 p_i).bind fun e_50 => some (goSet p_x1_43 p_i (NL.mk l_48))))) (some p_x1)) : Option ((List NL))).bind fun p_x1_55 => ((goAt p_x1_55 p_i).bind fun e_58 => some (e_58.l, p_x1_55))))

noncomputable def impl_LongestChain_1_k : Nat → Int → List NL → List impl_Table → impl_Geo → List impl_Variable → Int → Option ((List Int) × (List NL))
  | 0 => fun _ _ _ _ _ _ => none
  | k + 1 => impl_LongestChain_1_B (impl_LongestChain_1_k k)

noncomputable def impl_LongestChain_1 (p_i : Int) (p_x1 : List NL) (p_x2 : List impl_Table) (p_x3 : impl_Geo) (p_x4 : List impl_Variable) (p_x5 : Int) : Option ((List Int) × (List NL)) :=
  impl_LongestChain_1_k 40 p_i p_x1 p_x2 p_x3 p_x4 p_x5

noncomputable def impl_LongestChain_l1 (p_g : impl_Geo) (p_s : List impl_Variable) (p_l : List impl_Table) : (List Int) × Int × (List NL) → Option (Stp ((List Int) × Int × (List NL)) ((List Int)))
  | (best_12, t_14, memo_15) => (cond (decide (t_14 < (goLen p_l))) ((impl_LongestChain_1 t_14 memo_15 p_l p_g p_s 5).bind fun t_19 => (((cond (decide ((goLen best_12) < (goLen t_19.1))) (some t_19.1) (some best_12)) : Option ((List Int))).bind fun best_22 => some (.next (best_22, (w64 (t_14 + 1)), t_19.2)))) (some (.done best_12)))

noncomputable def impl_LongestChain (p_g : impl_Geo) (p_s : List impl_Variable) (p_l : List impl_Table) : Option ((List Int) × Bool) :=
  ((impl_isPlan p_g p_s p_l).bind fun t_7 => (cond (!t_7) (some (([] : List Int), false)) ((goMake 24 (goLen p_l) (NL.mk [])).bind fun l_8 => ((loopC (impl_LongestChain_l1 p_g p_s p_l) (([] : List Int), 0, l_8)).bind fun best_24 => ((slices_Clone_int_int best_24).bind fun t_27 => some (t_27, true))))))

noncomputable def spec_l1Most (p_a : Int) (p_b : Int) : Option (Int) :=
  (cond (decide (p_b < p_a)) (some p_a) (some p_b))

noncomputable def spec_lLess (p_g : impl_Geo) (p_s : List impl_Variable) (p_t : impl_Table) (p_u : impl_Table) : Option (Bool) :=
  ((((spec_lFollows p_g p_s p_t p_u).bind fun t_10 => (cond t_10 ((spec_lFollows p_g p_s p_u p_t).bind fun t_11 => some (!t_11)) (some false))) : Option (Bool)).bind fun t_12 => some t_12)

noncomputable def spec_lHeights_l3 (p_g : impl_Geo) (p_s : List impl_Variable) (p_l : List impl_Table) (t_12 : Int) (e_13 : impl_Table) : (List Int) × Int → Option (Stp ((List Int) × Int) ((List Int)))
  | (out_24, t_26) => (cond (decide (t_26 < (goLen p_l))) ((goAt p_l t_26).bind fun e_27 => ((spec_lLess p_g p_s e_27 e_13).bind fun t_32 => (((cond t_32 ((goAt out_24 t_12).bind fun e_33 => ((goAt out_24 t_26).bind fun e_35 => ((spec_l1Most e_33 (w64 (e_35 + 1))).bind fun t_37 => ((goAt out_24 t_12).bind fun e_38 => some (goSet out_24 t_12 t_37))))) (some out_24)) : Option ((List Int))).bind fun out_41 => some (.next (out_41, (w64 (t_26 + 1))))))) (some (.done out_24)))

noncomputable def spec_lHeights_l2 (p_g : impl_Geo) (p_s : List impl_Variable) (p_l : List impl_Table) : (List Int) × Int → Option (Stp ((List Int) × Int) ((List Int)))
  | (out_10, t_12) => (cond (decide (t_12 < (goLen p_l))) ((goAt p_l t_12).bind fun e_13 => ((goAt out_10 t_12).bind fun e_18 => ((spec_l1Most e_18 1).bind fun t_20 => ((goAt out_10 t_12).bind fun e_21 => ((loopC (spec_lHeights_l3 p_g p_s p_l t_12 e_13) (goSet out_10 t_12 t_20, 0)).bind fun out_43 => some (.next (out_43, (w64 (t_12 + 1))))))))) (some (.done out_10)))

noncomputable def spec_lHeights_l1 (p_g : impl_Geo) (p_s : List impl_Variable) (p_l : List impl_Table) : (List Int) × Int → Option (Stp ((List Int) × Int) ((List Int)))
  | (out_7, t_9) => (cond (decide (t_9 < (goLen p_l))) ((loopC (spec_lHeights_l2 p_g p_s p_l) (out_7, 0)).bind fun out_45 => some (.next (out_45, (w64 (t_9 + 1))))) (some (.done out_7)))

noncomputable def spec_lHeights (p_g : impl_Geo) (p_s : List impl_Variable) (p_l : List impl_Table) : Option ((List Int)) :=
  ((goMake 8 (goLen p_l) (0 : Int)).bind fun l_5 => ((loopC (spec_lHeights_l1 p_g p_s p_l) (l_5, 0)).bind fun out_47 => some out_47))

noncomputable def spec_LongestChain_l1 (t_6 : List Int) : Int × Int → Option (Stp (Int × Int) (Int))
  | (want_9, t_10) => (cond (decide (t_10 < (goLen t_6))) ((goAt t_6 t_10).bind fun e_11 => ((spec_l1Most want_9 e_11).bind fun t_13 => some (.next (t_13, (w64 (t_10 + 1)))))) (some (.done want_9)))

noncomputable def spec_LongestChain_l3 (p_g : impl_Geo) (p_s : List impl_Variable) (p_l : List impl_Table) (t_6 : List Int) (want_15 : Int) (out_16 : List Int) (t_18 : Int) : Option (Stp (Int) ((List Int))) :=
  (cond (decide (t_18 < (goLen t_6))) ((goAt t_6 t_18).bind fun e_19 => (((cond (e_19 == want_15) (cond ((goLen out_16) == 0) (some true) ((goAt p_l t_18).bind fun e_21 => ((goAt out_16 (w64 ((goLen out_16) - 1))).bind fun e_25 => ((goAt p_l e_25).bind fun e_27 => ((spec_lLess p_g p_s e_21 e_27).bind fun t_31 => some t_31))))) (some false)) : Option (Bool)).bind fun t_32 => (cond t_32 ((goApp 8 out_16 ([t_18] : List Int)).bind fun l_34 => some (.done l_34)) (some (.next (w64 (t_18 + 1))))))) (some (.done out_16)))

noncomputable def spec_LongestChain_l2 (p_g : impl_Geo) (p_s : List impl_Variable) (p_l : List impl_Table) (t_6 : List Int) : Int × (List Int) → Option (Stp (Int × (List Int)) ((List Int)))
  | (want_15, out_16) => (cond (decide (0 < want_15)) ((loopC (spec_LongestChain_l3 p_g p_s p_l t_6 want_15 out_16) 0).bind fun out_36 => some (.next ((w64 (want_15 - 1)), out_36))) (some (.done out_16)))

noncomputable def spec_LongestChain (p_g : impl_Geo) (p_s : List impl_Variable) (p_l : List impl_Table) : Option ((List Int) × Bool) :=
  ((spec_nPlan p_g p_s p_l).bind fun t_5 => (cond (!t_5) (some (([] : List Int), false)) ((spec_lHeights p_g p_s p_l).bind fun t_6 => ((loopC (spec_LongestChain_l1 t_6) (0, 0)).bind fun want_14 => ((loopC (spec_LongestChain_l2 p_g p_s p_l t_6) (want_14, ([] : List Int))).bind fun out_38 => some (out_38, true))))))

noncomputable def spec_DrawCheapestSource (p_code : List (K .u8)) : Option (impl_Geo × (List impl_Variable) × (List impl_Table) × impl_Table) :=
  ((spec_DrawSourcesIn p_code).bind fun t_5 => (((cond (decide (0 < (goLen t_5.2.2))) ((spec_l1Cur_one (spec_l1Cur.mk p_code 0 (⟨0⟩ : K .u64)) 4).bind fun t_12 => some (!t_12.1, t_12.2)) (some (false, (spec_l1Cur.mk p_code 0 (⟨0⟩ : K .u64))))) : Option (Bool × spec_l1Cur)).bind fun (t_14, t_15) => (cond t_14 ((spec_l1Cur_pick t_15 (goLen t_5.2.2)).bind fun t_23 => ((goAt t_5.2.2 t_23.1).bind fun e_25 => ((spec_l1Cur_below t_23.2 t_5.1 t_5.2.1 e_25).bind fun t_30 => some (t_5.1, t_5.2.1, t_5.2.2, t_30.1)))) ((spec_l1Cur_anyTable t_15 t_5.1 t_5.2.1).bind fun t_18 => some (t_5.1, t_5.2.1, t_5.2.2, t_18.1)))))

noncomputable def impl_CheapestSource_l1 (p_g : impl_Geo) (p_s : List impl_Variable) (p_l : List impl_Table) (p_t : impl_Table) : Int × Int → Option (Stp (Int × Int) (Int))
  | (best_11, t_12) => (cond (decide (t_12 < (goLen p_l))) ((goAt p_l t_12).bind fun e_13 => ((((impl_followsFrom p_g p_s p_t e_13).bind fun t_18 => (cond t_18 (cond (decide (best_11 < 0)) (some true) ((goAt p_l best_11).bind fun e_24 => ((impl_cellCount p_g p_s e_13).bind fun t_29 => ((impl_cellCount p_g p_s e_24).bind fun t_30 => some (decide (t_29 < t_30)))))) (some false))) : Option (Bool)).bind fun t_31 => (((cond t_31 (some t_12) (some best_11)) : Option (Int)).bind fun best_32 => some (.next (best_32, (w64 (t_12 + 1))))))) (some (.done best_11)))

noncomputable def impl_CheapestSource (p_g : impl_Geo) (p_s : List impl_Variable) (p_l : List impl_Table) (p_t : impl_Table) : Option (Int × Bool) :=
  ((((impl_isPlan p_g p_s p_l).bind fun t_8 => (cond (!t_8) (some true) ((impl_isTable p_g p_s p_t).bind fun t_9 => some (!t_9)))) : Option (Bool)).bind fun t_10 => (cond t_10 (some (0, false)) ((loopC (impl_CheapestSource_l1 p_g p_s p_l p_t) (-1, 0)).bind fun best_33 => (cond (decide (best_33 < 0)) (some (0, false)) (some (best_33, true))))))

noncomputable def spec_CheapestSource_l1 (p_g : impl_Geo) (p_s : List impl_Variable) (p_l : List impl_Table) (p_t : impl_Table) : Int × Int → Option (Stp (Int × Int) (Int))
  | (best_11, t_12) => (cond (decide (t_12 < (goLen p_l))) ((goAt p_l t_12).bind fun e_13 => ((((spec_lFollows p_g p_s p_t e_13).bind fun t_18 => (cond t_18 (cond (decide (best_11 < 0)) (some true) ((goAt p_l best_11).bind fun e_24 => ((spec_uCount p_g p_s e_13).bind fun t_29 => ((spec_uCount p_g p_s e_24).bind fun t_30 => some (decide (t_29 < t_30)))))) (some false))) : Option (Bool)).bind fun t_31 => (((cond t_31 (some t_12) (some best_11)) : Option (Int)).bind fun best_32 => some (.next (best_32, (w64 (t_12 + 1))))))) (some (.done best_11)))

noncomputable def spec_CheapestSource (p_g : impl_Geo) (p_s : List impl_Variable) (p_l : List impl_Table) (p_t : impl_Table) : Option (Int × Bool) :=
  ((((spec_nPlan p_g p_s p_l).bind fun t_8 => (cond (!t_8) (some true) ((spec_uGood p_g p_s p_t).bind fun t_9 => some (!t_9)))) : Option (Bool)).bind fun t_10 => (cond t_10 (some (0, false)) ((loopC (spec_CheapestSource_l1 p_g p_s p_l p_t) (-1, 0)).bind fun best_33 => (cond (decide (best_33 < 0)) (some (0, false)) (some (best_33, true))))))

noncomputable def impl_areTabled (p_g : impl_Geo) (p_s : List impl_Variable) (p_t : impl_Table) : Option (Bool) :=
  ((((impl_IsGeo p_g).bind fun t_7 => (cond t_7 ((impl_IsSchema p_s).bind fun t_8 => (cond t_8 ((impl_isTable p_g p_s p_t).bind fun t_9 => some t_9) (some false))) (some false))) : Option (Bool)).bind fun t_10 => some t_10)

noncomputable def impl_FollowsFrom (p_g : impl_Geo) (p_s : List impl_Variable) (p_t : impl_Table) (p_u : impl_Table) : Option (Bool × Bool) :=
  ((((impl_areTabled p_g p_s p_t).bind fun t_10 => (cond (!t_10) (some true) ((impl_isTable p_g p_s p_u).bind fun t_11 => some (!t_11)))) : Option (Bool)).bind fun t_12 => (cond t_12 (some (false, false)) ((impl_followsFrom p_g p_s p_t p_u).bind fun t_13 => some (t_13, true))))

noncomputable def laws_FnBases_l1 (t_4 : impl_Geo × (List impl_Variable) × (List impl_Table)) (t_14 : (List Int) × Bool) : (List impl_Table) × Int → Option (Stp ((List impl_Table) × Int) ((List impl_Table)))
  | (base_21, t_23) => (cond (decide (t_23 < (goLen t_14.1))) ((goAt t_14.1 t_23).bind fun e_24 => ((goAt t_4.2.2 e_24).bind fun e_26 => ((goApp 64 base_21 ([e_26] : List impl_Table)).bind fun l_31 => some (.next (l_31, (w64 (t_23 + 1))))))) (some (.done base_21)))

noncomputable def laws_FnBases (p_code : List (K .u8)) (p_more : List (K .u8)) : Option (Bool) :=
  ((laws_big p_code p_more).bind fun t_3 => (cond t_3 (some true) ((spec_DrawBaseTables p_code).bind fun t_4 => ((impl_BaseTables t_4.1 t_4.2.1 t_4.2.2).bind fun t_10 => ((spec_BaseTables t_4.1 t_4.2.1 t_4.2.2).bind fun t_14 => (((cond (t_10.2 != t_14.2) (some true) ((laws_sameInts t_10.1 t_14.1).bind fun t_18 => some (!t_18))) : Option (Bool)).bind fun t_20 => (cond t_20 (some false) (((cond t_10.2 ((loopC (laws_FnBases_l1 t_4 t_14) (([] : List impl_Table), 0)).bind fun base_33 => ((impl_CoversPlan t_4.1 t_4.2.1 base_33 t_4.2.2).bind fun t_35 => ((impl_SourcesIn t_4.1 t_4.2.1 t_4.2.2).bind fun t_37 => ((spec_SourcesIn t_4.1 t_4.2.1 t_4.2.2).bind fun t_42 => ((impl_PlanSizes t_4.1 t_4.2.1 t_4.2.2).bind fun t_45 => ((spec_PlanSizes t_4.1 t_4.2.1 t_4.2.2).bind fun t_48 => (((cond (!t_35.2) (some true) (cond (!t_35.1) (some true) (cond (!t_37.2) (some true) ((laws_sameLists t_37.1 t_42.1).bind fun t_51 => (cond (!t_51) (some true) (cond (!t_45.2) (some true) ((laws_sameInts t_45.1 t_48.1).bind fun t_53 => some (!t_53)))))))) : Option (Bool)).bind fun t_55 => (cond t_55 (some (.inr false)) ((impl_LongestChain t_4.1 t_4.2.1 t_4.2.2).bind fun t_56 => ((spec_LongestChain t_4.1 t_4.2.1 t_4.2.2).bind fun t_59 => (((cond (!t_56.2) (some true) ((laws_sameInts t_56.1 t_59.1).bind fun t_62 => some (!t_62))) : Option (Bool)).bind fun t_64 => (cond t_64 (some (.inr false)) (some (.inl ())))))))))))))) (some (.inl ()))) : Option ((Unit) ⊕ (Bool))).bind fun | .inl () => ((spec_DrawCheapestSource p_more).bind fun t_66 => ((impl_CheapestSource t_66.1 t_66.2.1 t_66.2.2.1 t_66.2.2.2).bind fun t_75 => ((spec_CheapestSource t_66.1 t_66.2.1 t_66.2.2.1 t_66.2.2.2).bind fun t_77 => (((cond (t_75.2 != t_77.2) (some true) (some (t_75.1 != t_77.1))) : Option (Bool)).bind fun t_79 => (cond t_79 (some false) (cond t_75.2 ((goAt t_66.2.2.1 t_77.1).bind fun e_80 => ((impl_FollowsFrom t_66.1 t_66.2.1 t_66.2.2.2 e_80).bind fun t_84 => (((cond t_84.2 (some t_84.1) (some false)) : Option (Bool)).bind fun t_86 => some t_86))) (some true))))))) | .inr o => some o))))))))

end Go.Gx.F
