/- The plain functions that the walks come to. -/
import Derived.Lib.ItoaNum
import Derived.Lib.Join
import Derived.Lib.IndexMore
import Derived.Test.YtgaeknajcakinaaGreatDoorGy
namespace Go.Gx.F
open Go.Gx
set_option linter.all false

structure spec_l1Cur where
  code : List (K .u8)
  at_ : Int
  seed : K .u64

instance : Rep spec_l1Cur where
  wd := 3
  rd m cs x := ∃ s1 : Sl, cs = [s1.v, (.int .i64 x.at_), (.int .u64 x.seed.v)] ∧ Rd m s1 x.code
  mono hm h := by
    obtain ⟨s1, rfl, h1⟩ := h
    exact ⟨s1, rfl, h1.mono hm⟩
  len h := by obtain ⟨s1, rfl, _⟩ := h; rfl
  one h := by obtain ⟨s1, rfl, _⟩ := h; rfl

instance : Rng spec_l1Cur := ⟨fun x => Rng.ok x.code ∧ Rng.ok x.at_ ∧ Rng.ok x.seed⟩

structure impl_Geo where
  Parents : List Int

instance : Rep impl_Geo where
  wd := 1
  rd m cs x := ∃ s1 : Sl, cs = [s1.v] ∧ Rd m s1 x.Parents
  mono hm h := by
    obtain ⟨s1, rfl, h1⟩ := h
    exact ⟨s1, rfl, h1.mono hm⟩
  len h := by obtain ⟨s1, rfl, _⟩ := h; rfl
  one h := by obtain ⟨s1, rfl, _⟩ := h; rfl

instance : Rng impl_Geo := ⟨fun x => Rng.ok x.Parents⟩

structure impl_Variable where
  Name : List UInt8
  Levels : Int

instance : Rep impl_Variable where
  wd := 2
  rd m cs x := cs = [(strV x.Name), (.int .i64 x.Levels)]
  mono _ h := h
  len h := by subst h; rfl
  one h := by subst h; rfl

instance : Flat impl_Variable := ⟨fun h => h⟩

instance : Rng impl_Variable := ⟨fun x => Rng.ok x.Name ∧ Rng.ok x.Levels⟩

structure impl_Record where
  Area : Int
  House : Int
  Values : List Int

instance : Rep impl_Record where
  wd := 3
  rd m cs x := ∃ s1 : Sl, cs = [(.int .i64 x.Area), (.int .i64 x.House), s1.v] ∧ Rd m s1 x.Values
  mono hm h := by
    obtain ⟨s1, rfl, h1⟩ := h
    exact ⟨s1, rfl, h1.mono hm⟩
  len h := by obtain ⟨s1, rfl, _⟩ := h; rfl
  one h := by obtain ⟨s1, rfl, _⟩ := h; rfl

instance : Rng impl_Record := ⟨fun x => Rng.ok x.Area ∧ Rng.ok x.House ∧ Rng.ok x.Values⟩

structure impl_Table where
  Level : Int
  Vars : List Int
  Where : List Int
  Sum : Int

instance : Rep impl_Table where
  wd := 4
  rd m cs x := ∃ s1 s2 : Sl, cs = [(.int .i64 x.Level), s1.v, s2.v, (.int .i64 x.Sum)] ∧ Rd m s1 x.Vars ∧ Rd m s2 x.Where
  mono hm h := by
    obtain ⟨s1, s2, rfl, h1, h2⟩ := h
    exact ⟨s1, s2, rfl, h1.mono hm, h2.mono hm⟩
  len h := by obtain ⟨s1, s2, rfl, _⟩ := h; rfl
  one h := by obtain ⟨s1, s2, rfl, _⟩ := h; rfl

instance : Rng impl_Table := ⟨fun x => Rng.ok x.Level ∧ Rng.ok x.Vars ∧ Rng.ok x.Where ∧ Rng.ok x.Sum⟩

noncomputable def laws_big (p_code : List (K .u8)) (p_more : List (K .u8)) : Option (Bool) :=
  (((cond (decide (1048576 < (goLen p_code))) (some true) (some (decide ((w64 (1048576 - (goLen p_code))) < (goLen p_more))))) : Option (Bool)).bind fun t_3 => some t_3)

noncomputable def spec_l1Cur_next (p_c : spec_l1Cur) : Option (Int × spec_l1Cur) :=
  (((cond (decide (p_c.at_ < (goLen p_c.code))) ((goAt p_c.code p_c.at_).bind fun e_2 => some (w64 e_2.v)) (some 0)) : Option (Int)).bind fun b_4 => (cond (decide ((w64 (p_c.at_ + 1)) ≤ (goLen p_c.code))) (some (b_4, (spec_l1Cur.mk p_c.code (w64 (p_c.at_ + 1)) (⟨(IntKind.wrap .u64 ((IntKind.wrap .u64 ((IntKind.wrap .u64 (p_c.seed.v * 6364136223846793005)) + (IntKind.wrap .u64 b_4))) + 1442695040888963407))⟩ : K .u64)))) ((goShr .u64 (IntKind.wrap .u64 ((IntKind.wrap .u64 ((IntKind.wrap .u64 (p_c.seed.v * 6364136223846793005)) + (IntKind.wrap .u64 b_4))) + 1442695040888963407)) 40).bind fun t_5 => some ((w64 (goBits .and .u64 t_5 255)), (spec_l1Cur.mk p_c.code (w64 (p_c.at_ + 1)) (⟨(IntKind.wrap .u64 ((IntKind.wrap .u64 ((IntKind.wrap .u64 (p_c.seed.v * 6364136223846793005)) + (IntKind.wrap .u64 b_4))) + 1442695040888963407))⟩ : K .u64))))))

noncomputable def spec_l1Cur_pick (p_c : spec_l1Cur) (p_n : Int) : Option (Int × spec_l1Cur) :=
  (cond (decide (p_n ≤ 1)) (some (0, p_c)) ((spec_l1Cur_next p_c).bind fun t_3 => (((cond (decide (200 < p_n)) ((spec_l1Cur_next t_3.2).bind fun t_6 => some ((w64 ((w64 (t_3.1 * 256)) + t_6.1)), t_6.2)) (some (t_3.1, t_3.2))) : Option (Int × spec_l1Cur)).bind fun (x_8, p_c_9) => ((goRem x_8 p_n).bind fun t_11 => some (t_11, p_c_9)))))

noncomputable def spec_l1Own (p_l : List Int) : Option ((List Int)) :=
  ((goApp 8 ([] : List Int) p_l).bind fun l_3 => some l_3)

noncomputable def spec_l1Cur_geo_l1  : Int × spec_l1Cur × impl_Geo → Option (Stp (Int × spec_l1Cur × impl_Geo) (spec_l1Cur × impl_Geo))
  | (k_29, p_c_30, g_32) => (cond (decide (0 < k_29)) ((((spec_l1Cur_pick p_c_30 (goLen g_32.Parents)).bind fun t_35 => ((goApp 8 g_32.Parents ([t_35.1] : List Int)).bind fun l_38 => some (t_35.2, (impl_Geo.mk l_38)))) : Option (spec_l1Cur × impl_Geo)).bind fun (p_c_40, g_42) => some (.next ((w64 (k_29 - 1)), p_c_40, g_42))) (some (.done (p_c_30, g_32))))

noncomputable def spec_l1Cur_geo (p_c : spec_l1Cur) : Option (impl_Geo × spec_l1Cur) :=
  ((spec_l1Cur_pick p_c (goLen ([([-1, 0, 0] : List Int), ([-1, 0, 0, 1, 1, 2, 2] : List Int), ([-1, 0, 0, 0, 1, 1, 2, 3] : List Int), ([-1, 0, 0, 1, 1] : List Int), ([-1] : List Int), ([-1, 0, 1, 2] : List Int)] : List (List Int)))).bind fun t_17 => ((goAt ([([-1, 0, 0] : List Int), ([-1, 0, 0, 1, 1, 2, 2] : List Int), ([-1, 0, 0, 0, 1, 1, 2, 3] : List Int), ([-1, 0, 0, 1, 1] : List Int), ([-1] : List Int), ([-1, 0, 1, 2] : List Int)] : List (List Int)) t_17.1).bind fun e_19 => ((spec_l1Own e_19).bind fun t_22 => ((spec_l1Cur_pick t_17.2 4).bind fun t_27 => ((loopC (spec_l1Cur_geo_l1) (t_27.1, t_27.2, (impl_Geo.mk t_22))).bind fun (p_c_44, g_46) => some (g_46, p_c_44))))))

noncomputable def spec_l1Cur_schema_l1  : (List impl_Variable) × Int × spec_l1Cur → Option (Stp ((List impl_Variable) × Int × spec_l1Cur) ((List impl_Variable) × spec_l1Cur))
  | (out_3, k_5, p_c_6) => ((spec_l1Cur_pick p_c_6 3).bind fun t_9 => (cond (decide (k_5 < (w64 (1 + t_9.1)))) ((((goAt ([([115, 101, 120] : List UInt8), ([97, 103, 101] : List UInt8), ([106, 111, 98] : List UInt8), ([104, 111, 109, 101] : List UInt8), ([115, 105, 122, 101] : List UInt8), ([108, 97, 110, 103] : List UInt8)] : List (List UInt8)) k_5).bind fun e_11 => ((spec_l1Cur_pick t_9.2 3).bind fun t_17 => ((goApp 24 out_3 ([(impl_Variable.mk e_11 (w64 (2 + t_17.1)))] : List impl_Variable)).bind fun l_20 => some (l_20, t_17.2)))) : Option ((List impl_Variable) × spec_l1Cur)).bind fun (out_22, p_c_24) => some (.next (out_22, (w64 (k_5 + 1)), p_c_24))) (some (.done (out_3, t_9.2)))))

noncomputable def spec_l1Cur_schema (p_c : spec_l1Cur) : Option ((List impl_Variable) × spec_l1Cur) :=
  ((loopC (spec_l1Cur_schema_l1) (([] : List impl_Variable), 0, p_c)).bind fun (out_26, p_c_28) => some (out_26, p_c_28))

noncomputable def spec_gChildren_l1 (p_g : impl_Geo) (p_i : Int) : (List Int) × Int → Option (Stp ((List Int) × Int) ((List Int)))
  | (out_3, t_5) => (cond (decide (t_5 < (goLen p_g.Parents))) ((goAt p_g.Parents t_5).bind fun e_6 => (((cond (e_6 == p_i) ((goApp 8 out_3 ([t_5] : List Int)).bind fun l_9 => some l_9) (some out_3)) : Option ((List Int))).bind fun out_11 => some (.next (out_11, (w64 (t_5 + 1)))))) (some (.done out_3)))

noncomputable def spec_gChildren (p_g : impl_Geo) (p_i : Int) : Option ((List Int)) :=
  ((loopC (spec_gChildren_l1 p_g p_i) (([] : List Int), 0)).bind fun out_13 => some out_13)

noncomputable def spec_gLeaves_l1 (p_g : impl_Geo) : (List Int) × Int → Option (Stp ((List Int) × Int) ((List Int)))
  | (out_3, t_5) => (cond (decide (t_5 < (goLen p_g.Parents))) ((spec_gChildren p_g t_5).bind fun t_6 => (((cond ((goLen t_6) == 0) ((goApp 8 out_3 ([t_5] : List Int)).bind fun l_10 => some l_10) (some out_3)) : Option ((List Int))).bind fun out_12 => some (.next (out_12, (w64 (t_5 + 1)))))) (some (.done out_3)))

noncomputable def spec_gLeaves (p_g : impl_Geo) : Option ((List Int)) :=
  ((loopC (spec_gLeaves_l1 p_g) (([] : List Int), 0)).bind fun out_14 => some out_14)

noncomputable def spec_l1Cur_among (p_c : spec_l1Cur) (p_list : List Int) : Option (Int × spec_l1Cur) :=
  ((spec_l1Cur_pick p_c (goLen p_list)).bind fun t_4 => ((goAt p_list t_4.1).bind fun e_6 => some (e_6, t_4.2)))

noncomputable def spec_l1Cur_values_l1 (p_s : List impl_Variable) : (List Int) × Int × spec_l1Cur → Option (Stp ((List Int) × Int × spec_l1Cur) ((List Int) × spec_l1Cur))
  | (out_3, t_5, p_c_6) => (cond (decide (t_5 < (goLen p_s))) ((goAt p_s t_5).bind fun e_8 => ((spec_l1Cur_pick p_c_6 e_8.Levels).bind fun t_12 => ((goApp 8 out_3 ([t_12.1] : List Int)).bind fun l_15 => some (.next (l_15, (w64 (t_5 + 1)), t_12.2))))) (some (.done (out_3, p_c_6))))

noncomputable def spec_l1Cur_values (p_c : spec_l1Cur) (p_s : List impl_Variable) : Option ((List Int) × spec_l1Cur) :=
  ((loopC (spec_l1Cur_values_l1 p_s) (([] : List Int), 0, p_c)).bind fun (out_17, p_c_19) => some (out_17, p_c_19))

noncomputable def spec_l1Cur_record (p_c : spec_l1Cur) (p_s : List impl_Variable) (p_areas : List Int) : Option (impl_Record × spec_l1Cur) :=
  ((spec_l1Cur_among p_c p_areas).bind fun t_6 => ((spec_l1Cur_pick t_6.2 6).bind fun t_9 => ((spec_l1Cur_values t_9.2 p_s).bind fun t_12 => some ((impl_Record.mk t_6.1 t_9.1 t_12.1), t_12.2))))

noncomputable def spec_l1Cur_one (p_c : spec_l1Cur) (p_n : Int) : Option (Bool × spec_l1Cur) :=
  ((spec_l1Cur_pick p_c p_n).bind fun t_3 => some (t_3.1 == 0, t_3.2))

noncomputable def spec_rOwn (p_r : impl_Record) : Option (impl_Record) :=
  ((spec_l1Own p_r.Values).bind fun t_4 => some (impl_Record.mk p_r.Area p_r.House t_4))

noncomputable def spec_l1Cur_data_l1 (p_s : List impl_Variable) (p_areas : List Int) : (List impl_Record) × Int × spec_l1Cur → Option (Stp ((List impl_Record) × Int × spec_l1Cur) ((List impl_Record) × spec_l1Cur))
  | (out_7, k_9, p_c_10) => (cond (decide (0 < k_9)) ((spec_l1Cur_record p_c_10 p_s p_areas).bind fun t_14 => ((goApp 40 out_7 ([t_14.1] : List impl_Record)).bind fun l_20 => ((spec_l1Cur_one t_14.2 4).bind fun t_23 => (((cond t_23.1 ((spec_rOwn t_14.1).bind fun t_25 => ((goApp 40 l_20 ([t_25] : List impl_Record)).bind fun l_30 => some l_30)) (some l_20)) : Option ((List impl_Record))).bind fun out_32 => some (.next (out_32, (w64 (k_9 - 1)), t_23.2)))))) (some (.done (out_7, p_c_10))))

noncomputable def spec_l1Cur_data (p_c : spec_l1Cur) (p_s : List impl_Variable) (p_areas : List Int) : Option ((List impl_Record) × spec_l1Cur) :=
  ((spec_l1Cur_pick p_c 12).bind fun t_5 => ((loopC (spec_l1Cur_data_l1 p_s p_areas) (([] : List impl_Record), t_5.1, t_5.2)).bind fun (out_35, p_c_37) => some (out_35, p_c_37)))

noncomputable def spec_l1Cur_survey (p_c : spec_l1Cur) : Option (impl_Geo × (List impl_Variable) × (List impl_Record) × spec_l1Cur) :=
  ((spec_l1Cur_geo p_c).bind fun t_4 => ((spec_l1Cur_schema t_4.2).bind fun t_9 => ((spec_gLeaves t_4.1).bind fun t_12 => ((spec_l1Cur_data t_9.2 t_9.1 t_12).bind fun t_19 => some (t_4.1, t_9.1, t_19.1, t_19.2)))))

noncomputable def spec_l1Cur_anyGeo (p_c : spec_l1Cur) : Option (impl_Geo × spec_l1Cur) :=
  ((spec_l1Cur_geo p_c).bind fun t_4 => ((spec_l1Cur_pick t_4.2 24).bind fun t_9 => (((cond (t_9.1 == 0) ((goAt t_4.1.Parents 0).bind fun e_38 => some (.inl (t_9.2, (impl_Geo.mk (goSet t_4.1.Parents 0 0))))) (((cond (t_9.1 == 1) ((((spec_l1Cur_among t_9.2 ([-1, goLen t_4.1.Parents, 0] : List Int)).bind fun t_25 => ((goApp 8 t_4.1.Parents ([t_25.1] : List Int)).bind fun l_28 => some (t_25.2, (impl_Geo.mk l_28)))) : Option (spec_l1Cur × impl_Geo)).bind fun (p_c_30, g_32) => some (.inl (p_c_30, g_32))) (cond (t_9.1 == 2) (some (.inr (.inr ((impl_Geo.mk ([] : List Int)), t_9.2)))) (((cond (t_9.1 == 3) ((spec_l1Cur_pick t_9.2 2).bind fun t_15 => ((goAppZ 8 t_4.1.Parents (w64 ((w64 (30 - (goLen t_4.1.Parents))) + t_15.1)) (0 : Int)).bind fun l_17 => some (t_15.2, (impl_Geo.mk l_17)))) (some (t_9.2, t_4.1))) : Option (spec_l1Cur × impl_Geo)).bind fun (p_c_19, g_21) => some (.inl (p_c_19, g_21))))) : Option ((spec_l1Cur × impl_Geo) ⊕ ((spec_l1Cur × impl_Geo) ⊕ (impl_Geo × spec_l1Cur)))).bind fun | .inl (p_c_34, g_36) => some (.inl (p_c_34, g_36)) | .inr o => some o)) : Option ((spec_l1Cur × impl_Geo) ⊕ (impl_Geo × spec_l1Cur))).bind fun | .inl (p_c_41, g_43) => some (g_43, p_c_41) | .inr o => some o)))

noncomputable def spec_l1Cur_of (p_c : spec_l1Cur) (p_list : List (List UInt8)) : Option ((List UInt8) × spec_l1Cur) :=
  ((spec_l1Cur_pick p_c (goLen p_list)).bind fun t_4 => ((goAt p_list t_4.1).bind fun e_6 => some (e_6, t_4.2)))

noncomputable def spec_l1Cur_anySchema_l1  : (List impl_Variable) × spec_l1Cur → Option (Stp ((List impl_Variable) × spec_l1Cur) ((List impl_Variable) × spec_l1Cur))
  | (s_9, p_c_11) => ((spec_l1Cur_pick p_c_11 2).bind fun t_14 => (cond (decide ((goLen s_9) < (w64 (6 + t_14.1)))) ((goCat ([120] : List UInt8) (goBytes ([(⟨(IntKind.wrap .u8 (w64 (97 + (goLen s_9))))⟩ : K .u8)] : List (K .u8)))).bind fun t_17 => ((goApp 24 s_9 ([(impl_Variable.mk t_17 2)] : List impl_Variable)).bind fun l_19 => some (.next (l_19, t_14.2)))) (some (.done (s_9, t_14.2)))))

noncomputable def spec_l1Cur_anySchema (p_c : spec_l1Cur) : Option ((List impl_Variable) × spec_l1Cur) :=
  ((spec_l1Cur_schema p_c).bind fun t_3 => ((spec_l1Cur_pick t_3.2 24).bind fun t_7 => (((cond (t_7.1 == 0) ((spec_l1Cur_among t_7.2 ([1, 8, 9] : List Int)).bind fun t_42 => ((goAt t_3.1 0).bind fun e_44 => some (.inl (goSet t_3.1 0 (impl_Variable.mk e_44.Name t_42.1), t_42.2)))) (((cond (t_7.1 == 1) ((spec_l1Cur_of t_7.2 ([([] : List UInt8), ([65, 103, 101] : List UInt8), ([97, 98, 99, 100, 101, 102, 103, 104, 105] : List UInt8), ([97, 103, 101] : List UInt8), ([97, 98, 32, 99, 100] : List UInt8)] : List (List UInt8))).bind fun t_31 => ((goAt t_3.1 0).bind fun e_33 => some (.inl (goSet t_3.1 0 (impl_Variable.mk t_31.1 e_33.Levels), t_31.2)))) (cond (t_7.1 == 2) (some (.inr (.inr (([] : List impl_Variable), t_7.2)))) (((cond (t_7.1 == 3) ((loopC (spec_l1Cur_anySchema_l1) (t_3.1, t_7.2)).bind fun (s_21, p_c_23) => some (s_21, p_c_23)) (some (t_3.1, t_7.2))) : Option ((List impl_Variable) × spec_l1Cur)).bind fun (s_25, p_c_27) => some (.inl (s_25, p_c_27))))) : Option (((List impl_Variable) × spec_l1Cur) ⊕ (((List impl_Variable) × spec_l1Cur) ⊕ ((List impl_Variable) × spec_l1Cur)))).bind fun | .inl (s_36, p_c_38) => some (.inl (s_36, p_c_38)) | .inr o => some o)) : Option (((List impl_Variable) × spec_l1Cur) ⊕ ((List impl_Variable) × spec_l1Cur))).bind fun | .inl (s_47, p_c_49) => some (s_47, p_c_49) | .inr o => some o)))

noncomputable def spec_l1Cur_anySurvey (p_c : spec_l1Cur) : Option (impl_Geo × (List impl_Variable) × (List impl_Record) × spec_l1Cur) :=
  ((spec_l1Cur_survey p_c).bind fun t_4 => ((spec_l1Cur_pick t_4.2.2.2 20).bind fun t_11 => (cond (t_11.1 == 0) ((spec_l1Cur_anyGeo t_11.2).bind fun t_40 => some (t_40.1, t_4.2.1, t_4.2.2.1, t_40.2)) (cond (t_11.1 == 1) ((spec_l1Cur_anySchema t_11.2).bind fun t_35 => some (t_4.1, t_35.1, t_4.2.2.1, t_35.2)) (((cond (t_11.1 == 2) ((spec_l1Cur_among t_11.2 ([0, 29, -1] : List Int)).bind fun t_15 => ((spec_l1Cur_values t_15.2 t_4.2.1).bind fun t_18 => ((goApp 40 t_4.2.2.1 ([(impl_Record.mk t_15.1 0 t_18.1)] : List impl_Record)).bind fun l_23 => some (l_23, t_18.2)))) (some (t_4.2.2.1, t_11.2))) : Option ((List impl_Record) × spec_l1Cur)).bind fun (l_25, p_c_27) => some (t_4.1, t_4.2.1, l_25, p_c_27))))))

noncomputable def spec_l1Cur_where_l1 (p_s : List impl_Variable) : (List Int) × Int × spec_l1Cur → Option (Stp ((List Int) × Int × spec_l1Cur) ((List Int) × spec_l1Cur))
  | (out_3, t_5, p_c_6) => (cond (decide (t_5 < (goLen p_s))) ((goAt p_s t_5).bind fun e_8 => ((spec_l1Cur_one p_c_6 3).bind fun t_12 => (((cond t_12.1 ((goShl .i64 1 (IntKind.wrap .u64 e_8.Levels)).bind fun t_14 => ((spec_l1Cur_pick t_12.2 (w64 (t_14 - 1))).bind fun t_16 => some ((w64 (1 + t_16.1)), t_16.2))) (some (0, t_12.2))) : Option (Int × spec_l1Cur)).bind fun (set_18, p_c_19) => ((goApp 8 out_3 ([set_18] : List Int)).bind fun l_22 => some (.next (l_22, (w64 (t_5 + 1)), p_c_19)))))) (some (.done (out_3, p_c_6))))

noncomputable def spec_l1Cur_where (p_c : spec_l1Cur) (p_s : List impl_Variable) : Option ((List Int) × spec_l1Cur) :=
  ((loopC (spec_l1Cur_where_l1 p_s) (([] : List Int), 0, p_c)).bind fun (out_24, p_c_26) => some (out_24, p_c_26))

noncomputable def spec_l1In (p_n : Int) (p_lo : Int) (p_hi : Int) : Option (Bool) :=
  (((cond (decide (p_lo ≤ p_n)) (some (decide (p_n ≤ p_hi))) (some false)) : Option (Bool)).bind fun t_1 => some t_1)

noncomputable def spec_gGood_l1 (p_g : impl_Geo) (t_7 : Int) : Option (Stp (Int) ((Unit) ⊕ (Bool))) :=
  (cond (decide (t_7 < (goLen p_g.Parents))) ((goAt p_g.Parents t_7).bind fun e_8 => (((cond (decide (0 < t_7)) ((spec_l1In e_8 0 (w64 (t_7 - 1))).bind fun t_10 => some (!t_10)) (some false)) : Option (Bool)).bind fun t_11 => (cond t_11 (some (.done (.inr false))) (some (.next (w64 (t_7 + 1))))))) (some (.done (.inl ()))))

noncomputable def spec_gGood (p_g : impl_Geo) : Option (Bool) :=
  ((((spec_l1In (goLen p_g.Parents) 1 30).bind fun t_3 => (cond (!t_3) (some true) ((goAt p_g.Parents 0).bind fun e_4 => some (e_4 != (-1))))) : Option (Bool)).bind fun t_6 => (cond t_6 (some false) ((loopC (spec_gGood_l1 p_g) 0).bind fun | .inl () => some true | .inr o => some o)))

noncomputable def spec_gDepth_l1 (p_g : impl_Geo) : Int × Int → Option (Stp (Int × Int) (Int))
  | (i_3, n_4) => ((goAt p_g.Parents i_3).bind fun e_5 => (cond (decide (0 ≤ e_5)) ((goAt p_g.Parents i_3).bind fun e_7 => some (.next (e_7, (w64 (n_4 + 1))))) (some (.done n_4))))

noncomputable def spec_gDepth (p_g : impl_Geo) (p_i : Int) : Option (Int) :=
  ((loopC (spec_gDepth_l1 p_g) (p_i, 0)).bind fun n_9 => some n_9)

noncomputable def spec_gLevel_l1 (p_g : impl_Geo) (p_level : Int) : (List Int) × Int → Option (Stp ((List Int) × Int) ((List Int)))
  | (out_3, t_5) => (cond (decide (t_5 < (goLen p_g.Parents))) ((spec_gDepth p_g t_5).bind fun t_6 => (((cond (t_6 == p_level) ((goApp 8 out_3 ([t_5] : List Int)).bind fun l_8 => some l_8) (some out_3)) : Option ((List Int))).bind fun out_10 => some (.next (out_10, (w64 (t_5 + 1)))))) (some (.done out_3)))

noncomputable def spec_gLevel (p_g : impl_Geo) (p_level : Int) : Option ((List Int)) :=
  ((loopC (spec_gLevel_l1 p_g p_level) (([] : List Int), 0)).bind fun out_12 => some out_12)

noncomputable def spec_l1Cur_table_l1 (p_s : List impl_Variable) : Int × impl_Table × spec_l1Cur → Option (Stp (Int × impl_Table × spec_l1Cur) (impl_Table × spec_l1Cur))
  | (t_11, t_12, p_c_15) => (cond (decide (t_11 < (goLen p_s))) ((spec_l1Cur_one p_c_15 2).bind fun t_18 => (((cond t_18.1 ((goApp 8 t_12.Vars ([t_11] : List Int)).bind fun l_21 => some (impl_Table.mk t_12.Level l_21 t_12.Where t_12.Sum)) (some t_12)) : Option (impl_Table)).bind fun t_23 => some (.next ((w64 (t_11 + 1)), t_23, t_18.2)))) (some (.done (t_12, p_c_15))))

noncomputable def spec_l1Cur_table (p_c : spec_l1Cur) (p_g : impl_Geo) (p_s : List impl_Variable) : Option (impl_Table × spec_l1Cur) :=
  ((spec_l1Cur_where p_c p_s).bind fun t_7 => ((loopC (spec_l1Cur_table_l1 p_s) (0, (impl_Table.mk 0 ([] : List Int) t_7.1 (-1)), t_7.2)).bind fun (t_26, p_c_29) => ((spec_gGood p_g).bind fun t_31 => (((cond t_31 ((spec_l1Cur_pick p_c_29 3).bind fun t_33 => ((spec_gLevel p_g t_33.1).bind fun t_35 => (((cond ((goLen t_35) == 0) (some (impl_Table.mk 0 t_26.Vars t_26.Where t_26.Sum)) (some (impl_Table.mk t_33.1 t_26.Vars t_26.Where t_26.Sum))) : Option (impl_Table)).bind fun t_38 => some (t_38, t_33.2)))) (some (t_26, p_c_29))) : Option (impl_Table × spec_l1Cur)).bind fun (t_41, p_c_44) => ((((spec_l1Cur_one p_c_44 3).bind fun t_47 => (cond t_47.1 (some (decide (0 < (goLen p_s)), t_47.2)) (some (false, t_47.2)))) : Option (Bool × spec_l1Cur)).bind fun (t_49, p_c_50) => (((cond t_49 ((spec_l1Cur_pick p_c_50 (goLen p_s)).bind fun t_53 => some (t_53.2, (impl_Table.mk t_41.Level t_41.Vars t_41.Where t_53.1))) (some (p_c_50, t_41))) : Option (spec_l1Cur × impl_Table)).bind fun (p_c_55, t_57) => some (t_57, p_c_55)))))))

noncomputable def spec_l1Cur_anyTable (p_c : spec_l1Cur) (p_g : impl_Geo) (p_s : List impl_Variable) : Option (impl_Table × spec_l1Cur) :=
  ((spec_l1Cur_table p_c p_g p_s).bind fun t_7 => ((spec_l1Cur_pick t_7.2 24).bind fun t_13 => (((cond (t_13.1 == 0) ((spec_l1Cur_among t_13.2 ([-1, 3, 4] : List Int)).bind fun t_69 => some (t_69.2, (impl_Table.mk t_69.1 t_7.1.Vars t_7.1.Where t_7.1.Sum))) (((cond (t_13.1 == 1) ((((spec_l1Cur_among t_13.2 ([-1, 0, 6] : List Int)).bind fun t_52 => ((goApp 8 t_7.1.Vars ([t_52.1] : List Int)).bind fun l_55 => some (t_52.2, (impl_Table.mk t_7.1.Level l_55 t_7.1.Where t_7.1.Sum)))) : Option (spec_l1Cur × impl_Table)).bind fun (p_c_57, t_59) => some (p_c_57, t_59)) (((cond (t_13.1 == 2) ((goApp 8 t_7.1.Where ([0] : List Int)).bind fun l_42 => some (t_13.2, (impl_Table.mk t_7.1.Level t_7.1.Vars l_42 t_7.1.Sum))) (((cond (t_13.1 == 3) ((spec_l1Cur_among t_13.2 ([-2, 3, 6] : List Int)).bind fun t_34 => some (t_34.2, (impl_Table.mk t_7.1.Level t_7.1.Vars t_7.1.Where t_34.1))) (((cond (t_13.1 == 4) (((cond (decide (0 < (goLen t_7.1.Where))) ((spec_l1Cur_among t_13.2 ([-1, 255, 256] : List Int)).bind fun t_17 => ((goAt t_7.1.Where 0).bind fun e_19 => some (t_17.2, (impl_Table.mk t_7.1.Level t_7.1.Vars (goSet t_7.1.Where 0 t_17.1) t_7.1.Sum)))) (some (t_13.2, t_7.1))) : Option (spec_l1Cur × impl_Table)).bind fun (p_c_22, t_24) => some (p_c_22, t_24)) (some (t_13.2, t_7.1))) : Option (spec_l1Cur × impl_Table)).bind fun (p_c_27, t_29) => some (p_c_27, t_29))) : Option (spec_l1Cur × impl_Table)).bind fun (p_c_36, t_38) => some (p_c_36, t_38))) : Option (spec_l1Cur × impl_Table)).bind fun (p_c_44, t_46) => some (p_c_44, t_46))) : Option (spec_l1Cur × impl_Table)).bind fun (p_c_62, t_64) => some (p_c_62, t_64))) : Option (spec_l1Cur × impl_Table)).bind fun (p_c_71, t_73) => some (t_73, p_c_71))))

noncomputable def spec_sName_l1 (p_s : List UInt8) (i_1 : Int) : Option (Stp (Int) ((Unit) ⊕ (Bool))) :=
  (cond (decide (i_1 < (goLen p_s))) ((((goStrAt p_s i_1).bind fun t_2 => (cond (decide (t_2 < 97)) (some true) ((goStrAt p_s i_1).bind fun t_3 => some (decide (122 < t_3))))) : Option (Bool)).bind fun t_4 => (cond t_4 (some (.done (.inr false))) (some (.next (w64 (i_1 + 1)))))) (some (.done (.inl ()))))

noncomputable def spec_sName (p_s : List UInt8) : Option (Bool) :=
  ((loopC (spec_sName_l1 p_s) 0).bind fun | .inl () => ((spec_l1In (goLen p_s) 1 8).bind fun t_5 => some t_5) | .inr o => some o)

noncomputable def spec_sFind_l1 (p_s : List impl_Variable) (p_name : List UInt8) (t_2 : Int) : Option (Stp (Int) ((Unit) ⊕ (Int))) :=
  (cond (decide (t_2 < (goLen p_s))) ((goAt p_s t_2).bind fun e_3 => (cond (e_3.Name == p_name) (some (.done (.inr t_2))) (some (.next (w64 (t_2 + 1)))))) (some (.done (.inl ()))))

noncomputable def spec_sFind (p_s : List impl_Variable) (p_name : List UInt8) : Option (Int) :=
  ((loopC (spec_sFind_l1 p_s p_name) 0).bind fun | .inl () => some (-1) | .inr o => some o)

noncomputable def spec_sGood_l1 (p_s : List impl_Variable) (t_3 : Int) : Option (Stp (Int) ((Unit) ⊕ (Bool))) :=
  (cond (decide (t_3 < (goLen p_s))) ((goAt p_s t_3).bind fun e_4 => ((((spec_sName e_4.Name).bind fun t_7 => (cond (!t_7) (some true) ((spec_l1In e_4.Levels 2 8).bind fun t_8 => (cond (!t_8) (some true) ((goSub p_s 0 t_3).bind fun l_9 => ((spec_sFind l_9 e_4.Name).bind fun t_11 => some (decide (0 ≤ t_11)))))))) : Option (Bool)).bind fun t_12 => (cond t_12 (some (.done (.inr false))) (some (.next (w64 (t_3 + 1))))))) (some (.done (.inl ()))))

noncomputable def spec_sGood (p_s : List impl_Variable) : Option (Bool) :=
  ((spec_l1In (goLen p_s) 1 6).bind fun t_2 => (cond (!t_2) (some false) ((loopC (spec_sGood_l1 p_s) 0).bind fun | .inl () => some true | .inr o => some o)))

noncomputable def spec_l1Rising_l1 (p_l : List Int) (p_lo : Int) (p_hi : Int) (t_2 : Int) : Option (Stp (Int) ((Unit) ⊕ (Bool))) :=
  (cond (decide (t_2 < (goLen p_l))) ((goAt p_l t_2).bind fun e_3 => ((((spec_l1In e_3 p_lo p_hi).bind fun t_5 => (cond (!t_5) (some true) (cond (decide (0 < t_2)) ((goAt p_l (w64 (t_2 - 1))).bind fun e_6 => some (decide (e_3 ≤ e_6))) (some false)))) : Option (Bool)).bind fun t_8 => (cond t_8 (some (.done (.inr false))) (some (.next (w64 (t_2 + 1))))))) (some (.done (.inl ()))))

noncomputable def spec_l1Rising (p_l : List Int) (p_lo : Int) (p_hi : Int) : Option (Bool) :=
  ((loopC (spec_l1Rising_l1 p_l p_lo p_hi) 0).bind fun | .inl () => some true | .inr o => some o)

noncomputable def spec_uWhere_l1 (p_s : List impl_Variable) (p_where : List Int) (t_3 : Int) : Option (Stp (Int) ((Unit) ⊕ (Bool))) :=
  (cond (decide (t_3 < (goLen p_s))) ((goAt p_s t_3).bind fun e_4 => ((goAt p_where t_3).bind fun e_7 => ((goShl .i64 1 (IntKind.wrap .u64 e_4.Levels)).bind fun t_9 => ((spec_l1In e_7 0 (w64 (t_9 - 1))).bind fun t_10 => (cond (!t_10) (some (.done (.inr false))) (some (.next (w64 (t_3 + 1))))))))) (some (.done (.inl ()))))

noncomputable def spec_uWhere (p_s : List impl_Variable) (p_where : List Int) : Option (Bool) :=
  (cond ((goLen p_where) != (goLen p_s)) (some false) ((loopC (spec_uWhere_l1 p_s p_where) 0).bind fun | .inl () => some true | .inr o => some o))

noncomputable def spec_sPart_l1 (p_s : List impl_Variable) (p_vars : List Int) : (List impl_Variable) × Int → Option (Stp ((List impl_Variable) × Int) ((List impl_Variable)))
  | (out_3, t_5) => (cond (decide (t_5 < (goLen p_vars))) ((goAt p_vars t_5).bind fun e_6 => ((goAt p_s e_6).bind fun e_8 => ((goApp 24 out_3 ([e_8] : List impl_Variable)).bind fun l_11 => some (.next (l_11, (w64 (t_5 + 1))))))) (some (.done out_3)))

noncomputable def spec_sPart (p_s : List impl_Variable) (p_vars : List Int) : Option ((List impl_Variable)) :=
  ((loopC (spec_sPart_l1 p_s p_vars) (([] : List impl_Variable), 0)).bind fun out_13 => some out_13)

noncomputable def spec_sCount_l1 (p_s : List impl_Variable) : Int × Int → Option (Stp (Int × Int) (Int))
  | (n_2, t_3) => (cond (decide (t_3 < (goLen p_s))) ((goAt p_s t_3).bind fun e_4 => some (.next ((w64 (n_2 * e_4.Levels)), (w64 (t_3 + 1))))) (some (.done n_2)))

noncomputable def spec_sCount (p_s : List impl_Variable) : Option (Int) :=
  ((loopC (spec_sCount_l1 p_s) (1, 0)).bind fun n_7 => some n_7)

noncomputable def spec_uCount (p_g : impl_Geo) (p_s : List impl_Variable) (p_t : impl_Table) : Option (Int) :=
  ((spec_gLevel p_g p_t.Level).bind fun t_16 => ((spec_sPart p_s p_t.Vars).bind fun t_19 => ((spec_sCount t_19).bind fun t_22 => some (w64 ((goLen t_16) * t_22)))))

noncomputable def spec_uGood (p_g : impl_Geo) (p_s : List impl_Variable) (p_t : impl_Table) : Option (Bool) :=
  ((((spec_gGood p_g).bind fun t_7 => (cond (!t_7) (some true) ((spec_sGood p_s).bind fun t_8 => (cond (!t_8) (some true) ((spec_gLevel p_g p_t.Level).bind fun t_9 => (cond ((goLen t_9) == 0) (some true) ((spec_l1Rising p_t.Vars 0 (w64 ((goLen p_s) - 1))).bind fun t_12 => (cond (!t_12) (some true) ((spec_uWhere p_s p_t.Where).bind fun t_13 => (cond (!t_13) (some true) ((spec_l1In p_t.Sum (-1) (w64 ((goLen p_s) - 1))).bind fun t_14 => some (!t_14)))))))))))) : Option (Bool)).bind fun t_15 => (cond t_15 (some false) ((spec_uCount p_g p_s p_t).bind fun t_16 => some (decide (t_16 ≤ 600)))))

noncomputable def spec_sFits_l1 (p_s : List impl_Variable) (p_values : List Int) (t_3 : Int) : Option (Stp (Int) ((Unit) ⊕ (Bool))) :=
  (cond (decide (t_3 < (goLen p_s))) ((goAt p_s t_3).bind fun e_4 => ((goAt p_values t_3).bind fun e_7 => ((spec_l1In e_7 0 (w64 (e_4.Levels - 1))).bind fun t_9 => (cond (!t_9) (some (.done (.inr false))) (some (.next (w64 (t_3 + 1)))))))) (some (.done (.inl ()))))

noncomputable def spec_sFits (p_s : List impl_Variable) (p_values : List Int) : Option (Bool) :=
  (cond ((goLen p_values) != (goLen p_s)) (some false) ((loopC (spec_sFits_l1 p_s p_values) 0).bind fun | .inl () => some true | .inr o => some o))

noncomputable def spec_rGood (p_s : List impl_Variable) (p_r : impl_Record) : Option (Bool) :=
  ((((spec_l1In p_r.Area 0 29).bind fun t_4 => (cond t_4 ((spec_l1In p_r.House 0 999).bind fun t_5 => (cond t_5 ((spec_sFits p_s p_r.Values).bind fun t_6 => some t_6) (some false))) (some false))) : Option (Bool)).bind fun t_7 => some t_7)

noncomputable def spec_dGood_l1 (p_s : List impl_Variable) (p_l : List impl_Record) (t_3 : Int) : Option (Stp (Int) ((Unit) ⊕ (Bool))) :=
  (cond (decide (t_3 < (goLen p_l))) ((goAt p_l t_3).bind fun e_4 => ((spec_rGood p_s e_4).bind fun t_8 => (cond (!t_8) (some (.done (.inr false))) (some (.next (w64 (t_3 + 1))))))) (some (.done (.inl ()))))

noncomputable def spec_dGood (p_s : List impl_Variable) (p_l : List impl_Record) : Option (Bool) :=
  ((loopC (spec_dGood_l1 p_s p_l) 0).bind fun | .inl () => some (decide ((goLen p_l) ≤ 40)) | .inr o => some o)

noncomputable def spec_dInput (p_s : List impl_Variable) (p_l : List impl_Record) : Option (Bool) :=
  ((((spec_sGood p_s).bind fun t_3 => (cond t_3 ((spec_dGood p_s p_l).bind fun t_4 => some t_4) (some false))) : Option (Bool)).bind fun t_5 => some t_5)

noncomputable def spec_l1Has_l1 (p_l : List Int) (p_n : Int) (t_2 : Int) : Option (Stp (Int) ((Unit) ⊕ (Bool))) :=
  (cond (decide (t_2 < (goLen p_l))) ((goAt p_l t_2).bind fun e_3 => (cond (e_3 == p_n) (some (.done (.inr true))) (some (.next (w64 (t_2 + 1)))))) (some (.done (.inl ()))))

noncomputable def spec_l1Has (p_l : List Int) (p_n : Int) : Option (Bool) :=
  ((loopC (spec_l1Has_l1 p_l p_n) 0).bind fun | .inl () => some false | .inr o => some o)

noncomputable def spec_uSurvey_l1 (p_l : List impl_Record) (t_8 : List Int) (t_11 : Int) : Option (Stp (Int) ((Unit) ⊕ (Bool))) :=
  (cond (decide (t_11 < (goLen p_l))) ((goAt p_l t_11).bind fun e_12 => ((spec_l1Has t_8 e_12.Area).bind fun t_16 => (cond (!t_16) (some (.done (.inr false))) (some (.next (w64 (t_11 + 1))))))) (some (.done (.inl ()))))

noncomputable def spec_uSurvey (p_g : impl_Geo) (p_s : List impl_Variable) (p_l : List impl_Record) : Option (Bool) :=
  ((((spec_gGood p_g).bind fun t_5 => (cond (!t_5) (some true) ((spec_dInput p_s p_l).bind fun t_6 => some (!t_6)))) : Option (Bool)).bind fun t_7 => (cond t_7 (some false) ((spec_gLeaves p_g).bind fun t_8 => ((loopC (spec_uSurvey_l1 p_l t_8) 0).bind fun | .inl () => some true | .inr o => some o))))

noncomputable def spec_gUp_l1 (p_g : impl_Geo) (p_level : Int) : Int × Int → Option (Stp (Int × Int) (Int × Int))
  | (i_4, d_5) => (cond (decide (p_level < d_5)) ((goAt p_g.Parents i_4).bind fun e_6 => some (.next (e_6, (w64 (d_5 - 1))))) (some (.done (i_4, d_5))))

noncomputable def spec_gUp (p_g : impl_Geo) (p_i : Int) (p_level : Int) : Option (Int) :=
  ((spec_gDepth p_g p_i).bind fun t_3 => (cond (decide (p_level < 0)) (some (-1)) ((loopC (spec_gUp_l1 p_g p_level) (p_i, t_3)).bind fun (i_8, d_9) => (cond (decide (d_9 < p_level)) (some (-1)) (some i_8)))))

noncomputable def spec_uMeets_l1 (p_t : impl_Table) (p_values : List Int) (t_5 : Int) : Option (Stp (Int) ((Unit) ⊕ (Bool))) :=
  (cond (decide (t_5 < (goLen p_t.Where))) ((goAt p_t.Where t_5).bind fun e_6 => (((cond (e_6 != 0) ((goAt p_values t_5).bind fun e_8 => ((goShr .i64 e_6 (IntKind.wrap .u64 e_8)).bind fun t_10 => some ((goBits .and .i64 t_10 1) == 0))) (some false)) : Option (Bool)).bind fun t_11 => (cond t_11 (some (.done (.inr false))) (some (.next (w64 (t_5 + 1))))))) (some (.done (.inl ()))))

noncomputable def spec_uMeets (p_t : impl_Table) (p_values : List Int) : Option (Bool) :=
  ((loopC (spec_uMeets_l1 p_t p_values) 0).bind fun | .inl () => some true | .inr o => some o)

noncomputable def spec_l1Find_l1 (p_l : List Int) (p_n : Int) (t_2 : Int) : Option (Stp (Int) ((Unit) ⊕ (Int))) :=
  (cond (decide (t_2 < (goLen p_l))) ((goAt p_l t_2).bind fun e_3 => (cond (e_3 == p_n) (some (.done (.inr t_2))) (some (.next (w64 (t_2 + 1)))))) (some (.done (.inl ()))))

noncomputable def spec_l1Find (p_l : List Int) (p_n : Int) : Option (Int) :=
  ((loopC (spec_l1Find_l1 p_l p_n) 0).bind fun | .inl () => some (-1) | .inr o => some o)

noncomputable def spec_sPick_l1 (p_values : List Int) (p_vars : List Int) : (List Int) × Int → Option (Stp ((List Int) × Int) ((List Int)))
  | (out_3, t_5) => (cond (decide (t_5 < (goLen p_vars))) ((goAt p_vars t_5).bind fun e_6 => ((goAt p_values e_6).bind fun e_8 => ((goApp 8 out_3 ([e_8] : List Int)).bind fun l_11 => some (.next (l_11, (w64 (t_5 + 1))))))) (some (.done out_3)))

noncomputable def spec_sPick (p_values : List Int) (p_vars : List Int) : Option ((List Int)) :=
  ((loopC (spec_sPick_l1 p_values p_vars) (([] : List Int), 0)).bind fun out_13 => some out_13)

noncomputable def spec_sIndex_l1 (p_s : List impl_Variable) (p_values : List Int) : Int × Int → Option (Stp (Int × Int) (Int))
  | (n_3, t_4) => (cond (decide (t_4 < (goLen p_s))) ((goAt p_s t_4).bind fun e_5 => ((goAt p_values t_4).bind fun e_8 => some (.next ((w64 ((w64 (n_3 * e_5.Levels)) + e_8)), (w64 (t_4 + 1)))))) (some (.done n_3)))

noncomputable def spec_sIndex (p_s : List impl_Variable) (p_values : List Int) : Option (Int) :=
  ((loopC (spec_sIndex_l1 p_s p_values) (0, 0)).bind fun n_10 => some n_10)

noncomputable def spec_uCell (p_g : impl_Geo) (p_s : List impl_Variable) (p_t : impl_Table) (p_r : impl_Record) : Option (Int × Int) :=
  ((spec_gUp p_g p_r.Area p_t.Level).bind fun t_9 => (((cond (decide (t_9 < 0)) (some true) ((spec_uMeets p_t p_r.Values).bind fun t_10 => some (!t_10))) : Option (Bool)).bind fun t_11 => (cond t_11 (some (-1, 0)) ((spec_sPart p_s p_t.Vars).bind fun t_12 => ((spec_gLevel p_g p_t.Level).bind fun t_36 => ((spec_l1Find t_36 t_9).bind fun t_39 => ((spec_sCount t_12).bind fun t_41 => ((spec_sPick p_r.Values p_t.Vars).bind fun t_43 => ((spec_sIndex t_12 t_43).bind fun t_46 => (cond (decide (p_t.Sum < 0)) (some ((w64 ((w64 (t_39 * t_41)) + t_46)), 1)) ((goAt p_r.Values p_t.Sum).bind fun e_48 => some ((w64 ((w64 (t_39 * t_41)) + t_46)), e_48))))))))))))

noncomputable def spec_uTable_l1 (p_g : impl_Geo) (p_s : List impl_Variable) (p_t : impl_Table) (p_l : List impl_Record) : (List Int) × Int → Option (Stp ((List Int) × Int) ((List Int)))
  | (out_11, t_13) => (cond (decide (t_13 < (goLen p_l))) ((goAt p_l t_13).bind fun e_14 => ((spec_uCell p_g p_s p_t e_14).bind fun t_18 => (((cond (decide (0 ≤ t_18.1)) ((goAt out_11 t_18.1).bind fun e_19 => ((goAt out_11 t_18.1).bind fun e_21 => some (goSet out_11 t_18.1 (w64 (e_19 + t_18.2))))) (some out_11)) : Option ((List Int))).bind fun out_24 => some (.next (out_24, (w64 (t_13 + 1))))))) (some (.done out_11)))

noncomputable def spec_uTable (p_g : impl_Geo) (p_s : List impl_Variable) (p_t : impl_Table) (p_l : List impl_Record) : Option ((List Int)) :=
  ((spec_uCount p_g p_s p_t).bind fun t_8 => ((goMake 8 t_8 (0 : Int)).bind fun l_9 => ((loopC (spec_uTable_l1 p_g p_s p_t p_l) (l_9, 0)).bind fun out_26 => some out_26)))

noncomputable def spec_DrawReportText (p_code : List (K .u8)) : Option (impl_Geo × (List impl_Variable) × impl_Table × (List Int)) :=
  ((spec_l1Cur_anySurvey (spec_l1Cur.mk p_code 0 (⟨0⟩ : K .u64))).bind fun t_6 => ((spec_l1Cur_anyTable t_6.2.2.2 t_6.1 t_6.2.1).bind fun t_13 => ((((spec_uGood t_6.1 t_6.2.1 t_13.1).bind fun t_18 => (cond (!t_18) (some true) ((spec_uSurvey t_6.1 t_6.2.1 t_6.2.2.1).bind fun t_20 => some (!t_20)))) : Option (Bool)).bind fun t_22 => (cond t_22 ((some ([1] : List Int) : Option ((List Int))).bind fun t_49 => some (t_6.1, t_6.2.1, t_13.1, t_49)) ((spec_uTable t_6.1 t_6.2.1 t_13.1 t_6.2.2.1).bind fun t_23 => ((spec_l1Cur_pick t_13.2 12).bind fun t_28 => (((cond (t_28.1 == 0) ((goApp 8 t_23 ([0] : List Int)).bind fun l_43 => some l_43) (((cond (t_28.1 == 1) ((spec_l1Cur_pick t_28.2 (goLen t_23)).bind fun t_31 => ((spec_l1Cur_among t_31.2 ([-5, 1000000, 1000001, -1000000] : List Int)).bind fun t_35 => ((goAt t_23 t_31.1).bind fun e_37 => some (goSet t_23 t_31.1 t_35.1)))) (some t_23)) : Option ((List Int))).bind fun cells_40 => some cells_40)) : Option ((List Int))).bind fun cells_45 => some (t_6.1, t_6.2.1, t_13.1, cells_45))))))))

noncomputable def impl_IsGeo_l1 (p_g : impl_Geo) (i_6 : Int) : Option (Stp (Int) ((Unit) ⊕ (Bool))) :=
  (cond (decide (i_6 < (goLen p_g.Parents))) ((((goAt p_g.Parents i_6).bind fun e_7 => (cond (decide (e_7 < 0)) (some true) ((goAt p_g.Parents i_6).bind fun e_9 => some (decide (i_6 ≤ e_9))))) : Option (Bool)).bind fun t_11 => (cond t_11 (some (.done (.inr false))) (some (.next (w64 (i_6 + 1)))))) (some (.done (.inl ()))))

noncomputable def impl_IsGeo (p_g : impl_Geo) : Option (Bool) :=
  (((cond (decide ((goLen p_g.Parents) < 1)) (some true) (cond (decide (30 < (goLen p_g.Parents))) (some true) ((goAt p_g.Parents 0).bind fun e_3 => some (e_3 != (-1))))) : Option (Bool)).bind fun t_5 => (cond t_5 (some false) ((loopC (impl_IsGeo_l1 p_g) 1).bind fun | .inl () => some true | .inr o => some o)))

noncomputable def impl_isWord_l1 (p_s : List UInt8) (t_2 : Int) : Option (Stp (Int) ((Unit) ⊕ (Bool))) :=
  (cond (decide (t_2 < (goLen p_s))) ((((goStrAt p_s t_2).bind fun t_3 => (cond (decide (t_3 < 97)) (some true) ((goStrAt p_s t_2).bind fun t_4 => some (decide (122 < t_4))))) : Option (Bool)).bind fun t_5 => (cond t_5 (some (.done (.inr false))) (some (.next (w64 (t_2 + 1)))))) (some (.done (.inl ()))))

noncomputable def impl_isWord (p_s : List UInt8) : Option (Bool) :=
  (((cond (decide ((goLen p_s) < 1)) (some true) (some (decide (8 < (goLen p_s))))) : Option (Bool)).bind fun t_1 => (cond t_1 (some false) ((loopC (impl_isWord_l1 p_s) 0).bind fun | .inl () => some true | .inr o => some o)))

noncomputable def impl_IsSchema_l2 (e_4 : impl_Variable) (l_9 : List impl_Variable) (t_11 : Int) : Option (Stp (Int) ((Unit) ⊕ (Stp (Int) ((Unit) ⊕ (Bool))))) :=
  (cond (decide (t_11 < (goLen l_9))) ((goAt l_9 t_11).bind fun e_12 => (cond (e_12.Name == e_4.Name) (some (.done (.inr (.done (.inr false))))) (some (.next (w64 (t_11 + 1)))))) (some (.done (.inl ()))))

noncomputable def impl_IsSchema_l1 (p_s : List impl_Variable) (t_3 : Int) : Option (Stp (Int) ((Unit) ⊕ (Bool))) :=
  (cond (decide (t_3 < (goLen p_s))) ((goAt p_s t_3).bind fun e_4 => ((((impl_isWord e_4.Name).bind fun t_7 => (cond (!t_7) (some true) (cond (decide (e_4.Levels < 2)) (some true) (some (decide (8 < e_4.Levels)))))) : Option (Bool)).bind fun t_8 => (cond t_8 (some (.done (.inr false))) ((goSub p_s 0 t_3).bind fun l_9 => ((loopC (impl_IsSchema_l2 e_4 l_9) 0).bind fun | .inl () => some (.next (w64 (t_3 + 1))) | .inr o => some o))))) (some (.done (.inl ()))))

noncomputable def impl_IsSchema (p_s : List impl_Variable) : Option (Bool) :=
  (((cond (decide ((goLen p_s) < 1)) (some true) (some (decide (6 < (goLen p_s))))) : Option (Bool)).bind fun t_2 => (cond t_2 (some false) ((loopC (impl_IsSchema_l1 p_s) 0).bind fun | .inl () => some true | .inr o => some o)))

noncomputable def impl_areVars_l1 (p_s : List impl_Variable) (p_vars : List Int) : Int × Int → Option (Stp (Int × Int) ((Unit) ⊕ (Bool)))
  | (last_3, t_4) => (cond (decide (t_4 < (goLen p_vars))) ((goAt p_vars t_4).bind fun e_5 => (((cond (decide (e_5 ≤ last_3)) (some true) (some (decide ((goLen p_s) ≤ e_5)))) : Option (Bool)).bind fun t_7 => (cond t_7 (some (.done (.inr false))) (some (.next (e_5, (w64 (t_4 + 1)))))))) (some (.done (.inl ()))))

noncomputable def impl_areVars (p_s : List impl_Variable) (p_vars : List Int) : Option (Bool) :=
  ((loopC (impl_areVars_l1 p_s p_vars) (-1, 0)).bind fun | .inl () => some true | .inr o => some o)

noncomputable def impl_fullSet (p_v : impl_Variable) : Option (Int) :=
  ((goShl .i64 1 p_v.Levels).bind fun t_2 => some (w64 (t_2 - 1)))

noncomputable def impl_isWhere_l1 (p_s : List impl_Variable) (p_where : List Int) (t_3 : Int) : Option (Stp (Int) ((Unit) ⊕ (Bool))) :=
  (cond (decide (t_3 < (goLen p_where))) ((goAt p_where t_3).bind fun e_4 => (((cond (decide (e_4 < 0)) (some true) ((goAt p_s t_3).bind fun e_6 => ((impl_fullSet e_6).bind fun t_8 => some (decide (t_8 < e_4))))) : Option (Bool)).bind fun t_9 => (cond t_9 (some (.done (.inr false))) (some (.next (w64 (t_3 + 1))))))) (some (.done (.inl ()))))

noncomputable def impl_isWhere (p_s : List impl_Variable) (p_where : List Int) : Option (Bool) :=
  (cond ((goLen p_where) != (goLen p_s)) (some false) ((loopC (impl_isWhere_l1 p_s p_where) 0).bind fun | .inl () => some true | .inr o => some o))

noncomputable def impl_depthOf_l1 (p_g : impl_Geo) : Int × Int → Option (Stp (Int × Int) (Int))
  | (i_3, d_4) => (cond (decide (0 < i_3)) ((goAt p_g.Parents i_3).bind fun e_5 => some (.next (e_5, (w64 (d_4 + 1))))) (some (.done d_4)))

noncomputable def impl_depthOf (p_g : impl_Geo) (p_i : Int) : Option (Int) :=
  ((loopC (impl_depthOf_l1 p_g) (p_i, 0)).bind fun d_7 => some d_7)

noncomputable def impl_areasAt_l1 (p_g : impl_Geo) (p_level : Int) : (List Int) × Int → Option (Stp ((List Int) × Int) ((List Int)))
  | (list_3, t_5) => (cond (decide (t_5 < (goLen p_g.Parents))) ((impl_depthOf p_g t_5).bind fun t_6 => (((cond (t_6 == p_level) ((goApp 8 list_3 ([t_5] : List Int)).bind fun l_8 => some l_8) (some list_3)) : Option ((List Int))).bind fun list_10 => some (.next (list_10, (w64 (t_5 + 1)))))) (some (.done list_3)))

noncomputable def impl_areasAt (p_g : impl_Geo) (p_level : Int) : Option ((List Int)) :=
  ((loopC (impl_areasAt_l1 p_g p_level) (([] : List Int), 0)).bind fun list_12 => some list_12)

noncomputable def impl_crossed_l1 (p_s : List impl_Variable) (p_t : impl_Table) : (List impl_Variable) × Int → Option (Stp ((List impl_Variable) × Int) ((List impl_Variable)))
  | (out_7, t_9) => (cond (decide (t_9 < (goLen p_t.Vars))) ((goAt p_t.Vars t_9).bind fun e_10 => ((goAt p_s e_10).bind fun e_12 => ((goAt out_7 t_9).bind fun e_14 => some (.next (goSet out_7 t_9 e_12, (w64 (t_9 + 1))))))) (some (.done out_7)))

noncomputable def impl_crossed (p_s : List impl_Variable) (p_t : impl_Table) : Option ((List impl_Variable)) :=
  ((goMake 24 (goLen p_t.Vars) ((impl_Variable.mk ([] : List UInt8) 0) : impl_Variable)).bind fun l_5 => ((loopC (impl_crossed_l1 p_s p_t) (l_5, 0)).bind fun out_17 => some out_17))

noncomputable def impl_combinations_l1 (p_s : List impl_Variable) : Int × Int → Option (Stp (Int × Int) (Int))
  | (n_2, t_3) => (cond (decide (t_3 < (goLen p_s))) ((goAt p_s t_3).bind fun e_4 => some (.next ((w64 (n_2 * e_4.Levels)), (w64 (t_3 + 1))))) (some (.done n_2)))

noncomputable def impl_combinations (p_s : List impl_Variable) : Option (Int) :=
  ((loopC (impl_combinations_l1 p_s) (1, 0)).bind fun n_7 => some n_7)

noncomputable def impl_cellCount (p_g : impl_Geo) (p_s : List impl_Variable) (p_t : impl_Table) : Option (Int) :=
  ((impl_areasAt p_g p_t.Level).bind fun t_13 => ((impl_crossed p_s p_t).bind fun t_16 => ((impl_combinations t_16).bind fun t_19 => some (w64 ((goLen t_13) * t_19)))))

noncomputable def impl_isTable (p_g : impl_Geo) (p_s : List impl_Variable) (p_t : impl_Table) : Option (Bool) :=
  ((((impl_areVars p_s p_t.Vars).bind fun t_7 => (cond (!t_7) (some true) ((impl_isWhere p_s p_t.Where).bind fun t_8 => (cond (!t_8) (some true) (cond (decide (p_t.Sum < (-1))) (some true) (some (decide ((goLen p_s) ≤ p_t.Sum)))))))) : Option (Bool)).bind fun t_9 => (cond t_9 (some false) ((impl_cellCount p_g p_s p_t).bind fun t_10 => (((cond (decide (0 < t_10)) (some (decide (t_10 ≤ 600))) (some false)) : Option (Bool)).bind fun t_11 => some t_11))))

noncomputable def impl_areTabled (p_g : impl_Geo) (p_s : List impl_Variable) (p_t : impl_Table) : Option (Bool) :=
  ((((impl_IsGeo p_g).bind fun t_7 => (cond t_7 ((impl_IsSchema p_s).bind fun t_8 => (cond t_8 ((impl_isTable p_g p_s p_t).bind fun t_9 => some t_9) (some false))) (some false))) : Option (Bool)).bind fun t_10 => some t_10)

noncomputable def impl_areSmallIntegers_l1 (p_list : List Int) (t_2 : Int) : Option (Stp (Int) ((Unit) ⊕ (Bool))) :=
  (cond (decide (t_2 < (goLen p_list))) ((goAt p_list t_2).bind fun e_3 => (((cond (decide (e_3 < (-1000000))) (some true) (some (decide (1000000 < e_3)))) : Option (Bool)).bind fun t_5 => (cond t_5 (some (.done (.inr false))) (some (.next (w64 (t_2 + 1))))))) (some (.done (.inl ()))))

noncomputable def impl_areSmallIntegers (p_list : List Int) (p_n : Int) : Option (Bool) :=
  (cond ((goLen p_list) != p_n) (some false) ((loopC (impl_areSmallIntegers_l1 p_list) 0).bind fun | .inl () => some true | .inr o => some o))

noncomputable def impl_valuesAt_l1 (p_s : List impl_Variable) : Int × (List Int) × Int → Option (Stp (Int × (List Int) × Int) ((List Int)))
  | (i_4, values_5, k_7) => (cond (decide (0 ≤ k_7)) ((goAt p_s k_7).bind fun e_8 => ((goRem i_4 e_8.Levels).bind fun t_10 => ((goAt values_5 k_7).bind fun e_11 => ((goAt p_s k_7).bind fun e_14 => ((goQuo .i64 i_4 e_14.Levels).bind fun t_16 => some (.next (t_16, goSet values_5 k_7 t_10, (w64 (k_7 - 1))))))))) (some (.done values_5)))

noncomputable def impl_valuesAt (p_s : List impl_Variable) (p_i : Int) : Option ((List Int)) :=
  ((goMake 8 (goLen p_s) (0 : Int)).bind fun l_2 => ((loopC (impl_valuesAt_l1 p_s) (p_i, l_2, (w64 ((goLen p_s) - 1)))).bind fun values_17 => some values_17))

noncomputable def impl_cellAt (p_g : impl_Geo) (p_s : List impl_Variable) (p_t : impl_Table) (p_i : Int) : Option (Int × (List Int)) :=
  ((impl_crossed p_s p_t).bind fun t_7 => ((impl_combinations t_7).bind fun t_10 => ((goQuo .i64 p_i t_10).bind fun t_21 => ((goRem p_i t_10).bind fun t_34 => ((impl_areasAt p_g p_t.Level).bind fun t_35 => ((goAt t_35 t_21).bind fun e_38 => ((impl_valuesAt t_7 t_34).bind fun t_40 => some (e_38, t_40))))))))

noncomputable def strconv_Itoa (p_x : Int) : Option (List UInt8) :=
  cond (decide (-9223372036854775808 ≤ p_x ∧ p_x ≤ 9223372036854775807)) (some (Go.Lib.itoa p_x)) none

noncomputable def impl_cellText_l1 (p_s : List impl_Variable) (p_t : impl_Table) (t_7 : Int × (List Int)) : (List UInt8) × Int → Option (Stp ((List UInt8) × Int) ((List UInt8)))
  | (text_12, t_13) => (cond (decide (t_13 < (goLen p_t.Vars))) ((goAt p_t.Vars t_13).bind fun e_14 => ((goAt p_s e_14).bind fun e_16 => ((goCat ([32] : List UInt8) e_16.Name).bind fun t_18 => ((goCat t_18 ([61] : List UInt8)).bind fun t_19 => ((goAt t_7.2 t_13).bind fun e_20 => ((strconv_Itoa e_20).bind fun t_22 => ((goCat t_19 t_22).bind fun t_23 => ((goCat text_12 t_23).bind fun t_24 => some (.next (t_24, (w64 (t_13 + 1)))))))))))) (some (.done text_12)))

noncomputable def impl_cellText (p_g : impl_Geo) (p_s : List impl_Variable) (p_t : impl_Table) (p_i : Int) : Option ((List UInt8)) :=
  ((impl_cellAt p_g p_s p_t p_i).bind fun t_7 => ((strconv_Itoa t_7.1).bind fun t_10 => ((goCat ([97, 114, 101, 97, 32] : List UInt8) t_10).bind fun t_11 => ((loopC (impl_cellText_l1 p_s p_t t_7) (t_11, 0)).bind fun text_25 => some text_25))))

noncomputable def impl_ReportText_l1 (p_g : impl_Geo) (p_s : List impl_Variable) (p_t : impl_Table) (p_cells : List Int) : (List UInt8) × Int → Option (Stp ((List UInt8) × Int) ((List UInt8)))
  | (b_12, t_13) => (cond (decide (t_13 < (goLen p_cells))) ((goAt p_cells t_13).bind fun e_14 => ((impl_cellText p_g p_s p_t t_13).bind fun t_16 => ((goCat t_16 ([58, 32] : List UInt8)).bind fun t_17 => ((strconv_Itoa e_14).bind fun t_18 => ((goCat t_17 t_18).bind fun t_19 => ((goCat t_19 ([10] : List UInt8)).bind fun t_20 => ((goBld b_12 t_20).bind fun t_21 => some (.next (t_21, (w64 (t_13 + 1))))))))))) (some (.done b_12)))

noncomputable def impl_ReportText (p_g : impl_Geo) (p_s : List impl_Variable) (p_t : impl_Table) (p_cells : List Int) : Option ((List UInt8) × Bool) :=
  ((((impl_areTabled p_g p_s p_t).bind fun t_8 => (cond (!t_8) (some true) ((impl_cellCount p_g p_s p_t).bind fun t_9 => ((impl_areSmallIntegers p_cells t_9).bind fun t_10 => some (!t_10))))) : Option (Bool)).bind fun t_11 => (cond t_11 (some (([] : List UInt8), false)) ((loopC (impl_ReportText_l1 p_g p_s p_t p_cells) (([] : List UInt8), 0)).bind fun b_22 => some (b_22, true))))

noncomputable def spec_l1All_l1 (p_l : List Int) (p_lo : Int) (p_hi : Int) (t_2 : Int) : Option (Stp (Int) ((Unit) ⊕ (Bool))) :=
  (cond (decide (t_2 < (goLen p_l))) ((goAt p_l t_2).bind fun e_3 => ((spec_l1In e_3 p_lo p_hi).bind fun t_5 => (cond (!t_5) (some (.done (.inr false))) (some (.next (w64 (t_2 + 1))))))) (some (.done (.inl ()))))

noncomputable def spec_l1All (p_l : List Int) (p_lo : Int) (p_hi : Int) : Option (Bool) :=
  ((loopC (spec_l1All_l1 p_l p_lo p_hi) 0).bind fun | .inl () => some true | .inr o => some o)

noncomputable def spec_nCells (p_g : impl_Geo) (p_s : List impl_Variable) (p_t : impl_Table) (p_cells : List Int) : Option (Bool) :=
  ((((spec_uGood p_g p_s p_t).bind fun t_8 => (cond t_8 ((spec_uCount p_g p_s p_t).bind fun t_9 => (cond ((goLen p_cells) == t_9) ((spec_l1All p_cells (-1000000) 1000000).bind fun t_10 => some t_10) (some false))) (some false))) : Option (Bool)).bind fun t_11 => some t_11)

noncomputable def spec_sAt_l1 (p_s : List impl_Variable) : Int × (List Int) × Int → Option (Stp (Int × (List Int) × Int) ((List Int)))
  | (i_4, out_5, k_7) => (cond (decide (0 ≤ k_7)) ((goAt p_s k_7).bind fun e_8 => ((goRem i_4 e_8.Levels).bind fun t_10 => ((goAt out_5 k_7).bind fun e_11 => ((goAt p_s k_7).bind fun e_14 => ((goQuo .i64 i_4 e_14.Levels).bind fun t_16 => some (.next (t_16, goSet out_5 k_7 t_10, (w64 (k_7 - 1))))))))) (some (.done out_5)))

noncomputable def spec_sAt (p_s : List impl_Variable) (p_i : Int) : Option ((List Int)) :=
  ((goMake 8 (goLen p_s) (0 : Int)).bind fun l_2 => ((loopC (spec_sAt_l1 p_s) (p_i, l_2, (w64 ((goLen p_s) - 1)))).bind fun out_17 => some out_17))

noncomputable def spec_CellAt (p_g : impl_Geo) (p_s : List impl_Variable) (p_t : impl_Table) (p_i : Int) : Option (Int × (List Int) × Bool) :=
  ((((spec_uGood p_g p_s p_t).bind fun t_7 => (cond (!t_7) (some true) ((spec_uCount p_g p_s p_t).bind fun t_8 => ((spec_l1In p_i 0 (w64 (t_8 - 1))).bind fun t_9 => some (!t_9))))) : Option (Bool)).bind fun t_10 => (cond t_10 (some (0, ([] : List Int), false)) ((spec_sPart p_s p_t.Vars).bind fun t_11 => ((spec_sCount t_11).bind fun t_14 => ((goQuo .i64 p_i t_14).bind fun t_25 => ((goRem p_i t_14).bind fun t_38 => ((spec_gLevel p_g p_t.Level).bind fun t_39 => ((goAt t_39 t_25).bind fun e_42 => ((spec_sAt t_11 t_38).bind fun t_44 => some (e_42, t_44, true))))))))))

noncomputable def spec_l1Num_B (rcf : Int → Option ((List UInt8))) (p_n : Int) : Option ((List UInt8)) :=
  (cond (decide (p_n < 10)) (some (goBytes ([(⟨(IntKind.wrap .u8 (w64 (48 + p_n)))⟩ : K .u8)] : List (K .u8)))) ((((goQuo .i64 p_n 10).bind fun t_1 => ((goRem p_n 10).bind fun t_4 => ((rcf t_1).bind fun t_9 => ((goCat t_9 (goBytes ([(⟨(IntKind.wrap .u8 (w64 (48 + t_4)))⟩ : K .u8)] : List (K .u8)))).bind fun t_11 => some t_11)))) : Option ((List UInt8))).bind fun t_12 => some t_12))

noncomputable def spec_l1Num_k : Nat → Int → Option ((List UInt8))
  | 0 => fun _ => none
  | k + 1 => spec_l1Num_B (spec_l1Num_k k)

noncomputable def spec_l1Num (p_n : Int) : Option ((List UInt8)) := recO (fun k => spec_l1Num_k k p_n)

noncomputable def spec_nCell_l1 (p_s : List impl_Variable) (p_t : impl_Table) (t_7 : Int × (List Int) × Bool) : (List UInt8) × Int → Option (Stp ((List UInt8) × Int) ((List UInt8)))
  | (out_12, t_13) => (cond (decide (t_13 < (goLen p_t.Vars))) ((goAt p_t.Vars t_13).bind fun e_14 => ((goAt p_s e_14).bind fun e_16 => ((goCat ([32] : List UInt8) e_16.Name).bind fun t_18 => ((goCat t_18 ([61] : List UInt8)).bind fun t_19 => ((goAt t_7.2.1 t_13).bind fun e_20 => ((spec_l1Num e_20).bind fun t_22 => ((goCat t_19 t_22).bind fun t_23 => ((goCat out_12 t_23).bind fun t_24 => some (.next (t_24, (w64 (t_13 + 1)))))))))))) (some (.done out_12)))

noncomputable def spec_nCell (p_g : impl_Geo) (p_s : List impl_Variable) (p_t : impl_Table) (p_i : Int) : Option ((List UInt8)) :=
  ((spec_CellAt p_g p_s p_t p_i).bind fun t_7 => ((spec_l1Num t_7.1).bind fun t_10 => ((goCat ([97, 114, 101, 97, 32] : List UInt8) t_10).bind fun t_11 => ((loopC (spec_nCell_l1 p_s p_t t_7) (t_11, 0)).bind fun out_25 => some out_25))))

noncomputable def spec_nSigned (p_n : Int) : Option ((List UInt8)) :=
  (cond (decide (p_n < 0)) ((spec_l1Num (w64 (-p_n))).bind fun t_2 => ((goCat ([45] : List UInt8) t_2).bind fun t_3 => some t_3)) ((spec_l1Num p_n).bind fun t_1 => some t_1))

noncomputable def spec_nReport_l1 (p_g : impl_Geo) (p_s : List impl_Variable) (p_t : impl_Table) (p_cells : List Int) : (List UInt8) × Int → Option (Stp ((List UInt8) × Int) ((List UInt8)))
  | (out_8, t_9) => (cond (decide (t_9 < (goLen p_cells))) ((goAt p_cells t_9).bind fun e_10 => ((spec_nCell p_g p_s p_t t_9).bind fun t_12 => ((goCat t_12 ([58, 32] : List UInt8)).bind fun t_13 => ((spec_nSigned e_10).bind fun t_14 => ((goCat t_13 t_14).bind fun t_15 => ((goCat t_15 ([10] : List UInt8)).bind fun t_16 => ((goCat out_8 t_16).bind fun t_17 => some (.next (t_17, (w64 (t_9 + 1))))))))))) (some (.done out_8)))

noncomputable def spec_nReport (p_g : impl_Geo) (p_s : List impl_Variable) (p_t : impl_Table) (p_cells : List Int) : Option ((List UInt8)) :=
  ((loopC (spec_nReport_l1 p_g p_s p_t p_cells) (([] : List UInt8), 0)).bind fun out_18 => some out_18)

noncomputable def spec_ReportText (p_g : impl_Geo) (p_s : List impl_Variable) (p_t : impl_Table) (p_cells : List Int) : Option ((List UInt8) × Bool) :=
  ((spec_nCells p_g p_s p_t p_cells).bind fun t_8 => (cond (!t_8) (some (([] : List UInt8), false)) ((spec_nReport p_g p_s p_t p_cells).bind fun t_9 => some (t_9, true))))

noncomputable def internal_stringslite_HasPrefix (p_s : List UInt8) (p_prefix : List UInt8) : Option (Bool) :=
  (((cond (decide ((goLen p_prefix) ≤ (goLen p_s))) ((goSub p_s 0 (goLen p_prefix)).bind fun t_1 => some (t_1 == p_prefix)) (some false)) : Option (Bool)).bind fun t_2 => some t_2)

noncomputable def internal_stringslite_CutPrefix (p_s : List UInt8) (p_prefix : List UInt8) : Option ((List UInt8) × Bool) :=
  ((internal_stringslite_HasPrefix p_s p_prefix).bind fun t_1 => (cond (!t_1) (some (p_s, false)) ((goSub p_s (goLen p_prefix) (goLen p_s)).bind fun t_2 => some (t_2, true))))

noncomputable def strings_CutPrefix (p_s : List UInt8) (p_prefix : List UInt8) : Option ((List UInt8) × Bool) :=
  ((internal_stringslite_CutPrefix p_s p_prefix).bind fun t_1 => some (t_1.1, t_1.2))

noncomputable def impl_readNatural_l1 (p_s : List UInt8) (p_most : Int) : Int × Int → Option (Stp (Int × Int) ((Int × Int) ⊕ (Int × (List UInt8) × Bool)))
  | (n_1, i_2) => (((cond (decide (i_2 < (goLen p_s))) ((goStrAt p_s i_2).bind fun t_3 => (cond (decide (48 ≤ t_3)) ((goStrAt p_s i_2).bind fun t_4 => some (decide (t_4 ≤ 57))) (some false))) (some false)) : Option (Bool)).bind fun t_5 => (cond t_5 (((cond (decide (0 < i_2)) (some (n_1 == 0)) (some false)) : Option (Bool)).bind fun t_6 => (cond t_6 (some (.done (.inr (0, ([] : List UInt8), false)))) ((goStrAt p_s i_2).bind fun t_7 => (cond (decide (p_most < (w64 ((w64 (n_1 * 10)) + (w64 (IntKind.wrap .u8 (t_7 - 48))))))) (some (.done (.inr (0, ([] : List UInt8), false)))) (some (.next ((w64 ((w64 (n_1 * 10)) + (w64 (IntKind.wrap .u8 (t_7 - 48))))), (w64 (i_2 + 1))))))))) (some (.done (.inl (n_1, i_2))))))

noncomputable def impl_readNatural (p_s : List UInt8) (p_most : Int) : Option (Int × (List UInt8) × Bool) :=
  ((loopC (impl_readNatural_l1 p_s p_most) (0, 0)).bind fun | .inl (n_8, i_9) => (cond (i_9 == 0) (some (0, ([] : List UInt8), false)) ((goSub p_s i_9 (goLen p_s)).bind fun t_10 => some (n_8, t_10, true))) | .inr o => some o)

noncomputable def impl_readInteger (p_s : List UInt8) (p_most : Int) : Option (Int × (List UInt8) × Bool) :=
  (((cond (decide (0 < (goLen p_s))) ((goStrAt p_s 0).bind fun t_1 => some (t_1 == 45)) (some false)) : Option (Bool)).bind fun minus_2 => (((cond minus_2 ((goSub p_s 1 (goLen p_s)).bind fun t_3 => some t_3) (some p_s)) : Option ((List UInt8))).bind fun s_4 => ((impl_readNatural s_4 p_most).bind fun t_5 => (((cond (!t_5.2.2) (some true) (cond minus_2 (some (t_5.1 == 0)) (some false))) : Option (Bool)).bind fun t_6 => (cond t_6 (some (0, ([] : List UInt8), false)) (((cond minus_2 (some (w64 (-t_5.1))) (some t_5.1)) : Option (Int)).bind fun n_7 => some (n_7, t_5.2.1, true)))))))

noncomputable def impl_ParseReport_l1 (p_g : impl_Geo) (p_s : List impl_Variable) (p_t : impl_Table) (l_9 : List Int) : (List UInt8) × (List Int) × Int → Option (Stp ((List UInt8) × (List Int) × Int) (((List UInt8) × (List Int)) ⊕ ((List Int) × Bool)))
  | (x_11, cells_12, t_14) => (cond (decide (t_14 < (goLen l_9))) ((impl_cellText p_g p_s p_t t_14).bind fun t_15 => ((goCat t_15 ([58, 32] : List UInt8)).bind fun t_16 => ((strings_CutPrefix x_11 t_16).bind fun t_17 => (cond (!t_17.2) (some (.done (.inr (([] : List Int), false)))) ((impl_readInteger t_17.1 1000000).bind fun t_18 => ((goAt cells_12 t_14).bind fun e_19 => (((cond (!t_18.2.2) (some true) (cond (t_18.2.1 == ([] : List UInt8)) (some true) ((goStrAt t_18.2.1 0).bind fun t_22 => some (t_22 != 10)))) : Option (Bool)).bind fun t_23 => (cond t_23 (some (.done (.inr (([] : List Int), false)))) ((goSub t_18.2.1 1 (goLen t_18.2.1)).bind fun t_24 => some (.next (t_24, goSet cells_12 t_14 t_18.1, (w64 (t_14 + 1))))))))))))) (some (.done (.inl (x_11, cells_12)))))

noncomputable def impl_ParseReport (p_g : impl_Geo) (p_s : List impl_Variable) (p_t : impl_Table) (p_x : List UInt8) : Option ((List Int) × Bool) :=
  ((impl_areTabled p_g p_s p_t).bind fun t_7 => (cond (!t_7) (some (([] : List Int), false)) ((impl_cellCount p_g p_s p_t).bind fun t_8 => ((goMake 8 t_8 (0 : Int)).bind fun l_9 => ((loopC (impl_ParseReport_l1 p_g p_s p_t l_9) (p_x, l_9, 0)).bind fun | .inl (x_25, cells_26) => (cond (x_25 != ([] : List UInt8)) (some (([] : List Int), false)) (some (cells_26, true))) | .inr o => some o)))))

noncomputable def laws_sameInts_l1 (p_a : List Int) (p_b : List Int) (t_3 : Int) : Option (Stp (Int) ((Unit) ⊕ (Bool))) :=
  (cond (decide (t_3 < (goLen p_a))) ((goAt p_a t_3).bind fun e_4 => ((goAt p_b t_3).bind fun e_6 => (cond (e_4 != e_6) (some (.done (.inr false))) (some (.next (w64 (t_3 + 1))))))) (some (.done (.inl ()))))

noncomputable def laws_sameInts (p_a : List Int) (p_b : List Int) : Option (Bool) :=
  (cond ((goLen p_a) != (goLen p_b)) (some false) ((loopC (laws_sameInts_l1 p_a p_b) 0).bind fun | .inl () => some true | .inr o => some o))

noncomputable def spec_l1Cur_spoilt_l1 (p_with : List UInt8) : (List UInt8) × Int × spec_l1Cur → Option (Stp ((List UInt8) × Int × spec_l1Cur) ((List UInt8) × spec_l1Cur))
  | (t_5, n_6, p_c_7) => (((cond (decide (0 < n_6)) (some (decide (0 < (goLen t_5)))) (some false)) : Option (Bool)).bind fun t_9 => (cond t_9 ((spec_l1Cur_pick p_c_7 (goLen t_5)).bind fun t_11 => ((spec_l1Cur_pick t_11.2 (goLen p_with)).bind fun t_14 => ((goStrAt p_with t_14.1).bind fun t_16 => ((spec_l1Cur_pick t_14.2 3).bind fun t_19 => (((cond (t_19.1 == 0) ((goSub t_5 0 t_11.1).bind fun t_29 => ((goCat t_29 (goBytes ([(⟨t_16⟩ : K .u8)] : List (K .u8)))).bind fun t_30 => ((goSub t_5 t_11.1 (goLen t_5)).bind fun t_31 => ((goCat t_30 t_31).bind fun t_32 => some t_32)))) (((cond (t_19.1 == 1) ((goSub t_5 0 t_11.1).bind fun t_24 => ((goCat t_24 (goBytes ([(⟨t_16⟩ : K .u8)] : List (K .u8)))).bind fun t_25 => ((goSub t_5 (w64 (t_11.1 + 1)) (goLen t_5)).bind fun t_26 => ((goCat t_25 t_26).bind fun t_27 => some t_27)))) ((goSub t_5 0 t_11.1).bind fun t_21 => ((goSub t_5 (w64 (t_11.1 + 1)) (goLen t_5)).bind fun t_22 => ((goCat t_21 t_22).bind fun t_23 => some t_23)))) : Option ((List UInt8))).bind fun t_28 => some t_28)) : Option ((List UInt8))).bind fun t_33 => some (.next (t_33, (w64 (n_6 - 1)), t_19.2))))))) (some (.done (t_5, p_c_7)))))

noncomputable def spec_l1Cur_spoilt (p_c : spec_l1Cur) (p_t : List UInt8) (p_with : List UInt8) : Option ((List UInt8) × spec_l1Cur) :=
  ((spec_l1Cur_pick p_c 2).bind fun t_3 => ((loopC (spec_l1Cur_spoilt_l1 p_with) (p_t, (w64 (1 + t_3.1)), t_3.2)).bind fun (t_34, p_c_35) => some (t_34, p_c_35)))

noncomputable def spec_DrawParseReport (p_code : List (K .u8)) : Option (impl_Geo × (List impl_Variable) × impl_Table × (List UInt8)) :=
  ((spec_DrawReportText p_code).bind fun t_5 => ((spec_ReportText t_5.1 t_5.2.1 t_5.2.2.1 t_5.2.2.2).bind fun t_14 => (cond (!t_14.2) (some (t_5.1, t_5.2.1, t_5.2.2.1, ([97, 114, 101, 97, 32, 48, 58, 32, 49, 10] : List UInt8))) ((spec_l1Cur_one (spec_l1Cur.mk p_code 0 (⟨0⟩ : K .u64)) 3).bind fun t_17 => (((cond t_17.1 ((spec_l1Cur_spoilt t_17.2 t_14.1 ([97, 114, 101, 97, 32, 48, 49, 50, 51, 58, 45, 10] : List UInt8)).bind fun t_20 => some t_20.1) (some t_14.1)) : Option ((List UInt8))).bind fun x_22 => some (t_5.1, t_5.2.1, t_5.2.2.1, x_22))))))

noncomputable def spec_l1Split_l1 (p_s : List UInt8) (p_b : K .u8) : (List (List UInt8)) × Int × Int → Option (Stp ((List (List UInt8)) × Int × Int) ((List (List UInt8)) × Int))
  | (out_1, from_3, i_4) => (cond (decide (i_4 < (goLen p_s))) ((goStrAt p_s i_4).bind fun t_5 => (((cond (t_5 == p_b.v) ((goSub p_s from_3 i_4).bind fun t_6 => ((goApp 16 out_1 ([t_6] : List (List UInt8))).bind fun l_8 => some (l_8, (w64 (i_4 + 1))))) (some (out_1, from_3))) : Option ((List (List UInt8)) × Int)).bind fun (out_10, from_12) => some (.next (out_10, from_12, (w64 (i_4 + 1)))))) (some (.done (out_1, from_3))))

noncomputable def spec_l1Split (p_s : List UInt8) (p_b : K .u8) : Option ((List (List UInt8))) :=
  ((loopC (spec_l1Split_l1 p_s p_b) (([] : List (List UInt8)), 0, 0)).bind fun (out_13, from_15) => ((goSub p_s from_15 (goLen p_s)).bind fun t_16 => ((goApp 16 out_13 ([t_16] : List (List UInt8))).bind fun l_18 => some l_18)))

noncomputable def spec_nDigits_l1 (p_x : List UInt8) : Int × Int × Int → Option (Stp (Int × Int × Int) (Int × Int))
  | (sign_1, n_2, i_3) => (((cond (decide (i_3 < (goLen p_x))) (some (decide (i_3 < 9))) (some false)) : Option (Bool)).bind fun t_4 => (cond t_4 ((goStrAt p_x i_3).bind fun t_5 => (((cond (t_5 == 45) (some (-1, n_2)) ((goStrAt p_x i_3).bind fun t_6 => some (sign_1, (w64 ((w64 ((w64 (10 * n_2)) + (w64 t_6))) - 48))))) : Option (Int × Int)).bind fun (sign_7, n_8) => some (.next (sign_7, n_8, (w64 (i_3 + 1)))))) (some (.done (sign_1, n_2)))))

noncomputable def spec_nDigits (p_x : List UInt8) : Option (Int) :=
  ((loopC (spec_nDigits_l1 p_x) (1, 0, 0)).bind fun (sign_9, n_10) => some (w64 (sign_9 * n_10)))

noncomputable def spec_ParseReport_l1 (t_8 : List (List UInt8)) : (List Int) × Int → Option (Stp ((List Int) × Int) ((List Int)))
  | (cells_11, t_13) => (cond (decide (t_13 < (goLen t_8))) ((goAt t_8 t_13).bind fun e_14 => ((spec_l1Split e_14 (⟨32⟩ : K .u8)).bind fun t_16 => ((goAt t_16 (w64 ((goLen t_16) - 1))).bind fun e_19 => ((spec_nDigits e_19).bind fun t_21 => ((goApp 8 cells_11 ([t_21] : List Int)).bind fun l_23 => some (.next (l_23, (w64 (t_13 + 1))))))))) (some (.done cells_11)))

noncomputable def spec_ParseReport (p_g : impl_Geo) (p_s : List impl_Variable) (p_t : impl_Table) (p_x : List UInt8) : Option ((List Int) × Bool) :=
  ((spec_uGood p_g p_s p_t).bind fun t_7 => (cond (!t_7) (some (([] : List Int), false)) ((spec_l1Split p_x (⟨10⟩ : K .u8)).bind fun t_8 => ((loopC (spec_ParseReport_l1 t_8) (([] : List Int), 0)).bind fun cells_25 => ((goSub cells_25 0 (w64 ((goLen cells_25) - 1))).bind fun l_27 => ((((spec_nCells p_g p_s p_t l_27).bind fun t_29 => (cond (!t_29) (some true) ((spec_nReport p_g p_s p_t l_27).bind fun t_31 => some (t_31 != p_x)))) : Option (Bool)).bind fun t_33 => (cond t_33 (some (([] : List Int), false)) (some (l_27, true)))))))))

noncomputable def spec_DrawTableText (p_code : List (K .u8)) : Option (impl_Geo × (List impl_Variable) × impl_Table) :=
  ((spec_l1Cur_anySurvey (spec_l1Cur.mk p_code 0 (⟨0⟩ : K .u64))).bind fun t_6 => ((spec_l1Cur_anyTable t_6.2.2.2 t_6.1 t_6.2.1).bind fun t_13 => some (t_6.1, t_6.2.1, t_13.1)))

noncomputable def spec_DrawCellText (p_code : List (K .u8)) : Option (impl_Geo × (List impl_Variable) × impl_Table × Int) :=
  ((spec_DrawTableText p_code).bind fun t_5 => ((spec_l1Cur_pick (spec_l1Cur.mk p_code 0 (⟨0⟩ : K .u64)) 12).bind fun t_17 => ((spec_l1Cur_pick t_17.2 20).bind fun t_20 => ((goQuo .i64 t_20.1 19).bind fun t_22 => some (t_5.1, t_5.2.1, t_5.2.2, (w64 (t_17.1 - t_22)))))))

noncomputable def impl_CellText (p_g : impl_Geo) (p_s : List impl_Variable) (p_t : impl_Table) (p_i : Int) : Option ((List UInt8) × Bool) :=
  ((((impl_areTabled p_g p_s p_t).bind fun t_7 => (cond (!t_7) (some true) (cond (decide (p_i < 0)) (some true) ((impl_cellCount p_g p_s p_t).bind fun t_8 => some (decide (t_8 ≤ p_i)))))) : Option (Bool)).bind fun t_9 => (cond t_9 (some (([] : List UInt8), false)) ((impl_cellText p_g p_s p_t p_i).bind fun t_10 => some (t_10, true))))

noncomputable def spec_CellText (p_g : impl_Geo) (p_s : List impl_Variable) (p_t : impl_Table) (p_i : Int) : Option ((List UInt8) × Bool) :=
  ((((spec_uGood p_g p_s p_t).bind fun t_7 => (cond (!t_7) (some true) ((spec_uCount p_g p_s p_t).bind fun t_8 => ((spec_l1In p_i 0 (w64 (t_8 - 1))).bind fun t_9 => some (!t_9))))) : Option (Bool)).bind fun t_10 => (cond t_10 (some (([] : List UInt8), false)) ((spec_nCell p_g p_s p_t p_i).bind fun t_11 => some (t_11, true))))

noncomputable def laws_FnReports (p_code : List (K .u8)) (p_more : List (K .u8)) : Option (Bool) :=
  ((laws_big p_code p_more).bind fun t_3 => (cond t_3 (some true) ((spec_DrawReportText p_code).bind fun t_4 => ((impl_ReportText t_4.1 t_4.2.1 t_4.2.2.1 t_4.2.2.2).bind fun t_13 => ((spec_ReportText t_4.1 t_4.2.1 t_4.2.2.1 t_4.2.2.2).bind fun t_15 => (((cond (t_13.2 != t_15.2) (some true) (some (t_13.1 != t_15.1))) : Option (Bool)).bind fun t_17 => (cond t_17 (some false) (((cond t_13.2 ((impl_ParseReport t_4.1 t_4.2.1 t_4.2.2.1 t_13.1).bind fun t_18 => (((cond (!t_18.2) (some true) ((laws_sameInts t_18.1 t_4.2.2.2).bind fun t_22 => some (!t_22))) : Option (Bool)).bind fun t_24 => (cond t_24 (some (.inr false)) (some (.inl ()))))) (some (.inl ()))) : Option ((Unit) ⊕ (Bool))).bind fun | .inl () => ((spec_DrawParseReport p_more).bind fun t_25 => ((impl_ParseReport t_25.1 t_25.2.1 t_25.2.2.1 t_25.2.2.2).bind fun t_33 => ((spec_ParseReport t_25.1 t_25.2.1 t_25.2.2.1 t_25.2.2.2).bind fun t_37 => (((cond (t_33.2 != t_37.2) (some true) ((laws_sameInts t_33.1 t_37.1).bind fun t_41 => some (!t_41))) : Option (Bool)).bind fun t_43 => (cond t_43 (some false) ((spec_DrawCellText p_more).bind fun t_44 => ((impl_CellText t_44.1 t_44.2.1 t_44.2.2.1 t_44.2.2.2).bind fun t_52 => ((spec_CellText t_44.1 t_44.2.1 t_44.2.2.1 t_44.2.2.2).bind fun t_54 => (((cond (t_52.2 == t_54.2) (some (t_52.1 == t_54.1)) (some false)) : Option (Bool)).bind fun t_56 => some t_56))))))))) | .inr o => some o))))))))

end Go.Gx.F
