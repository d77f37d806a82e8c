/- The plain functions that the walks come to. -/
import Derived.Test.YtmlegfogjdhhkaaGreatGy
namespace Go.Gx.F
open Go.Gx
set_option linter.all false

structure spec_l1Cur where
 code : List (K .u8)
 at_ : Int
 seed : K .u64

instance : Rep spec_l1Cur where
 wd:=3
 rd m cs x:=∃ s1 : Sl,cs = [s1.v,(.int .i64 x.at_),(.int .u64 x.seed.v)]∧Rd m s1 x.code
 mono hm h:=by
  obtain ⟨s1,rfl,h1⟩:=h
  exact ⟨s1,rfl,h1.mono hm⟩
 len h:=by obtain ⟨s1,rfl,_⟩:=h; rfl
 one h:=by obtain ⟨s1,rfl,_⟩:=h; rfl

instance : Rng spec_l1Cur:=⟨fun x=>Rng.ok x.code∧Rng.ok x.at_∧Rng.ok x.seed⟩

structure impl_Geo where
 Parents : List Int

instance : Rep impl_Geo where
 wd:=1
 rd m cs x:=∃ s1 : Sl,cs = [s1.v]∧Rd m s1 x.Parents
 mono hm h:=by
  obtain ⟨s1,rfl,h1⟩:=h
  exact ⟨s1,rfl,h1.mono hm⟩
 len h:=by obtain ⟨s1,rfl,_⟩:=h; rfl
 one h:=by obtain ⟨s1,rfl,_⟩:=h; rfl

instance : Rng impl_Geo:=⟨fun x=>Rng.ok x.Parents⟩

structure impl_Variable where
 Name : List UInt8
 Levels : Int

instance : Rep impl_Variable where
 wd:=2
 rd m cs x:=cs = [(strV x.Name),(.int .i64 x.Levels)]
 mono _ h:=h
 len h:=by subst h; rfl
 one h:=by subst h; rfl

instance : Flat impl_Variable:=⟨fun h=>h⟩

instance : Rng impl_Variable:=⟨fun x=>Rng.ok x.Name∧Rng.ok x.Levels⟩

structure impl_Record where
 Area : Int
 House : Int
 Values : List Int

instance : Rep impl_Record where
 wd:=3
 rd m cs x:=∃ s1 : Sl,cs = [(.int .i64 x.Area),(.int .i64 x.House),s1.v]∧Rd m s1 x.Values
 mono hm h:=by
  obtain ⟨s1,rfl,h1⟩:=h
  exact ⟨s1,rfl,h1.mono hm⟩
 len h:=by obtain ⟨s1,rfl,_⟩:=h; rfl
 one h:=by obtain ⟨s1,rfl,_⟩:=h; rfl

instance : Rng impl_Record:=⟨fun x=>Rng.ok x.Area∧Rng.ok x.House∧Rng.ok x.Values⟩

structure impl_Table where
 Level : Int
 Vars : List Int
 Where : List Int
 Sum : Int

instance : Rep impl_Table where
 wd:=4
 rd m cs x:=∃ s1 s2 : Sl,cs = [(.int .i64 x.Level),s1.v,s2.v,(.int .i64 x.Sum)]∧Rd m s1 x.Vars∧Rd m s2 x.Where
 mono hm h:=by
  obtain ⟨s1,s2,rfl,h1,h2⟩:=h
  exact ⟨s1,s2,rfl,h1.mono hm,h2.mono hm⟩
 len h:=by obtain ⟨s1,s2,rfl,_⟩:=h; rfl
 one h:=by obtain ⟨s1,s2,rfl,_⟩:=h; rfl

instance : Rng impl_Table:=⟨fun x=>Rng.ok x.Level∧Rng.ok x.Vars∧Rng.ok x.Where∧Rng.ok x.Sum⟩

structure impl_Cube where
 Sizes : List Int
 Cells : List Int

instance : Rep impl_Cube where
 wd:=2
 rd m cs x:=∃ s1 s2 : Sl,cs = [s1.v,s2.v]∧Rd m s1 x.Sizes∧Rd m s2 x.Cells
 mono hm h:=by
  obtain ⟨s1,s2,rfl,h1,h2⟩:=h
  exact ⟨s1,s2,rfl,h1.mono hm,h2.mono hm⟩
 len h:=by obtain ⟨s1,s2,rfl,_⟩:=h; rfl
 one h:=by obtain ⟨s1,s2,rfl,_⟩:=h; rfl

instance : Rng impl_Cube:=⟨fun x=>Rng.ok x.Sizes∧Rng.ok x.Cells⟩

noncomputable def spec_l1Cur_next (p_c : spec_l1Cur) : Option (Int × spec_l1Cur) :=
 (((cond (decide (p_c.at_ < (goLen p_c.code))) ((goAt p_c.code p_c.at_).bind fun e_2=>some (w64 e_2.v)) (some 0)) : Option (Int)).bind fun b_4=>(cond (decide ((w64 (p_c.at_ + 1)) ≤ (goLen p_c.code))) (some (b_4,(spec_l1Cur.mk p_c.code (w64 (p_c.at_ + 1)) (⟨(IntKind.wrap .u64 ((IntKind.wrap .u64 ((IntKind.wrap .u64 (p_c.seed.v * 6364136223846793005)) + (IntKind.wrap .u64 b_4))) + 1442695040888963407))⟩ : K .u64)))) ((goShr .u64 (IntKind.wrap .u64 ((IntKind.wrap .u64 ((IntKind.wrap .u64 (p_c.seed.v * 6364136223846793005)) + (IntKind.wrap .u64 b_4))) + 1442695040888963407)) 40).bind fun t_5=>some ((w64 (goBits .and .u64 t_5 255)),(spec_l1Cur.mk p_c.code (w64 (p_c.at_ + 1)) (⟨(IntKind.wrap .u64 ((IntKind.wrap .u64 ((IntKind.wrap .u64 (p_c.seed.v * 6364136223846793005)) + (IntKind.wrap .u64 b_4))) + 1442695040888963407))⟩ : K .u64))))))

noncomputable def spec_l1Cur_pick (p_c : spec_l1Cur) (p_n : Int) : Option (Int × spec_l1Cur) :=
 (cond (decide (p_n ≤ 1)) (some (0,p_c)) ((spec_l1Cur_next p_c).bind fun t_3=>(((cond (decide (200 < p_n)) ((spec_l1Cur_next t_3.2).bind fun t_6=>some ((w64 ((w64 (t_3.1 * 256)) + t_6.1)),t_6.2)) (some (t_3.1,t_3.2))) : Option (Int × spec_l1Cur)).bind fun (x_8,p_c_9)=>((goRem x_8 p_n).bind fun t_11=>some (t_11,p_c_9)))))

noncomputable def spec_l1Own (p_l : List Int) : Option ((List Int)) :=
 ((goApp 8 ([] : List Int) p_l).bind fun l_3=>some l_3)

noncomputable def spec_l1Cur_geo_l1  : Int × spec_l1Cur × impl_Geo→Option (Stp (Int × spec_l1Cur × impl_Geo) (spec_l1Cur × impl_Geo))
 | (k_29,p_c_30,g_32)=>(cond (decide (0 < k_29)) ((((spec_l1Cur_pick p_c_30 (goLen g_32.Parents)).bind fun t_35=>((goApp 8 g_32.Parents ([t_35.1] : List Int)).bind fun l_38=>some (t_35.2,(impl_Geo.mk l_38)))) : Option (spec_l1Cur × impl_Geo)).bind fun (p_c_40,g_42)=>some (.next ((w64 (k_29 - 1)),p_c_40,g_42))) (some (.done (p_c_30,g_32))))

noncomputable def spec_l1Cur_geo (p_c : spec_l1Cur) : Option (impl_Geo × spec_l1Cur) :=
 ((spec_l1Cur_pick p_c (goLen ([([-1,0,0] : List Int),([-1,0,0,1,1,2,2] : List Int),([-1,0,0,0,1,1,2,3] : List Int),([-1,0,0,1,1] : List Int),([-1] : List Int),([-1,0,1,2] : List Int)] : List (List Int)))).bind fun t_17=>((goAt ([([-1,0,0] : List Int),([-1,0,0,1,1,2,2] : List Int),([-1,0,0,0,1,1,2,3] : List Int),([-1,0,0,1,1] : List Int),([-1] : List Int),([-1,0,1,2] : List Int)] : List (List Int)) t_17.1).bind fun e_19=>((spec_l1Own e_19).bind fun t_22=>((spec_l1Cur_pick t_17.2 4).bind fun t_27=>((loopC (spec_l1Cur_geo_l1) (t_27.1,t_27.2,(impl_Geo.mk t_22))).bind fun (p_c_44,g_46)=>some (g_46,p_c_44))))))

noncomputable def spec_l1Cur_schema_l1  : (List impl_Variable) × Int × spec_l1Cur→Option (Stp ((List impl_Variable) × Int × spec_l1Cur) ((List impl_Variable) × spec_l1Cur))
 | (out_3,k_5,p_c_6)=>((spec_l1Cur_pick p_c_6 3).bind fun t_9=>(cond (decide (k_5 < (w64 (1 + t_9.1)))) ((((goAt ([([115,101,120] : List UInt8),([97,103,101] : List UInt8),([106,111,98] : List UInt8),([104,111,109,101] : List UInt8),([115,105,122,101] : List UInt8),([108,97,110,103] : List UInt8)] : List (List UInt8)) k_5).bind fun e_11=>((spec_l1Cur_pick t_9.2 3).bind fun t_17=>((goApp 24 out_3 ([(impl_Variable.mk e_11 (w64 (2 + t_17.1)))] : List impl_Variable)).bind fun l_20=>some (l_20,t_17.2)))) : Option ((List impl_Variable) × spec_l1Cur)).bind fun (out_22,p_c_24)=>some (.next (out_22,(w64 (k_5 + 1)),p_c_24))) (some (.done (out_3,t_9.2)))))

noncomputable def spec_l1Cur_schema (p_c : spec_l1Cur) : Option ((List impl_Variable) × spec_l1Cur) :=
 ((loopC (spec_l1Cur_schema_l1) (([] : List impl_Variable),0,p_c)).bind fun (out_26,p_c_28)=>some (out_26,p_c_28))

noncomputable def spec_gChildren_l1 (p_g : impl_Geo) (p_i : Int) : (List Int) × Int→Option (Stp ((List Int) × Int) ((List Int)))
 | (out_3,t_5)=>(cond (decide (t_5 < (goLen p_g.Parents))) ((goAt p_g.Parents t_5).bind fun e_6=>(((cond (e_6 == p_i) ((goApp 8 out_3 ([t_5] : List Int)).bind fun l_9=>some l_9) (some out_3)) : Option ((List Int))).bind fun out_11=>some (.next (out_11,(w64 (t_5 + 1)))))) (some (.done out_3)))

noncomputable def spec_gChildren (p_g : impl_Geo) (p_i : Int) : Option ((List Int)) :=
 ((loopC (spec_gChildren_l1 p_g p_i) (([] : List Int),0)).bind fun out_13=>some out_13)

noncomputable def spec_gLeaves_l1 (p_g : impl_Geo) : (List Int) × Int→Option (Stp ((List Int) × Int) ((List Int)))
 | (out_3,t_5)=>(cond (decide (t_5 < (goLen p_g.Parents))) ((spec_gChildren p_g t_5).bind fun t_6=>(((cond ((goLen t_6) == 0) ((goApp 8 out_3 ([t_5] : List Int)).bind fun l_10=>some l_10) (some out_3)) : Option ((List Int))).bind fun out_12=>some (.next (out_12,(w64 (t_5 + 1)))))) (some (.done out_3)))

noncomputable def spec_gLeaves (p_g : impl_Geo) : Option ((List Int)) :=
 ((loopC (spec_gLeaves_l1 p_g) (([] : List Int),0)).bind fun out_14=>some out_14)

noncomputable def spec_l1Cur_among (p_c : spec_l1Cur) (p_list : List Int) : Option (Int × spec_l1Cur) :=
 ((spec_l1Cur_pick p_c (goLen p_list)).bind fun t_4=>((goAt p_list t_4.1).bind fun e_6=>some (e_6,t_4.2)))

noncomputable def spec_l1Cur_values_l1 (p_s : List impl_Variable) : (List Int) × Int × spec_l1Cur→Option (Stp ((List Int) × Int × spec_l1Cur) ((List Int) × spec_l1Cur))
 | (out_3,t_5,p_c_6)=>(cond (decide (t_5 < (goLen p_s))) ((goAt p_s t_5).bind fun e_8=>((spec_l1Cur_pick p_c_6 e_8.Levels).bind fun t_12=>((goApp 8 out_3 ([t_12.1] : List Int)).bind fun l_15=>some (.next (l_15,(w64 (t_5 + 1)),t_12.2))))) (some (.done (out_3,p_c_6))))

noncomputable def spec_l1Cur_values (p_c : spec_l1Cur) (p_s : List impl_Variable) : Option ((List Int) × spec_l1Cur) :=
 ((loopC (spec_l1Cur_values_l1 p_s) (([] : List Int),0,p_c)).bind fun (out_17,p_c_19)=>some (out_17,p_c_19))

noncomputable def spec_l1Cur_record (p_c : spec_l1Cur) (p_s : List impl_Variable) (p_areas : List Int) : Option (impl_Record × spec_l1Cur) :=
 ((spec_l1Cur_among p_c p_areas).bind fun t_6=>((spec_l1Cur_pick t_6.2 6).bind fun t_9=>((spec_l1Cur_values t_9.2 p_s).bind fun t_12=>some ((impl_Record.mk t_6.1 t_9.1 t_12.1),t_12.2))))

noncomputable def spec_l1Cur_one (p_c : spec_l1Cur) (p_n : Int) : Option (Bool × spec_l1Cur) :=
 ((spec_l1Cur_pick p_c p_n).bind fun t_3=>some (t_3.1 == 0,t_3.2))

noncomputable def spec_rOwn (p_r : impl_Record) : Option (impl_Record) :=
 ((spec_l1Own p_r.Values).bind fun t_4=>some (impl_Record.mk p_r.Area p_r.House t_4))

noncomputable def spec_l1Cur_data_l1 (p_s : List impl_Variable) (p_areas : List Int) : (List impl_Record) × Int × spec_l1Cur→Option (Stp ((List impl_Record) × Int × spec_l1Cur) ((List impl_Record) × spec_l1Cur))
 | (out_7,k_9,p_c_10)=>(cond (decide (0 < k_9)) ((spec_l1Cur_record p_c_10 p_s p_areas).bind fun t_14=>((goApp 40 out_7 ([t_14.1] : List impl_Record)).bind fun l_20=>((spec_l1Cur_one t_14.2 4).bind fun t_23=>(((cond t_23.1 ((spec_rOwn t_14.1).bind fun t_25=>((goApp 40 l_20 ([t_25] : List impl_Record)).bind fun l_30=>some l_30)) (some l_20)) : Option ((List impl_Record))).bind fun out_32=>some (.next (out_32,(w64 (k_9 - 1)),t_23.2)))))) (some (.done (out_7,p_c_10))))

noncomputable def spec_l1Cur_data (p_c : spec_l1Cur) (p_s : List impl_Variable) (p_areas : List Int) : Option ((List impl_Record) × spec_l1Cur) :=
 ((spec_l1Cur_pick p_c 12).bind fun t_5=>((loopC (spec_l1Cur_data_l1 p_s p_areas) (([] : List impl_Record),t_5.1,t_5.2)).bind fun (out_35,p_c_37)=>some (out_35,p_c_37)))

noncomputable def spec_l1Cur_survey (p_c : spec_l1Cur) : Option (impl_Geo × (List impl_Variable) × (List impl_Record) × spec_l1Cur) :=
 ((spec_l1Cur_geo p_c).bind fun t_4=>((spec_l1Cur_schema t_4.2).bind fun t_9=>((spec_gLeaves t_4.1).bind fun t_12=>((spec_l1Cur_data t_9.2 t_9.1 t_12).bind fun t_19=>some (t_4.1,t_9.1,t_19.1,t_19.2)))))

noncomputable def spec_l1Cur_anyGeo (p_c : spec_l1Cur) : Option (impl_Geo × spec_l1Cur) :=
 ((spec_l1Cur_geo p_c).bind fun t_4=>((spec_l1Cur_pick t_4.2 24).bind fun t_9=>(((cond (t_9.1 == 0) ((goAt t_4.1.Parents 0).bind fun e_38=>some (.inl (t_9.2,(impl_Geo.mk (goSet t_4.1.Parents 0 0))))) (((cond (t_9.1 == 1) ((((spec_l1Cur_among t_9.2 ([-1,goLen t_4.1.Parents,0] : List Int)).bind fun t_25=>((goApp 8 t_4.1.Parents ([t_25.1] : List Int)).bind fun l_28=>some (t_25.2,(impl_Geo.mk l_28)))) : Option (spec_l1Cur × impl_Geo)).bind fun (p_c_30,g_32)=>some (.inl (p_c_30,g_32))) (cond (t_9.1 == 2) (some (.inr (.inr ((impl_Geo.mk ([] : List Int)),t_9.2)))) (((cond (t_9.1 == 3) ((spec_l1Cur_pick t_9.2 2).bind fun t_15=>((goAppZ 8 t_4.1.Parents (w64 ((w64 (30 - (goLen t_4.1.Parents))) + t_15.1)) (0 : Int)).bind fun l_17=>some (t_15.2,(impl_Geo.mk l_17)))) (some (t_9.2,t_4.1))) : Option (spec_l1Cur × impl_Geo)).bind fun (p_c_19,g_21)=>some (.inl (p_c_19,g_21))))) : Option ((spec_l1Cur × impl_Geo) ⊕ ((spec_l1Cur × impl_Geo) ⊕ (impl_Geo × spec_l1Cur)))).bind fun | .inl (p_c_34,g_36)=>some (.inl (p_c_34,g_36)) | .inr o=>some o)) : Option ((spec_l1Cur × impl_Geo) ⊕ (impl_Geo × spec_l1Cur))).bind fun | .inl (p_c_41,g_43)=>some (g_43,p_c_41) | .inr o=>some o)))

noncomputable def spec_l1Cur_of (p_c : spec_l1Cur) (p_list : List (List UInt8)) : Option ((List UInt8) × spec_l1Cur) :=
 ((spec_l1Cur_pick p_c (goLen p_list)).bind fun t_4=>((goAt p_list t_4.1).bind fun e_6=>some (e_6,t_4.2)))

noncomputable def spec_l1Cur_anySchema_l1  : (List impl_Variable) × spec_l1Cur→Option (Stp ((List impl_Variable) × spec_l1Cur) ((List impl_Variable) × spec_l1Cur))
 | (s_9,p_c_11)=>((spec_l1Cur_pick p_c_11 2).bind fun t_14=>(cond (decide ((goLen s_9) < (w64 (6 + t_14.1)))) ((goCat ([120] : List UInt8) (goBytes ([(⟨(IntKind.wrap .u8 (w64 (97 + (goLen s_9))))⟩ : K .u8)] : List (K .u8)))).bind fun t_17=>((goApp 24 s_9 ([(impl_Variable.mk t_17 2)] : List impl_Variable)).bind fun l_19=>some (.next (l_19,t_14.2)))) (some (.done (s_9,t_14.2)))))

noncomputable def spec_l1Cur_anySchema (p_c : spec_l1Cur) : Option ((List impl_Variable) × spec_l1Cur) :=
 ((spec_l1Cur_schema p_c).bind fun t_3=>((spec_l1Cur_pick t_3.2 24).bind fun t_7=>(((cond (t_7.1 == 0) ((spec_l1Cur_among t_7.2 ([1,8,9] : List Int)).bind fun t_42=>((goAt t_3.1 0).bind fun e_44=>some (.inl (goSet t_3.1 0 (impl_Variable.mk e_44.Name t_42.1),t_42.2)))) (((cond (t_7.1 == 1) ((spec_l1Cur_of t_7.2 ([([] : List UInt8),([65,103,101] : List UInt8),([97,98,99,100,101,102,103,104,105] : List UInt8),([97,103,101] : List UInt8),([97,98,32,99,100] : List UInt8)] : List (List UInt8))).bind fun t_31=>((goAt t_3.1 0).bind fun e_33=>some (.inl (goSet t_3.1 0 (impl_Variable.mk t_31.1 e_33.Levels),t_31.2)))) (cond (t_7.1 == 2) (some (.inr (.inr (([] : List impl_Variable),t_7.2)))) (((cond (t_7.1 == 3) ((loopC (spec_l1Cur_anySchema_l1) (t_3.1,t_7.2)).bind fun (s_21,p_c_23)=>some (s_21,p_c_23)) (some (t_3.1,t_7.2))) : Option ((List impl_Variable) × spec_l1Cur)).bind fun (s_25,p_c_27)=>some (.inl (s_25,p_c_27))))) : Option (((List impl_Variable) × spec_l1Cur) ⊕ (((List impl_Variable) × spec_l1Cur) ⊕ ((List impl_Variable) × spec_l1Cur)))).bind fun | .inl (s_36,p_c_38)=>some (.inl (s_36,p_c_38)) | .inr o=>some o)) : Option (((List impl_Variable) × spec_l1Cur) ⊕ ((List impl_Variable) × spec_l1Cur))).bind fun | .inl (s_47,p_c_49)=>some (s_47,p_c_49) | .inr o=>some o)))

noncomputable def spec_l1Cur_anySurvey (p_c : spec_l1Cur) : Option (impl_Geo × (List impl_Variable) × (List impl_Record) × spec_l1Cur) :=
 ((spec_l1Cur_survey p_c).bind fun t_4=>((spec_l1Cur_pick t_4.2.2.2 20).bind fun t_11=>(cond (t_11.1 == 0) ((spec_l1Cur_anyGeo t_11.2).bind fun t_40=>some (t_40.1,t_4.2.1,t_4.2.2.1,t_40.2)) (cond (t_11.1 == 1) ((spec_l1Cur_anySchema t_11.2).bind fun t_35=>some (t_4.1,t_35.1,t_4.2.2.1,t_35.2)) (((cond (t_11.1 == 2) ((spec_l1Cur_among t_11.2 ([0,29,-1] : List Int)).bind fun t_15=>((spec_l1Cur_values t_15.2 t_4.2.1).bind fun t_18=>((goApp 40 t_4.2.2.1 ([(impl_Record.mk t_15.1 0 t_18.1)] : List impl_Record)).bind fun l_23=>some (l_23,t_18.2)))) (some (t_4.2.2.1,t_11.2))) : Option ((List impl_Record) × spec_l1Cur)).bind fun (l_25,p_c_27)=>some (t_4.1,t_4.2.1,l_25,p_c_27))))))

noncomputable def spec_l1Cur_where_l1 (p_s : List impl_Variable) : (List Int) × Int × spec_l1Cur→Option (Stp ((List Int) × Int × spec_l1Cur) ((List Int) × spec_l1Cur))
 | (out_3,t_5,p_c_6)=>(cond (decide (t_5 < (goLen p_s))) ((goAt p_s t_5).bind fun e_8=>((spec_l1Cur_one p_c_6 3).bind fun t_12=>(((cond t_12.1 ((goShl .i64 1 (IntKind.wrap .u64 e_8.Levels)).bind fun t_14=>((spec_l1Cur_pick t_12.2 (w64 (t_14 - 1))).bind fun t_16=>some ((w64 (1 + t_16.1)),t_16.2))) (some (0,t_12.2))) : Option (Int × spec_l1Cur)).bind fun (set_18,p_c_19)=>((goApp 8 out_3 ([set_18] : List Int)).bind fun l_22=>some (.next (l_22,(w64 (t_5 + 1)),p_c_19)))))) (some (.done (out_3,p_c_6))))

noncomputable def spec_l1Cur_where (p_c : spec_l1Cur) (p_s : List impl_Variable) : Option ((List Int) × spec_l1Cur) :=
 ((loopC (spec_l1Cur_where_l1 p_s) (([] : List Int),0,p_c)).bind fun (out_24,p_c_26)=>some (out_24,p_c_26))

noncomputable def spec_l1In (p_n : Int) (p_lo : Int) (p_hi : Int) : Option (Bool) :=
 (((cond (decide (p_lo ≤ p_n)) (some (decide (p_n ≤ p_hi))) (some false)) : Option (Bool)).bind fun t_1=>some t_1)

noncomputable def spec_gGood_l1 (p_g : impl_Geo) (t_7 : Int) : Option (Stp (Int) ((Unit) ⊕ (Bool))) :=
 (cond (decide (t_7 < (goLen p_g.Parents))) ((goAt p_g.Parents t_7).bind fun e_8=>(((cond (decide (0 < t_7)) ((spec_l1In e_8 0 (w64 (t_7 - 1))).bind fun t_10=>some (!t_10)) (some false)) : Option (Bool)).bind fun t_11=>(cond t_11 (some (.done (.inr false))) (some (.next (w64 (t_7 + 1))))))) (some (.done (.inl ()))))

noncomputable def spec_gGood (p_g : impl_Geo) : Option (Bool) :=
 ((((spec_l1In (goLen p_g.Parents) 1 30).bind fun t_3=>(cond (!t_3) (some true) ((goAt p_g.Parents 0).bind fun e_4=>some (e_4 != (-1))))) : Option (Bool)).bind fun t_6=>(cond t_6 (some false) ((loopC (spec_gGood_l1 p_g) 0).bind fun | .inl ()=>some true | .inr o=>some o)))

noncomputable def spec_gDepth_l1 (p_g : impl_Geo) : Int × Int→Option (Stp (Int × Int) (Int))
 | (i_3,n_4)=>((goAt p_g.Parents i_3).bind fun e_5=>(cond (decide (0 ≤ e_5)) ((goAt p_g.Parents i_3).bind fun e_7=>some (.next (e_7,(w64 (n_4 + 1))))) (some (.done n_4))))

noncomputable def spec_gDepth (p_g : impl_Geo) (p_i : Int) : Option (Int) :=
 ((loopC (spec_gDepth_l1 p_g) (p_i,0)).bind fun n_9=>some n_9)

noncomputable def spec_gLevel_l1 (p_g : impl_Geo) (p_level : Int) : (List Int) × Int→Option (Stp ((List Int) × Int) ((List Int)))
 | (out_3,t_5)=>(cond (decide (t_5 < (goLen p_g.Parents))) ((spec_gDepth p_g t_5).bind fun t_6=>(((cond (t_6 == p_level) ((goApp 8 out_3 ([t_5] : List Int)).bind fun l_8=>some l_8) (some out_3)) : Option ((List Int))).bind fun out_10=>some (.next (out_10,(w64 (t_5 + 1)))))) (some (.done out_3)))

noncomputable def spec_gLevel (p_g : impl_Geo) (p_level : Int) : Option ((List Int)) :=
 ((loopC (spec_gLevel_l1 p_g p_level) (([] : List Int),0)).bind fun out_12=>some out_12)

noncomputable def spec_l1Cur_table_l1 (p_s : List impl_Variable) : Int × impl_Table × spec_l1Cur→Option (Stp (Int × impl_Table × spec_l1Cur) (impl_Table × spec_l1Cur))
 | (t_11,t_12,p_c_15)=>(cond (decide (t_11 < (goLen p_s))) ((spec_l1Cur_one p_c_15 2).bind fun t_18=>(((cond t_18.1 ((goApp 8 t_12.Vars ([t_11] : List Int)).bind fun l_21=>some (impl_Table.mk t_12.Level l_21 t_12.Where t_12.Sum)) (some t_12)) : Option (impl_Table)).bind fun t_23=>some (.next ((w64 (t_11 + 1)),t_23,t_18.2)))) (some (.done (t_12,p_c_15))))

noncomputable def spec_l1Cur_table (p_c : spec_l1Cur) (p_g : impl_Geo) (p_s : List impl_Variable) : Option (impl_Table × spec_l1Cur) :=
 ((spec_l1Cur_where p_c p_s).bind fun t_7=>((loopC (spec_l1Cur_table_l1 p_s) (0,(impl_Table.mk 0 ([] : List Int) t_7.1 (-1)),t_7.2)).bind fun (t_26,p_c_29)=>((spec_gGood p_g).bind fun t_31=>(((cond t_31 ((spec_l1Cur_pick p_c_29 3).bind fun t_33=>((spec_gLevel p_g t_33.1).bind fun t_35=>(((cond ((goLen t_35) == 0) (some (impl_Table.mk 0 t_26.Vars t_26.Where t_26.Sum)) (some (impl_Table.mk t_33.1 t_26.Vars t_26.Where t_26.Sum))) : Option (impl_Table)).bind fun t_38=>some (t_38,t_33.2)))) (some (t_26,p_c_29))) : Option (impl_Table × spec_l1Cur)).bind fun (t_41,p_c_44)=>((((spec_l1Cur_one p_c_44 3).bind fun t_47=>(cond t_47.1 (some (decide (0 < (goLen p_s)),t_47.2)) (some (false,t_47.2)))) : Option (Bool × spec_l1Cur)).bind fun (t_49,p_c_50)=>(((cond t_49 ((spec_l1Cur_pick p_c_50 (goLen p_s)).bind fun t_53=>some (t_53.2,(impl_Table.mk t_41.Level t_41.Vars t_41.Where t_53.1))) (some (p_c_50,t_41))) : Option (spec_l1Cur × impl_Table)).bind fun (p_c_55,t_57)=>some (t_57,p_c_55)))))))

noncomputable def spec_l1Cur_anyTable (p_c : spec_l1Cur) (p_g : impl_Geo) (p_s : List impl_Variable) : Option (impl_Table × spec_l1Cur) :=
 ((spec_l1Cur_table p_c p_g p_s).bind fun t_7=>((spec_l1Cur_pick t_7.2 24).bind fun t_13=>(((cond (t_13.1 == 0) ((spec_l1Cur_among t_13.2 ([-1,3,4] : List Int)).bind fun t_69=>some (t_69.2,(impl_Table.mk t_69.1 t_7.1.Vars t_7.1.Where t_7.1.Sum))) (((cond (t_13.1 == 1) ((((spec_l1Cur_among t_13.2 ([-1,0,6] : List Int)).bind fun t_52=>((goApp 8 t_7.1.Vars ([t_52.1] : List Int)).bind fun l_55=>some (t_52.2,(impl_Table.mk t_7.1.Level l_55 t_7.1.Where t_7.1.Sum)))) : Option (spec_l1Cur × impl_Table)).bind fun (p_c_57,t_59)=>some (p_c_57,t_59)) (((cond (t_13.1 == 2) ((goApp 8 t_7.1.Where ([0] : List Int)).bind fun l_42=>some (t_13.2,(impl_Table.mk t_7.1.Level t_7.1.Vars l_42 t_7.1.Sum))) (((cond (t_13.1 == 3) ((spec_l1Cur_among t_13.2 ([-2,3,6] : List Int)).bind fun t_34=>some (t_34.2,(impl_Table.mk t_7.1.Level t_7.1.Vars t_7.1.Where t_34.1))) (((cond (t_13.1 == 4) (((cond (decide (0 < (goLen t_7.1.Where))) ((spec_l1Cur_among t_13.2 ([-1,255,256] : List Int)).bind fun t_17=>((goAt t_7.1.Where 0).bind fun e_19=>some (t_17.2,(impl_Table.mk t_7.1.Level t_7.1.Vars (goSet t_7.1.Where 0 t_17.1) t_7.1.Sum)))) (some (t_13.2,t_7.1))) : Option (spec_l1Cur × impl_Table)).bind fun (p_c_22,t_24)=>some (p_c_22,t_24)) (some (t_13.2,t_7.1))) : Option (spec_l1Cur × impl_Table)).bind fun (p_c_27,t_29)=>some (p_c_27,t_29))) : Option (spec_l1Cur × impl_Table)).bind fun (p_c_36,t_38)=>some (p_c_36,t_38))) : Option (spec_l1Cur × impl_Table)).bind fun (p_c_44,t_46)=>some (p_c_44,t_46))) : Option (spec_l1Cur × impl_Table)).bind fun (p_c_62,t_64)=>some (p_c_62,t_64))) : Option (spec_l1Cur × impl_Table)).bind fun (p_c_71,t_73)=>some (t_73,p_c_71))))

noncomputable def spec_DrawTableOf (p_code : List (K .u8)) : Option (impl_Geo × (List impl_Variable) × impl_Table × (List impl_Record)) :=
 ((spec_l1Cur_anySurvey (spec_l1Cur.mk p_code 0 (⟨0⟩ : K .u64))).bind fun t_6=>((spec_l1Cur_anyTable t_6.2.2.2 t_6.1 t_6.2.1).bind fun t_18=>some (t_6.1,t_6.2.1,t_18.1,t_6.2.2.1)))

noncomputable def spec_DrawCubeOfTable (p_code : List (K .u8)) : Option (impl_Geo × (List impl_Variable) × impl_Table × (List impl_Record)) :=
 ((spec_DrawTableOf p_code).bind fun t_4=>some (t_4.1,t_4.2.1,t_4.2.2.1,t_4.2.2.2))

noncomputable def impl_IsGeo_l1 (p_g : impl_Geo) (i_6 : Int) : Option (Stp (Int) ((Unit) ⊕ (Bool))) :=
 (cond (decide (i_6 < (goLen p_g.Parents))) ((((goAt p_g.Parents i_6).bind fun e_7=>(cond (decide (e_7 < 0)) (some true) ((goAt p_g.Parents i_6).bind fun e_9=>some (decide (i_6 ≤ e_9))))) : Option (Bool)).bind fun t_11=>(cond t_11 (some (.done (.inr false))) (some (.next (w64 (i_6 + 1)))))) (some (.done (.inl ()))))

noncomputable def impl_IsGeo (p_g : impl_Geo) : Option (Bool) :=
 (((cond (decide ((goLen p_g.Parents) < 1)) (some true) (cond (decide (30 < (goLen p_g.Parents))) (some true) ((goAt p_g.Parents 0).bind fun e_3=>some (e_3 != (-1))))) : Option (Bool)).bind fun t_5=>(cond t_5 (some false) ((loopC (impl_IsGeo_l1 p_g) 1).bind fun | .inl ()=>some true | .inr o=>some o)))

noncomputable def impl_isWord_l1 (p_s : List UInt8) (t_2 : Int) : Option (Stp (Int) ((Unit) ⊕ (Bool))) :=
 (cond (decide (t_2 < (goLen p_s))) ((((goStrAt p_s t_2).bind fun t_3=>(cond (decide (t_3 < 97)) (some true) ((goStrAt p_s t_2).bind fun t_4=>some (decide (122 < t_4))))) : Option (Bool)).bind fun t_5=>(cond t_5 (some (.done (.inr false))) (some (.next (w64 (t_2 + 1)))))) (some (.done (.inl ()))))

noncomputable def impl_isWord (p_s : List UInt8) : Option (Bool) :=
 (((cond (decide ((goLen p_s) < 1)) (some true) (some (decide (8 < (goLen p_s))))) : Option (Bool)).bind fun t_1=>(cond t_1 (some false) ((loopC (impl_isWord_l1 p_s) 0).bind fun | .inl ()=>some true | .inr o=>some o)))

noncomputable def impl_IsSchema_l2 (e_4 : impl_Variable) (l_9 : List impl_Variable) (t_11 : Int) : Option (Stp (Int) ((Unit) ⊕ (Stp (Int) ((Unit) ⊕ (Bool))))) :=
 (cond (decide (t_11 < (goLen l_9))) ((goAt l_9 t_11).bind fun e_12=>(cond (e_12.Name == e_4.Name) (some (.done (.inr (.done (.inr false))))) (some (.next (w64 (t_11 + 1)))))) (some (.done (.inl ()))))

noncomputable def impl_IsSchema_l1 (p_s : List impl_Variable) (t_3 : Int) : Option (Stp (Int) ((Unit) ⊕ (Bool))) :=
 (cond (decide (t_3 < (goLen p_s))) ((goAt p_s t_3).bind fun e_4=>((((impl_isWord e_4.Name).bind fun t_7=>(cond (!t_7) (some true) (cond (decide (e_4.Levels < 2)) (some true) (some (decide (8 < e_4.Levels)))))) : Option (Bool)).bind fun t_8=>(cond t_8 (some (.done (.inr false))) ((goSub p_s 0 t_3).bind fun l_9=>((loopC (impl_IsSchema_l2 e_4 l_9) 0).bind fun | .inl ()=>some (.next (w64 (t_3 + 1))) | .inr o=>some o))))) (some (.done (.inl ()))))

noncomputable def impl_IsSchema (p_s : List impl_Variable) : Option (Bool) :=
 (((cond (decide ((goLen p_s) < 1)) (some true) (some (decide (6 < (goLen p_s))))) : Option (Bool)).bind fun t_2=>(cond t_2 (some false) ((loopC (impl_IsSchema_l1 p_s) 0).bind fun | .inl ()=>some true | .inr o=>some o)))

noncomputable def impl_areVars_l1 (p_s : List impl_Variable) (p_vars : List Int) : Int × Int→Option (Stp (Int × Int) ((Unit) ⊕ (Bool)))
 | (last_3,t_4)=>(cond (decide (t_4 < (goLen p_vars))) ((goAt p_vars t_4).bind fun e_5=>(((cond (decide (e_5 ≤ last_3)) (some true) (some (decide ((goLen p_s) ≤ e_5)))) : Option (Bool)).bind fun t_7=>(cond t_7 (some (.done (.inr false))) (some (.next (e_5,(w64 (t_4 + 1)))))))) (some (.done (.inl ()))))

noncomputable def impl_areVars (p_s : List impl_Variable) (p_vars : List Int) : Option (Bool) :=
 ((loopC (impl_areVars_l1 p_s p_vars) (-1,0)).bind fun | .inl ()=>some true | .inr o=>some o)

noncomputable def impl_fullSet (p_v : impl_Variable) : Option (Int) :=
 ((goShl .i64 1 p_v.Levels).bind fun t_2=>some (w64 (t_2 - 1)))

noncomputable def impl_isWhere_l1 (p_s : List impl_Variable) (p_where : List Int) (t_3 : Int) : Option (Stp (Int) ((Unit) ⊕ (Bool))) :=
 (cond (decide (t_3 < (goLen p_where))) ((goAt p_where t_3).bind fun e_4=>(((cond (decide (e_4 < 0)) (some true) ((goAt p_s t_3).bind fun e_6=>((impl_fullSet e_6).bind fun t_8=>some (decide (t_8 < e_4))))) : Option (Bool)).bind fun t_9=>(cond t_9 (some (.done (.inr false))) (some (.next (w64 (t_3 + 1))))))) (some (.done (.inl ()))))

noncomputable def impl_isWhere (p_s : List impl_Variable) (p_where : List Int) : Option (Bool) :=
 (cond ((goLen p_where) != (goLen p_s)) (some false) ((loopC (impl_isWhere_l1 p_s p_where) 0).bind fun | .inl ()=>some true | .inr o=>some o))

noncomputable def impl_depthOf_l1 (p_g : impl_Geo) : Int × Int→Option (Stp (Int × Int) (Int))
 | (i_3,d_4)=>(cond (decide (0 < i_3)) ((goAt p_g.Parents i_3).bind fun e_5=>some (.next (e_5,(w64 (d_4 + 1))))) (some (.done d_4)))

noncomputable def impl_depthOf (p_g : impl_Geo) (p_i : Int) : Option (Int) :=
 ((loopC (impl_depthOf_l1 p_g) (p_i,0)).bind fun d_7=>some d_7)

noncomputable def impl_areasAt_l1 (p_g : impl_Geo) (p_level : Int) : (List Int) × Int→Option (Stp ((List Int) × Int) ((List Int)))
 | (list_3,t_5)=>(cond (decide (t_5 < (goLen p_g.Parents))) ((impl_depthOf p_g t_5).bind fun t_6=>(((cond (t_6 == p_level) ((goApp 8 list_3 ([t_5] : List Int)).bind fun l_8=>some l_8) (some list_3)) : Option ((List Int))).bind fun list_10=>some (.next (list_10,(w64 (t_5 + 1)))))) (some (.done list_3)))

noncomputable def impl_areasAt (p_g : impl_Geo) (p_level : Int) : Option ((List Int)) :=
 ((loopC (impl_areasAt_l1 p_g p_level) (([] : List Int),0)).bind fun list_12=>some list_12)

noncomputable def impl_crossed_l1 (p_s : List impl_Variable) (p_t : impl_Table) : (List impl_Variable) × Int→Option (Stp ((List impl_Variable) × Int) ((List impl_Variable)))
 | (out_7,t_9)=>(cond (decide (t_9 < (goLen p_t.Vars))) ((goAt p_t.Vars t_9).bind fun e_10=>((goAt p_s e_10).bind fun e_12=>((goAt out_7 t_9).bind fun e_14=>some (.next (goSet out_7 t_9 e_12,(w64 (t_9 + 1))))))) (some (.done out_7)))

noncomputable def impl_crossed (p_s : List impl_Variable) (p_t : impl_Table) : Option ((List impl_Variable)) :=
 ((goMake 24 (goLen p_t.Vars) ((impl_Variable.mk ([] : List UInt8) 0) : impl_Variable)).bind fun l_5=>((loopC (impl_crossed_l1 p_s p_t) (l_5,0)).bind fun out_17=>some out_17))

noncomputable def impl_combinations_l1 (p_s : List impl_Variable) : Int × Int→Option (Stp (Int × Int) (Int))
 | (n_2,t_3)=>(cond (decide (t_3 < (goLen p_s))) ((goAt p_s t_3).bind fun e_4=>some (.next ((w64 (n_2 * e_4.Levels)),(w64 (t_3 + 1))))) (some (.done n_2)))

noncomputable def impl_combinations (p_s : List impl_Variable) : Option (Int) :=
 ((loopC (impl_combinations_l1 p_s) (1,0)).bind fun n_7=>some n_7)

noncomputable def impl_cellCount (p_g : impl_Geo) (p_s : List impl_Variable) (p_t : impl_Table) : Option (Int) :=
 ((impl_areasAt p_g p_t.Level).bind fun t_13=>((impl_crossed p_s p_t).bind fun t_16=>((impl_combinations t_16).bind fun t_19=>some (w64 ((goLen t_13) * t_19)))))

noncomputable def impl_isTable (p_g : impl_Geo) (p_s : List impl_Variable) (p_t : impl_Table) : Option (Bool) :=
 ((((impl_areVars p_s p_t.Vars).bind fun t_7=>(cond (!t_7) (some true) ((impl_isWhere p_s p_t.Where).bind fun t_8=>(cond (!t_8) (some true) (cond (decide (p_t.Sum < (-1))) (some true) (some (decide ((goLen p_s) ≤ p_t.Sum)))))))) : Option (Bool)).bind fun t_9=>(cond t_9 (some false) ((impl_cellCount p_g p_s p_t).bind fun t_10=>(((cond (decide (0 < t_10)) (some (decide (t_10 ≤ 600))) (some false)) : Option (Bool)).bind fun t_11=>some t_11))))

noncomputable def impl_areTabled (p_g : impl_Geo) (p_s : List impl_Variable) (p_t : impl_Table) : Option (Bool) :=
 ((((impl_IsGeo p_g).bind fun t_7=>(cond t_7 ((impl_IsSchema p_s).bind fun t_8=>(cond t_8 ((impl_isTable p_g p_s p_t).bind fun t_9=>some t_9) (some false))) (some false))) : Option (Bool)).bind fun t_10=>some t_10)

noncomputable def impl_areValues_l1 (p_s : List impl_Variable) (p_values : List Int) (t_3 : Int) : Option (Stp (Int) ((Unit) ⊕ (Bool))) :=
 (cond (decide (t_3 < (goLen p_values))) ((goAt p_values t_3).bind fun e_4=>(((cond (decide (e_4 < 0)) (some true) ((goAt p_s t_3).bind fun e_6=>some (decide (e_6.Levels ≤ e_4)))) : Option (Bool)).bind fun t_8=>(cond t_8 (some (.done (.inr false))) (some (.next (w64 (t_3 + 1))))))) (some (.done (.inl ()))))

noncomputable def impl_areValues (p_s : List impl_Variable) (p_values : List Int) : Option (Bool) :=
 (cond ((goLen p_values) != (goLen p_s)) (some false) ((loopC (impl_areValues_l1 p_s p_values) 0).bind fun | .inl ()=>some true | .inr o=>some o))

noncomputable def impl_isRecord (p_s : List impl_Variable) (p_r : impl_Record) : Option (Bool) :=
 (((cond (decide (0 ≤ p_r.Area)) (cond (decide (p_r.Area ≤ 29)) (cond (decide (0 ≤ p_r.House)) (cond (decide (p_r.House ≤ 999)) ((impl_areValues p_s p_r.Values).bind fun t_4=>some t_4) (some false)) (some false)) (some false)) (some false)) : Option (Bool)).bind fun t_5=>some t_5)

noncomputable def impl_isData_l1 (p_s : List impl_Variable) (p_l : List impl_Record) (t_3 : Int) : Option (Stp (Int) ((Unit) ⊕ (Bool))) :=
 (cond (decide (t_3 < (goLen p_l))) ((goAt p_l t_3).bind fun e_4=>((impl_isRecord p_s e_4).bind fun t_8=>(cond (!t_8) (some (.done (.inr false))) (some (.next (w64 (t_3 + 1))))))) (some (.done (.inl ()))))

noncomputable def impl_isData (p_s : List impl_Variable) (p_l : List impl_Record) : Option (Bool) :=
 (cond (decide (40 < (goLen p_l))) (some false) ((loopC (impl_isData_l1 p_s p_l) 0).bind fun | .inl ()=>some true | .inr o=>some o))

noncomputable def impl_isArea (p_g : impl_Geo) (p_i : Int) : Option (Bool) :=
 (((cond (decide (0 ≤ p_i)) (some (decide (p_i < (goLen p_g.Parents)))) (some false)) : Option (Bool)).bind fun t_3=>some t_3)

noncomputable def slices_Index_int_int_l1 (p_s : List Int) (p_v : Int) (t_2 : Int) : Option (Stp (Int) ((Unit) ⊕ (Int))) :=
 (cond (decide (t_2 < (goLen p_s))) ((goAt p_s t_2).bind fun e_3=>(cond (p_v == e_3) (some (.done (.inr t_2))) (some (.next (w64 (t_2 + 1)))))) (some (.done (.inl ()))))

noncomputable def slices_Index_int_int (p_s : List Int) (p_v : Int) : Option (Int) :=
 ((loopC (slices_Index_int_int_l1 p_s p_v) 0).bind fun | .inl ()=>some (-1) | .inr o=>some o)

noncomputable def slices_Contains_int_int (p_s : List Int) (p_v : Int) : Option (Bool) :=
 ((slices_Index_int_int p_s p_v).bind fun t_2=>some (decide (0 ≤ t_2)))

noncomputable def impl_isLeaf (p_g : impl_Geo) (p_i : Int) : Option (Bool) :=
 ((slices_Contains_int_int p_g.Parents p_i).bind fun t_3=>some (!t_3))

noncomputable def impl_isSurvey_l1 (p_g : impl_Geo) (p_l : List impl_Record) (t_6 : Int) : Option (Stp (Int) ((Unit) ⊕ (Bool))) :=
 (cond (decide (t_6 < (goLen p_l))) ((goAt p_l t_6).bind fun e_7=>((((impl_isArea p_g e_7.Area).bind fun t_11=>(cond (!t_11) (some true) ((impl_isLeaf p_g e_7.Area).bind fun t_12=>some (!t_12)))) : Option (Bool)).bind fun t_13=>(cond t_13 (some (.done (.inr false))) (some (.next (w64 (t_6 + 1))))))) (some (.done (.inl ()))))

noncomputable def impl_isSurvey (p_g : impl_Geo) (p_s : List impl_Variable) (p_l : List impl_Record) : Option (Bool) :=
 ((impl_isData p_s p_l).bind fun t_5=>(cond (!t_5) (some false) ((loopC (impl_isSurvey_l1 p_g p_l) 0).bind fun | .inl ()=>some true | .inr o=>some o)))

noncomputable def impl_ancestorAt_l1 (p_g : impl_Geo) (p_level : Int) : Int × Int→Option (Stp (Int × Int) (Int))
 | (i_5,d_6)=>(cond (decide (p_level < d_6)) ((goAt p_g.Parents i_5).bind fun e_7=>some (.next (e_7,(w64 (d_6 - 1))))) (some (.done i_5)))

noncomputable def impl_ancestorAt (p_g : impl_Geo) (p_i : Int) (p_level : Int) : Option (Int) :=
 ((impl_depthOf p_g p_i).bind fun t_3=>(((cond (decide (p_level < 0)) (some true) (some (decide (t_3 < p_level)))) : Option (Bool)).bind fun t_4=>(cond t_4 (some (-1)) ((loopC (impl_ancestorAt_l1 p_g p_level) (p_i,t_3)).bind fun i_9=>some i_9))))

noncomputable def impl_meetsWhere_l1 (p_t : impl_Table) (p_r : impl_Record) (t_6 : Int) : Option (Stp (Int) ((Unit) ⊕ (Bool))) :=
 (cond (decide (t_6 < (goLen p_t.Where))) ((goAt p_t.Where t_6).bind fun e_7=>(((cond (e_7 != 0) ((goAt p_r.Values t_6).bind fun e_9=>((goShr .i64 e_7 e_9).bind fun t_11=>some ((goBits .and .i64 t_11 1) == 0))) (some false)) : Option (Bool)).bind fun t_12=>(cond t_12 (some (.done (.inr false))) (some (.next (w64 (t_6 + 1))))))) (some (.done (.inl ()))))

noncomputable def impl_meetsWhere (p_t : impl_Table) (p_r : impl_Record) : Option (Bool) :=
 ((loopC (impl_meetsWhere_l1 p_t p_r) 0).bind fun | .inl ()=>some true | .inr o=>some o)

noncomputable def cmp_isNaN_int (p_x : Int) : Option (Bool) :=
 some (p_x != p_x)

noncomputable def cmp_Less_int (p_x : Int) (p_y : Int) : Option (Bool) :=
 ((((cmp_isNaN_int p_x).bind fun t_1=>(cond t_1 ((cmp_isNaN_int p_y).bind fun t_2=>(cond (!t_2) (some true) (some (decide (p_x < p_y))))) (some (decide (p_x < p_y))))) : Option (Bool)).bind fun t_3=>some t_3)

noncomputable def slices_isNaN_int (p_x : Int) : Option (Bool) :=
 some (p_x != p_x)

noncomputable def slices_BinarySearch_int_int_l1 (p_x : List Int) (p_target : Int) : Int × Int→Option (Stp (Int × Int) (Int))
 | (i_2,j_3)=>(cond (decide (i_2 < j_3)) ((goShr .u64 (IntKind.wrap .u64 (w64 (i_2 + j_3))) 1).bind fun t_4=>((goAt p_x (w64 t_4)).bind fun e_5=>((cmp_Less_int e_5 p_target).bind fun t_7=>(((cond t_7 (some ((w64 ((w64 t_4) + 1)),j_3)) (some (i_2,(w64 t_4)))) : Option (Int × Int)).bind fun (i_8,j_9)=>some (.next (i_8,j_9)))))) (some (.done i_2)))

noncomputable def slices_BinarySearch_int_int (p_x : List Int) (p_target : Int) : Option (Int × Bool) :=
 ((loopC (slices_BinarySearch_int_int_l1 p_x p_target) (0,goLen p_x)).bind fun i_10=>(((cond (decide (i_10 < (goLen p_x))) ((goAt p_x i_10).bind fun e_11=>(cond (e_11 == p_target) (some true) ((goAt p_x i_10).bind fun e_13=>((slices_isNaN_int e_13).bind fun t_15=>(cond t_15 ((slices_isNaN_int p_target).bind fun t_16=>some t_16) (some false)))))) (some false)) : Option (Bool)).bind fun t_17=>some (i_10,t_17)))

noncomputable def impl_indexOfValues_l1 (p_s : List impl_Variable) (p_values : List Int) : Int × Int→Option (Stp (Int × Int) (Int))
 | (i_3,t_4)=>(cond (decide (t_4 < (goLen p_values))) ((goAt p_values t_4).bind fun e_5=>((goAt p_s t_4).bind fun e_7=>some (.next ((w64 ((w64 (i_3 * e_7.Levels)) + e_5)),(w64 (t_4 + 1)))))) (some (.done i_3)))

noncomputable def impl_indexOfValues (p_s : List impl_Variable) (p_values : List Int) : Option (Int) :=
 ((loopC (impl_indexOfValues_l1 p_s p_values) (0,0)).bind fun i_9=>some i_9)

noncomputable def impl_cellIndex (p_g : impl_Geo) (p_s : List impl_Variable) (p_t : impl_Table) (p_area : Int) (p_values : List Int) : Option (Int) :=
 ((impl_areasAt p_g p_t.Level).bind fun t_8=>((slices_BinarySearch_int_int t_8 p_area).bind fun t_11=>(cond (!t_11.2) (some (-1)) ((impl_crossed p_s p_t).bind fun t_13=>((impl_combinations t_13).bind fun t_16=>((impl_indexOfValues t_13 p_values).bind fun t_18=>some (w64 ((w64 (t_11.1 * t_16)) + t_18))))))))

noncomputable def impl_contribution_l1 (p_t : impl_Table) (p_r : impl_Record) : (List Int) × Int→Option (Stp ((List Int) × Int) ((List Int)))
 | (values_14,t_16)=>(cond (decide (t_16 < (goLen p_t.Vars))) ((goAt p_t.Vars t_16).bind fun e_17=>((goAt p_r.Values e_17).bind fun e_19=>((goAt values_14 t_16).bind fun e_21=>some (.next (goSet values_14 t_16 e_19,(w64 (t_16 + 1))))))) (some (.done values_14)))

noncomputable def impl_contribution (p_g : impl_Geo) (p_s : List impl_Variable) (p_t : impl_Table) (p_r : impl_Record) : Option (Int × Int) :=
 ((impl_ancestorAt p_g p_r.Area p_t.Level).bind fun t_9=>(((cond (decide (t_9 < 0)) (some true) ((impl_meetsWhere p_t p_r).bind fun t_10=>some (!t_10))) : Option (Bool)).bind fun t_11=>(cond t_11 (some (-1,0)) ((goMake 8 (goLen p_t.Vars) (0 : Int)).bind fun l_12=>((loopC (impl_contribution_l1 p_t p_r) (l_12,0)).bind fun values_24=>(((cond (decide (0 ≤ p_t.Sum)) ((goAt p_r.Values p_t.Sum).bind fun e_26=>some e_26) (some 1)) : Option (Int)).bind fun amount_28=>((impl_cellIndex p_g p_s p_t t_9 values_24).bind fun t_29=>some (t_29,amount_28))))))))

noncomputable def impl_tableOf_l1 (p_g : impl_Geo) (p_s : List impl_Variable) (p_t : impl_Table) (p_l : List impl_Record) : (List Int) × Int→Option (Stp ((List Int) × Int) ((List Int)))
 | (cells_11,t_13)=>(cond (decide (t_13 < (goLen p_l))) ((goAt p_l t_13).bind fun e_14=>((impl_contribution p_g p_s p_t e_14).bind fun t_18=>(((cond (decide (0 ≤ t_18.1)) ((goAt cells_11 t_18.1).bind fun e_19=>((goAt cells_11 t_18.1).bind fun e_21=>some (goSet cells_11 t_18.1 (w64 (e_19 + t_18.2))))) (some cells_11)) : Option ((List Int))).bind fun cells_24=>some (.next (cells_24,(w64 (t_13 + 1))))))) (some (.done cells_11)))

noncomputable def impl_tableOf (p_g : impl_Geo) (p_s : List impl_Variable) (p_t : impl_Table) (p_l : List impl_Record) : Option ((List Int)) :=
 ((impl_cellCount p_g p_s p_t).bind fun t_8=>((goMake 8 t_8 (0 : Int)).bind fun l_9=>((loopC (impl_tableOf_l1 p_g p_s p_t p_l) (l_9,0)).bind fun cells_26=>some cells_26)))

noncomputable def impl_cubeCells_l1 (p_sizes : List Int) : Int × Int→Option (Stp (Int × Int) ((Int) ⊕ (Int)))
 | (n_2,t_3)=>(cond (decide (t_3 < (goLen p_sizes))) ((goAt p_sizes t_3).bind fun e_4=>(((cond (decide (e_4 < 1)) (some true) (some (decide (30 < e_4)))) : Option (Bool)).bind fun t_6=>(cond t_6 (some (.done (.inr 0))) (some (.next ((w64 (n_2 * (w64 (e_4 + 1)))),(w64 (t_3 + 1)))))))) (some (.done (.inl n_2))))

noncomputable def impl_cubeCells (p_sizes : List Int) : Option (Int) :=
 (cond (decide (4 < (goLen p_sizes))) (some 0) ((loopC (impl_cubeCells_l1 p_sizes) (1,0)).bind fun | .inl n_7=>(cond (decide (2000 < n_7)) (some 0) (some n_7)) | .inr o=>some o))

noncomputable def slices_Clone_int_int (p_s : List Int) : Option ((List Int)) :=
 ((goApp 8 ([] : List Int) p_s).bind fun l_3=>some l_3)

noncomputable def impl_strides_l1 (p_sizes : List Int) : (List Int) × Int × Int→Option (Stp ((List Int) × Int × Int) ((List Int)))
 | (out_4,n_6,d_7)=>(cond (decide (0 ≤ d_7)) ((goAt out_4 d_7).bind fun e_8=>((goAt p_sizes d_7).bind fun e_11=>some (.next (goSet out_4 d_7 n_6,(w64 (n_6 * (w64 (e_11 + 1)))),(w64 (d_7 - 1)))))) (some (.done out_4)))

noncomputable def impl_strides (p_sizes : List Int) : Option ((List Int)) :=
 ((goMake 8 (goLen p_sizes) (0 : Int)).bind fun l_2=>((loopC (impl_strides_l1 p_sizes) (l_2,1,(w64 ((goLen p_sizes) - 1)))).bind fun out_13=>some out_13))

noncomputable def impl_indexOf_l1 (t_4 : List Int) : Int × (List Int) × Int→Option (Stp (Int × (List Int) × Int) ((List Int)))
 | (i_7,out_8,t_10)=>(cond (decide (t_10 < (goLen t_4))) ((goAt t_4 t_10).bind fun e_11=>((goQuo .i64 i_7 e_11).bind fun t_13=>((goAt out_8 t_10).bind fun e_14=>((goRem i_7 e_11).bind fun t_17=>some (.next (t_17,goSet out_8 t_10 t_13,(w64 (t_10 + 1)))))))) (some (.done out_8)))

noncomputable def impl_indexOf (p_sizes : List Int) (p_i : Int) : Option ((List Int)) :=
 ((goMake 8 (goLen p_sizes) (0 : Int)).bind fun l_2=>((impl_strides p_sizes).bind fun t_4=>((loopC (impl_indexOf_l1 t_4) (p_i,l_2,0)).bind fun out_18=>some out_18)))

noncomputable def impl_isBase_l1 (p_sizes : List Int) (p_index : List Int) (t_3 : Int) : Option (Stp (Int) ((Unit) ⊕ (Bool))) :=
 (cond (decide (t_3 < (goLen p_index))) ((goAt p_index t_3).bind fun e_4=>((goAt p_sizes t_3).bind fun e_6=>(cond (e_4 == e_6) (some (.done (.inr false))) (some (.next (w64 (t_3 + 1))))))) (some (.done (.inl ()))))

noncomputable def impl_isBase (p_sizes : List Int) (p_index : List Int) : Option (Bool) :=
 ((loopC (impl_isBase_l1 p_sizes p_index) 0).bind fun | .inl ()=>some true | .inr o=>some o)

noncomputable def impl_areCubeValues_l1 (p_cells : List Int) (t_2 : Int) : Option (Stp (Int) ((Unit) ⊕ (Bool))) :=
 (cond (decide (t_2 < (goLen p_cells))) ((goAt p_cells t_2).bind fun e_3=>(((cond (decide (e_3 < (-1000000))) (some true) (some (decide (1000000 < e_3)))) : Option (Bool)).bind fun t_5=>(cond t_5 (some (.done (.inr false))) (some (.next (w64 (t_2 + 1))))))) (some (.done (.inl ()))))

noncomputable def impl_areCubeValues (p_cells : List Int) : Option (Bool) :=
 ((loopC (impl_areCubeValues_l1 p_cells) 0).bind fun | .inl ()=>some true | .inr o=>some o)

noncomputable def impl_cubeOf_l1 (p_sizes : List Int) (l_8 : List Int) : Int × Int→Option (Stp (Int × Int) (Int))
 | (n_11,t_12)=>(cond (decide (t_12 < (goLen l_8))) ((impl_indexOf p_sizes t_12).bind fun t_13=>((impl_isBase p_sizes t_13).bind fun t_16=>(((cond t_16 (some (w64 (n_11 + 1))) (some n_11)) : Option (Int)).bind fun n_18=>some (.next (n_18,(w64 (t_12 + 1))))))) (some (.done n_11)))

noncomputable def impl_cubeOf_l2 (p_sizes : List Int) (p_base : List Int) (l_8 : List Int) : Int × Int × impl_Cube→Option (Stp (Int × Int × impl_Cube) (impl_Cube))
 | (k_22,t_23,c_24)=>(cond (decide (t_23 < (goLen l_8))) ((impl_indexOf p_sizes t_23).bind fun t_27=>((impl_isBase p_sizes t_27).bind fun t_30=>(((cond t_30 ((goAt p_base k_22).bind fun e_32=>((goAt c_24.Cells t_23).bind fun e_34=>some ((w64 (k_22 + 1)),(impl_Cube.mk c_24.Sizes (goSet c_24.Cells t_23 e_32))))) (some (k_22,c_24))) : Option (Int × impl_Cube)).bind fun (k_37,c_38)=>some (.next (k_37,(w64 (t_23 + 1)),c_38))))) (some (.done c_24)))

noncomputable def impl_cubeOf_l5 (p_sizes : List Int) (t_47 : Int) (e_52 : Int) (t_54 : Int) : Int × impl_Cube→Option (Stp (Int × impl_Cube) (impl_Cube))
 | (x_74,c_75)=>((goAt p_sizes t_47).bind fun e_78=>(cond (decide (x_74 ≤ e_78)) ((goAt c_75.Cells t_54).bind fun e_80=>((goAt c_75.Cells (w64 (t_54 - (w64 (x_74 * e_52))))).bind fun e_82=>((goAt c_75.Cells t_54).bind fun e_84=>some (.next ((w64 (x_74 + 1)),(impl_Cube.mk c_75.Sizes (goSet c_75.Cells t_54 (w64 (e_80 + e_82))))))))) (some (.done c_75))))

noncomputable def impl_cubeOf_l4 (p_sizes : List Int) (t_47 : Int) (c_48 : impl_Cube) (e_52 : Int) : Int × impl_Cube→Option (Stp (Int × impl_Cube) (impl_Cube))
 | (t_54,c_55)=>(cond (decide (t_54 < (goLen c_48.Cells))) ((((impl_indexOf p_sizes t_54).bind fun t_59=>((((goAt t_59 t_47).bind fun e_62=>((goAt p_sizes t_47).bind fun e_64=>(cond (e_62 != e_64) (some true) ((goSub p_sizes (w64 (t_47 + 1)) (goLen p_sizes)).bind fun l_66=>((goSub t_59 (w64 (t_47 + 1)) (goLen t_59)).bind fun l_69=>((impl_isBase l_66 l_69).bind fun t_71=>some (!t_71))))))) : Option (Bool)).bind fun t_72=>(cond t_72 (some c_55) ((loopC (impl_cubeOf_l5 p_sizes t_47 e_52 t_54) (1,c_55)).bind fun c_87=>some c_87)))) : Option (impl_Cube)).bind fun c_90=>some (.next ((w64 (t_54 + 1)),c_90))) (some (.done c_55)))

noncomputable def impl_cubeOf_l3 (p_sizes : List Int) (t_44 : List Int) : Int × impl_Cube→Option (Stp (Int × impl_Cube) (impl_Cube))
 | (t_47,c_48)=>(cond (decide (t_47 < (goLen t_44))) ((goAt t_44 t_47).bind fun e_52=>((loopC (impl_cubeOf_l4 p_sizes t_47 c_48 e_52) (0,c_48)).bind fun c_94=>some (.next ((w64 (t_47 + 1)),c_94)))) (some (.done c_48)))

noncomputable def impl_cubeOf (p_sizes : List Int) (p_base : List Int) : Option (impl_Cube × Bool) :=
 ((slices_Clone_int_int p_sizes).bind fun t_4=>((impl_cubeCells p_sizes).bind fun t_7=>((goMake 8 t_7 (0 : Int)).bind fun l_8=>((loopC (impl_cubeOf_l1 p_sizes l_8) (0,0)).bind fun n_19=>(((cond (n_19 != (goLen p_base)) (some true) ((impl_areCubeValues p_base).bind fun t_20=>some (!t_20))) : Option (Bool)).bind fun t_21=>(cond t_21 (some ((impl_Cube.mk ([] : List Int) ([] : List Int)),false)) ((loopC (impl_cubeOf_l2 p_sizes p_base l_8) (0,0,(impl_Cube.mk t_4 l_8))).bind fun c_41=>((impl_strides p_sizes).bind fun t_44=>((loopC (impl_cubeOf_l3 p_sizes t_44) (0,c_41)).bind fun c_98=>((impl_areCubeValues c_98.Cells).bind fun t_102=>(cond (!t_102) (some ((impl_Cube.mk ([] : List Int) ([] : List Int)),false)) (some (c_98,true)))))))))))))

noncomputable def impl_CubeOf (p_sizes : List Int) (p_base : List Int) : Option (impl_Cube × Bool) :=
 ((impl_cubeCells p_sizes).bind fun t_4=>(cond (t_4 == 0) (some ((impl_Cube.mk ([] : List Int) ([] : List Int)),false)) ((impl_cubeOf p_sizes p_base).bind fun t_5=>some (t_5.1,t_5.2))))

noncomputable def impl_CubeOfTable_l1 (t_16 : List impl_Variable) : (List Int) × Int→Option (Stp ((List Int) × Int) ((List Int)))
 | (sizes_19,t_21)=>(cond (decide (t_21 < (goLen t_16))) ((goAt t_16 t_21).bind fun e_22=>((goApp 8 sizes_19 ([e_22.Levels] : List Int)).bind fun l_26=>some (.next (l_26,(w64 (t_21 + 1)))))) (some (.done sizes_19)))

noncomputable def impl_CubeOfTable (p_g : impl_Geo) (p_s : List impl_Variable) (p_t : impl_Table) (p_l : List impl_Record) : Option (impl_Cube × Bool) :=
 ((((impl_areTabled p_g p_s p_t).bind fun t_9=>(cond (!t_9) (some true) ((impl_isSurvey p_g p_s p_l).bind fun t_10=>some (!t_10)))) : Option (Bool)).bind fun t_11=>(cond t_11 (some ((impl_Cube.mk ([] : List Int) ([] : List Int)),false)) ((impl_areasAt p_g p_t.Level).bind fun t_12=>((impl_crossed p_s p_t).bind fun t_16=>((loopC (impl_CubeOfTable_l1 t_16) (([goLen t_12] : List Int),0)).bind fun sizes_28=>((impl_tableOf p_g p_s p_t p_l).bind fun t_30=>((impl_CubeOf sizes_28 t_30).bind fun t_35=>some (t_35.1,t_35.2))))))))

noncomputable def spec_sName_l1 (p_s : List UInt8) (i_1 : Int) : Option (Stp (Int) ((Unit) ⊕ (Bool))) :=
 (cond (decide (i_1 < (goLen p_s))) ((((goStrAt p_s i_1).bind fun t_2=>(cond (decide (t_2 < 97)) (some true) ((goStrAt p_s i_1).bind fun t_3=>some (decide (122 < t_3))))) : Option (Bool)).bind fun t_4=>(cond t_4 (some (.done (.inr false))) (some (.next (w64 (i_1 + 1)))))) (some (.done (.inl ()))))

noncomputable def spec_sName (p_s : List UInt8) : Option (Bool) :=
 ((loopC (spec_sName_l1 p_s) 0).bind fun | .inl ()=>((spec_l1In (goLen p_s) 1 8).bind fun t_5=>some t_5) | .inr o=>some o)

noncomputable def spec_sFind_l1 (p_s : List impl_Variable) (p_name : List UInt8) (t_2 : Int) : Option (Stp (Int) ((Unit) ⊕ (Int))) :=
 (cond (decide (t_2 < (goLen p_s))) ((goAt p_s t_2).bind fun e_3=>(cond (e_3.Name == p_name) (some (.done (.inr t_2))) (some (.next (w64 (t_2 + 1)))))) (some (.done (.inl ()))))

noncomputable def spec_sFind (p_s : List impl_Variable) (p_name : List UInt8) : Option (Int) :=
 ((loopC (spec_sFind_l1 p_s p_name) 0).bind fun | .inl ()=>some (-1) | .inr o=>some o)

noncomputable def spec_sGood_l1 (p_s : List impl_Variable) (t_3 : Int) : Option (Stp (Int) ((Unit) ⊕ (Bool))) :=
 (cond (decide (t_3 < (goLen p_s))) ((goAt p_s t_3).bind fun e_4=>((((spec_sName e_4.Name).bind fun t_7=>(cond (!t_7) (some true) ((spec_l1In e_4.Levels 2 8).bind fun t_8=>(cond (!t_8) (some true) ((goSub p_s 0 t_3).bind fun l_9=>((spec_sFind l_9 e_4.Name).bind fun t_11=>some (decide (0 ≤ t_11)))))))) : Option (Bool)).bind fun t_12=>(cond t_12 (some (.done (.inr false))) (some (.next (w64 (t_3 + 1))))))) (some (.done (.inl ()))))

noncomputable def spec_sGood (p_s : List impl_Variable) : Option (Bool) :=
 ((spec_l1In (goLen p_s) 1 6).bind fun t_2=>(cond (!t_2) (some false) ((loopC (spec_sGood_l1 p_s) 0).bind fun | .inl ()=>some true | .inr o=>some o)))

noncomputable def spec_l1Rising_l1 (p_l : List Int) (p_lo : Int) (p_hi : Int) (t_2 : Int) : Option (Stp (Int) ((Unit) ⊕ (Bool))) :=
 (cond (decide (t_2 < (goLen p_l))) ((goAt p_l t_2).bind fun e_3=>((((spec_l1In e_3 p_lo p_hi).bind fun t_5=>(cond (!t_5) (some true) (cond (decide (0 < t_2)) ((goAt p_l (w64 (t_2 - 1))).bind fun e_6=>some (decide (e_3 ≤ e_6))) (some false)))) : Option (Bool)).bind fun t_8=>(cond t_8 (some (.done (.inr false))) (some (.next (w64 (t_2 + 1))))))) (some (.done (.inl ()))))

noncomputable def spec_l1Rising (p_l : List Int) (p_lo : Int) (p_hi : Int) : Option (Bool) :=
 ((loopC (spec_l1Rising_l1 p_l p_lo p_hi) 0).bind fun | .inl ()=>some true | .inr o=>some o)

noncomputable def spec_uWhere_l1 (p_s : List impl_Variable) (p_where : List Int) (t_3 : Int) : Option (Stp (Int) ((Unit) ⊕ (Bool))) :=
 (cond (decide (t_3 < (goLen p_s))) ((goAt p_s t_3).bind fun e_4=>((goAt p_where t_3).bind fun e_7=>((goShl .i64 1 (IntKind.wrap .u64 e_4.Levels)).bind fun t_9=>((spec_l1In e_7 0 (w64 (t_9 - 1))).bind fun t_10=>(cond (!t_10) (some (.done (.inr false))) (some (.next (w64 (t_3 + 1))))))))) (some (.done (.inl ()))))

noncomputable def spec_uWhere (p_s : List impl_Variable) (p_where : List Int) : Option (Bool) :=
 (cond ((goLen p_where) != (goLen p_s)) (some false) ((loopC (spec_uWhere_l1 p_s p_where) 0).bind fun | .inl ()=>some true | .inr o=>some o))

noncomputable def spec_sPart_l1 (p_s : List impl_Variable) (p_vars : List Int) : (List impl_Variable) × Int→Option (Stp ((List impl_Variable) × Int) ((List impl_Variable)))
 | (out_3,t_5)=>(cond (decide (t_5 < (goLen p_vars))) ((goAt p_vars t_5).bind fun e_6=>((goAt p_s e_6).bind fun e_8=>((goApp 24 out_3 ([e_8] : List impl_Variable)).bind fun l_11=>some (.next (l_11,(w64 (t_5 + 1))))))) (some (.done out_3)))

noncomputable def spec_sPart (p_s : List impl_Variable) (p_vars : List Int) : Option ((List impl_Variable)) :=
 ((loopC (spec_sPart_l1 p_s p_vars) (([] : List impl_Variable),0)).bind fun out_13=>some out_13)

noncomputable def spec_sCount_l1 (p_s : List impl_Variable) : Int × Int→Option (Stp (Int × Int) (Int))
 | (n_2,t_3)=>(cond (decide (t_3 < (goLen p_s))) ((goAt p_s t_3).bind fun e_4=>some (.next ((w64 (n_2 * e_4.Levels)),(w64 (t_3 + 1))))) (some (.done n_2)))

noncomputable def spec_sCount (p_s : List impl_Variable) : Option (Int) :=
 ((loopC (spec_sCount_l1 p_s) (1,0)).bind fun n_7=>some n_7)

noncomputable def spec_uCount (p_g : impl_Geo) (p_s : List impl_Variable) (p_t : impl_Table) : Option (Int) :=
 ((spec_gLevel p_g p_t.Level).bind fun t_16=>((spec_sPart p_s p_t.Vars).bind fun t_19=>((spec_sCount t_19).bind fun t_22=>some (w64 ((goLen t_16) * t_22)))))

noncomputable def spec_uGood (p_g : impl_Geo) (p_s : List impl_Variable) (p_t : impl_Table) : Option (Bool) :=
 ((((spec_gGood p_g).bind fun t_7=>(cond (!t_7) (some true) ((spec_sGood p_s).bind fun t_8=>(cond (!t_8) (some true) ((spec_gLevel p_g p_t.Level).bind fun t_9=>(cond ((goLen t_9) == 0) (some true) ((spec_l1Rising p_t.Vars 0 (w64 ((goLen p_s) - 1))).bind fun t_12=>(cond (!t_12) (some true) ((spec_uWhere p_s p_t.Where).bind fun t_13=>(cond (!t_13) (some true) ((spec_l1In p_t.Sum (-1) (w64 ((goLen p_s) - 1))).bind fun t_14=>some (!t_14)))))))))))) : Option (Bool)).bind fun t_15=>(cond t_15 (some false) ((spec_uCount p_g p_s p_t).bind fun t_16=>some (decide (t_16 ≤ 600)))))

noncomputable def spec_sFits_l1 (p_s : List impl_Variable) (p_values : List Int) (t_3 : Int) : Option (Stp (Int) ((Unit) ⊕ (Bool))) :=
 (cond (decide (t_3 < (goLen p_s))) ((goAt p_s t_3).bind fun e_4=>((goAt p_values t_3).bind fun e_7=>((spec_l1In e_7 0 (w64 (e_4.Levels - 1))).bind fun t_9=>(cond (!t_9) (some (.done (.inr false))) (some (.next (w64 (t_3 + 1)))))))) (some (.done (.inl ()))))

noncomputable def spec_sFits (p_s : List impl_Variable) (p_values : List Int) : Option (Bool) :=
 (cond ((goLen p_values) != (goLen p_s)) (some false) ((loopC (spec_sFits_l1 p_s p_values) 0).bind fun | .inl ()=>some true | .inr o=>some o))

noncomputable def spec_rGood (p_s : List impl_Variable) (p_r : impl_Record) : Option (Bool) :=
 ((((spec_l1In p_r.Area 0 29).bind fun t_4=>(cond t_4 ((spec_l1In p_r.House 0 999).bind fun t_5=>(cond t_5 ((spec_sFits p_s p_r.Values).bind fun t_6=>some t_6) (some false))) (some false))) : Option (Bool)).bind fun t_7=>some t_7)

noncomputable def spec_dGood_l1 (p_s : List impl_Variable) (p_l : List impl_Record) (t_3 : Int) : Option (Stp (Int) ((Unit) ⊕ (Bool))) :=
 (cond (decide (t_3 < (goLen p_l))) ((goAt p_l t_3).bind fun e_4=>((spec_rGood p_s e_4).bind fun t_8=>(cond (!t_8) (some (.done (.inr false))) (some (.next (w64 (t_3 + 1))))))) (some (.done (.inl ()))))

noncomputable def spec_dGood (p_s : List impl_Variable) (p_l : List impl_Record) : Option (Bool) :=
 ((loopC (spec_dGood_l1 p_s p_l) 0).bind fun | .inl ()=>some (decide ((goLen p_l) ≤ 40)) | .inr o=>some o)

noncomputable def spec_dInput (p_s : List impl_Variable) (p_l : List impl_Record) : Option (Bool) :=
 ((((spec_sGood p_s).bind fun t_3=>(cond t_3 ((spec_dGood p_s p_l).bind fun t_4=>some t_4) (some false))) : Option (Bool)).bind fun t_5=>some t_5)

noncomputable def spec_l1Has_l1 (p_l : List Int) (p_n : Int) (t_2 : Int) : Option (Stp (Int) ((Unit) ⊕ (Bool))) :=
 (cond (decide (t_2 < (goLen p_l))) ((goAt p_l t_2).bind fun e_3=>(cond (e_3 == p_n) (some (.done (.inr true))) (some (.next (w64 (t_2 + 1)))))) (some (.done (.inl ()))))

noncomputable def spec_l1Has (p_l : List Int) (p_n : Int) : Option (Bool) :=
 ((loopC (spec_l1Has_l1 p_l p_n) 0).bind fun | .inl ()=>some false | .inr o=>some o)

noncomputable def spec_uSurvey_l1 (p_l : List impl_Record) (t_8 : List Int) (t_11 : Int) : Option (Stp (Int) ((Unit) ⊕ (Bool))) :=
 (cond (decide (t_11 < (goLen p_l))) ((goAt p_l t_11).bind fun e_12=>((spec_l1Has t_8 e_12.Area).bind fun t_16=>(cond (!t_16) (some (.done (.inr false))) (some (.next (w64 (t_11 + 1))))))) (some (.done (.inl ()))))

noncomputable def spec_uSurvey (p_g : impl_Geo) (p_s : List impl_Variable) (p_l : List impl_Record) : Option (Bool) :=
 ((((spec_gGood p_g).bind fun t_5=>(cond (!t_5) (some true) ((spec_dInput p_s p_l).bind fun t_6=>some (!t_6)))) : Option (Bool)).bind fun t_7=>(cond t_7 (some false) ((spec_gLeaves p_g).bind fun t_8=>((loopC (spec_uSurvey_l1 p_l t_8) 0).bind fun | .inl ()=>some true | .inr o=>some o))))

noncomputable def spec_sLevels_l1 (p_s : List impl_Variable) : (List Int) × Int→Option (Stp ((List Int) × Int) ((List Int)))
 | (out_2,t_4)=>(cond (decide (t_4 < (goLen p_s))) ((goAt p_s t_4).bind fun e_5=>((goApp 8 out_2 ([e_5.Levels] : List Int)).bind fun l_9=>some (.next (l_9,(w64 (t_4 + 1)))))) (some (.done out_2)))

noncomputable def spec_sLevels (p_s : List impl_Variable) : Option ((List Int)) :=
 ((loopC (spec_sLevels_l1 p_s) (([] : List Int),0)).bind fun out_11=>some out_11)

noncomputable def spec_cbSizes (p_g : impl_Geo) (p_s : List impl_Variable) (p_t : impl_Table) : Option ((List Int)) :=
 ((((spec_gLevel p_g p_t.Level).bind fun t_16=>((spec_sPart p_s p_t.Vars).bind fun t_24=>((spec_sLevels t_24).bind fun t_27=>((goApp 8 ([goLen t_16] : List Int) t_27).bind fun l_31=>some l_31)))) : Option ((List Int))).bind fun t_33=>some t_33)

noncomputable def spec_l1All_l1 (p_l : List Int) (p_lo : Int) (p_hi : Int) (t_2 : Int) : Option (Stp (Int) ((Unit) ⊕ (Bool))) :=
 (cond (decide (t_2 < (goLen p_l))) ((goAt p_l t_2).bind fun e_3=>((spec_l1In e_3 p_lo p_hi).bind fun t_5=>(cond (!t_5) (some (.done (.inr false))) (some (.next (w64 (t_2 + 1))))))) (some (.done (.inl ()))))

noncomputable def spec_l1All (p_l : List Int) (p_lo : Int) (p_hi : Int) : Option (Bool) :=
 ((loopC (spec_l1All_l1 p_l p_lo p_hi) 0).bind fun | .inl ()=>some true | .inr o=>some o)

noncomputable def spec_cbCount_l1 (p_sizes : List Int) : Int × Int→Option (Stp (Int × Int) (Int))
 | (n_4,t_5)=>(cond (decide (t_5 < (goLen p_sizes))) ((goAt p_sizes t_5).bind fun e_6=>some (.next ((w64 (n_4 * (w64 (e_6 + 1)))),(w64 (t_5 + 1))))) (some (.done n_4)))

noncomputable def spec_cbCount (p_sizes : List Int) : Option (Int) :=
 (((cond (decide (4 < (goLen p_sizes))) (some true) ((spec_l1All p_sizes 1 30).bind fun t_2=>some (!t_2))) : Option (Bool)).bind fun t_3=>(cond t_3 (some 0) ((loopC (spec_cbCount_l1 p_sizes) (1,0)).bind fun n_8=>(cond (decide (2000 < n_8)) (some 0) (some n_8)))))

noncomputable def spec_gUp_l1 (p_g : impl_Geo) (p_level : Int) : Int × Int→Option (Stp (Int × Int) (Int × Int))
 | (i_4,d_5)=>(cond (decide (p_level < d_5)) ((goAt p_g.Parents i_4).bind fun e_6=>some (.next (e_6,(w64 (d_5 - 1))))) (some (.done (i_4,d_5))))

noncomputable def spec_gUp (p_g : impl_Geo) (p_i : Int) (p_level : Int) : Option (Int) :=
 ((spec_gDepth p_g p_i).bind fun t_3=>(cond (decide (p_level < 0)) (some (-1)) ((loopC (spec_gUp_l1 p_g p_level) (p_i,t_3)).bind fun (i_8,d_9)=>(cond (decide (d_9 < p_level)) (some (-1)) (some i_8)))))

noncomputable def spec_uMeets_l1 (p_t : impl_Table) (p_values : List Int) (t_5 : Int) : Option (Stp (Int) ((Unit) ⊕ (Bool))) :=
 (cond (decide (t_5 < (goLen p_t.Where))) ((goAt p_t.Where t_5).bind fun e_6=>(((cond (e_6 != 0) ((goAt p_values t_5).bind fun e_8=>((goShr .i64 e_6 (IntKind.wrap .u64 e_8)).bind fun t_10=>some ((goBits .and .i64 t_10 1) == 0))) (some false)) : Option (Bool)).bind fun t_11=>(cond t_11 (some (.done (.inr false))) (some (.next (w64 (t_5 + 1))))))) (some (.done (.inl ()))))

noncomputable def spec_uMeets (p_t : impl_Table) (p_values : List Int) : Option (Bool) :=
 ((loopC (spec_uMeets_l1 p_t p_values) 0).bind fun | .inl ()=>some true | .inr o=>some o)

noncomputable def spec_l1Find_l1 (p_l : List Int) (p_n : Int) (t_2 : Int) : Option (Stp (Int) ((Unit) ⊕ (Int))) :=
 (cond (decide (t_2 < (goLen p_l))) ((goAt p_l t_2).bind fun e_3=>(cond (e_3 == p_n) (some (.done (.inr t_2))) (some (.next (w64 (t_2 + 1)))))) (some (.done (.inl ()))))

noncomputable def spec_l1Find (p_l : List Int) (p_n : Int) : Option (Int) :=
 ((loopC (spec_l1Find_l1 p_l p_n) 0).bind fun | .inl ()=>some (-1) | .inr o=>some o)

noncomputable def spec_sPick_l1 (p_values : List Int) (p_vars : List Int) : (List Int) × Int→Option (Stp ((List Int) × Int) ((List Int)))
 | (out_3,t_5)=>(cond (decide (t_5 < (goLen p_vars))) ((goAt p_vars t_5).bind fun e_6=>((goAt p_values e_6).bind fun e_8=>((goApp 8 out_3 ([e_8] : List Int)).bind fun l_11=>some (.next (l_11,(w64 (t_5 + 1))))))) (some (.done out_3)))

noncomputable def spec_sPick (p_values : List Int) (p_vars : List Int) : Option ((List Int)) :=
 ((loopC (spec_sPick_l1 p_values p_vars) (([] : List Int),0)).bind fun out_13=>some out_13)

noncomputable def spec_sIndex_l1 (p_s : List impl_Variable) (p_values : List Int) : Int × Int→Option (Stp (Int × Int) (Int))
 | (n_3,t_4)=>(cond (decide (t_4 < (goLen p_s))) ((goAt p_s t_4).bind fun e_5=>((goAt p_values t_4).bind fun e_8=>some (.next ((w64 ((w64 (n_3 * e_5.Levels)) + e_8)),(w64 (t_4 + 1)))))) (some (.done n_3)))

noncomputable def spec_sIndex (p_s : List impl_Variable) (p_values : List Int) : Option (Int) :=
 ((loopC (spec_sIndex_l1 p_s p_values) (0,0)).bind fun n_10=>some n_10)

noncomputable def spec_uCell (p_g : impl_Geo) (p_s : List impl_Variable) (p_t : impl_Table) (p_r : impl_Record) : Option (Int × Int) :=
 ((spec_gUp p_g p_r.Area p_t.Level).bind fun t_9=>(((cond (decide (t_9 < 0)) (some true) ((spec_uMeets p_t p_r.Values).bind fun t_10=>some (!t_10))) : Option (Bool)).bind fun t_11=>(cond t_11 (some (-1,0)) ((spec_sPart p_s p_t.Vars).bind fun t_12=>((spec_gLevel p_g p_t.Level).bind fun t_36=>((spec_l1Find t_36 t_9).bind fun t_39=>((spec_sCount t_12).bind fun t_41=>((spec_sPick p_r.Values p_t.Vars).bind fun t_43=>((spec_sIndex t_12 t_43).bind fun t_46=>(cond (decide (p_t.Sum < 0)) (some ((w64 ((w64 (t_39 * t_41)) + t_46)),1)) ((goAt p_r.Values p_t.Sum).bind fun e_48=>some ((w64 ((w64 (t_39 * t_41)) + t_46)),e_48))))))))))))

noncomputable def spec_uTable_l1 (p_g : impl_Geo) (p_s : List impl_Variable) (p_t : impl_Table) (p_l : List impl_Record) : (List Int) × Int→Option (Stp ((List Int) × Int) ((List Int)))
 | (out_11,t_13)=>(cond (decide (t_13 < (goLen p_l))) ((goAt p_l t_13).bind fun e_14=>((spec_uCell p_g p_s p_t e_14).bind fun t_18=>(((cond (decide (0 ≤ t_18.1)) ((goAt out_11 t_18.1).bind fun e_19=>((goAt out_11 t_18.1).bind fun e_21=>some (goSet out_11 t_18.1 (w64 (e_19 + t_18.2))))) (some out_11)) : Option ((List Int))).bind fun out_24=>some (.next (out_24,(w64 (t_13 + 1))))))) (some (.done out_11)))

noncomputable def spec_uTable (p_g : impl_Geo) (p_s : List impl_Variable) (p_t : impl_Table) (p_l : List impl_Record) : Option ((List Int)) :=
 ((spec_uCount p_g p_s p_t).bind fun t_8=>((goMake 8 t_8 (0 : Int)).bind fun l_9=>((loopC (spec_uTable_l1 p_g p_s p_t p_l) (l_9,0)).bind fun out_26=>some out_26)))

noncomputable def spec_cbIndices_l1 (p_sizes : List Int) : Int × (List Int) × Int→Option (Stp (Int × (List Int) × Int) ((List Int)))
 | (i_4,out_5,d_7)=>(cond (decide (0 ≤ d_7)) ((goAt p_sizes d_7).bind fun e_8=>((goRem i_4 (w64 (e_8 + 1))).bind fun t_10=>((goAt out_5 d_7).bind fun e_11=>((goAt p_sizes d_7).bind fun e_14=>((goQuo .i64 i_4 (w64 (e_14 + 1))).bind fun t_16=>some (.next (t_16,goSet out_5 d_7 t_10,(w64 (d_7 - 1))))))))) (some (.done out_5)))

noncomputable def spec_cbIndices (p_sizes : List Int) (p_i : Int) : Option ((List Int)) :=
 ((goMake 8 (goLen p_sizes) (0 : Int)).bind fun l_2=>((loopC (spec_cbIndices_l1 p_sizes) (p_i,l_2,(w64 ((goLen p_sizes) - 1)))).bind fun out_17=>some out_17))

noncomputable def spec_cbBase_l2 (p_sizes : List Int) (t_6 : List Int) : Bool × Int→Option (Stp (Bool × Int) (Bool))
 | (base_9,t_10)=>(cond (decide (t_10 < (goLen t_6))) ((goAt t_6 t_10).bind fun e_11=>(((cond base_9 ((goAt p_sizes t_10).bind fun e_13=>some (decide (e_11 < e_13))) (some false)) : Option (Bool)).bind fun base_15=>some (.next (base_15,(w64 (t_10 + 1)))))) (some (.done base_9)))

noncomputable def spec_cbBase_l1 (p_sizes : List Int) : (List Int) × Int→Option (Stp ((List Int) × Int) ((List Int)))
 | (out_2,i_4)=>((spec_cbCount p_sizes).bind fun t_5=>(cond (decide (i_4 < t_5)) ((spec_cbIndices p_sizes i_4).bind fun t_6=>((loopC (spec_cbBase_l2 p_sizes t_6) (true,0)).bind fun base_16=>(((cond base_16 ((goApp 8 out_2 ([i_4] : List Int)).bind fun l_18=>some l_18) (some out_2)) : Option ((List Int))).bind fun out_20=>some (.next (out_20,(w64 (i_4 + 1))))))) (some (.done out_2))))

noncomputable def spec_cbBase (p_sizes : List Int) : Option ((List Int)) :=
 ((loopC (spec_cbBase_l1 p_sizes) (([] : List Int),0)).bind fun out_22=>some out_22)

noncomputable def spec_cbAt_l1 (p_sizes : List Int) (p_index : List Int) : Int × Int→Option (Stp (Int × Int) (Int))
 | (n_3,t_4)=>(cond (decide (t_4 < (goLen p_sizes))) ((goAt p_sizes t_4).bind fun e_5=>((goAt p_index t_4).bind fun e_7=>some (.next ((w64 ((w64 (n_3 * (w64 (e_5 + 1)))) + e_7)),(w64 (t_4 + 1)))))) (some (.done n_3)))

noncomputable def spec_cbAt (p_sizes : List Int) (p_index : List Int) : Option (Int) :=
 ((loopC (spec_cbAt_l1 p_sizes p_index) (0,0)).bind fun n_9=>some n_9)

noncomputable def spec_cbOf_l3 (p_sizes : List Int) (mask_23 : Int) (t_28 : List Int) : (List Int) × Int→Option (Stp ((List Int) × Int) ((List Int)))
 | (at_32,t_34)=>(cond (decide (t_34 < (goLen t_28))) ((goShr .i64 mask_23 (IntKind.wrap .u64 t_34)).bind fun t_35=>(((cond ((goBits .and .i64 t_35 1) == 1) ((goAt p_sizes t_34).bind fun e_36=>((goAt at_32 t_34).bind fun e_38=>some (goSet at_32 t_34 e_36))) (some at_32)) : Option ((List Int))).bind fun at_41=>some (.next (at_41,(w64 (t_34 + 1)))))) (some (.done at_32)))

noncomputable def spec_cbOf_l2 (p_sizes : List Int) (p_base : List Int) (t_14 : Int) (t_20 : List Int) : Int × impl_Cube→Option (Stp (Int × impl_Cube) (impl_Cube))
 | (mask_23,c_24)=>((goShl .i64 1 (IntKind.wrap .u64 (goLen p_sizes))).bind fun t_27=>(cond (decide (mask_23 < t_27)) ((spec_l1Own t_20).bind fun t_28=>((loopC (spec_cbOf_l3 p_sizes mask_23 t_28) (t_28,0)).bind fun at_43=>((goAt p_base t_14).bind fun e_51=>((spec_cbAt p_sizes at_43).bind fun t_55=>((goAt c_24.Cells t_55).bind fun e_57=>((goAt c_24.Cells t_55).bind fun e_59=>some (.next ((w64 (mask_23 + 1)),(impl_Cube.mk c_24.Sizes (goSet c_24.Cells t_55 (w64 (e_57 + e_51)))))))))))) (some (.done c_24))))

noncomputable def spec_cbOf_l1 (p_sizes : List Int) (p_base : List Int) (t_11 : List Int) : Int × impl_Cube→Option (Stp (Int × impl_Cube) (impl_Cube))
 | (t_14,c_15)=>(cond (decide (t_14 < (goLen t_11))) ((goAt t_11 t_14).bind fun e_18=>((spec_cbIndices p_sizes e_18).bind fun t_20=>((loopC (spec_cbOf_l2 p_sizes p_base t_14 t_20) (0,c_15)).bind fun c_62=>some (.next ((w64 (t_14 + 1)),c_62))))) (some (.done c_15)))

noncomputable def spec_cbOf (p_sizes : List Int) (p_base : List Int) : Option (impl_Cube) :=
 ((spec_l1Own p_sizes).bind fun t_4=>((spec_cbCount p_sizes).bind fun t_7=>((goMake 8 t_7 (0 : Int)).bind fun l_8=>((spec_cbBase p_sizes).bind fun t_11=>((loopC (spec_cbOf_l1 p_sizes p_base t_11) (0,(impl_Cube.mk t_4 l_8))).bind fun c_65=>some c_65)))))

noncomputable def spec_cbForm (p_c : impl_Cube) : Option (Bool) :=
 ((spec_cbCount p_c.Sizes).bind fun t_4=>(((cond (decide (0 < t_4)) (cond ((goLen p_c.Cells) == t_4) ((spec_l1All p_c.Cells (-1000000) 1000000).bind fun t_5=>some t_5) (some false)) (some false)) : Option (Bool)).bind fun t_6=>some t_6))

noncomputable def spec_cbParts_l1 (p_sizes : List Int) (p_d : Int) : (List Int) × (List Int) × Int→Option (Stp ((List Int) × (List Int) × Int) ((List Int)))
 | (index_5,out_7,k_9)=>((goAt p_sizes p_d).bind fun e_10=>(cond (decide (k_9 < e_10)) ((goAt index_5 p_d).bind fun e_12=>((spec_cbAt p_sizes (goSet index_5 p_d k_9)).bind fun t_15=>((goApp 8 out_7 ([t_15] : List Int)).bind fun l_18=>some (.next (goSet index_5 p_d k_9,l_18,(w64 (k_9 + 1))))))) (some (.done out_7))))

noncomputable def spec_cbParts (p_sizes : List Int) (p_i : Int) (p_d : Int) : Option ((List Int)) :=
 ((spec_cbIndices p_sizes p_i).bind fun t_2=>((loopC (spec_cbParts_l1 p_sizes p_d) (t_2,([] : List Int),0)).bind fun out_20=>some out_20))

noncomputable def spec_cbBroken_l2 (p_c : impl_Cube) (t_12 : List Int) : Int × Int→Option (Stp (Int × Int) (Int))
 | (sum_15,t_16)=>(cond (decide (t_16 < (goLen t_12))) ((goAt t_12 t_16).bind fun e_17=>((goAt p_c.Cells e_17).bind fun e_19=>some (.next ((w64 (sum_15 + e_19)),(w64 (t_16 + 1)))))) (some (.done sum_15)))

noncomputable def spec_cbBroken_l1 (p_c : impl_Cube) (p_i : Int) (t_4 : List Int) (t_7 : Int) : Option (Stp (Int) ((Unit) ⊕ (Bool))) :=
 (cond (decide (t_7 < (goLen t_4))) ((((goAt t_4 t_7).bind fun e_8=>((goAt p_c.Sizes t_7).bind fun e_10=>(cond (e_8 != e_10) (some (.inl ())) ((spec_cbParts p_c.Sizes p_i t_7).bind fun t_12=>((loopC (spec_cbBroken_l2 p_c t_12) (0,0)).bind fun sum_21=>((goAt p_c.Cells p_i).bind fun e_22=>(cond (sum_21 != e_22) (some (.inr (.done (.inr true)))) (some (.inl ()))))))))) : Option ((Unit) ⊕ (Stp (Int) ((Unit) ⊕ (Bool))))).bind fun | .inl ()=>some (.next (w64 (t_7 + 1))) | .inr o=>some o) (some (.done (.inl ()))))

noncomputable def spec_cbBroken (p_c : impl_Cube) (p_i : Int) : Option (Bool) :=
 ((spec_cbIndices p_c.Sizes p_i).bind fun t_4=>((loopC (spec_cbBroken_l1 p_c p_i t_4) 0).bind fun | .inl ()=>some false | .inr o=>some o))

noncomputable def spec_cbFirst_l1 (p_c : impl_Cube) (t_4 : Int) : Option (Stp (Int) ((Unit) ⊕ (Int))) :=
 (cond (decide (t_4 < (goLen p_c.Cells))) ((spec_cbBroken p_c t_4).bind fun t_5=>(cond t_5 (some (.done (.inr t_4))) (some (.next (w64 (t_4 + 1)))))) (some (.done (.inl ()))))

noncomputable def spec_cbFirst (p_c : impl_Cube) : Option (Int) :=
 ((loopC (spec_cbFirst_l1 p_c) 0).bind fun | .inl ()=>some (goLen p_c.Cells) | .inr o=>some o)

noncomputable def spec_cbGood (p_c : impl_Cube) : Option (Bool) :=
 ((((spec_cbForm p_c).bind fun t_4=>(cond t_4 ((spec_cbFirst p_c).bind fun t_8=>some (t_8 == (goLen p_c.Cells))) (some false))) : Option (Bool)).bind fun t_9=>some t_9)

noncomputable def spec_cbIf (p_c : impl_Cube) : Option (impl_Cube × Bool) :=
 ((spec_cbGood p_c).bind fun t_5=>(cond (!t_5) (some ((impl_Cube.mk ([] : List Int) ([] : List Int)),false)) (some (p_c,true))))

noncomputable def spec_CubeOfTable (p_g : impl_Geo) (p_s : List impl_Variable) (p_t : impl_Table) (p_l : List impl_Record) : Option (impl_Cube × Bool) :=
 ((((spec_uGood p_g p_s p_t).bind fun t_9=>(cond (!t_9) (some true) ((spec_uSurvey p_g p_s p_l).bind fun t_10=>(cond (!t_10) (some true) ((spec_cbSizes p_g p_s p_t).bind fun t_11=>((spec_cbCount t_11).bind fun t_14=>some (t_14 == 0))))))) : Option (Bool)).bind fun t_16=>(cond t_16 (some ((impl_Cube.mk ([] : List Int) ([] : List Int)),false)) ((spec_cbSizes p_g p_s p_t).bind fun t_29=>((spec_uTable p_g p_s p_t p_l).bind fun t_32=>((spec_cbOf t_29 t_32).bind fun t_35=>((spec_cbIf t_35).bind fun t_42=>some (t_42.1,t_42.2)))))))

noncomputable def spec_l1Cur_sizes_l1  : (List Int) × Int × spec_l1Cur→Option (Stp ((List Int) × Int × spec_l1Cur) ((List Int) × spec_l1Cur))
 | (out_5,k_7,p_c_8)=>(cond (decide (0 < k_7)) ((spec_l1Cur_pick p_c_8 4).bind fun t_11=>((goApp 8 out_5 ([(w64 (1 + t_11.1))] : List Int)).bind fun l_14=>some (.next (l_14,(w64 (k_7 - 1)),t_11.2)))) (some (.done (out_5,p_c_8))))

noncomputable def spec_l1Cur_sizes (p_c : spec_l1Cur) : Option ((List Int) × spec_l1Cur) :=
 ((spec_l1Cur_pick p_c 4).bind fun t_3=>((loopC (spec_l1Cur_sizes_l1) (([] : List Int),t_3.1,t_3.2)).bind fun (out_16,p_c_18)=>((spec_l1Cur_pick p_c_18 24).bind fun t_21=>(((cond (t_21.1 == 0) ((spec_l1Cur_among t_21.2 ([0,30,31] : List Int)).bind fun t_45=>((goApp 8 out_16 ([t_45.1] : List Int)).bind fun l_48=>some (.inl (l_48,t_45.2)))) (cond (t_21.1 == 1) ((spec_l1Cur_pick t_21.2 3).bind fun t_38=>((goSub ([2,2,2,2,2] : List Int) 0 (w64 (3 + t_38.1))).bind fun l_40=>some (.inr (l_40,t_38.2)))) (cond (t_21.1 == 2) (some (.inr (([11,12,13] : List Int),t_21.2))) (cond (t_21.1 == 3) ((spec_l1Cur_pick t_21.2 2).bind fun t_29=>((goAt ([([24,19,3] : List Int),([2,22,28] : List Int)] : List (List Int)) t_29.1).bind fun e_31=>some (.inr (e_31,t_29.2)))) (some (.inl (out_16,t_21.2))))))) : Option (((List Int) × spec_l1Cur) ⊕ ((List Int) × spec_l1Cur))).bind fun | .inl (out_50,p_c_52)=>some (out_50,p_c_52) | .inr o=>some o))))

noncomputable def spec_l1Least (p_a : Int) (p_b : Int) : Option (Int) :=
 (cond (decide (p_a < p_b)) (some p_a) (some p_b))

noncomputable def spec_DrawPartsOf (p_code : List (K .u8)) : Option ((List Int) × Int) :=
 ((spec_l1Cur_sizes (spec_l1Cur.mk p_code 0 (⟨0⟩ : K .u64))).bind fun t_4=>((spec_cbCount t_4.1).bind fun t_7=>(((cond (decide (0 < t_7)) ((spec_l1Cur_one t_4.2 4).bind fun t_9=>some (!t_9.1,t_9.2)) (some (false,t_4.2))) : Option (Bool × spec_l1Cur)).bind fun (t_11,t_12)=>(cond t_11 ((spec_l1Least t_7 5).bind fun t_17=>((spec_l1Cur_pick t_12 t_17).bind fun t_19=>some (t_4.1,(w64 ((w64 (t_7 - 1)) - t_19.1))))) ((spec_l1Cur_pick t_12 (w64 (t_7 + 2))).bind fun t_15=>some (t_4.1,(w64 (t_15.1 - 1))))))))

noncomputable def impl_PartsOf_l2 (p_i : Int) (t_4 : List Int) (t_12 : Int) : (List Int) × Int→Option (Stp ((List Int) × Int) ((List Int)))
 | (part_18,k_20)=>(cond (decide (0 < k_20)) ((goAt t_4 t_12).bind fun e_21=>((goApp 8 part_18 ([(w64 (p_i - (w64 (k_20 * e_21))))] : List Int)).bind fun l_24=>some (.next (l_24,(w64 (k_20 - 1)))))) (some (.done part_18)))

noncomputable def impl_PartsOf_l1 (p_sizes : List Int) (p_i : Int) (t_4 : List Int) (t_7 : List Int) : (List (List Int)) × Int→Option (Stp ((List (List Int)) × Int) ((List (List Int))))
 | (out_10,t_12)=>(cond (decide (t_12 < (goLen t_7))) ((((goAt t_7 t_12).bind fun e_14=>((goAt p_sizes t_12).bind fun e_16=>(cond (e_14 != e_16) (some out_10) ((loopC (impl_PartsOf_l2 p_i t_4 t_12) (([] : List Int),e_14)).bind fun part_26=>((goApp 24 out_10 ([part_26] : List (List Int))).bind fun l_30=>some l_30))))) : Option ((List (List Int)))).bind fun out_32=>some (.next (out_32,(w64 (t_12 + 1))))) (some (.done out_10)))

noncomputable def impl_PartsOf (p_sizes : List Int) (p_i : Int) : Option ((List (List Int)) × Bool) :=
 (((cond (decide (p_i < 0)) (some true) ((impl_cubeCells p_sizes).bind fun t_2=>some (decide (t_2 ≤ p_i)))) : Option (Bool)).bind fun t_3=>(cond t_3 (some (([] : List (List Int)),false)) ((impl_strides p_sizes).bind fun t_4=>((impl_indexOf p_sizes p_i).bind fun t_7=>((loopC (impl_PartsOf_l1 p_sizes p_i t_4 t_7) (([] : List (List Int)),0)).bind fun out_35=>some (out_35,true))))))

noncomputable def spec_PartsOf_l1 (p_sizes : List Int) (p_i : Int) (t_4 : List Int) : (List (List Int)) × Int→Option (Stp ((List (List Int)) × Int) ((List (List Int))))
 | (out_7,t_9)=>(cond (decide (t_9 < (goLen t_4))) ((goAt t_4 t_9).bind fun e_11=>((goAt p_sizes t_9).bind fun e_13=>(((cond (e_11 == e_13) ((spec_cbParts p_sizes p_i t_9).bind fun t_15=>((goApp 24 out_7 ([t_15] : List (List Int))).bind fun l_20=>some l_20)) (some out_7)) : Option ((List (List Int)))).bind fun out_22=>some (.next (out_22,(w64 (t_9 + 1))))))) (some (.done out_7)))

noncomputable def spec_PartsOf (p_sizes : List Int) (p_i : Int) : Option ((List (List Int)) × Bool) :=
 ((spec_cbCount p_sizes).bind fun t_2=>((spec_l1In p_i 0 (w64 (t_2 - 1))).bind fun t_3=>(cond (!t_3) (some (([] : List (List Int)),false)) ((spec_cbIndices p_sizes p_i).bind fun t_4=>((loopC (spec_PartsOf_l1 p_sizes p_i t_4) (([] : List (List Int)),0)).bind fun out_25=>some (out_25,true))))))

noncomputable def spec_l1Cur_baseCells_l1 (t_3 : List Int) : (List Int) × Int × spec_l1Cur→Option (Stp ((List Int) × Int × spec_l1Cur) ((List Int) × spec_l1Cur))
 | (out_6,t_8,p_c_9)=>(cond (decide (t_8 < (goLen t_3))) ((spec_l1Cur_pick p_c_9 12).bind fun t_12=>((spec_l1Cur_one t_12.2 6).bind fun t_15=>(((cond t_15.1 ((spec_l1Cur_pick t_15.2 4).bind fun t_18=>some ((w64 (-t_18.1)),t_18.2)) (some (t_12.1,t_15.2))) : Option (Int × spec_l1Cur)).bind fun (x_20,p_c_21)=>((goApp 8 out_6 ([x_20] : List Int)).bind fun l_24=>some (.next (l_24,(w64 (t_8 + 1)),p_c_21)))))) (some (.done (out_6,p_c_9))))

noncomputable def spec_l1Cur_baseCells (p_c : spec_l1Cur) (p_sizes : List Int) : Option ((List Int) × spec_l1Cur) :=
 ((spec_cbBase p_sizes).bind fun t_3=>((loopC (spec_l1Cur_baseCells_l1 t_3) (([] : List Int),0,p_c)).bind fun (out_26,p_c_28)=>some (out_26,p_c_28)))

noncomputable def spec_l1Cur_cube (p_c : spec_l1Cur) : Option (impl_Cube × spec_l1Cur) :=
 ((spec_l1Cur_sizes p_c).bind fun t_4=>((spec_cbCount t_4.1).bind fun t_7=>(cond (t_7 == 0) (some ((impl_Cube.mk t_4.1 ([1] : List Int)),t_4.2)) ((spec_l1Cur_baseCells t_4.2 t_4.1).bind fun t_9=>((spec_cbOf t_4.1 t_9.1).bind fun t_12=>((spec_l1Cur_pick t_9.2 16).bind fun t_19=>(((cond (t_19.1 == 0) ((spec_l1Cur_pick t_19.2 (goLen t_12.Cells)).bind fun t_42=>((goAt t_12.Cells t_42.1).bind fun e_44=>((goAt t_12.Cells t_42.1).bind fun e_46=>some (t_42.2,(impl_Cube.mk t_12.Sizes (goSet t_12.Cells t_42.1 (w64 (e_44 + 1)))))))) (((cond (t_19.1 == 1) ((goApp 8 t_12.Cells ([0] : List Int)).bind fun l_34=>some (t_19.2,(impl_Cube.mk t_12.Sizes l_34))) (((cond (t_19.1 == 2) ((spec_l1Cur_among t_19.2 ([1000000,1000001,-1000000] : List Int)).bind fun t_23=>((goAt t_12.Cells 0).bind fun e_25=>some (t_23.2,(impl_Cube.mk t_12.Sizes (goSet t_12.Cells 0 t_23.1))))) (some (t_19.2,t_12))) : Option (spec_l1Cur × impl_Cube)).bind fun (p_c_28,x_30)=>some (p_c_28,x_30))) : Option (spec_l1Cur × impl_Cube)).bind fun (p_c_36,x_38)=>some (p_c_36,x_38))) : Option (spec_l1Cur × impl_Cube)).bind fun (p_c_49,x_51)=>some (x_51,p_c_49))))))))

noncomputable def spec_DrawDifferenceOf (p_code : List (K .u8)) : Option (impl_Cube × impl_Cube) :=
 ((spec_l1Cur_cube (spec_l1Cur.mk p_code 0 (⟨0⟩ : K .u64))).bind fun t_6=>((((spec_cbCount t_6.1.Sizes).bind fun t_11=>(cond (decide (0 < t_11)) ((spec_l1Cur_one t_6.2 5).bind fun t_13=>some (!t_13.1,t_13.2)) (some (false,t_6.2)))) : Option (Bool × spec_l1Cur)).bind fun (t_15,t_16)=>(cond t_15 ((spec_l1Cur_baseCells t_16 t_6.1.Sizes).bind fun t_24=>((spec_cbOf t_6.1.Sizes t_24.1).bind fun t_27=>some (t_6.1,t_27))) ((spec_l1Cur_cube t_16).bind fun t_19=>some (t_6.1,t_19.1)))))

noncomputable def impl_hasRightForm (p_c : impl_Cube) : Option (Bool) :=
 ((impl_cubeCells p_c.Sizes).bind fun t_4=>(((cond (decide (0 < t_4)) (cond ((goLen p_c.Cells) == t_4) ((impl_areCubeValues p_c.Cells).bind fun t_5=>some t_5) (some false)) (some false)) : Option (Bool)).bind fun t_6=>some t_6))

noncomputable def impl_firstBreak_l3 (p_c : impl_Cube) (t_4 : List Int) (t_7 : Int) (t_13 : Int) (e_14 : Int) : Int × Int→Option (Stp (Int × Int) (Int))
 | (sum_18,k_19)=>(cond (decide (k_19 ≤ e_14)) ((goAt t_4 t_13).bind fun e_20=>((goAt p_c.Cells (w64 (t_7 - (w64 (k_19 * e_20))))).bind fun e_22=>some (.next ((w64 (sum_18 + e_22)),(w64 (k_19 + 1)))))) (some (.done sum_18)))

noncomputable def impl_firstBreak_l2 (p_c : impl_Cube) (t_4 : List Int) (t_7 : Int) (e_8 : Int) (t_10 : List Int) (t_13 : Int) : Option (Stp (Int) ((Unit) ⊕ (Stp (Int) ((Unit) ⊕ (Int))))) :=
 (cond (decide (t_13 < (goLen t_10))) ((((goAt t_10 t_13).bind fun e_14=>((goAt p_c.Sizes t_13).bind fun e_16=>(cond (e_14 != e_16) (some (.inl ())) ((loopC (impl_firstBreak_l3 p_c t_4 t_7 t_13 e_14) (0,1)).bind fun sum_24=>(cond (sum_24 != e_8) (some (.inr (.done (.inr (.done (.inr t_7)))))) (some (.inl ()))))))) : Option ((Unit) ⊕ (Stp (Int) ((Unit) ⊕ (Stp (Int) ((Unit) ⊕ (Int))))))).bind fun | .inl ()=>some (.next (w64 (t_13 + 1))) | .inr o=>some o) (some (.done (.inl ()))))

noncomputable def impl_firstBreak_l1 (p_c : impl_Cube) (t_4 : List Int) (t_7 : Int) : Option (Stp (Int) ((Unit) ⊕ (Int))) :=
 (cond (decide (t_7 < (goLen p_c.Cells))) ((goAt p_c.Cells t_7).bind fun e_8=>((impl_indexOf p_c.Sizes t_7).bind fun t_10=>((loopC (impl_firstBreak_l2 p_c t_4 t_7 e_8 t_10) 0).bind fun | .inl ()=>some (.next (w64 (t_7 + 1))) | .inr o=>some o))) (some (.done (.inl ()))))

noncomputable def impl_firstBreak (p_c : impl_Cube) : Option (Int) :=
 ((impl_strides p_c.Sizes).bind fun t_4=>((loopC (impl_firstBreak_l1 p_c t_4) 0).bind fun | .inl ()=>some (goLen p_c.Cells) | .inr o=>some o))

noncomputable def impl_IsCube (p_c : impl_Cube) : Option (Bool) :=
 ((((impl_hasRightForm p_c).bind fun t_4=>(cond t_4 ((impl_firstBreak p_c).bind fun t_8=>some (t_8 == (goLen p_c.Cells))) (some false))) : Option (Bool)).bind fun t_9=>some t_9)

noncomputable def slices_Equal_int_int_l1 (p_s1 : List Int) (p_s2 : List Int) (t_3 : Int) : Option (Stp (Int) ((Unit) ⊕ (Bool))) :=
 (cond (decide (t_3 < (goLen p_s1))) ((goAt p_s1 t_3).bind fun e_4=>((goAt p_s2 t_3).bind fun e_6=>(cond (e_4 != e_6) (some (.done (.inr false))) (some (.next (w64 (t_3 + 1))))))) (some (.done (.inl ()))))

noncomputable def slices_Equal_int_int (p_s1 : List Int) (p_s2 : List Int) : Option (Bool) :=
 (cond ((goLen p_s1) != (goLen p_s2)) (some false) ((loopC (slices_Equal_int_int_l1 p_s1 p_s2) 0).bind fun | .inl ()=>some true | .inr o=>some o))

noncomputable def impl_DifferenceOf_l1 (p_b : impl_Cube) : Int × impl_Cube→Option (Stp (Int × impl_Cube) (impl_Cube))
 | (t_31,out_32)=>(cond (decide (t_31 < (goLen p_b.Cells))) ((goAt p_b.Cells t_31).bind fun e_35=>((goAt out_32.Cells t_31).bind fun e_37=>((goAt out_32.Cells t_31).bind fun e_39=>some (.next ((w64 (t_31 + 1)),(impl_Cube.mk out_32.Sizes (goSet out_32.Cells t_31 (w64 (e_37 - e_35))))))))) (some (.done out_32)))

noncomputable def impl_DifferenceOf (p_a : impl_Cube) (p_b : impl_Cube) : Option (impl_Cube × Bool) :=
 ((((impl_IsCube p_a).bind fun t_8=>(cond (!t_8) (some true) ((impl_IsCube p_b).bind fun t_9=>(cond (!t_9) (some true) ((slices_Equal_int_int p_a.Sizes p_b.Sizes).bind fun t_10=>some (!t_10)))))) : Option (Bool)).bind fun t_11=>(cond t_11 (some ((impl_Cube.mk ([] : List Int) ([] : List Int)),false)) ((((slices_Clone_int_int p_a.Sizes).bind fun t_21=>((slices_Clone_int_int p_a.Cells).bind fun t_24=>some (impl_Cube.mk t_21 t_24))) : Option (impl_Cube)).bind fun out_28=>((loopC (impl_DifferenceOf_l1 p_b) (0,out_28)).bind fun out_42=>((impl_areCubeValues out_42.Cells).bind fun t_45=>(cond (!t_45) (some ((impl_Cube.mk ([] : List Int) ([] : List Int)),false)) (some (out_42,true))))))))

noncomputable def spec_l1Same_l1 (p_a : List Int) (p_b : List Int) (t_3 : Int) : Option (Stp (Int) ((Unit) ⊕ (Bool))) :=
 (cond (decide (t_3 < (goLen p_a))) ((goAt p_a t_3).bind fun e_4=>((goAt p_b t_3).bind fun e_6=>(cond (e_4 != e_6) (some (.done (.inr false))) (some (.next (w64 (t_3 + 1))))))) (some (.done (.inl ()))))

noncomputable def spec_l1Same (p_a : List Int) (p_b : List Int) : Option (Bool) :=
 (cond ((goLen p_a) != (goLen p_b)) (some false) ((loopC (spec_l1Same_l1 p_a p_b) 0).bind fun | .inl ()=>some true | .inr o=>some o))

noncomputable def spec_DifferenceOf_l1 (p_a : impl_Cube) (p_b : impl_Cube) : Int × impl_Cube→Option (Stp (Int × impl_Cube) (impl_Cube))
 | (t_16,out_17)=>(cond (decide (t_16 < (goLen p_a.Cells))) ((goAt p_a.Cells t_16).bind fun e_20=>((goAt p_b.Cells t_16).bind fun e_22=>((goApp 8 out_17.Cells ([(w64 (e_20 - e_22))] : List Int)).bind fun l_25=>some (.next ((w64 (t_16 + 1)),(impl_Cube.mk out_17.Sizes l_25)))))) (some (.done out_17)))

noncomputable def spec_DifferenceOf (p_a : impl_Cube) (p_b : impl_Cube) : Option (impl_Cube × Bool) :=
 ((((spec_cbGood p_a).bind fun t_8=>(cond (!t_8) (some true) ((spec_cbGood p_b).bind fun t_9=>(cond (!t_9) (some true) ((spec_l1Same p_a.Sizes p_b.Sizes).bind fun t_10=>some (!t_10)))))) : Option (Bool)).bind fun t_11=>(cond t_11 (some ((impl_Cube.mk ([] : List Int) ([] : List Int)),false)) ((spec_l1Own p_a.Sizes).bind fun t_12=>((loopC (spec_DifferenceOf_l1 p_a p_b) (0,(impl_Cube.mk t_12 ([] : List Int)))).bind fun out_27=>((spec_cbIf out_27).bind fun t_32=>some (t_32.1,t_32.2))))))

noncomputable def laws_qInts_l1 (p_a : List Int) (p_b : List Int) (t_3 : Int) : Option (Stp (Int) ((Unit) ⊕ (Bool))) :=
 (cond (decide (t_3 < (goLen p_a))) ((goAt p_a t_3).bind fun e_4=>((goAt p_b t_3).bind fun e_6=>(cond (e_4 != e_6) (some (.done (.inr false))) (some (.next (w64 (t_3 + 1))))))) (some (.done (.inl ()))))

noncomputable def laws_qInts (p_a : List Int) (p_b : List Int) : Option (Bool) :=
 (cond ((goLen p_a) != (goLen p_b)) (some false) ((loopC (laws_qInts_l1 p_a p_b) 0).bind fun | .inl ()=>some true | .inr o=>some o))

noncomputable def laws_qLists_l1 (p_a : List (List Int)) (p_b : List (List Int)) (t_3 : Int) : Option (Stp (Int) ((Unit) ⊕ (Bool))) :=
 (cond (decide (t_3 < (goLen p_a))) ((goAt p_a t_3).bind fun e_4=>((goAt p_b t_3).bind fun e_7=>((laws_qInts e_4 e_7).bind fun t_10=>(cond (!t_10) (some (.done (.inr false))) (some (.next (w64 (t_3 + 1)))))))) (some (.done (.inl ()))))

noncomputable def laws_qLists (p_a : List (List Int)) (p_b : List (List Int)) : Option (Bool) :=
 (cond ((goLen p_a) != (goLen p_b)) (some false) ((loopC (laws_qLists_l1 p_a p_b) 0).bind fun | .inl ()=>some true | .inr o=>some o))

noncomputable def impl_baseOf_l1 (p_c : impl_Cube) : (List Int) × Int→Option (Stp ((List Int) × Int) ((List Int)))
 | (base_4,t_6)=>(cond (decide (t_6 < (goLen p_c.Cells))) ((goAt p_c.Cells t_6).bind fun e_7=>((impl_indexOf p_c.Sizes t_6).bind fun t_9=>((impl_isBase p_c.Sizes t_9).bind fun t_12=>(((cond t_12 ((goApp 8 base_4 ([e_7] : List Int)).bind fun l_15=>some l_15) (some base_4)) : Option ((List Int))).bind fun base_17=>some (.next (base_17,(w64 (t_6 + 1)))))))) (some (.done base_4)))

noncomputable def impl_baseOf (p_c : impl_Cube) : Option ((List Int)) :=
 ((loopC (impl_baseOf_l1 p_c) (([] : List Int),0)).bind fun base_19=>some base_19)

noncomputable def impl_BaseOf (p_c : impl_Cube) : Option ((List Int) × Bool) :=
 ((impl_IsCube p_c).bind fun t_4=>(cond (!t_4) (some (([] : List Int),false)) ((impl_baseOf p_c).bind fun t_5=>some (t_5,true))))

noncomputable def impl_TableOf (p_g : impl_Geo) (p_s : List impl_Variable) (p_t : impl_Table) (p_l : List impl_Record) : Option ((List Int) × Bool) :=
 ((((impl_areTabled p_g p_s p_t).bind fun t_8=>(cond (!t_8) (some true) ((impl_isSurvey p_g p_s p_l).bind fun t_9=>some (!t_9)))) : Option (Bool)).bind fun t_10=>(cond t_10 (some (([] : List Int),false)) ((impl_tableOf p_g p_s p_t p_l).bind fun t_11=>some (t_11,true))))

noncomputable def laws_FnTotals_l3 (c_76 : impl_Cube) (e_86 : List Int) : Int × Int→Option (Stp (Int × Int) ((Int) ⊕ (Stp (Int) ((Unit) ⊕ (Stp (Int × impl_Cube) ((Unit) ⊕ (Bool)))))))
 | (sum_89,t_90)=>(cond (decide (t_90 < (goLen e_86))) ((goAt e_86 t_90).bind fun e_91=>(((cond (decide (e_91 < 0)) (some true) (some (decide ((goLen c_76.Cells) ≤ e_91)))) : Option (Bool)).bind fun t_93=>(cond t_93 (some (.done (.inr (.done (.inr (.done (.inr false))))))) ((goAt c_76.Cells e_91).bind fun e_94=>some (.next ((w64 (sum_89 + e_94)),(w64 (t_90 + 1)))))))) (some (.done (.inl sum_89))))

noncomputable def laws_FnTotals_l2 (c_76 : impl_Cube) (e_80 : Int) (t_82 : (List (List Int)) × Bool) (t_85 : Int) : Option (Stp (Int) ((Unit) ⊕ (Stp (Int × impl_Cube) ((Unit) ⊕ (Bool))))) :=
 (cond (decide (t_85 < (goLen t_82.1))) ((goAt t_82.1 t_85).bind fun e_86=>((loopC (laws_FnTotals_l3 c_76 e_86) (0,0)).bind fun | .inl sum_96=>(cond (sum_96 != e_80) (some (.done (.inr (.done (.inr false))))) (some (.next (w64 (t_85 + 1))))) | .inr o=>some o)) (some (.done (.inl ()))))

noncomputable def laws_FnTotals_l1 (t_16 : impl_Cube × Bool) : Int × impl_Cube→Option (Stp (Int × impl_Cube) ((Unit) ⊕ (Bool)))
 | (t_75,c_76)=>(cond (decide (t_75 < (goLen t_16.1.Cells))) ((goAt t_16.1.Cells t_75).bind fun e_80=>((impl_PartsOf c_76.Sizes t_75).bind fun t_82=>(cond (!t_82.2) (some (.done (.inr false))) ((loopC (laws_FnTotals_l2 c_76 e_80 t_82) 0).bind fun | .inl ()=>some (.next ((w64 (t_75 + 1)),c_76)) | .inr o=>some o)))) (some (.done (.inl ()))))

noncomputable def laws_FnTotals (p_code : List (K .u8)) (p_more : List (K .u8)) : Option (Bool) :=
 (cond (decide (1048576 < (w64 ((goLen p_code) + (goLen p_more))))) (some true) ((spec_DrawCubeOfTable p_code).bind fun t_3=>((impl_CubeOfTable t_3.1 t_3.2.1 t_3.2.2.1 t_3.2.2.2).bind fun t_16=>((spec_CubeOfTable t_3.1 t_3.2.1 t_3.2.2.1 t_3.2.2.2).bind fun t_21=>((spec_DrawPartsOf p_more).bind fun t_26=>((impl_PartsOf t_26.1 t_26.2).bind fun t_29=>((spec_PartsOf t_26.1 t_26.2).bind fun t_32=>((spec_DrawDifferenceOf p_more).bind fun t_35=>((impl_DifferenceOf t_35.1 t_35.2).bind fun t_43=>((spec_DifferenceOf t_35.1 t_35.2).bind fun t_51=>(((cond (t_16.2 != t_21.2) (some true) ((laws_qInts t_16.1.Sizes t_21.1.Sizes).bind fun t_56=>(cond (!t_56) (some true) ((laws_qInts t_16.1.Cells t_21.1.Cells).bind fun t_58=>(cond (!t_58) (some true) (cond (t_29.2 != t_32.2) (some true) ((laws_qLists t_29.1 t_32.1).bind fun t_60=>(cond (!t_60) (some true) (cond (t_43.2 != t_51.2) (some true) ((laws_qInts t_43.1.Cells t_51.1.Cells).bind fun t_62=>some (!t_62))))))))))) : Option (Bool)).bind fun t_64=>(cond t_64 (some false) (cond (!t_16.2) (some true) ((impl_BaseOf t_16.1).bind fun t_65=>((impl_TableOf t_3.1 t_3.2.1 t_3.2.2.1 t_3.2.2.2).bind fun t_69=>(((cond (!t_65.2) (some true) (cond (!t_69.2) (some true) ((laws_qInts t_65.1 t_69.1).bind fun t_72=>some (!t_72)))) : Option (Bool)).bind fun t_74=>(cond t_74 (some false) ((loopC (laws_FnTotals_l1 t_16) (0,t_16.1)).bind fun | .inl ()=>some true | .inr o=>some o))))))))))))))))))

end Go.Gx.F
