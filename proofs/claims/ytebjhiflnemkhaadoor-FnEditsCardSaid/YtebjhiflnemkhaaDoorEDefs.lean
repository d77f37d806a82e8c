/- The plain functions that the walks come to. -/
import Derived.Lib.ItoaNum
import Derived.Lib.Join
import Derived.Lib.IndexMore
import Derived.Test.YtebjhiflnemkhaaDoorGy
namespace Go.Gx.F
open Go.Gx
set_option linter.all false

structure spec_l1Cur where
  code : List (K .u8)
  at_ : Int
  seed : K .u64

instance : Rep spec_l1Cur where
  wd := 3
  rd m cs x := ∃ s1 : Sl, cs = [s1.v, (.int .i64 x.at_), (.int .u64 x.seed.v)] ∧ Rd m s1 x.code
  mono hm h := by
    obtain ⟨s1, rfl, h1⟩ := h
    exact ⟨s1, rfl, h1.mono hm⟩
  len h := by obtain ⟨s1, rfl, _⟩ := h; rfl
  one h := by obtain ⟨s1, rfl, _⟩ := h; rfl

instance : Rng spec_l1Cur := ⟨fun x => Rng.ok x.code ∧ Rng.ok x.at_ ∧ Rng.ok x.seed⟩

structure impl_Variable where
  Name : List UInt8
  Levels : Int

instance : Rep impl_Variable where
  wd := 2
  rd m cs x := cs = [(strV x.Name), (.int .i64 x.Levels)]
  mono _ h := h
  len h := by subst h; rfl
  one h := by subst h; rfl

instance : Flat impl_Variable := ⟨fun h => h⟩

instance : Rng impl_Variable := ⟨fun x => Rng.ok x.Name ∧ Rng.ok x.Levels⟩

structure impl_Edit where
  Sets : List Int

instance : Rep impl_Edit where
  wd := 1
  rd m cs x := ∃ s1 : Sl, cs = [s1.v] ∧ Rd m s1 x.Sets
  mono hm h := by
    obtain ⟨s1, rfl, h1⟩ := h
    exact ⟨s1, rfl, h1.mono hm⟩
  len h := by obtain ⟨s1, rfl, _⟩ := h; rfl
  one h := by obtain ⟨s1, rfl, _⟩ := h; rfl

instance : Rng impl_Edit := ⟨fun x => Rng.ok x.Sets⟩

noncomputable def laws_big (p_code : List (K .u8)) (p_more : List (K .u8)) : Option (Bool) :=
  (((cond (decide (1048576 < (goLen p_code))) (some true) (some (decide ((w64 (1048576 - (goLen p_code))) < (goLen p_more))))) : Option (Bool)).bind fun t_3 => some t_3)

noncomputable def spec_l1Cur_next (p_c : spec_l1Cur) : Option (Int × spec_l1Cur) :=
  (((cond (decide (p_c.at_ < (goLen p_c.code))) ((goAt p_c.code p_c.at_).bind fun e_2 => some (w64 e_2.v)) (some 0)) : Option (Int)).bind fun b_4 => (cond (decide ((w64 (p_c.at_ + 1)) ≤ (goLen p_c.code))) (some (b_4, (spec_l1Cur.mk p_c.code (w64 (p_c.at_ + 1)) (⟨(IntKind.wrap .u64 ((IntKind.wrap .u64 ((IntKind.wrap .u64 (p_c.seed.v * 6364136223846793005)) + (IntKind.wrap .u64 b_4))) + 1442695040888963407))⟩ : K .u64)))) ((goShr .u64 (IntKind.wrap .u64 ((IntKind.wrap .u64 ((IntKind.wrap .u64 (p_c.seed.v * 6364136223846793005)) + (IntKind.wrap .u64 b_4))) + 1442695040888963407)) 40).bind fun t_5 => some ((w64 (goBits .and .u64 t_5 255)), (spec_l1Cur.mk p_c.code (w64 (p_c.at_ + 1)) (⟨(IntKind.wrap .u64 ((IntKind.wrap .u64 ((IntKind.wrap .u64 (p_c.seed.v * 6364136223846793005)) + (IntKind.wrap .u64 b_4))) + 1442695040888963407))⟩ : K .u64))))))

noncomputable def spec_l1Cur_pick (p_c : spec_l1Cur) (p_n : Int) : Option (Int × spec_l1Cur) :=
  (cond (decide (p_n ≤ 1)) (some (0, p_c)) ((spec_l1Cur_next p_c).bind fun t_3 => (((cond (decide (200 < p_n)) ((spec_l1Cur_next t_3.2).bind fun t_6 => some ((w64 ((w64 (t_3.1 * 256)) + t_6.1)), t_6.2)) (some (t_3.1, t_3.2))) : Option (Int × spec_l1Cur)).bind fun (x_8, p_c_9) => ((goRem x_8 p_n).bind fun t_11 => some (t_11, p_c_9)))))

noncomputable def spec_l1Cur_schema_l1  : (List impl_Variable) × Int × spec_l1Cur → Option (Stp ((List impl_Variable) × Int × spec_l1Cur) ((List impl_Variable) × spec_l1Cur))
  | (out_3, k_5, p_c_6) => ((spec_l1Cur_pick p_c_6 3).bind fun t_9 => (cond (decide (k_5 < (w64 (1 + t_9.1)))) ((((goAt ([([115, 101, 120] : List UInt8), ([97, 103, 101] : List UInt8), ([106, 111, 98] : List UInt8), ([104, 111, 109, 101] : List UInt8), ([115, 105, 122, 101] : List UInt8), ([108, 97, 110, 103] : List UInt8)] : List (List UInt8)) k_5).bind fun e_11 => ((spec_l1Cur_pick t_9.2 3).bind fun t_17 => ((goApp 24 out_3 ([(impl_Variable.mk e_11 (w64 (2 + t_17.1)))] : List impl_Variable)).bind fun l_20 => some (l_20, t_17.2)))) : Option ((List impl_Variable) × spec_l1Cur)).bind fun (out_22, p_c_24) => some (.next (out_22, (w64 (k_5 + 1)), p_c_24))) (some (.done (out_3, t_9.2)))))

noncomputable def spec_l1Cur_schema (p_c : spec_l1Cur) : Option ((List impl_Variable) × spec_l1Cur) :=
  ((loopC (spec_l1Cur_schema_l1) (([] : List impl_Variable), 0, p_c)).bind fun (out_26, p_c_28) => some (out_26, p_c_28))

noncomputable def spec_l1Cur_among (p_c : spec_l1Cur) (p_list : List Int) : Option (Int × spec_l1Cur) :=
  ((spec_l1Cur_pick p_c (goLen p_list)).bind fun t_4 => ((goAt p_list t_4.1).bind fun e_6 => some (e_6, t_4.2)))

noncomputable def spec_l1Cur_of (p_c : spec_l1Cur) (p_list : List (List UInt8)) : Option ((List UInt8) × spec_l1Cur) :=
  ((spec_l1Cur_pick p_c (goLen p_list)).bind fun t_4 => ((goAt p_list t_4.1).bind fun e_6 => some (e_6, t_4.2)))

noncomputable def spec_l1Cur_anySchema_l1  : (List impl_Variable) × spec_l1Cur → Option (Stp ((List impl_Variable) × spec_l1Cur) ((List impl_Variable) × spec_l1Cur))
  | (s_9, p_c_11) => ((spec_l1Cur_pick p_c_11 2).bind fun t_14 => (cond (decide ((goLen s_9) < (w64 (6 + t_14.1)))) ((goCat ([120] : List UInt8) (goBytes ([(⟨(IntKind.wrap .u8 (w64 (97 + (goLen s_9))))⟩ : K .u8)] : List (K .u8)))).bind fun t_17 => ((goApp 24 s_9 ([(impl_Variable.mk t_17 2)] : List impl_Variable)).bind fun l_19 => some (.next (l_19, t_14.2)))) (some (.done (s_9, t_14.2)))))

noncomputable def spec_l1Cur_anySchema (p_c : spec_l1Cur) : Option ((List impl_Variable) × spec_l1Cur) :=
  ((spec_l1Cur_schema p_c).bind fun t_3 => ((spec_l1Cur_pick t_3.2 24).bind fun t_7 => (((cond (t_7.1 == 0) ((spec_l1Cur_among t_7.2 ([1, 8, 9] : List Int)).bind fun t_42 => ((goAt t_3.1 0).bind fun e_44 => some (.inl (goSet t_3.1 0 (impl_Variable.mk e_44.Name t_42.1), t_42.2)))) (((cond (t_7.1 == 1) ((spec_l1Cur_of t_7.2 ([([] : List UInt8), ([65, 103, 101] : List UInt8), ([97, 98, 99, 100, 101, 102, 103, 104, 105] : List UInt8), ([97, 103, 101] : List UInt8), ([97, 98, 32, 99, 100] : List UInt8)] : List (List UInt8))).bind fun t_31 => ((goAt t_3.1 0).bind fun e_33 => some (.inl (goSet t_3.1 0 (impl_Variable.mk t_31.1 e_33.Levels), t_31.2)))) (cond (t_7.1 == 2) (some (.inr (.inr (([] : List impl_Variable), t_7.2)))) (((cond (t_7.1 == 3) ((loopC (spec_l1Cur_anySchema_l1) (t_3.1, t_7.2)).bind fun (s_21, p_c_23) => some (s_21, p_c_23)) (some (t_3.1, t_7.2))) : Option ((List impl_Variable) × spec_l1Cur)).bind fun (s_25, p_c_27) => some (.inl (s_25, p_c_27))))) : Option (((List impl_Variable) × spec_l1Cur) ⊕ (((List impl_Variable) × spec_l1Cur) ⊕ ((List impl_Variable) × spec_l1Cur)))).bind fun | .inl (s_36, p_c_38) => some (.inl (s_36, p_c_38)) | .inr o => some o)) : Option (((List impl_Variable) × spec_l1Cur) ⊕ ((List impl_Variable) × spec_l1Cur))).bind fun | .inl (s_47, p_c_49) => some (s_47, p_c_49) | .inr o => some o)))

noncomputable def spec_l1In (p_n : Int) (p_lo : Int) (p_hi : Int) : Option (Bool) :=
  (((cond (decide (p_lo ≤ p_n)) (some (decide (p_n ≤ p_hi))) (some false)) : Option (Bool)).bind fun t_1 => some t_1)

noncomputable def spec_sName_l1 (p_s : List UInt8) (i_1 : Int) : Option (Stp (Int) ((Unit) ⊕ (Bool))) :=
  (cond (decide (i_1 < (goLen p_s))) ((((goStrAt p_s i_1).bind fun t_2 => (cond (decide (t_2 < 97)) (some true) ((goStrAt p_s i_1).bind fun t_3 => some (decide (122 < t_3))))) : Option (Bool)).bind fun t_4 => (cond t_4 (some (.done (.inr false))) (some (.next (w64 (i_1 + 1)))))) (some (.done (.inl ()))))

noncomputable def spec_sName (p_s : List UInt8) : Option (Bool) :=
  ((loopC (spec_sName_l1 p_s) 0).bind fun | .inl () => ((spec_l1In (goLen p_s) 1 8).bind fun t_5 => some t_5) | .inr o => some o)

noncomputable def spec_sFind_l1 (p_s : List impl_Variable) (p_name : List UInt8) (t_2 : Int) : Option (Stp (Int) ((Unit) ⊕ (Int))) :=
  (cond (decide (t_2 < (goLen p_s))) ((goAt p_s t_2).bind fun e_3 => (cond (e_3.Name == p_name) (some (.done (.inr t_2))) (some (.next (w64 (t_2 + 1)))))) (some (.done (.inl ()))))

noncomputable def spec_sFind (p_s : List impl_Variable) (p_name : List UInt8) : Option (Int) :=
  ((loopC (spec_sFind_l1 p_s p_name) 0).bind fun | .inl () => some (-1) | .inr o => some o)

noncomputable def spec_sGood_l1 (p_s : List impl_Variable) (t_3 : Int) : Option (Stp (Int) ((Unit) ⊕ (Bool))) :=
  (cond (decide (t_3 < (goLen p_s))) ((goAt p_s t_3).bind fun e_4 => ((((spec_sName e_4.Name).bind fun t_7 => (cond (!t_7) (some true) ((spec_l1In e_4.Levels 2 8).bind fun t_8 => (cond (!t_8) (some true) ((goSub p_s 0 t_3).bind fun l_9 => ((spec_sFind l_9 e_4.Name).bind fun t_11 => some (decide (0 ≤ t_11)))))))) : Option (Bool)).bind fun t_12 => (cond t_12 (some (.done (.inr false))) (some (.next (w64 (t_3 + 1))))))) (some (.done (.inl ()))))

noncomputable def spec_sGood (p_s : List impl_Variable) : Option (Bool) :=
  ((spec_l1In (goLen p_s) 1 6).bind fun t_2 => (cond (!t_2) (some false) ((loopC (spec_sGood_l1 p_s) 0).bind fun | .inl () => some true | .inr o => some o)))

noncomputable def spec_eFull (p_s : List impl_Variable) (p_v : Int) : Option (Int) :=
  ((goAt p_s p_v).bind fun e_2 => ((goShl .i64 1 (IntKind.wrap .u64 e_2.Levels)).bind fun t_4 => some (w64 (t_4 - 1))))

noncomputable def spec_l1Cur_one (p_c : spec_l1Cur) (p_n : Int) : Option (Bool × spec_l1Cur) :=
  ((spec_l1Cur_pick p_c p_n).bind fun t_3 => some (t_3.1 == 0, t_3.2))

noncomputable def spec_l1Cur_edit_l1 (p_s : List impl_Variable) : Int × impl_Edit × spec_l1Cur → Option (Stp (Int × impl_Edit × spec_l1Cur) (impl_Edit × spec_l1Cur))
  | (t_5, e_6, p_c_8) => (cond (decide (t_5 < (goLen p_s))) ((spec_eFull p_s t_5).bind fun t_10 => ((spec_l1Cur_one p_c_8 3).bind fun t_12 => (((cond (!t_12.1) ((spec_l1Cur_pick t_12.2 t_10).bind fun t_15 => some ((w64 (1 + t_15.1)), t_15.2)) (some (t_10, t_12.2))) : Option (Int × spec_l1Cur)).bind fun (x_17, p_c_18) => ((goApp 8 e_6.Sets ([x_17] : List Int)).bind fun l_21 => some (.next ((w64 (t_5 + 1)), (impl_Edit.mk l_21), p_c_18)))))) (some (.done (e_6, p_c_8))))

noncomputable def spec_l1Cur_edit (p_c : spec_l1Cur) (p_s : List impl_Variable) : Option (impl_Edit × spec_l1Cur) :=
  ((loopC (spec_l1Cur_edit_l1 p_s) (0, (impl_Edit.mk ([] : List Int)), p_c)).bind fun (e_23, p_c_25) => some (e_23, p_c_25))

noncomputable def spec_l1Cur_anyEdit (p_c : spec_l1Cur) (p_s : List impl_Variable) : Option (impl_Edit × spec_l1Cur) :=
  ((spec_sGood p_s).bind fun t_4 => (cond (!t_4) (some ((impl_Edit.mk ([1] : List Int)), p_c)) ((spec_l1Cur_edit p_c p_s).bind fun t_6 => ((spec_l1Cur_pick t_6.2 24).bind fun t_11 => (((cond (t_11.1 == 0) ((((spec_l1Cur_pick t_11.2 (goLen t_6.1.Sets)).bind fun t_26 => ((spec_l1Cur_among t_26.2 ([0, -1, 256, 4] : List Int)).bind fun t_30 => ((goAt t_6.1.Sets t_26.1).bind fun e_32 => some (t_30.2, (impl_Edit.mk (goSet t_6.1.Sets t_26.1 t_30.1)))))) : Option (spec_l1Cur × impl_Edit)).bind fun (p_c_35, e_37) => some (p_c_35, e_37)) (((cond (t_11.1 == 1) ((goApp 8 t_6.1.Sets ([1] : List Int)).bind fun l_14 => some (impl_Edit.mk l_14)) (some t_6.1)) : Option (impl_Edit)).bind fun e_16 => some (t_11.2, e_16))) : Option (spec_l1Cur × impl_Edit)).bind fun (p_c_39, e_41) => some (e_41, p_c_39))))))

noncomputable def spec_eGood_l1 (p_s : List impl_Variable) (p_e : impl_Edit) (t_4 : Int) : Option (Stp (Int) ((Unit) ⊕ (Bool))) :=
  (cond (decide (t_4 < (goLen p_e.Sets))) ((goAt p_e.Sets t_4).bind fun e_5 => ((spec_eFull p_s t_4).bind fun t_7 => ((spec_l1In e_5 1 t_7).bind fun t_8 => (cond (!t_8) (some (.done (.inr false))) (some (.next (w64 (t_4 + 1)))))))) (some (.done (.inl ()))))

noncomputable def spec_eGood (p_s : List impl_Variable) (p_e : impl_Edit) : Option (Bool) :=
  (cond ((goLen p_e.Sets) != (goLen p_s)) (some false) ((loopC (spec_eGood_l1 p_s p_e) 0).bind fun | .inl () => some true | .inr o => some o))

noncomputable def spec_DrawContainsEdit_l1 (t_10 : impl_Edit × spec_l1Cur) (t_14 : impl_Edit × spec_l1Cur) : Int × impl_Edit → Option (Stp (Int × impl_Edit) (impl_Edit))
  | (t_29, f_30) => (cond (decide (t_29 < (goLen t_14.1.Sets))) ((goAt f_30.Sets t_29).bind fun e_32 => ((goAt t_10.1.Sets t_29).bind fun e_34 => (((cond (decide (0 < (goBits .and .i64 e_32 e_34))) ((goAt f_30.Sets t_29).bind fun e_36 => ((goAt t_10.1.Sets t_29).bind fun e_38 => ((goAt f_30.Sets t_29).bind fun e_40 => some (impl_Edit.mk (goSet f_30.Sets t_29 (goBits .and .i64 e_36 e_38)))))) (some f_30)) : Option (impl_Edit)).bind fun f_43 => some (.next ((w64 (t_29 + 1)), f_43))))) (some (.done f_30)))

noncomputable def spec_DrawContainsEdit (p_code : List (K .u8)) : Option ((List impl_Variable) × impl_Edit × impl_Edit) :=
  ((spec_l1Cur_anySchema (spec_l1Cur.mk p_code 0 (⟨0⟩ : K .u64))).bind fun t_6 => ((spec_l1Cur_anyEdit t_6.2 t_6.1).bind fun t_10 => ((spec_l1Cur_anyEdit t_10.2 t_6.1).bind fun t_14 => ((((spec_l1Cur_one t_14.2 3).bind fun t_20 => (cond t_20.1 ((spec_sGood t_6.1).bind fun t_22 => (cond t_22 ((spec_eGood t_6.1 t_10.1).bind fun t_24 => (cond t_24 ((spec_eGood t_6.1 t_14.1).bind fun t_26 => some t_26) (some false))) (some false))) (some false))) : Option (Bool)).bind fun t_28 => (((cond t_28 ((loopC (spec_DrawContainsEdit_l1 t_10 t_14) (0, t_14.1)).bind fun f_45 => some f_45) (some t_14.1)) : Option (impl_Edit)).bind fun f_47 => some (t_6.1, t_10.1, f_47))))))

noncomputable def spec_DrawMeetEdits (p_code : List (K .u8)) : Option ((List impl_Variable) × impl_Edit × impl_Edit) :=
  ((spec_DrawContainsEdit p_code).bind fun t_4 => some (t_4.1, t_4.2.1, t_4.2.2))

noncomputable def impl_isWord_l1 (p_s : List UInt8) (t_2 : Int) : Option (Stp (Int) ((Unit) ⊕ (Bool))) :=
  (cond (decide (t_2 < (goLen p_s))) ((((goStrAt p_s t_2).bind fun t_3 => (cond (decide (t_3 < 97)) (some true) ((goStrAt p_s t_2).bind fun t_4 => some (decide (122 < t_4))))) : Option (Bool)).bind fun t_5 => (cond t_5 (some (.done (.inr false))) (some (.next (w64 (t_2 + 1)))))) (some (.done (.inl ()))))

noncomputable def impl_isWord (p_s : List UInt8) : Option (Bool) :=
  (((cond (decide ((goLen p_s) < 1)) (some true) (some (decide (8 < (goLen p_s))))) : Option (Bool)).bind fun t_1 => (cond t_1 (some false) ((loopC (impl_isWord_l1 p_s) 0).bind fun | .inl () => some true | .inr o => some o)))

noncomputable def impl_IsSchema_l2 (e_4 : impl_Variable) (l_9 : List impl_Variable) (t_11 : Int) : Option (Stp (Int) ((Unit) ⊕ (Stp (Int) ((Unit) ⊕ (Bool))))) :=
  (cond (decide (t_11 < (goLen l_9))) ((goAt l_9 t_11).bind fun e_12 => (cond (e_12.Name == e_4.Name) (some (.done (.inr (.done (.inr false))))) (some (.next (w64 (t_11 + 1)))))) (some (.done (.inl ()))))

noncomputable def impl_IsSchema_l1 (p_s : List impl_Variable) (t_3 : Int) : Option (Stp (Int) ((Unit) ⊕ (Bool))) :=
  (cond (decide (t_3 < (goLen p_s))) ((goAt p_s t_3).bind fun e_4 => ((((impl_isWord e_4.Name).bind fun t_7 => (cond (!t_7) (some true) (cond (decide (e_4.Levels < 2)) (some true) (some (decide (8 < e_4.Levels)))))) : Option (Bool)).bind fun t_8 => (cond t_8 (some (.done (.inr false))) ((goSub p_s 0 t_3).bind fun l_9 => ((loopC (impl_IsSchema_l2 e_4 l_9) 0).bind fun | .inl () => some (.next (w64 (t_3 + 1))) | .inr o => some o))))) (some (.done (.inl ()))))

noncomputable def impl_IsSchema (p_s : List impl_Variable) : Option (Bool) :=
  (((cond (decide ((goLen p_s) < 1)) (some true) (some (decide (6 < (goLen p_s))))) : Option (Bool)).bind fun t_2 => (cond t_2 (some false) ((loopC (impl_IsSchema_l1 p_s) 0).bind fun | .inl () => some true | .inr o => some o)))

noncomputable def impl_fullSet (p_v : impl_Variable) : Option (Int) :=
  ((goShl .i64 1 p_v.Levels).bind fun t_2 => some (w64 (t_2 - 1)))

noncomputable def impl_isEdit_l1 (p_s : List impl_Variable) (p_e : impl_Edit) (t_4 : Int) : Option (Stp (Int) ((Unit) ⊕ (Bool))) :=
  (cond (decide (t_4 < (goLen p_e.Sets))) ((goAt p_e.Sets t_4).bind fun e_5 => (((cond (decide (e_5 < 1)) (some true) ((goAt p_s t_4).bind fun e_7 => ((impl_fullSet e_7).bind fun t_9 => some (decide (t_9 < e_5))))) : Option (Bool)).bind fun t_10 => (cond t_10 (some (.done (.inr false))) (some (.next (w64 (t_4 + 1))))))) (some (.done (.inl ()))))

noncomputable def impl_isEdit (p_s : List impl_Variable) (p_e : impl_Edit) : Option (Bool) :=
  (cond ((goLen p_e.Sets) != (goLen p_s)) (some false) ((loopC (impl_isEdit_l1 p_s p_e) 0).bind fun | .inl () => some true | .inr o => some o))

noncomputable def slices_Clone_int_int (p_s : List Int) : Option ((List Int)) :=
  ((goApp 8 ([] : List Int) p_s).bind fun l_3 => some l_3)

noncomputable def impl_MeetEdits_l1 (p_f : impl_Edit) : (List Int) × Int → Option (Stp ((List Int) × Int) (((List Int)) ⊕ (impl_Edit × Bool)))
  | (meet_14, t_16) => (cond (decide (t_16 < (goLen p_f.Sets))) ((goAt p_f.Sets t_16).bind fun e_17 => ((goAt meet_14 t_16).bind fun e_19 => ((goAt meet_14 t_16).bind fun e_21 => ((goAt (goSet meet_14 t_16 (goBits .and .i64 e_19 e_17)) t_16).bind fun e_24 => (cond (e_24 == 0) (some (.done (.inr ((impl_Edit.mk ([] : List Int)), false)))) (some (.next (goSet meet_14 t_16 (goBits .and .i64 e_19 e_17), (w64 (t_16 + 1)))))))))) (some (.done (.inl meet_14))))

noncomputable def impl_MeetEdits (p_s : List impl_Variable) (p_e : impl_Edit) (p_f : impl_Edit) : Option (impl_Edit × Bool) :=
  ((((impl_IsSchema p_s).bind fun t_7 => (cond (!t_7) (some true) ((impl_isEdit p_s p_e).bind fun t_8 => (cond (!t_8) (some true) ((impl_isEdit p_s p_f).bind fun t_9 => some (!t_9)))))) : Option (Bool)).bind fun t_10 => (cond t_10 (some ((impl_Edit.mk ([] : List Int)), false)) ((slices_Clone_int_int p_e.Sets).bind fun t_11 => ((loopC (impl_MeetEdits_l1 p_f) (t_11, 0)).bind fun | .inl meet_26 => some ((impl_Edit.mk meet_26), true) | .inr o => some o))))

noncomputable def spec_eList_l1 (p_s : List impl_Variable) (p_l : List impl_Edit) (t_5 : Int) : Option (Stp (Int) ((Unit) ⊕ (Bool))) :=
  (cond (decide (t_5 < (goLen p_l))) ((goAt p_l t_5).bind fun e_6 => ((spec_eGood p_s e_6).bind fun t_10 => (cond (!t_10) (some (.done (.inr false))) (some (.next (w64 (t_5 + 1))))))) (some (.done (.inl ()))))

noncomputable def spec_eList (p_s : List impl_Variable) (p_l : List impl_Edit) : Option (Bool) :=
  ((((spec_sGood p_s).bind fun t_3 => (cond (!t_3) (some true) (some (decide (40 < (goLen p_l)))))) : Option (Bool)).bind fun t_4 => (cond t_4 (some false) ((loopC (spec_eList_l1 p_s p_l) 0).bind fun | .inl () => some true | .inr o => some o)))

noncomputable def spec_MeetEdits_l1 (p_e : impl_Edit) (p_f : impl_Edit) : Int × impl_Edit → Option (Stp (Int × impl_Edit) (impl_Edit))
  | (t_11, out_12) => (cond (decide (t_11 < (goLen p_e.Sets))) ((goAt p_e.Sets t_11).bind fun e_14 => ((goAt p_f.Sets t_11).bind fun e_16 => ((goApp 8 out_12.Sets ([goBits .and .i64 e_14 e_16] : List Int)).bind fun l_19 => some (.next ((w64 (t_11 + 1)), (impl_Edit.mk l_19)))))) (some (.done out_12)))

noncomputable def spec_MeetEdits (p_s : List impl_Variable) (p_e : impl_Edit) (p_f : impl_Edit) : Option (impl_Edit × Bool) :=
  ((spec_eList p_s ([p_e, p_f] : List impl_Edit)).bind fun t_8 => (cond (!t_8) (some ((impl_Edit.mk ([] : List Int)), false)) ((loopC (spec_MeetEdits_l1 p_e p_f) (0, (impl_Edit.mk ([] : List Int)))).bind fun out_21 => ((spec_eGood p_s out_21).bind fun t_23 => (cond (!t_23) (some ((impl_Edit.mk ([] : List Int)), false)) (some (out_21, true)))))))

noncomputable def laws_sameInts_l1 (p_a : List Int) (p_b : List Int) (t_3 : Int) : Option (Stp (Int) ((Unit) ⊕ (Bool))) :=
  (cond (decide (t_3 < (goLen p_a))) ((goAt p_a t_3).bind fun e_4 => ((goAt p_b t_3).bind fun e_6 => (cond (e_4 != e_6) (some (.done (.inr false))) (some (.next (w64 (t_3 + 1))))))) (some (.done (.inl ()))))

noncomputable def laws_sameInts (p_a : List Int) (p_b : List Int) : Option (Bool) :=
  (cond ((goLen p_a) != (goLen p_b)) (some false) ((loopC (laws_sameInts_l1 p_a p_b) 0).bind fun | .inl () => some true | .inr o => some o))

noncomputable def spec_l1Cur_values_l1 (p_s : List impl_Variable) : (List Int) × Int × spec_l1Cur → Option (Stp ((List Int) × Int × spec_l1Cur) ((List Int) × spec_l1Cur))
  | (out_3, t_5, p_c_6) => (cond (decide (t_5 < (goLen p_s))) ((goAt p_s t_5).bind fun e_8 => ((spec_l1Cur_pick p_c_6 e_8.Levels).bind fun t_12 => ((goApp 8 out_3 ([t_12.1] : List Int)).bind fun l_15 => some (.next (l_15, (w64 (t_5 + 1)), t_12.2))))) (some (.done (out_3, p_c_6))))

noncomputable def spec_l1Cur_values (p_c : spec_l1Cur) (p_s : List impl_Variable) : Option ((List Int) × spec_l1Cur) :=
  ((loopC (spec_l1Cur_values_l1 p_s) (([] : List Int), 0, p_c)).bind fun (out_17, p_c_19) => some (out_17, p_c_19))

noncomputable def spec_l1Cur_anyValues (p_c : spec_l1Cur) (p_s : List impl_Variable) : Option ((List Int) × spec_l1Cur) :=
  ((spec_l1Cur_values p_c p_s).bind fun t_4 => (((cond (decide (0 < (goLen t_4.1))) ((spec_l1Cur_one t_4.2 16).bind fun t_8 => some (t_8.1, t_8.2)) (some (false, t_4.2))) : Option (Bool × spec_l1Cur)).bind fun (t_10, p_c_11) => (((cond t_10 ((spec_l1Cur_pick p_c_11 (goLen t_4.1)).bind fun t_20 => ((spec_l1Cur_among t_20.2 ([-1, 2, 8] : List Int)).bind fun t_24 => ((goAt t_4.1 t_20.1).bind fun e_26 => some (.inl (goSet t_4.1 t_20.1 t_24.1, t_24.2))))) ((spec_l1Cur_one p_c_11 24).bind fun t_14 => (cond t_14.1 ((goApp 8 t_4.1 ([0] : List Int)).bind fun l_17 => some (.inr (l_17, t_14.2))) (some (.inl (t_4.1, t_14.2)))))) : Option (((List Int) × spec_l1Cur) ⊕ ((List Int) × spec_l1Cur))).bind fun | .inl (out_29, p_c_31) => some (out_29, p_c_31) | .inr o => some o)))

noncomputable def spec_DrawFailsEdit (p_code : List (K .u8)) : Option ((List impl_Variable) × impl_Edit × (List Int)) :=
  ((spec_l1Cur_anySchema (spec_l1Cur.mk p_code 0 (⟨0⟩ : K .u64))).bind fun t_5 => ((spec_l1Cur_anyEdit t_5.2 t_5.1).bind fun t_9 => ((spec_l1Cur_anyValues t_9.2 t_5.1).bind fun t_13 => some (t_5.1, t_9.1, t_13.1))))

noncomputable def impl_areValues_l1 (p_s : List impl_Variable) (p_values : List Int) (t_3 : Int) : Option (Stp (Int) ((Unit) ⊕ (Bool))) :=
  (cond (decide (t_3 < (goLen p_values))) ((goAt p_values t_3).bind fun e_4 => (((cond (decide (e_4 < 0)) (some true) ((goAt p_s t_3).bind fun e_6 => some (decide (e_6.Levels ≤ e_4)))) : Option (Bool)).bind fun t_8 => (cond t_8 (some (.done (.inr false))) (some (.next (w64 (t_3 + 1))))))) (some (.done (.inl ()))))

noncomputable def impl_areValues (p_s : List impl_Variable) (p_values : List Int) : Option (Bool) :=
  (cond ((goLen p_values) != (goLen p_s)) (some false) ((loopC (impl_areValues_l1 p_s p_values) 0).bind fun | .inl () => some true | .inr o => some o))

noncomputable def impl_fails_l1 (p_e : impl_Edit) (p_values : List Int) (t_4 : Int) : Option (Stp (Int) ((Unit) ⊕ (Bool))) :=
  (cond (decide (t_4 < (goLen p_values))) ((goAt p_values t_4).bind fun e_5 => ((goAt p_e.Sets t_4).bind fun e_7 => ((goShr .i64 e_7 e_5).bind fun t_9 => (cond ((goBits .and .i64 t_9 1) == 0) (some (.done (.inr false))) (some (.next (w64 (t_4 + 1)))))))) (some (.done (.inl ()))))

noncomputable def impl_fails (p_e : impl_Edit) (p_values : List Int) : Option (Bool) :=
  ((loopC (impl_fails_l1 p_e p_values) 0).bind fun | .inl () => some true | .inr o => some o)

noncomputable def impl_FailsEdit (p_s : List impl_Variable) (p_e : impl_Edit) (p_values : List Int) : Option (Bool × Bool) :=
  ((((impl_IsSchema p_s).bind fun t_5 => (cond (!t_5) (some true) ((impl_isEdit p_s p_e).bind fun t_6 => (cond (!t_6) (some true) ((impl_areValues p_s p_values).bind fun t_7 => some (!t_7)))))) : Option (Bool)).bind fun t_8 => (cond t_8 (some (false, false)) ((impl_fails p_e p_values).bind fun t_9 => some (t_9, true))))

noncomputable def impl_contains_l1 (p_e : impl_Edit) (p_f : impl_Edit) (t_5 : Int) : Option (Stp (Int) ((Unit) ⊕ (Bool))) :=
  (cond (decide (t_5 < (goLen p_f.Sets))) ((goAt p_f.Sets t_5).bind fun e_6 => ((goAt p_e.Sets t_5).bind fun e_8 => (cond ((goBits .andNot .i64 e_6 e_8) != 0) (some (.done (.inr false))) (some (.next (w64 (t_5 + 1))))))) (some (.done (.inl ()))))

noncomputable def impl_contains (p_e : impl_Edit) (p_f : impl_Edit) : Option (Bool) :=
  ((loopC (impl_contains_l1 p_e p_f) 0).bind fun | .inl () => some true | .inr o => some o)

noncomputable def impl_ContainsEdit (p_s : List impl_Variable) (p_e : impl_Edit) (p_f : impl_Edit) : Option (Bool × Bool) :=
  ((((impl_IsSchema p_s).bind fun t_6 => (cond (!t_6) (some true) ((impl_isEdit p_s p_e).bind fun t_7 => (cond (!t_7) (some true) ((impl_isEdit p_s p_f).bind fun t_8 => some (!t_8)))))) : Option (Bool)).bind fun t_9 => (cond t_9 (some (false, false)) ((impl_contains p_e p_f).bind fun t_10 => some (t_10, true))))

noncomputable def spec_eContains_l1 (p_e : impl_Edit) (p_f : impl_Edit) (t_5 : Int) : Option (Stp (Int) ((Unit) ⊕ (Bool))) :=
  (cond (decide (t_5 < (goLen p_f.Sets))) ((goAt p_f.Sets t_5).bind fun e_6 => ((goAt p_e.Sets t_5).bind fun e_8 => (cond ((goBits .and .i64 e_6 e_8) != e_6) (some (.done (.inr false))) (some (.next (w64 (t_5 + 1))))))) (some (.done (.inl ()))))

noncomputable def spec_eContains (p_e : impl_Edit) (p_f : impl_Edit) : Option (Bool) :=
  ((loopC (spec_eContains_l1 p_e p_f) 0).bind fun | .inl () => some true | .inr o => some o)

noncomputable def spec_ContainsEdit (p_s : List impl_Variable) (p_e : impl_Edit) (p_f : impl_Edit) : Option (Bool × Bool) :=
  ((spec_eList p_s ([p_e, p_f] : List impl_Edit)).bind fun t_7 => (cond (!t_7) (some (false, false)) ((spec_eContains p_e p_f).bind fun t_9 => some (t_9, true))))

noncomputable def spec_DrawIsEdit (p_code : List (K .u8)) : Option ((List impl_Variable) × impl_Edit) :=
  ((spec_l1Cur_anySchema (spec_l1Cur.mk p_code 0 (⟨0⟩ : K .u64))).bind fun t_5 => ((spec_l1Cur_anyEdit t_5.2 t_5.1).bind fun t_9 => some (t_5.1, t_9.1)))

noncomputable def spec_DrawEditText (p_code : List (K .u8)) : Option ((List impl_Variable) × impl_Edit) :=
  ((spec_DrawIsEdit p_code).bind fun t_3 => some (t_3.1, t_3.2))

noncomputable def impl_involvedIn_l1 (p_s : List impl_Variable) (p_e : impl_Edit) : (List Int) × Int → Option (Stp ((List Int) × Int) ((List Int)))
  | (vars_4, t_6) => (cond (decide (t_6 < (goLen p_e.Sets))) ((goAt p_e.Sets t_6).bind fun e_7 => ((goAt p_s t_6).bind fun e_9 => ((impl_fullSet e_9).bind fun t_11 => (((cond (e_7 != t_11) ((goApp 8 vars_4 ([t_6] : List Int)).bind fun l_13 => some l_13) (some vars_4)) : Option ((List Int))).bind fun vars_15 => some (.next (vars_15, (w64 (t_6 + 1)))))))) (some (.done vars_4)))

noncomputable def impl_involvedIn (p_s : List impl_Variable) (p_e : impl_Edit) : Option ((List Int)) :=
  ((loopC (impl_involvedIn_l1 p_s p_e) (([] : List Int), 0)).bind fun vars_17 => some vars_17)

noncomputable def strings_Join (p_elems : List (List UInt8)) (p_sep : List UInt8) : Option ((List UInt8)) :=
  cond (decide (p_elems.length ≤ 140737488355328 ∧ (Go.Lib.join p_elems p_sep).length ≤ 140737488355328)) (some (Go.Lib.join p_elems p_sep)) none

noncomputable def impl_setText_l1 (p_set : Int) : (List (List UInt8)) × Int → Option (Stp ((List (List UInt8)) × Int) ((List (List UInt8))))
  | (parts_1, t_3) => (cond (decide (t_3 < 8)) ((goShr .i64 p_set t_3).bind fun t_4 => (((cond ((goBits .and .i64 t_4 1) == 1) ((goRune (IntKind.wrap .i32 (w64 (48 + t_3)))).bind fun t_5 => ((goApp 16 parts_1 ([t_5] : List (List UInt8))).bind fun l_7 => some l_7)) (some parts_1)) : Option ((List (List UInt8)))).bind fun parts_9 => some (.next (parts_9, (w64 (t_3 + 1)))))) (some (.done parts_1)))

noncomputable def impl_setText (p_set : Int) : Option ((List UInt8)) :=
  ((loopC (impl_setText_l1 p_set) (([] : List (List UInt8)), 0)).bind fun parts_11 => ((strings_Join parts_11 ([44] : List UInt8)).bind fun t_13 => some t_13))

noncomputable def impl_EditText_l1 (p_s : List impl_Variable) (p_e : impl_Edit) (t_7 : List Int) : (List (List UInt8)) × Int → Option (Stp ((List (List UInt8)) × Int) ((List (List UInt8))))
  | (parts_12, t_14) => (cond (decide (t_14 < (goLen t_7))) ((goAt t_7 t_14).bind fun e_15 => ((goAt p_s e_15).bind fun e_17 => ((goCat e_17.Name ([61] : List UInt8)).bind fun t_19 => ((goAt p_e.Sets e_15).bind fun e_20 => ((impl_setText e_20).bind fun t_22 => ((goCat t_19 t_22).bind fun t_23 => ((goAt parts_12 t_14).bind fun e_24 => some (.next (goSet parts_12 t_14 t_23, (w64 (t_14 + 1))))))))))) (some (.done parts_12)))

noncomputable def impl_EditText (p_s : List impl_Variable) (p_e : impl_Edit) : Option ((List UInt8) × Bool) :=
  ((((impl_IsSchema p_s).bind fun t_4 => (cond (!t_4) (some true) ((impl_isEdit p_s p_e).bind fun t_5 => some (!t_5)))) : Option (Bool)).bind fun t_6 => (cond t_6 (some (([] : List UInt8), false)) ((impl_involvedIn p_s p_e).bind fun t_7 => (cond ((goLen t_7) == 0) (some (([97, 108, 108] : List UInt8), true)) ((goMake 16 (goLen t_7) (([] : List UInt8) : List UInt8)).bind fun l_10 => ((loopC (impl_EditText_l1 p_s p_e t_7) (l_10, 0)).bind fun parts_27 => ((strings_Join parts_27 ([32] : List UInt8)).bind fun t_29 => some (t_29, true))))))))

noncomputable def spec_eInvolved_l1 (p_s : List impl_Variable) (p_e : impl_Edit) : (List Int) × Int → Option (Stp ((List Int) × Int) ((List Int)))
  | (out_4, t_6) => (cond (decide (t_6 < (goLen p_e.Sets))) ((goAt p_e.Sets t_6).bind fun e_7 => ((spec_eFull p_s t_6).bind fun t_9 => (((cond (e_7 != t_9) ((goApp 8 out_4 ([t_6] : List Int)).bind fun l_11 => some l_11) (some out_4)) : Option ((List Int))).bind fun out_13 => some (.next (out_13, (w64 (t_6 + 1))))))) (some (.done out_4)))

noncomputable def spec_eInvolved (p_s : List impl_Variable) (p_e : impl_Edit) : Option ((List Int)) :=
  ((loopC (spec_eInvolved_l1 p_s p_e) (([] : List Int), 0)).bind fun out_15 => some out_15)

noncomputable def spec_eLevels_l1 (p_set : Int) : (List Int) × Int → Option (Stp ((List Int) × Int) ((List Int)))
  | (out_1, x_3) => ((goShr .i64 p_set (IntKind.wrap .u64 x_3)).bind fun t_4 => (cond (decide (0 < t_4)) ((goShr .i64 p_set (IntKind.wrap .u64 x_3)).bind fun t_5 => (((cond ((goBits .and .i64 t_5 1) == 1) ((goApp 8 out_1 ([x_3] : List Int)).bind fun l_7 => some l_7) (some out_1)) : Option ((List Int))).bind fun out_9 => some (.next (out_9, (w64 (x_3 + 1)))))) (some (.done out_1))))

noncomputable def spec_eLevels (p_set : Int) : Option ((List Int)) :=
  ((loopC (spec_eLevels_l1 p_set) (([] : List Int), 0)).bind fun out_11 => some out_11)

noncomputable def spec_l1Num_B (rcf : Int → Option ((List UInt8))) (p_n : Int) : Option ((List UInt8)) :=
  (cond (decide (p_n < 10)) (some (goBytes ([(⟨(IntKind.wrap .u8 (w64 (48 + p_n)))⟩ : K .u8)] : List (K .u8)))) ((((goQuo .i64 p_n 10).bind fun t_1 => ((goRem p_n 10).bind fun t_4 => ((rcf t_1).bind fun t_9 => ((goCat t_9 (goBytes ([(⟨(IntKind.wrap .u8 (w64 (48 + t_4)))⟩ : K .u8)] : List (K .u8)))).bind fun t_11 => some t_11)))) : Option ((List UInt8))).bind fun t_12 => some t_12))

noncomputable def spec_l1Num_k : Nat → Int → Option ((List UInt8))
  | 0 => fun _ => none
  | k + 1 => spec_l1Num_B (spec_l1Num_k k)

noncomputable def spec_l1Num (p_n : Int) : Option ((List UInt8)) := recO (fun k => spec_l1Num_k k p_n)

noncomputable def spec_eText_l2 (t_19 : List Int) : (List UInt8) × Int → Option (Stp ((List UInt8) × Int) ((List UInt8)))
  | (out_22, t_23) => (cond (decide (t_23 < (goLen t_19))) ((goAt t_19 t_23).bind fun e_24 => (((cond (decide (0 < t_23)) ((goCat out_22 ([44] : List UInt8)).bind fun t_26 => some t_26) (some out_22)) : Option ((List UInt8))).bind fun out_27 => ((spec_l1Num e_24).bind fun t_28 => ((goCat out_27 t_28).bind fun t_29 => some (.next (t_29, (w64 (t_23 + 1)))))))) (some (.done out_22)))

noncomputable def spec_eText_l1 (p_s : List impl_Variable) (p_e : impl_Edit) (t_4 : List Int) : (List UInt8) × Int → Option (Stp ((List UInt8) × Int) ((List UInt8)))
  | (out_7, t_8) => (cond (decide (t_8 < (goLen t_4))) ((goAt t_4 t_8).bind fun e_9 => (((cond (out_7 != ([] : List UInt8)) ((goCat out_7 ([32] : List UInt8)).bind fun t_11 => some t_11) (some out_7)) : Option ((List UInt8))).bind fun out_12 => ((goAt p_s e_9).bind fun e_13 => ((goCat e_13.Name ([61] : List UInt8)).bind fun t_15 => ((goCat out_12 t_15).bind fun t_16 => ((goAt p_e.Sets e_9).bind fun e_17 => ((spec_eLevels e_17).bind fun t_19 => ((loopC (spec_eText_l2 t_19) (t_16, 0)).bind fun out_30 => some (.next (out_30, (w64 (t_8 + 1)))))))))))) (some (.done out_7)))

noncomputable def spec_eText (p_s : List impl_Variable) (p_e : impl_Edit) : Option ((List UInt8)) :=
  ((spec_eInvolved p_s p_e).bind fun t_4 => ((loopC (spec_eText_l1 p_s p_e t_4) (([] : List UInt8), 0)).bind fun out_31 => (cond (out_31 == ([] : List UInt8)) (some ([97, 108, 108] : List UInt8)) (some out_31))))

noncomputable def spec_EditText (p_s : List impl_Variable) (p_e : impl_Edit) : Option ((List UInt8) × Bool) :=
  ((spec_eList p_s ([p_e] : List impl_Edit)).bind fun t_5 => (cond (!t_5) (some (([] : List UInt8), false)) ((spec_eText p_s p_e).bind fun t_7 => some (t_7, true))))

noncomputable def impl_nameIndex_1 (p_v : impl_Variable) (p_x1 : List UInt8) : Option (Bool) :=
  some (p_v.Name == p_x1)

noncomputable def slices_IndexFunc_impl_Variable_impl_Variable_of_impl_nameIndex_1_l1 (p_s : List impl_Variable) (p_x200 : List UInt8) (t_2 : Int) : Option (Stp (Int) ((Unit) ⊕ (Int))) :=
  (cond (decide (t_2 < (goLen p_s))) ((goAt p_s t_2).bind fun e_3 => ((impl_nameIndex_1 e_3 p_x200).bind fun t_6 => (cond t_6 (some (.done (.inr t_2))) (some (.next (w64 (t_2 + 1))))))) (some (.done (.inl ()))))

noncomputable def slices_IndexFunc_impl_Variable_impl_Variable_of_impl_nameIndex_1 (p_s : List impl_Variable) (p_x200 : List UInt8) : Option (Int) :=
  ((loopC (slices_IndexFunc_impl_Variable_impl_Variable_of_impl_nameIndex_1_l1 p_s p_x200) 0).bind fun | .inl () => some (-1) | .inr o => some o)

noncomputable def impl_nameIndex (p_s : List impl_Variable) (p_name : List UInt8) : Option (Int) :=
  ((slices_IndexFunc_impl_Variable_impl_Variable_of_impl_nameIndex_1 p_s p_name).bind fun t_4 => some t_4)

noncomputable def impl_parseSet_l1 (p_levels : Int) (p_8 : List UInt8) : Int × Int → Option (Stp (Int × Int) (Unit))
  | (last_6, set_7) => (cond ((goLen p_8) != 1) (some (.done ())) ((goStrAt p_8 0).bind fun t_9 => (((cond (decide ((w64 ((w64 t_9) - 48)) ≤ last_6)) (some true) (some (decide (p_levels ≤ (w64 ((w64 t_9) - 48)))))) : Option (Bool)).bind fun t_10 => (cond t_10 (some (.done ())) ((goShl .i64 1 (w64 ((w64 t_9) - 48))).bind fun t_11 => some (.next ((w64 ((w64 t_9) - 48)), goBits .or .i64 set_7 t_11)))))))

noncomputable def impl_parseSet (p_text : List UInt8) (p_levels : Int) : Option (Int) :=
  ((goSpl p_text).bind fun u5 => ((seqC (impl_parseSet_l1 p_levels) (splitB 44 p_text) (-1, 0)).bind fun | .inl (last_6, set_7) => some set_7 | .inr () => some 0))

noncomputable def strings_Cut (p_s : List UInt8) (p_sep : List UInt8) : Option ((List UInt8) × (List UInt8) × Bool) :=
  cond (decide (p_s.length < 4294967281)) (some (Go.Lib.cut p_s p_sep)) none

noncomputable def impl_ParseEdit_l1 (p_s : List impl_Variable) : Int × (List Int) → Option (Stp (Int × (List Int)) ((List Int)))
  | (t_9, sets_10) => (cond (decide (t_9 < (goLen p_s))) ((goAt p_s t_9).bind fun e_12 => ((impl_fullSet e_12).bind fun t_15 => ((goAt sets_10 t_9).bind fun e_16 => some (.next ((w64 (t_9 + 1)), goSet sets_10 t_9 t_15))))) (some (.done sets_10)))

noncomputable def impl_ParseEdit_l2 (p_s : List impl_Variable) (p_26 : List UInt8) : Int × (List Int) → Option (Stp (Int × (List Int)) (Unit))
  | (last_23, sets_24) => ((strings_Cut p_26 ([61] : List UInt8)).bind fun t_27 => ((impl_nameIndex p_s t_27.1).bind fun t_28 => (((cond (!t_27.2.2) (some true) (some (decide (t_28 ≤ last_23)))) : Option (Bool)).bind fun t_29 => (cond t_29 (some (.done ())) ((goAt p_s t_28).bind fun e_30 => ((impl_parseSet t_27.2.1 e_30.Levels).bind fun t_32 => (((cond (t_32 == 0) (some true) ((goAt p_s t_28).bind fun e_33 => ((impl_fullSet e_33).bind fun t_35 => some (t_32 == t_35)))) : Option (Bool)).bind fun t_36 => (cond t_36 (some (.done ())) ((goAt sets_24 t_28).bind fun e_37 => some (.next (t_28, goSet sets_24 t_28 t_32)))))))))))

noncomputable def impl_ParseEdit (p_s : List impl_Variable) (p_t : List UInt8) : Option (impl_Edit × Bool) :=
  ((impl_IsSchema p_s).bind fun t_5 => (cond (!t_5) (some ((impl_Edit.mk ([] : List Int)), false)) ((goMake 8 (goLen p_s) (0 : Int)).bind fun l_6 => ((loopC (impl_ParseEdit_l1 p_s) (0, l_6)).bind fun sets_19 => (cond (p_t == ([97, 108, 108] : List UInt8)) (some ((impl_Edit.mk sets_19), true)) ((goSpl p_t).bind fun u22 => ((seqC (impl_ParseEdit_l2 p_s) (splitB 32 p_t) (-1, sets_19)).bind fun | .inl (last_23, sets_24) => some ((impl_Edit.mk sets_24), true) | .inr () => some ((impl_Edit.mk ([] : List Int)), false))))))))

noncomputable def math_bits_OnesCount32 (p_x : K .u32) : Option (Int) :=
  ((goShr .u32 p_x.v 24).bind fun t_1 => ((goStrAt ([0, 1, 1, 2, 1, 2, 2, 3, 1, 2, 2, 3, 2, 3, 3, 4, 1, 2, 2, 3, 2, 3, 3, 4, 2, 3, 3, 4, 3, 4, 4, 5, 1, 2, 2, 3, 2, 3, 3, 4, 2, 3, 3, 4, 3, 4, 4, 5, 2, 3, 3, 4, 3, 4, 4, 5, 3, 4, 4, 5, 4, 5, 5, 6, 1, 2, 2, 3, 2, 3, 3, 4, 2, 3, 3, 4, 3, 4, 4, 5, 2, 3, 3, 4, 3, 4, 4, 5, 3, 4, 4, 5, 4, 5, 5, 6, 2, 3, 3, 4, 3, 4, 4, 5, 3, 4, 4, 5, 4, 5, 5, 6, 3, 4, 4, 5, 4, 5, 5, 6, 4, 5, 5, 6, 5, 6, 6, 7, 1, 2, 2, 3, 2, 3, 3, 4, 2, 3, 3, 4, 3, 4, 4, 5, 2, 3, 3, 4, 3, 4, 4, 5, 3, 4, 4, 5, 4, 5, 5, 6, 2, 3, 3, 4, 3, 4, 4, 5, 3, 4, 4, 5, 4, 5, 5, 6, 3, 4, 4, 5, 4, 5, 5, 6, 4, 5, 5, 6, 5, 6, 6, 7, 2, 3, 3, 4, 3, 4, 4, 5, 3, 4, 4, 5, 4, 5, 5, 6, 3, 4, 4, 5, 4, 5, 5, 6, 4, 5, 5, 6, 5, 6, 6, 7, 3, 4, 4, 5, 4, 5, 5, 6, 4, 5, 5, 6, 5, 6, 6, 7, 4, 5, 5, 6, 5, 6, 6, 7, 5, 6, 6, 7, 6, 7, 7, 8] : List UInt8) t_1).bind fun t_2 => ((goShr .u32 p_x.v 16).bind fun t_3 => ((goStrAt ([0, 1, 1, 2, 1, 2, 2, 3, 1, 2, 2, 3, 2, 3, 3, 4, 1, 2, 2, 3, 2, 3, 3, 4, 2, 3, 3, 4, 3, 4, 4, 5, 1, 2, 2, 3, 2, 3, 3, 4, 2, 3, 3, 4, 3, 4, 4, 5, 2, 3, 3, 4, 3, 4, 4, 5, 3, 4, 4, 5, 4, 5, 5, 6, 1, 2, 2, 3, 2, 3, 3, 4, 2, 3, 3, 4, 3, 4, 4, 5, 2, 3, 3, 4, 3, 4, 4, 5, 3, 4, 4, 5, 4, 5, 5, 6, 2, 3, 3, 4, 3, 4, 4, 5, 3, 4, 4, 5, 4, 5, 5, 6, 3, 4, 4, 5, 4, 5, 5, 6, 4, 5, 5, 6, 5, 6, 6, 7, 1, 2, 2, 3, 2, 3, 3, 4, 2, 3, 3, 4, 3, 4, 4, 5, 2, 3, 3, 4, 3, 4, 4, 5, 3, 4, 4, 5, 4, 5, 5, 6, 2, 3, 3, 4, 3, 4, 4, 5, 3, 4, 4, 5, 4, 5, 5, 6, 3, 4, 4, 5, 4, 5, 5, 6, 4, 5, 5, 6, 5, 6, 6, 7, 2, 3, 3, 4, 3, 4, 4, 5, 3, 4, 4, 5, 4, 5, 5, 6, 3, 4, 4, 5, 4, 5, 5, 6, 4, 5, 5, 6, 5, 6, 6, 7, 3, 4, 4, 5, 4, 5, 5, 6, 4, 5, 5, 6, 5, 6, 6, 7, 4, 5, 5, 6, 5, 6, 6, 7, 5, 6, 6, 7, 6, 7, 7, 8] : List UInt8) (goBits .and .u32 t_3 255)).bind fun t_4 => ((goShr .u32 p_x.v 8).bind fun t_5 => ((goStrAt ([0, 1, 1, 2, 1, 2, 2, 3, 1, 2, 2, 3, 2, 3, 3, 4, 1, 2, 2, 3, 2, 3, 3, 4, 2, 3, 3, 4, 3, 4, 4, 5, 1, 2, 2, 3, 2, 3, 3, 4, 2, 3, 3, 4, 3, 4, 4, 5, 2, 3, 3, 4, 3, 4, 4, 5, 3, 4, 4, 5, 4, 5, 5, 6, 1, 2, 2, 3, 2, 3, 3, 4, 2, 3, 3, 4, 3, 4, 4, 5, 2, 3, 3, 4, 3, 4, 4, 5, 3, 4, 4, 5, 4, 5, 5, 6, 2, 3, 3, 4, 3, 4, 4, 5, 3, 4, 4, 5, 4, 5, 5, 6, 3, 4, 4, 5, 4, 5, 5, 6, 4, 5, 5, 6, 5, 6, 6, 7, 1, 2, 2, 3, 2, 3, 3, 4, 2, 3, 3, 4, 3, 4, 4, 5, 2, 3, 3, 4, 3, 4, 4, 5, 3, 4, 4, 5, 4, 5, 5, 6, 2, 3, 3, 4, 3, 4, 4, 5, 3, 4, 4, 5, 4, 5, 5, 6, 3, 4, 4, 5, 4, 5, 5, 6, 4, 5, 5, 6, 5, 6, 6, 7, 2, 3, 3, 4, 3, 4, 4, 5, 3, 4, 4, 5, 4, 5, 5, 6, 3, 4, 4, 5, 4, 5, 5, 6, 4, 5, 5, 6, 5, 6, 6, 7, 3, 4, 4, 5, 4, 5, 5, 6, 4, 5, 5, 6, 5, 6, 6, 7, 4, 5, 5, 6, 5, 6, 6, 7, 5, 6, 6, 7, 6, 7, 7, 8] : List UInt8) (goBits .and .u32 t_5 255)).bind fun t_6 => ((goStrAt ([0, 1, 1, 2, 1, 2, 2, 3, 1, 2, 2, 3, 2, 3, 3, 4, 1, 2, 2, 3, 2, 3, 3, 4, 2, 3, 3, 4, 3, 4, 4, 5, 1, 2, 2, 3, 2, 3, 3, 4, 2, 3, 3, 4, 3, 4, 4, 5, 2, 3, 3, 4, 3, 4, 4, 5, 3, 4, 4, 5, 4, 5, 5, 6, 1, 2, 2, 3, 2, 3, 3, 4, 2, 3, 3, 4, 3, 4, 4, 5, 2, 3, 3, 4, 3, 4, 4, 5, 3, 4, 4, 5, 4, 5, 5, 6, 2, 3, 3, 4, 3, 4, 4, 5, 3, 4, 4, 5, 4, 5, 5, 6, 3, 4, 4, 5, 4, 5, 5, 6, 4, 5, 5, 6, 5, 6, 6, 7, 1, 2, 2, 3, 2, 3, 3, 4, 2, 3, 3, 4, 3, 4, 4, 5, 2, 3, 3, 4, 3, 4, 4, 5, 3, 4, 4, 5, 4, 5, 5, 6, 2, 3, 3, 4, 3, 4, 4, 5, 3, 4, 4, 5, 4, 5, 5, 6, 3, 4, 4, 5, 4, 5, 5, 6, 4, 5, 5, 6, 5, 6, 6, 7, 2, 3, 3, 4, 3, 4, 4, 5, 3, 4, 4, 5, 4, 5, 5, 6, 3, 4, 4, 5, 4, 5, 5, 6, 4, 5, 5, 6, 5, 6, 6, 7, 3, 4, 4, 5, 4, 5, 5, 6, 4, 5, 5, 6, 5, 6, 6, 7, 4, 5, 5, 6, 5, 6, 6, 7, 5, 6, 6, 7, 6, 7, 7, 8] : List UInt8) (goBits .and .u32 p_x.v 255)).bind fun t_7 => some (w64 (IntKind.wrap .u8 ((IntKind.wrap .u8 ((IntKind.wrap .u8 (t_2 + t_4)) + t_6)) + t_7))))))))))

noncomputable def math_bits_OnesCount64 (p_x : K .u64) : Option (Int) :=
  ((goShr .u64 p_x.v 1).bind fun t_1 => ((goShr .u64 (IntKind.wrap .u64 ((goBits .and .u64 t_1 6148914691236517205) + (goBits .and .u64 p_x.v 6148914691236517205))) 2).bind fun t_2 => ((goShr .u64 (IntKind.wrap .u64 ((goBits .and .u64 t_2 3689348814741910323) + (goBits .and .u64 (IntKind.wrap .u64 ((goBits .and .u64 t_1 6148914691236517205) + (goBits .and .u64 p_x.v 6148914691236517205))) 3689348814741910323))) 4).bind fun t_3 => ((goShr .u64 (goBits .and .u64 (IntKind.wrap .u64 (t_3 + (IntKind.wrap .u64 ((goBits .and .u64 t_2 3689348814741910323) + (goBits .and .u64 (IntKind.wrap .u64 ((goBits .and .u64 t_1 6148914691236517205) + (goBits .and .u64 p_x.v 6148914691236517205))) 3689348814741910323))))) 1085102592571150095) 8).bind fun t_4 => ((goShr .u64 (IntKind.wrap .u64 ((goBits .and .u64 (IntKind.wrap .u64 (t_3 + (IntKind.wrap .u64 ((goBits .and .u64 t_2 3689348814741910323) + (goBits .and .u64 (IntKind.wrap .u64 ((goBits .and .u64 t_1 6148914691236517205) + (goBits .and .u64 p_x.v 6148914691236517205))) 3689348814741910323))))) 1085102592571150095) + t_4)) 16).bind fun t_5 => ((goShr .u64 (IntKind.wrap .u64 ((IntKind.wrap .u64 ((goBits .and .u64 (IntKind.wrap .u64 (t_3 + (IntKind.wrap .u64 ((goBits .and .u64 t_2 3689348814741910323) + (goBits .and .u64 (IntKind.wrap .u64 ((goBits .and .u64 t_1 6148914691236517205) + (goBits .and .u64 p_x.v 6148914691236517205))) 3689348814741910323))))) 1085102592571150095) + t_4)) + t_5)) 32).bind fun t_6 => some (goBits .and .i64 (w64 (IntKind.wrap .u64 ((IntKind.wrap .u64 ((IntKind.wrap .u64 ((goBits .and .u64 (IntKind.wrap .u64 (t_3 + (IntKind.wrap .u64 ((goBits .and .u64 t_2 3689348814741910323) + (goBits .and .u64 (IntKind.wrap .u64 ((goBits .and .u64 t_1 6148914691236517205) + (goBits .and .u64 p_x.v 6148914691236517205))) 3689348814741910323))))) 1085102592571150095) + t_4)) + t_5)) + t_6))) 127)))))))

noncomputable def math_bits_OnesCount (p_x : K .u64) : Option (Int) :=
  ((math_bits_OnesCount64 p_x).bind fun t_1 => some t_1)

noncomputable def impl_CountFailing_l1 (p_e : impl_Edit) : Int × Int → Option (Stp (Int × Int) (Int))
  | (n_7, t_8) => (cond (decide (t_8 < (goLen p_e.Sets))) ((goAt p_e.Sets t_8).bind fun e_9 => ((math_bits_OnesCount (⟨(IntKind.wrap .u64 e_9)⟩ : K .u64)).bind fun t_11 => some (.next ((w64 (n_7 * t_11)), (w64 (t_8 + 1)))))) (some (.done n_7)))

noncomputable def impl_CountFailing (p_s : List impl_Variable) (p_e : impl_Edit) : Option (Int × Bool) :=
  ((((impl_IsSchema p_s).bind fun t_4 => (cond (!t_4) (some true) ((impl_isEdit p_s p_e).bind fun t_5 => some (!t_5)))) : Option (Bool)).bind fun t_6 => (cond t_6 (some (0, false)) ((loopC (impl_CountFailing_l1 p_e) (1, 0)).bind fun n_12 => some (n_12, true))))

noncomputable def spec_CountFailing_l1 (p_e : impl_Edit) : Int × Int → Option (Stp (Int × Int) (Int))
  | (n_7, t_8) => (cond (decide (t_8 < (goLen p_e.Sets))) ((goAt p_e.Sets t_8).bind fun e_9 => ((spec_eLevels e_9).bind fun t_11 => some (.next ((w64 (n_7 * (goLen t_11))), (w64 (t_8 + 1)))))) (some (.done n_7)))

noncomputable def spec_CountFailing (p_s : List impl_Variable) (p_e : impl_Edit) : Option (Int × Bool) :=
  ((spec_eList p_s ([p_e] : List impl_Edit)).bind fun t_5 => (cond (!t_5) (some (0, false)) ((loopC (spec_CountFailing_l1 p_e) (1, 0)).bind fun n_14 => some (n_14, true))))

noncomputable def laws_FnEdits (p_code : List (K .u8)) (p_more : List (K .u8)) : Option (Bool) :=
  ((laws_big p_code p_more).bind fun t_3 => (cond t_3 (some true) ((spec_DrawMeetEdits p_code).bind fun t_4 => ((impl_MeetEdits t_4.1 t_4.2.1 t_4.2.2).bind fun t_11 => ((spec_MeetEdits t_4.1 t_4.2.1 t_4.2.2).bind fun t_16 => (((cond (t_11.2 != t_16.2) (some true) ((laws_sameInts t_11.1.Sets t_16.1.Sets).bind fun t_21 => some (!t_21))) : Option (Bool)).bind fun t_23 => (cond t_23 (some false) ((spec_DrawFailsEdit p_more).bind fun t_24 => ((impl_FailsEdit t_4.1 t_4.2.1 t_24.2.2).bind fun t_30 => ((impl_FailsEdit t_4.1 t_4.2.2 t_24.2.2).bind fun t_32 => (((cond t_11.2 (cond t_30.2 (some t_32.2) (some false)) (some false)) : Option (Bool)).bind fun t_34 => (((cond t_34 ((impl_FailsEdit t_4.1 t_11.1 t_24.2.2).bind fun t_35 => (((cond (!t_35.2) (some true) (cond t_30.1 (some (t_35.1 != t_32.1)) (some (t_35.1 != false)))) : Option (Bool)).bind fun t_37 => (cond t_37 (some (.inr false)) (some (.inl ()))))) (some (.inl ()))) : Option ((Unit) ⊕ (Bool))).bind fun | .inl () => ((impl_ContainsEdit t_4.1 t_4.2.1 t_4.2.2).bind fun t_38 => ((spec_ContainsEdit t_4.1 t_4.2.1 t_4.2.2).bind fun t_40 => (((cond (t_38.2 != t_40.2) (some true) (cond (t_38.1 != t_40.1) (some true) (cond t_38.1 (cond t_30.2 (cond t_32.2 (cond t_32.1 (some (!t_30.1)) (some false)) (some false)) (some false)) (some false)))) : Option (Bool)).bind fun t_42 => (cond t_42 (some false) ((spec_DrawEditText p_more).bind fun t_43 => ((impl_EditText t_43.1 t_43.2).bind fun t_48 => ((spec_EditText t_43.1 t_43.2).bind fun t_50 => (((cond (t_48.2 != t_50.2) (some true) (some (t_48.1 != t_50.1))) : Option (Bool)).bind fun t_52 => (cond t_52 (some false) (cond t_48.2 ((impl_ParseEdit t_43.1 t_48.1).bind fun t_53 => ((impl_CountFailing t_43.1 t_43.2).bind fun t_58 => ((spec_CountFailing t_43.1 t_43.2).bind fun t_60 => (((cond t_53.2 (cond t_58.2 ((laws_sameInts t_53.1.Sets t_43.2.Sets).bind fun t_62 => (cond t_62 (some (t_58.1 == t_60.1)) (some false))) (some false)) (some false)) : Option (Bool)).bind fun t_64 => some t_64)))) (some true))))))))))) | .inr o => some o))))))))))))

end Go.Gx.F
