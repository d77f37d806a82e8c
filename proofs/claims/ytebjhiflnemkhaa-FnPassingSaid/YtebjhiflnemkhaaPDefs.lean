/- The plain functions that the walks come to. -/
import Derived.Test.YtebjhiflnemkhaaGy
namespace Go.Gx.F
open Go.Gx
set_option linter.all false

structure spec_l1Cur where
  code : List (K .u8)
  at_ : Int
  seed : K .u64

instance : Rep spec_l1Cur where
  wd := 3
  rd m cs x := ∃ s1 : Sl, cs = [s1.v, (.int .i64 x.at_), (.int .u64 x.seed.v)] ∧ Rd m s1 x.code
  mono hm h := by
    obtain ⟨s1, rfl, h1⟩ := h
    exact ⟨s1, rfl, h1.mono hm⟩
  len h := by obtain ⟨s1, rfl, _⟩ := h; rfl
  one h := by obtain ⟨s1, rfl, _⟩ := h; rfl

instance : Rng spec_l1Cur := ⟨fun x => Rng.ok x.code ∧ Rng.ok x.at_ ∧ Rng.ok x.seed⟩

structure impl_Variable where
  Name : List UInt8
  Levels : Int

instance : Rep impl_Variable where
  wd := 2
  rd m cs x := cs = [(strV x.Name), (.int .i64 x.Levels)]
  mono _ h := h
  len h := by subst h; rfl
  one h := by subst h; rfl

instance : Flat impl_Variable := ⟨fun h => h⟩

instance : Rng impl_Variable := ⟨fun x => Rng.ok x.Name ∧ Rng.ok x.Levels⟩

structure impl_Edit where
  Sets : List Int

instance : Rep impl_Edit where
  wd := 1
  rd m cs x := ∃ s1 : Sl, cs = [s1.v] ∧ Rd m s1 x.Sets
  mono hm h := by
    obtain ⟨s1, rfl, h1⟩ := h
    exact ⟨s1, rfl, h1.mono hm⟩
  len h := by obtain ⟨s1, rfl, _⟩ := h; rfl
  one h := by obtain ⟨s1, rfl, _⟩ := h; rfl

instance : Rng impl_Edit := ⟨fun x => Rng.ok x.Sets⟩

structure impl_Record where
  Area : Int
  House : Int
  Values : List Int

instance : Rep impl_Record where
  wd := 3
  rd m cs x := ∃ s1 : Sl, cs = [(.int .i64 x.Area), (.int .i64 x.House), s1.v] ∧ Rd m s1 x.Values
  mono hm h := by
    obtain ⟨s1, rfl, h1⟩ := h
    exact ⟨s1, rfl, h1.mono hm⟩
  len h := by obtain ⟨s1, rfl, _⟩ := h; rfl
  one h := by obtain ⟨s1, rfl, _⟩ := h; rfl

instance : Rng impl_Record := ⟨fun x => Rng.ok x.Area ∧ Rng.ok x.House ∧ Rng.ok x.Values⟩

noncomputable def laws_big (p_code : List (K .u8)) (p_more : List (K .u8)) : Option (Bool) :=
  (((cond (decide (1048576 < (goLen p_code))) (some true) (some (decide ((w64 (1048576 - (goLen p_code))) < (goLen p_more))))) : Option (Bool)).bind fun t_3 => some t_3)

noncomputable def spec_l1Cur_next (p_c : spec_l1Cur) : Option (Int × spec_l1Cur) :=
  (((cond (decide (p_c.at_ < (goLen p_c.code))) ((goAt p_c.code p_c.at_).bind fun e_2 => some (w64 e_2.v)) (some 0)) : Option (Int)).bind fun b_4 => (cond (decide ((w64 (p_c.at_ + 1)) ≤ (goLen p_c.code))) (some (b_4, (spec_l1Cur.mk p_c.code (w64 (p_c.at_ + 1)) (⟨(IntKind.wrap .u64 ((IntKind.wrap .u64 ((IntKind.wrap .u64 (p_c.seed.v * 6364136223846793005)) + (IntKind.wrap .u64 b_4))) + 1442695040888963407))⟩ : K .u64)))) ((goShr .u64 (IntKind.wrap .u64 ((IntKind.wrap .u64 ((IntKind.wrap .u64 (p_c.seed.v * 6364136223846793005)) + (IntKind.wrap .u64 b_4))) + 1442695040888963407)) 40).bind fun t_5 => some ((w64 (goBits .and .u64 t_5 255)), (spec_l1Cur.mk p_c.code (w64 (p_c.at_ + 1)) (⟨(IntKind.wrap .u64 ((IntKind.wrap .u64 ((IntKind.wrap .u64 (p_c.seed.v * 6364136223846793005)) + (IntKind.wrap .u64 b_4))) + 1442695040888963407))⟩ : K .u64))))))

noncomputable def spec_l1Cur_pick (p_c : spec_l1Cur) (p_n : Int) : Option (Int × spec_l1Cur) :=
  (cond (decide (p_n ≤ 1)) (some (0, p_c)) ((spec_l1Cur_next p_c).bind fun t_3 => (((cond (decide (200 < p_n)) ((spec_l1Cur_next t_3.2).bind fun t_6 => some ((w64 ((w64 (t_3.1 * 256)) + t_6.1)), t_6.2)) (some (t_3.1, t_3.2))) : Option (Int × spec_l1Cur)).bind fun (x_8, p_c_9) => ((goRem x_8 p_n).bind fun t_11 => some (t_11, p_c_9)))))

noncomputable def spec_l1Cur_schema_l1  : (List impl_Variable) × Int × spec_l1Cur → Option (Stp ((List impl_Variable) × Int × spec_l1Cur) ((List impl_Variable) × spec_l1Cur))
  | (out_3, k_5, p_c_6) => ((spec_l1Cur_pick p_c_6 3).bind fun t_9 => (cond (decide (k_5 < (w64 (1 + t_9.1)))) ((((goAt ([([115, 101, 120] : List UInt8), ([97, 103, 101] : List UInt8), ([106, 111, 98] : List UInt8), ([104, 111, 109, 101] : List UInt8), ([115, 105, 122, 101] : List UInt8), ([108, 97, 110, 103] : List UInt8)] : List (List UInt8)) k_5).bind fun e_11 => ((spec_l1Cur_pick t_9.2 3).bind fun t_17 => ((goApp 24 out_3 ([(impl_Variable.mk e_11 (w64 (2 + t_17.1)))] : List impl_Variable)).bind fun l_20 => some (l_20, t_17.2)))) : Option ((List impl_Variable) × spec_l1Cur)).bind fun (out_22, p_c_24) => some (.next (out_22, (w64 (k_5 + 1)), p_c_24))) (some (.done (out_3, t_9.2)))))

noncomputable def spec_l1Cur_schema (p_c : spec_l1Cur) : Option ((List impl_Variable) × spec_l1Cur) :=
  ((loopC (spec_l1Cur_schema_l1) (([] : List impl_Variable), 0, p_c)).bind fun (out_26, p_c_28) => some (out_26, p_c_28))

noncomputable def spec_l1Cur_among (p_c : spec_l1Cur) (p_list : List Int) : Option (Int × spec_l1Cur) :=
  ((spec_l1Cur_pick p_c (goLen p_list)).bind fun t_4 => ((goAt p_list t_4.1).bind fun e_6 => some (e_6, t_4.2)))

noncomputable def spec_l1Cur_of (p_c : spec_l1Cur) (p_list : List (List UInt8)) : Option ((List UInt8) × spec_l1Cur) :=
  ((spec_l1Cur_pick p_c (goLen p_list)).bind fun t_4 => ((goAt p_list t_4.1).bind fun e_6 => some (e_6, t_4.2)))

noncomputable def spec_l1Cur_anySchema_l1  : (List impl_Variable) × spec_l1Cur → Option (Stp ((List impl_Variable) × spec_l1Cur) ((List impl_Variable) × spec_l1Cur))
  | (s_9, p_c_11) => ((spec_l1Cur_pick p_c_11 2).bind fun t_14 => (cond (decide ((goLen s_9) < (w64 (6 + t_14.1)))) ((goCat ([120] : List UInt8) (goBytes ([(⟨(IntKind.wrap .u8 (w64 (97 + (goLen s_9))))⟩ : K .u8)] : List (K .u8)))).bind fun t_17 => ((goApp 24 s_9 ([(impl_Variable.mk t_17 2)] : List impl_Variable)).bind fun l_19 => some (.next (l_19, t_14.2)))) (some (.done (s_9, t_14.2)))))

noncomputable def spec_l1Cur_anySchema (p_c : spec_l1Cur) : Option ((List impl_Variable) × spec_l1Cur) :=
  ((spec_l1Cur_schema p_c).bind fun t_3 => ((spec_l1Cur_pick t_3.2 24).bind fun t_7 => (((cond (t_7.1 == 0) ((spec_l1Cur_among t_7.2 ([1, 8, 9] : List Int)).bind fun t_42 => ((goAt t_3.1 0).bind fun e_44 => some (.inl (goSet t_3.1 0 (impl_Variable.mk e_44.Name t_42.1), t_42.2)))) (((cond (t_7.1 == 1) ((spec_l1Cur_of t_7.2 ([([] : List UInt8), ([65, 103, 101] : List UInt8), ([97, 98, 99, 100, 101, 102, 103, 104, 105] : List UInt8), ([97, 103, 101] : List UInt8), ([97, 98, 32, 99, 100] : List UInt8)] : List (List UInt8))).bind fun t_31 => ((goAt t_3.1 0).bind fun e_33 => some (.inl (goSet t_3.1 0 (impl_Variable.mk t_31.1 e_33.Levels), t_31.2)))) (cond (t_7.1 == 2) (some (.inr (.inr (([] : List impl_Variable), t_7.2)))) (((cond (t_7.1 == 3) ((loopC (spec_l1Cur_anySchema_l1) (t_3.1, t_7.2)).bind fun (s_21, p_c_23) => some (s_21, p_c_23)) (some (t_3.1, t_7.2))) : Option ((List impl_Variable) × spec_l1Cur)).bind fun (s_25, p_c_27) => some (.inl (s_25, p_c_27))))) : Option (((List impl_Variable) × spec_l1Cur) ⊕ (((List impl_Variable) × spec_l1Cur) ⊕ ((List impl_Variable) × spec_l1Cur)))).bind fun | .inl (s_36, p_c_38) => some (.inl (s_36, p_c_38)) | .inr o => some o)) : Option (((List impl_Variable) × spec_l1Cur) ⊕ ((List impl_Variable) × spec_l1Cur))).bind fun | .inl (s_47, p_c_49) => some (s_47, p_c_49) | .inr o => some o)))

noncomputable def spec_l1In (p_n : Int) (p_lo : Int) (p_hi : Int) : Option (Bool) :=
  (((cond (decide (p_lo ≤ p_n)) (some (decide (p_n ≤ p_hi))) (some false)) : Option (Bool)).bind fun t_1 => some t_1)

noncomputable def spec_sName_l1 (p_s : List UInt8) (i_1 : Int) : Option (Stp (Int) ((Unit) ⊕ (Bool))) :=
  (cond (decide (i_1 < (goLen p_s))) ((((goStrAt p_s i_1).bind fun t_2 => (cond (decide (t_2 < 97)) (some true) ((goStrAt p_s i_1).bind fun t_3 => some (decide (122 < t_3))))) : Option (Bool)).bind fun t_4 => (cond t_4 (some (.done (.inr false))) (some (.next (w64 (i_1 + 1)))))) (some (.done (.inl ()))))

noncomputable def spec_sName (p_s : List UInt8) : Option (Bool) :=
  ((loopC (spec_sName_l1 p_s) 0).bind fun | .inl () => ((spec_l1In (goLen p_s) 1 8).bind fun t_5 => some t_5) | .inr o => some o)

noncomputable def spec_sFind_l1 (p_s : List impl_Variable) (p_name : List UInt8) (t_2 : Int) : Option (Stp (Int) ((Unit) ⊕ (Int))) :=
  (cond (decide (t_2 < (goLen p_s))) ((goAt p_s t_2).bind fun e_3 => (cond (e_3.Name == p_name) (some (.done (.inr t_2))) (some (.next (w64 (t_2 + 1)))))) (some (.done (.inl ()))))

noncomputable def spec_sFind (p_s : List impl_Variable) (p_name : List UInt8) : Option (Int) :=
  ((loopC (spec_sFind_l1 p_s p_name) 0).bind fun | .inl () => some (-1) | .inr o => some o)

noncomputable def spec_sGood_l1 (p_s : List impl_Variable) (t_3 : Int) : Option (Stp (Int) ((Unit) ⊕ (Bool))) :=
  (cond (decide (t_3 < (goLen p_s))) ((goAt p_s t_3).bind fun e_4 => ((((spec_sName e_4.Name).bind fun t_7 => (cond (!t_7) (some true) ((spec_l1In e_4.Levels 2 8).bind fun t_8 => (cond (!t_8) (some true) ((goSub p_s 0 t_3).bind fun l_9 => ((spec_sFind l_9 e_4.Name).bind fun t_11 => some (decide (0 ≤ t_11)))))))) : Option (Bool)).bind fun t_12 => (cond t_12 (some (.done (.inr false))) (some (.next (w64 (t_3 + 1))))))) (some (.done (.inl ()))))

noncomputable def spec_sGood (p_s : List impl_Variable) : Option (Bool) :=
  ((spec_l1In (goLen p_s) 1 6).bind fun t_2 => (cond (!t_2) (some false) ((loopC (spec_sGood_l1 p_s) 0).bind fun | .inl () => some true | .inr o => some o)))

noncomputable def spec_eFull (p_s : List impl_Variable) (p_v : Int) : Option (Int) :=
  ((goAt p_s p_v).bind fun e_2 => ((goShl .i64 1 (IntKind.wrap .u64 e_2.Levels)).bind fun t_4 => some (w64 (t_4 - 1))))

noncomputable def spec_l1Cur_one (p_c : spec_l1Cur) (p_n : Int) : Option (Bool × spec_l1Cur) :=
  ((spec_l1Cur_pick p_c p_n).bind fun t_3 => some (t_3.1 == 0, t_3.2))

noncomputable def spec_l1Cur_edit_l1 (p_s : List impl_Variable) : Int × impl_Edit × spec_l1Cur → Option (Stp (Int × impl_Edit × spec_l1Cur) (impl_Edit × spec_l1Cur))
  | (t_5, e_6, p_c_8) => (cond (decide (t_5 < (goLen p_s))) ((spec_eFull p_s t_5).bind fun t_10 => ((spec_l1Cur_one p_c_8 3).bind fun t_12 => (((cond (!t_12.1) ((spec_l1Cur_pick t_12.2 t_10).bind fun t_15 => some ((w64 (1 + t_15.1)), t_15.2)) (some (t_10, t_12.2))) : Option (Int × spec_l1Cur)).bind fun (x_17, p_c_18) => ((goApp 8 e_6.Sets ([x_17] : List Int)).bind fun l_21 => some (.next ((w64 (t_5 + 1)), (impl_Edit.mk l_21), p_c_18)))))) (some (.done (e_6, p_c_8))))

noncomputable def spec_l1Cur_edit (p_c : spec_l1Cur) (p_s : List impl_Variable) : Option (impl_Edit × spec_l1Cur) :=
  ((loopC (spec_l1Cur_edit_l1 p_s) (0, (impl_Edit.mk ([] : List Int)), p_c)).bind fun (e_23, p_c_25) => some (e_23, p_c_25))

noncomputable def spec_l1Cur_anyEdit (p_c : spec_l1Cur) (p_s : List impl_Variable) : Option (impl_Edit × spec_l1Cur) :=
  ((spec_sGood p_s).bind fun t_4 => (cond (!t_4) (some ((impl_Edit.mk ([1] : List Int)), p_c)) ((spec_l1Cur_edit p_c p_s).bind fun t_6 => ((spec_l1Cur_pick t_6.2 24).bind fun t_11 => (((cond (t_11.1 == 0) ((((spec_l1Cur_pick t_11.2 (goLen t_6.1.Sets)).bind fun t_26 => ((spec_l1Cur_among t_26.2 ([0, -1, 256, 4] : List Int)).bind fun t_30 => ((goAt t_6.1.Sets t_26.1).bind fun e_32 => some (t_30.2, (impl_Edit.mk (goSet t_6.1.Sets t_26.1 t_30.1)))))) : Option (spec_l1Cur × impl_Edit)).bind fun (p_c_35, e_37) => some (p_c_35, e_37)) (((cond (t_11.1 == 1) ((goApp 8 t_6.1.Sets ([1] : List Int)).bind fun l_14 => some (impl_Edit.mk l_14)) (some t_6.1)) : Option (impl_Edit)).bind fun e_16 => some (t_11.2, e_16))) : Option (spec_l1Cur × impl_Edit)).bind fun (p_c_39, e_41) => some (e_41, p_c_39))))))

noncomputable def spec_l1Own (p_l : List Int) : Option ((List Int)) :=
  ((goApp 8 ([] : List Int) p_l).bind fun l_3 => some l_3)

noncomputable def spec_l1Cur_edits_l1 (p_s : List impl_Variable) : (List impl_Edit) × Int × spec_l1Cur → Option (Stp ((List impl_Edit) × Int × spec_l1Cur) ((List impl_Edit) × spec_l1Cur))
  | (l_6, k_8, p_c_9) => (cond (decide (0 < k_8)) ((spec_l1Cur_anyEdit p_c_9 p_s).bind fun t_13 => ((goApp 24 l_6 ([t_13.1] : List impl_Edit)).bind fun l_18 => some (.next (l_18, (w64 (k_8 - 1)), t_13.2)))) (some (.done (l_6, p_c_9))))

noncomputable def spec_l1Cur_edits_l2 (t_29 : impl_Edit × spec_l1Cur) (t_34 : Int × spec_l1Cur) (l_36 : List impl_Edit) : Option (Stp ((List impl_Edit)) ((List impl_Edit))) :=
  (cond (decide ((goLen l_36) < (w64 (40 + t_34.1)))) ((spec_l1Own t_29.1.Sets).bind fun t_39 => ((goApp 24 l_36 ([(impl_Edit.mk t_39)] : List impl_Edit)).bind fun l_45 => some (.next l_45))) (some (.done l_36)))

noncomputable def spec_l1Cur_edits (p_c : spec_l1Cur) (p_s : List impl_Variable) : Option ((List impl_Edit) × spec_l1Cur) :=
  ((spec_l1Cur_pick p_c 6).bind fun t_4 => ((loopC (spec_l1Cur_edits_l1 p_s) (([] : List impl_Edit), t_4.1, t_4.2)).bind fun (l_20, p_c_22) => ((spec_l1Cur_one p_c_22 40).bind fun t_26 => (((cond t_26.1 ((spec_l1Cur_anyEdit t_26.2 p_s).bind fun t_29 => ((spec_l1Cur_pick t_29.2 2).bind fun t_34 => ((loopC (spec_l1Cur_edits_l2 t_29 t_34) l_20).bind fun l_47 => some (l_47, t_34.2)))) (some (l_20, t_26.2))) : Option ((List impl_Edit) × spec_l1Cur)).bind fun (l_50, p_c_52) => some (l_50, p_c_52)))))

noncomputable def spec_DrawCountPassing (p_code : List (K .u8)) : Option ((List impl_Variable) × (List impl_Edit)) :=
  ((spec_l1Cur_anySchema (spec_l1Cur.mk p_code 0 (⟨0⟩ : K .u64))).bind fun t_4 => ((spec_l1Cur_edits t_4.2 t_4.1).bind fun t_9 => some (t_4.1, t_9.1)))

noncomputable def spec_DrawFirstPassing (p_code : List (K .u8)) : Option ((List impl_Variable) × (List impl_Edit)) :=
  ((spec_DrawCountPassing p_code).bind fun t_2 => some (t_2.1, t_2.2))

noncomputable def impl_isWord_l1 (p_s : List UInt8) (t_2 : Int) : Option (Stp (Int) ((Unit) ⊕ (Bool))) :=
  (cond (decide (t_2 < (goLen p_s))) ((((goStrAt p_s t_2).bind fun t_3 => (cond (decide (t_3 < 97)) (some true) ((goStrAt p_s t_2).bind fun t_4 => some (decide (122 < t_4))))) : Option (Bool)).bind fun t_5 => (cond t_5 (some (.done (.inr false))) (some (.next (w64 (t_2 + 1)))))) (some (.done (.inl ()))))

noncomputable def impl_isWord (p_s : List UInt8) : Option (Bool) :=
  (((cond (decide ((goLen p_s) < 1)) (some true) (some (decide (8 < (goLen p_s))))) : Option (Bool)).bind fun t_1 => (cond t_1 (some false) ((loopC (impl_isWord_l1 p_s) 0).bind fun | .inl () => some true | .inr o => some o)))

noncomputable def impl_IsSchema_l2 (e_4 : impl_Variable) (l_9 : List impl_Variable) (t_11 : Int) : Option (Stp (Int) ((Unit) ⊕ (Stp (Int) ((Unit) ⊕ (Bool))))) :=
  (cond (decide (t_11 < (goLen l_9))) ((goAt l_9 t_11).bind fun e_12 => (cond (e_12.Name == e_4.Name) (some (.done (.inr (.done (.inr false))))) (some (.next (w64 (t_11 + 1)))))) (some (.done (.inl ()))))

noncomputable def impl_IsSchema_l1 (p_s : List impl_Variable) (t_3 : Int) : Option (Stp (Int) ((Unit) ⊕ (Bool))) :=
  (cond (decide (t_3 < (goLen p_s))) ((goAt p_s t_3).bind fun e_4 => ((((impl_isWord e_4.Name).bind fun t_7 => (cond (!t_7) (some true) (cond (decide (e_4.Levels < 2)) (some true) (some (decide (8 < e_4.Levels)))))) : Option (Bool)).bind fun t_8 => (cond t_8 (some (.done (.inr false))) ((goSub p_s 0 t_3).bind fun l_9 => ((loopC (impl_IsSchema_l2 e_4 l_9) 0).bind fun | .inl () => some (.next (w64 (t_3 + 1))) | .inr o => some o))))) (some (.done (.inl ()))))

noncomputable def impl_IsSchema (p_s : List impl_Variable) : Option (Bool) :=
  (((cond (decide ((goLen p_s) < 1)) (some true) (some (decide (6 < (goLen p_s))))) : Option (Bool)).bind fun t_2 => (cond t_2 (some false) ((loopC (impl_IsSchema_l1 p_s) 0).bind fun | .inl () => some true | .inr o => some o)))

noncomputable def impl_fullSet (p_v : impl_Variable) : Option (Int) :=
  ((goShl .i64 1 p_v.Levels).bind fun t_2 => some (w64 (t_2 - 1)))

noncomputable def impl_isEdit_l1 (p_s : List impl_Variable) (p_e : impl_Edit) (t_4 : Int) : Option (Stp (Int) ((Unit) ⊕ (Bool))) :=
  (cond (decide (t_4 < (goLen p_e.Sets))) ((goAt p_e.Sets t_4).bind fun e_5 => (((cond (decide (e_5 < 1)) (some true) ((goAt p_s t_4).bind fun e_7 => ((impl_fullSet e_7).bind fun t_9 => some (decide (t_9 < e_5))))) : Option (Bool)).bind fun t_10 => (cond t_10 (some (.done (.inr false))) (some (.next (w64 (t_4 + 1))))))) (some (.done (.inl ()))))

noncomputable def impl_isEdit (p_s : List impl_Variable) (p_e : impl_Edit) : Option (Bool) :=
  (cond ((goLen p_e.Sets) != (goLen p_s)) (some false) ((loopC (impl_isEdit_l1 p_s p_e) 0).bind fun | .inl () => some true | .inr o => some o))

noncomputable def impl_areEdits_l1 (p_s : List impl_Variable) (p_l : List impl_Edit) (t_3 : Int) : Option (Stp (Int) ((Unit) ⊕ (Bool))) :=
  (cond (decide (t_3 < (goLen p_l))) ((goAt p_l t_3).bind fun e_4 => ((impl_isEdit p_s e_4).bind fun t_8 => (cond (!t_8) (some (.done (.inr false))) (some (.next (w64 (t_3 + 1))))))) (some (.done (.inl ()))))

noncomputable def impl_areEdits (p_s : List impl_Variable) (p_l : List impl_Edit) : Option (Bool) :=
  (cond (decide (40 < (goLen p_l))) (some false) ((loopC (impl_areEdits_l1 p_s p_l) 0).bind fun | .inl () => some true | .inr o => some o))

noncomputable def impl_combinations_l1 (p_s : List impl_Variable) : Int × Int → Option (Stp (Int × Int) (Int))
  | (n_2, t_3) => (cond (decide (t_3 < (goLen p_s))) ((goAt p_s t_3).bind fun e_4 => some (.next ((w64 (n_2 * e_4.Levels)), (w64 (t_3 + 1))))) (some (.done n_2)))

noncomputable def impl_combinations (p_s : List impl_Variable) : Option (Int) :=
  ((loopC (impl_combinations_l1 p_s) (1, 0)).bind fun n_7 => some n_7)

noncomputable def impl_valuesAt_l1 (p_s : List impl_Variable) : Int × (List Int) × Int → Option (Stp (Int × (List Int) × Int) ((List Int)))
  | (i_4, values_5, k_7) => (cond (decide (0 ≤ k_7)) ((goAt p_s k_7).bind fun e_8 => ((goRem i_4 e_8.Levels).bind fun t_10 => ((goAt values_5 k_7).bind fun e_11 => ((goAt p_s k_7).bind fun e_14 => ((goQuo .i64 i_4 e_14.Levels).bind fun t_16 => some (.next (t_16, goSet values_5 k_7 t_10, (w64 (k_7 - 1))))))))) (some (.done values_5)))

noncomputable def impl_valuesAt (p_s : List impl_Variable) (p_i : Int) : Option ((List Int)) :=
  ((goMake 8 (goLen p_s) (0 : Int)).bind fun l_2 => ((loopC (impl_valuesAt_l1 p_s) (p_i, l_2, (w64 ((goLen p_s) - 1)))).bind fun values_17 => some values_17))

noncomputable def impl_fails_l1 (p_e : impl_Edit) (p_values : List Int) (t_4 : Int) : Option (Stp (Int) ((Unit) ⊕ (Bool))) :=
  (cond (decide (t_4 < (goLen p_values))) ((goAt p_values t_4).bind fun e_5 => ((goAt p_e.Sets t_4).bind fun e_7 => ((goShr .i64 e_7 e_5).bind fun t_9 => (cond ((goBits .and .i64 t_9 1) == 0) (some (.done (.inr false))) (some (.next (w64 (t_4 + 1)))))))) (some (.done (.inl ()))))

noncomputable def impl_fails (p_e : impl_Edit) (p_values : List Int) : Option (Bool) :=
  ((loopC (impl_fails_l1 p_e p_values) 0).bind fun | .inl () => some true | .inr o => some o)

noncomputable def impl_failsOne_l1 (p_l : List impl_Edit) (p_values : List Int) (t_3 : Int) : Option (Stp (Int) ((Unit) ⊕ (Bool))) :=
  (cond (decide (t_3 < (goLen p_l))) ((goAt p_l t_3).bind fun e_4 => ((impl_fails e_4 p_values).bind fun t_8 => (cond t_8 (some (.done (.inr true))) (some (.next (w64 (t_3 + 1))))))) (some (.done (.inl ()))))

noncomputable def impl_failsOne (p_l : List impl_Edit) (p_values : List Int) : Option (Bool) :=
  ((loopC (impl_failsOne_l1 p_l p_values) 0).bind fun | .inl () => some false | .inr o => some o)

noncomputable def impl_FirstPassing_1 (p_values : List Int) (p_x1 : List Int) : Option (Bool × (List Int)) :=
  ((goNE p_values).bind fun _ => some (false, p_values))

noncomputable def impl_passing_of_impl_FirstPassing_1_l1 (p_s : List impl_Variable) (p_l : List impl_Edit) (t_4 : Int) : Int × (List Int) → Option (Stp (Int × (List Int)) (((List Int)) ⊕ ((List Int))))
  | (t_5, p_x300_6) => (cond (decide (t_5 < t_4)) ((impl_valuesAt p_s t_5).bind fun t_9 => ((((impl_failsOne p_l t_9).bind fun t_12 => (cond (!t_12) ((impl_FirstPassing_1 t_9 p_x300_6).bind fun t_16 => some (!t_16.1, t_16.2)) (some (false, p_x300_6)))) : Option (Bool × (List Int))).bind fun (t_18, p_x300_19) => (cond t_18 (some (.done (.inr p_x300_19))) (some (.next ((w64 (t_5 + 1)), p_x300_19)))))) (some (.done (.inl p_x300_6))))

noncomputable def impl_passing_of_impl_FirstPassing_1 (p_s : List impl_Variable) (p_l : List impl_Edit) (p_x300 : List Int) : Option ((List Int)) :=
  ((impl_combinations p_s).bind fun t_4 => ((loopC (impl_passing_of_impl_FirstPassing_1_l1 p_s p_l t_4) (0, p_x300)).bind fun | .inl p_x300_22 => some p_x300_22 | .inr o => some o))

noncomputable def impl_FirstPassing (p_s : List impl_Variable) (p_l : List impl_Edit) : Option ((List Int) × Bool) :=
  ((((impl_IsSchema p_s).bind fun t_3 => (cond (!t_3) (some true) ((impl_areEdits p_s p_l).bind fun t_4 => (cond (!t_4) (some true) ((impl_combinations p_s).bind fun t_5 => some (decide (20000 < t_5))))))) : Option (Bool)).bind fun t_6 => (cond t_6 (some (([] : List Int), false)) ((impl_passing_of_impl_FirstPassing_1 p_s p_l ([] : List Int)).bind fun t_9 => some (t_9, !t_9.isEmpty))))

noncomputable def spec_eGood_l1 (p_s : List impl_Variable) (p_e : impl_Edit) (t_4 : Int) : Option (Stp (Int) ((Unit) ⊕ (Bool))) :=
  (cond (decide (t_4 < (goLen p_e.Sets))) ((goAt p_e.Sets t_4).bind fun e_5 => ((spec_eFull p_s t_4).bind fun t_7 => ((spec_l1In e_5 1 t_7).bind fun t_8 => (cond (!t_8) (some (.done (.inr false))) (some (.next (w64 (t_4 + 1)))))))) (some (.done (.inl ()))))

noncomputable def spec_eGood (p_s : List impl_Variable) (p_e : impl_Edit) : Option (Bool) :=
  (cond ((goLen p_e.Sets) != (goLen p_s)) (some false) ((loopC (spec_eGood_l1 p_s p_e) 0).bind fun | .inl () => some true | .inr o => some o))

noncomputable def spec_eList_l1 (p_s : List impl_Variable) (p_l : List impl_Edit) (t_5 : Int) : Option (Stp (Int) ((Unit) ⊕ (Bool))) :=
  (cond (decide (t_5 < (goLen p_l))) ((goAt p_l t_5).bind fun e_6 => ((spec_eGood p_s e_6).bind fun t_10 => (cond (!t_10) (some (.done (.inr false))) (some (.next (w64 (t_5 + 1))))))) (some (.done (.inl ()))))

noncomputable def spec_eList (p_s : List impl_Variable) (p_l : List impl_Edit) : Option (Bool) :=
  ((((spec_sGood p_s).bind fun t_3 => (cond (!t_3) (some true) (some (decide (40 < (goLen p_l)))))) : Option (Bool)).bind fun t_4 => (cond t_4 (some false) ((loopC (spec_eList_l1 p_s p_l) 0).bind fun | .inl () => some true | .inr o => some o)))

noncomputable def spec_sCount_l1 (p_s : List impl_Variable) : Int × Int → Option (Stp (Int × Int) (Int))
  | (n_2, t_3) => (cond (decide (t_3 < (goLen p_s))) ((goAt p_s t_3).bind fun e_4 => some (.next ((w64 (n_2 * e_4.Levels)), (w64 (t_3 + 1))))) (some (.done n_2)))

noncomputable def spec_sCount (p_s : List impl_Variable) : Option (Int) :=
  ((loopC (spec_sCount_l1 p_s) (1, 0)).bind fun n_7 => some n_7)

noncomputable def spec_sAt_l1 (p_s : List impl_Variable) : Int × (List Int) × Int → Option (Stp (Int × (List Int) × Int) ((List Int)))
  | (i_4, out_5, k_7) => (cond (decide (0 ≤ k_7)) ((goAt p_s k_7).bind fun e_8 => ((goRem i_4 e_8.Levels).bind fun t_10 => ((goAt out_5 k_7).bind fun e_11 => ((goAt p_s k_7).bind fun e_14 => ((goQuo .i64 i_4 e_14.Levels).bind fun t_16 => some (.next (t_16, goSet out_5 k_7 t_10, (w64 (k_7 - 1))))))))) (some (.done out_5)))

noncomputable def spec_sAt (p_s : List impl_Variable) (p_i : Int) : Option ((List Int)) :=
  ((goMake 8 (goLen p_s) (0 : Int)).bind fun l_2 => ((loopC (spec_sAt_l1 p_s) (p_i, l_2, (w64 ((goLen p_s) - 1)))).bind fun out_17 => some out_17))

noncomputable def spec_eFails_l1 (p_e : impl_Edit) (p_values : List Int) (t_4 : Int) : Option (Stp (Int) ((Unit) ⊕ (Bool))) :=
  (cond (decide (t_4 < (goLen p_values))) ((goAt p_values t_4).bind fun e_5 => ((goAt p_e.Sets t_4).bind fun e_7 => ((goShr .i64 e_7 (IntKind.wrap .u64 e_5)).bind fun t_9 => (cond ((goBits .and .i64 t_9 1) == 0) (some (.done (.inr false))) (some (.next (w64 (t_4 + 1)))))))) (some (.done (.inl ()))))

noncomputable def spec_eFails (p_e : impl_Edit) (p_values : List Int) : Option (Bool) :=
  ((loopC (spec_eFails_l1 p_e p_values) 0).bind fun | .inl () => some true | .inr o => some o)

noncomputable def spec_eFailed_l1 (p_l : List impl_Edit) (p_values : List Int) : (List Int) × Int → Option (Stp ((List Int) × Int) ((List Int)))
  | (out_3, t_5) => (cond (decide (t_5 < (goLen p_l))) ((goAt p_l t_5).bind fun e_6 => ((spec_eFails e_6 p_values).bind fun t_10 => (((cond t_10 ((goApp 8 out_3 ([t_5] : List Int)).bind fun l_12 => some l_12) (some out_3)) : Option ((List Int))).bind fun out_14 => some (.next (out_14, (w64 (t_5 + 1))))))) (some (.done out_3)))

noncomputable def spec_eFailed (p_l : List impl_Edit) (p_values : List Int) : Option ((List Int)) :=
  ((loopC (spec_eFailed_l1 p_l p_values) (([] : List Int), 0)).bind fun out_16 => some out_16)

noncomputable def spec_ePassing_l1 (p_s : List impl_Variable) (p_l : List impl_Edit) : Int × (List Int) × Int → Option (Stp (Int × (List Int) × Int) (Int × (List Int)))
  | (n_3, first_4, i_6) => ((spec_sCount p_s).bind fun t_7 => (cond (decide (i_6 < t_7)) ((spec_sAt p_s i_6).bind fun t_8 => ((spec_eFailed p_l t_8).bind fun t_11 => (((cond ((goLen t_11) == 0) (((cond (n_3 == 0) (some t_8) (some first_4)) : Option ((List Int))).bind fun first_15 => some ((w64 (n_3 + 1)), first_15)) (some (n_3, first_4))) : Option (Int × (List Int))).bind fun (n_17, first_18) => some (.next (n_17, first_18, (w64 (i_6 + 1))))))) (some (.done (n_3, first_4)))))

noncomputable def spec_ePassing (p_s : List impl_Variable) (p_l : List impl_Edit) : Option (Int × (List Int)) :=
  ((loopC (spec_ePassing_l1 p_s p_l) (0, ([] : List Int), 0)).bind fun (n_20, first_21) => some (n_20, first_21))

noncomputable def spec_FirstPassing (p_s : List impl_Variable) (p_l : List impl_Edit) : Option ((List Int) × Bool) :=
  ((((spec_eList p_s p_l).bind fun t_3 => (cond (!t_3) (some true) ((spec_sCount p_s).bind fun t_4 => some (decide (20000 < t_4))))) : Option (Bool)).bind fun t_5 => (cond t_5 (some (([] : List Int), false)) ((spec_ePassing p_s p_l).bind fun t_6 => some (t_6.2, decide (0 < t_6.1)))))

noncomputable def impl_CountPassing_1 (p_x0 : List Int) (p_x1 : Int) : Option (Bool × Int) :=
  some (true, (w64 (p_x1 + 1)))

noncomputable def impl_passing_of_impl_CountPassing_1_l1 (p_s : List impl_Variable) (p_l : List impl_Edit) (t_3 : Int) : Int × Int → Option (Stp (Int × Int) ((Int) ⊕ (Int)))
  | (t_4, p_x300_5) => (cond (decide (t_4 < t_3)) ((impl_valuesAt p_s t_4).bind fun t_6 => ((((impl_failsOne p_l t_6).bind fun t_9 => (cond (!t_9) ((impl_CountPassing_1 t_6 p_x300_5).bind fun t_12 => some (!t_12.1, t_12.2)) (some (false, p_x300_5)))) : Option (Bool × Int)).bind fun (t_13, p_x300_14) => (cond t_13 (some (.done (.inr p_x300_14))) (some (.next ((w64 (t_4 + 1)), p_x300_14)))))) (some (.done (.inl p_x300_5))))

noncomputable def impl_passing_of_impl_CountPassing_1 (p_s : List impl_Variable) (p_l : List impl_Edit) (p_x300 : Int) : Option (Int) :=
  ((impl_combinations p_s).bind fun t_3 => ((loopC (impl_passing_of_impl_CountPassing_1_l1 p_s p_l t_3) (0, p_x300)).bind fun | .inl p_x300_15 => some p_x300_15 | .inr o => some o))

noncomputable def impl_CountPassing (p_s : List impl_Variable) (p_l : List impl_Edit) : Option (Int × Bool) :=
  ((((impl_IsSchema p_s).bind fun t_3 => (cond (!t_3) (some true) ((impl_areEdits p_s p_l).bind fun t_4 => (cond (!t_4) (some true) ((impl_combinations p_s).bind fun t_5 => some (decide (20000 < t_5))))))) : Option (Bool)).bind fun t_6 => (cond t_6 (some (0, false)) ((impl_passing_of_impl_CountPassing_1 p_s p_l 0).bind fun t_9 => some (t_9, true))))

noncomputable def spec_CountPassing (p_s : List impl_Variable) (p_l : List impl_Edit) : Option (Int × Bool) :=
  ((((spec_eList p_s p_l).bind fun t_3 => (cond (!t_3) (some true) ((spec_sCount p_s).bind fun t_4 => some (decide (20000 < t_4))))) : Option (Bool)).bind fun t_5 => (cond t_5 (some (0, false)) ((spec_ePassing p_s p_l).bind fun t_6 => some (t_6.1, true))))

noncomputable def laws_sameInts_l1 (p_a : List Int) (p_b : List Int) (t_3 : Int) : Option (Stp (Int) ((Unit) ⊕ (Bool))) :=
  (cond (decide (t_3 < (goLen p_a))) ((goAt p_a t_3).bind fun e_4 => ((goAt p_b t_3).bind fun e_6 => (cond (e_4 != e_6) (some (.done (.inr false))) (some (.next (w64 (t_3 + 1))))))) (some (.done (.inl ()))))

noncomputable def laws_sameInts (p_a : List Int) (p_b : List Int) : Option (Bool) :=
  (cond ((goLen p_a) != (goLen p_b)) (some false) ((loopC (laws_sameInts_l1 p_a p_b) 0).bind fun | .inl () => some true | .inr o => some o))

noncomputable def impl_areValues_l1 (p_s : List impl_Variable) (p_values : List Int) (t_3 : Int) : Option (Stp (Int) ((Unit) ⊕ (Bool))) :=
  (cond (decide (t_3 < (goLen p_values))) ((goAt p_values t_3).bind fun e_4 => (((cond (decide (e_4 < 0)) (some true) ((goAt p_s t_3).bind fun e_6 => some (decide (e_6.Levels ≤ e_4)))) : Option (Bool)).bind fun t_8 => (cond t_8 (some (.done (.inr false))) (some (.next (w64 (t_3 + 1))))))) (some (.done (.inl ()))))

noncomputable def impl_areValues (p_s : List impl_Variable) (p_values : List Int) : Option (Bool) :=
  (cond ((goLen p_values) != (goLen p_s)) (some false) ((loopC (impl_areValues_l1 p_s p_values) 0).bind fun | .inl () => some true | .inr o => some o))

noncomputable def impl_FailedEdits_l1 (p_l : List impl_Edit) (p_values : List Int) : (List Int) × Int → Option (Stp ((List Int) × Int) ((List Int)))
  | (failed_8, t_10) => (cond (decide (t_10 < (goLen p_l))) ((goAt p_l t_10).bind fun e_11 => ((impl_fails e_11 p_values).bind fun t_15 => (((cond t_15 ((goApp 8 failed_8 ([t_10] : List Int)).bind fun l_17 => some l_17) (some failed_8)) : Option ((List Int))).bind fun failed_19 => some (.next (failed_19, (w64 (t_10 + 1))))))) (some (.done failed_8)))

noncomputable def impl_FailedEdits (p_s : List impl_Variable) (p_l : List impl_Edit) (p_values : List Int) : Option ((List Int) × Bool) :=
  ((((impl_IsSchema p_s).bind fun t_4 => (cond (!t_4) (some true) ((impl_areEdits p_s p_l).bind fun t_5 => (cond (!t_5) (some true) ((impl_areValues p_s p_values).bind fun t_6 => some (!t_6)))))) : Option (Bool)).bind fun t_7 => (cond t_7 (some (([] : List Int), false)) ((loopC (impl_FailedEdits_l1 p_l p_values) (([] : List Int), 0)).bind fun failed_21 => some (failed_21, true))))

noncomputable def spec_l1Cur_values_l1 (p_s : List impl_Variable) : (List Int) × Int × spec_l1Cur → Option (Stp ((List Int) × Int × spec_l1Cur) ((List Int) × spec_l1Cur))
  | (out_3, t_5, p_c_6) => (cond (decide (t_5 < (goLen p_s))) ((goAt p_s t_5).bind fun e_8 => ((spec_l1Cur_pick p_c_6 e_8.Levels).bind fun t_12 => ((goApp 8 out_3 ([t_12.1] : List Int)).bind fun l_15 => some (.next (l_15, (w64 (t_5 + 1)), t_12.2))))) (some (.done (out_3, p_c_6))))

noncomputable def spec_l1Cur_values (p_c : spec_l1Cur) (p_s : List impl_Variable) : Option ((List Int) × spec_l1Cur) :=
  ((loopC (spec_l1Cur_values_l1 p_s) (([] : List Int), 0, p_c)).bind fun (out_17, p_c_19) => some (out_17, p_c_19))

noncomputable def spec_l1Cur_record (p_c : spec_l1Cur) (p_s : List impl_Variable) (p_areas : List Int) : Option (impl_Record × spec_l1Cur) :=
  ((spec_l1Cur_among p_c p_areas).bind fun t_6 => ((spec_l1Cur_pick t_6.2 6).bind fun t_9 => ((spec_l1Cur_values t_9.2 p_s).bind fun t_12 => some ((impl_Record.mk t_6.1 t_9.1 t_12.1), t_12.2))))

noncomputable def spec_rOwn (p_r : impl_Record) : Option (impl_Record) :=
  ((spec_l1Own p_r.Values).bind fun t_4 => some (impl_Record.mk p_r.Area p_r.House t_4))

noncomputable def spec_l1Cur_data_l1 (p_s : List impl_Variable) (p_areas : List Int) : (List impl_Record) × Int × spec_l1Cur → Option (Stp ((List impl_Record) × Int × spec_l1Cur) ((List impl_Record) × spec_l1Cur))
  | (out_7, k_9, p_c_10) => (cond (decide (0 < k_9)) ((spec_l1Cur_record p_c_10 p_s p_areas).bind fun t_14 => ((goApp 40 out_7 ([t_14.1] : List impl_Record)).bind fun l_20 => ((spec_l1Cur_one t_14.2 4).bind fun t_23 => (((cond t_23.1 ((spec_rOwn t_14.1).bind fun t_25 => ((goApp 40 l_20 ([t_25] : List impl_Record)).bind fun l_30 => some l_30)) (some l_20)) : Option ((List impl_Record))).bind fun out_32 => some (.next (out_32, (w64 (k_9 - 1)), t_23.2)))))) (some (.done (out_7, p_c_10))))

noncomputable def spec_l1Cur_data (p_c : spec_l1Cur) (p_s : List impl_Variable) (p_areas : List Int) : Option ((List impl_Record) × spec_l1Cur) :=
  ((spec_l1Cur_pick p_c 12).bind fun t_5 => ((loopC (spec_l1Cur_data_l1 p_s p_areas) (([] : List impl_Record), t_5.1, t_5.2)).bind fun (out_35, p_c_37) => some (out_35, p_c_37)))

noncomputable def spec_l1Cur_anyValues (p_c : spec_l1Cur) (p_s : List impl_Variable) : Option ((List Int) × spec_l1Cur) :=
  ((spec_l1Cur_values p_c p_s).bind fun t_4 => (((cond (decide (0 < (goLen t_4.1))) ((spec_l1Cur_one t_4.2 16).bind fun t_8 => some (t_8.1, t_8.2)) (some (false, t_4.2))) : Option (Bool × spec_l1Cur)).bind fun (t_10, p_c_11) => (((cond t_10 ((spec_l1Cur_pick p_c_11 (goLen t_4.1)).bind fun t_20 => ((spec_l1Cur_among t_20.2 ([-1, 2, 8] : List Int)).bind fun t_24 => ((goAt t_4.1 t_20.1).bind fun e_26 => some (.inl (goSet t_4.1 t_20.1 t_24.1, t_24.2))))) ((spec_l1Cur_one p_c_11 24).bind fun t_14 => (cond t_14.1 ((goApp 8 t_4.1 ([0] : List Int)).bind fun l_17 => some (.inr (l_17, t_14.2))) (some (.inl (t_4.1, t_14.2)))))) : Option (((List Int) × spec_l1Cur) ⊕ ((List Int) × spec_l1Cur))).bind fun | .inl (out_29, p_c_31) => some (out_29, p_c_31) | .inr o => some o)))

noncomputable def spec_l1Cur_anyData_l1 (p_s : List impl_Variable) : (List impl_Record) × spec_l1Cur → Option (Stp ((List impl_Record) × spec_l1Cur) ((List impl_Record) × spec_l1Cur))
  | (out_12, p_c_14) => ((spec_l1Cur_pick p_c_14 2).bind fun t_18 => (cond (decide ((goLen out_12) < (w64 (40 + t_18.1)))) ((spec_l1Cur_values t_18.2 p_s).bind fun t_21 => ((goApp 40 out_12 ([(impl_Record.mk 0 0 t_21.1)] : List impl_Record)).bind fun l_26 => some (.next (l_26, t_21.2)))) (some (.done (out_12, t_18.2)))))

noncomputable def spec_l1Cur_anyData (p_c : spec_l1Cur) (p_s : List impl_Variable) : Option ((List impl_Record) × spec_l1Cur) :=
  ((spec_l1Cur_data p_c p_s ([0, 1, 2, 3] : List Int)).bind fun t_6 => ((spec_l1Cur_pick t_6.2 24).bind fun t_10 => (((cond (t_10.1 == 0) ((spec_l1Cur_among t_10.2 ([-1, 29, 30] : List Int)).bind fun t_40 => ((spec_l1Cur_among t_40.2 ([0, 999, 1000, -1] : List Int)).bind fun t_44 => ((spec_l1Cur_anyValues t_44.2 p_s).bind fun t_47 => ((goApp 40 t_6.1 ([(impl_Record.mk t_40.1 t_44.1 t_47.1)] : List impl_Record)).bind fun l_52 => some (l_52, t_47.2))))) (((cond (t_10.1 == 1) ((loopC (spec_l1Cur_anyData_l1 p_s) (t_6.1, t_10.2)).bind fun (out_28, p_c_30) => some (out_28, p_c_30)) (some (t_6.1, t_10.2))) : Option ((List impl_Record) × spec_l1Cur)).bind fun (out_33, p_c_35) => some (out_33, p_c_35))) : Option ((List impl_Record) × spec_l1Cur)).bind fun (out_54, p_c_56) => some (out_54, p_c_56))))

noncomputable def spec_DrawFailureCounts (p_code : List (K .u8)) : Option ((List impl_Variable) × (List impl_Edit) × (List impl_Record)) :=
  ((spec_l1Cur_anySchema (spec_l1Cur.mk p_code 0 (⟨0⟩ : K .u64))).bind fun t_4 => ((spec_l1Cur_edits t_4.2 t_4.1).bind fun t_9 => ((spec_l1Cur_anyData t_9.2 t_4.1).bind fun t_13 => some (t_4.1, t_9.1, t_13.1))))

noncomputable def impl_isRecord (p_s : List impl_Variable) (p_r : impl_Record) : Option (Bool) :=
  (((cond (decide (0 ≤ p_r.Area)) (cond (decide (p_r.Area ≤ 29)) (cond (decide (0 ≤ p_r.House)) (cond (decide (p_r.House ≤ 999)) ((impl_areValues p_s p_r.Values).bind fun t_4 => some t_4) (some false)) (some false)) (some false)) (some false)) : Option (Bool)).bind fun t_5 => some t_5)

noncomputable def impl_isData_l1 (p_s : List impl_Variable) (p_l : List impl_Record) (t_3 : Int) : Option (Stp (Int) ((Unit) ⊕ (Bool))) :=
  (cond (decide (t_3 < (goLen p_l))) ((goAt p_l t_3).bind fun e_4 => ((impl_isRecord p_s e_4).bind fun t_8 => (cond (!t_8) (some (.done (.inr false))) (some (.next (w64 (t_3 + 1))))))) (some (.done (.inl ()))))

noncomputable def impl_isData (p_s : List impl_Variable) (p_l : List impl_Record) : Option (Bool) :=
  (cond (decide (40 < (goLen p_l))) (some false) ((loopC (impl_isData_l1 p_s p_l) 0).bind fun | .inl () => some true | .inr o => some o))

noncomputable def impl_FailureCounts_l2 (p_data : List impl_Record) (t_12 : Int) (e_13 : impl_Edit) : (List Int) × Int → Option (Stp ((List Int) × Int) ((List Int)))
  | (counts_17, t_19) => (cond (decide (t_19 < (goLen p_data))) ((goAt p_data t_19).bind fun e_20 => ((impl_fails e_13 e_20.Values).bind fun t_24 => (((cond t_24 ((goAt counts_17 t_12).bind fun e_25 => ((goAt counts_17 t_12).bind fun e_27 => some (goSet counts_17 t_12 (w64 (e_25 + 1))))) (some counts_17)) : Option ((List Int))).bind fun counts_30 => some (.next (counts_30, (w64 (t_19 + 1))))))) (some (.done counts_17)))

noncomputable def impl_FailureCounts_l1 (p_l : List impl_Edit) (p_data : List impl_Record) : (List Int) × Int → Option (Stp ((List Int) × Int) ((List Int)))
  | (counts_10, t_12) => (cond (decide (t_12 < (goLen p_l))) ((goAt p_l t_12).bind fun e_13 => ((loopC (impl_FailureCounts_l2 p_data t_12 e_13) (counts_10, 0)).bind fun counts_32 => some (.next (counts_32, (w64 (t_12 + 1)))))) (some (.done counts_10)))

noncomputable def impl_FailureCounts (p_s : List impl_Variable) (p_l : List impl_Edit) (p_data : List impl_Record) : Option ((List Int) × Bool) :=
  ((((impl_IsSchema p_s).bind fun t_4 => (cond (!t_4) (some true) ((impl_areEdits p_s p_l).bind fun t_5 => (cond (!t_5) (some true) ((impl_isData p_s p_data).bind fun t_6 => some (!t_6)))))) : Option (Bool)).bind fun t_7 => (cond t_7 (some (([] : List Int), false)) ((goMake 8 (goLen p_l) (0 : Int)).bind fun l_8 => ((loopC (impl_FailureCounts_l1 p_l p_data) (l_8, 0)).bind fun counts_34 => some (counts_34, true)))))

noncomputable def spec_sFits_l1 (p_s : List impl_Variable) (p_values : List Int) (t_3 : Int) : Option (Stp (Int) ((Unit) ⊕ (Bool))) :=
  (cond (decide (t_3 < (goLen p_s))) ((goAt p_s t_3).bind fun e_4 => ((goAt p_values t_3).bind fun e_7 => ((spec_l1In e_7 0 (w64 (e_4.Levels - 1))).bind fun t_9 => (cond (!t_9) (some (.done (.inr false))) (some (.next (w64 (t_3 + 1)))))))) (some (.done (.inl ()))))

noncomputable def spec_sFits (p_s : List impl_Variable) (p_values : List Int) : Option (Bool) :=
  (cond ((goLen p_values) != (goLen p_s)) (some false) ((loopC (spec_sFits_l1 p_s p_values) 0).bind fun | .inl () => some true | .inr o => some o))

noncomputable def spec_rGood (p_s : List impl_Variable) (p_r : impl_Record) : Option (Bool) :=
  ((((spec_l1In p_r.Area 0 29).bind fun t_4 => (cond t_4 ((spec_l1In p_r.House 0 999).bind fun t_5 => (cond t_5 ((spec_sFits p_s p_r.Values).bind fun t_6 => some t_6) (some false))) (some false))) : Option (Bool)).bind fun t_7 => some t_7)

noncomputable def spec_dGood_l1 (p_s : List impl_Variable) (p_l : List impl_Record) (t_3 : Int) : Option (Stp (Int) ((Unit) ⊕ (Bool))) :=
  (cond (decide (t_3 < (goLen p_l))) ((goAt p_l t_3).bind fun e_4 => ((spec_rGood p_s e_4).bind fun t_8 => (cond (!t_8) (some (.done (.inr false))) (some (.next (w64 (t_3 + 1))))))) (some (.done (.inl ()))))

noncomputable def spec_dGood (p_s : List impl_Variable) (p_l : List impl_Record) : Option (Bool) :=
  ((loopC (spec_dGood_l1 p_s p_l) 0).bind fun | .inl () => some (decide ((goLen p_l) ≤ 40)) | .inr o => some o)

noncomputable def spec_FailureCounts_l2 (t_16 : List Int) : (List Int) × Int → Option (Stp ((List Int) × Int) ((List Int)))
  | (out_19, t_21) => (cond (decide (t_21 < (goLen t_16))) ((goAt t_16 t_21).bind fun e_22 => ((goAt out_19 e_22).bind fun e_24 => ((goAt out_19 e_22).bind fun e_26 => some (.next (goSet out_19 e_22 (w64 (e_24 + 1)), (w64 (t_21 + 1))))))) (some (.done out_19)))

noncomputable def spec_FailureCounts_l1 (p_l : List impl_Edit) (p_data : List impl_Record) : (List Int) × Int → Option (Stp ((List Int) × Int) ((List Int)))
  | (out_9, t_11) => (cond (decide (t_11 < (goLen p_data))) ((goAt p_data t_11).bind fun e_12 => ((spec_eFailed p_l e_12.Values).bind fun t_16 => ((loopC (spec_FailureCounts_l2 t_16) (out_9, 0)).bind fun out_29 => some (.next (out_29, (w64 (t_11 + 1))))))) (some (.done out_9)))

noncomputable def spec_FailureCounts (p_s : List impl_Variable) (p_l : List impl_Edit) (p_data : List impl_Record) : Option ((List Int) × Bool) :=
  ((((spec_eList p_s p_l).bind fun t_4 => (cond (!t_4) (some true) ((spec_dGood p_s p_data).bind fun t_5 => some (!t_5)))) : Option (Bool)).bind fun t_6 => (cond t_6 (some (([] : List Int), false)) ((goMake 8 (goLen p_l) (0 : Int)).bind fun l_7 => ((loopC (spec_FailureCounts_l1 p_l p_data) (l_7, 0)).bind fun out_31 => some (out_31, true)))))

noncomputable def laws_pSum_l1 (p_l : List Int) : Int × Int → Option (Stp (Int × Int) (Int))
  | (sum_2, t_3) => (cond (decide (t_3 < (goLen p_l))) ((goAt p_l t_3).bind fun e_4 => some (.next ((w64 (sum_2 + e_4)), (w64 (t_3 + 1))))) (some (.done sum_2)))

noncomputable def laws_pSum (p_l : List Int) : Option (Int) :=
  ((loopC (laws_pSum_l1 p_l) (0, 0)).bind fun sum_6 => some sum_6)

noncomputable def laws_FnPassing_l1 (t_24 : (List impl_Variable) × (List impl_Edit) × (List impl_Record)) : Int × Int → Option (Stp (Int × Int) ((Int) ⊕ (Bool)))
  | (sum_40, t_41) => (cond (decide (t_41 < (goLen t_24.2.2))) ((goAt t_24.2.2 t_41).bind fun e_42 => ((impl_FailedEdits t_24.1 t_24.2.1 e_42.Values).bind fun t_46 => (cond (!t_46.2) (some (.done (.inr false))) (some (.next ((w64 (sum_40 + (goLen t_46.1))), (w64 (t_41 + 1)))))))) (some (.done (.inl sum_40))))

noncomputable def laws_FnPassing (p_code : List (K .u8)) (p_more : List (K .u8)) : Option (Bool) :=
  ((laws_big p_code p_more).bind fun t_3 => (cond t_3 (some true) ((spec_DrawFirstPassing p_code).bind fun t_4 => ((impl_FirstPassing t_4.1 t_4.2).bind fun t_9 => ((spec_FirstPassing t_4.1 t_4.2).bind fun t_12 => ((impl_CountPassing t_4.1 t_4.2).bind fun t_15 => ((spec_CountPassing t_4.1 t_4.2).bind fun t_16 => (((cond (t_9.2 != t_12.2) (some true) ((laws_sameInts t_9.1 t_12.1).bind fun t_17 => (cond (!t_17) (some true) (cond (t_15.2 != t_16.2) (some true) (cond (t_15.1 != t_16.1) (some true) (cond t_15.2 (some (t_9.2 != (decide (0 < t_15.1)))) (some false))))))) : Option (Bool)).bind fun t_19 => (cond t_19 (some false) (((cond t_9.2 ((impl_FailedEdits t_4.1 t_4.2 t_9.1).bind fun t_20 => (((cond (!t_20.2) (some true) (some ((goLen t_20.1) != 0))) : Option (Bool)).bind fun t_23 => (cond t_23 (some (.inr false)) (some (.inl ()))))) (some (.inl ()))) : Option ((Unit) ⊕ (Bool))).bind fun | .inl () => ((spec_DrawFailureCounts p_more).bind fun t_24 => ((impl_FailureCounts t_24.1 t_24.2.1 t_24.2.2).bind fun t_29 => ((spec_FailureCounts t_24.1 t_24.2.1 t_24.2.2).bind fun t_33 => (((cond (t_29.2 != t_33.2) (some true) ((laws_sameInts t_29.1 t_33.1).bind fun t_37 => some (!t_37))) : Option (Bool)).bind fun t_39 => (cond t_39 (some false) (cond t_29.2 ((loopC (laws_FnPassing_l1 t_24) (0, 0)).bind fun | .inl sum_50 => ((laws_pSum t_29.1).bind fun t_51 => some (sum_50 == t_51)) | .inr o => some o) (some true))))))) | .inr o => some o))))))))))

end Go.Gx.F
