/- The plain functions that the walks come to. -/
import Derived.Test.YtebjhiflnemkhaaGreatGy
namespace Go.Gx.F
open Go.Gx
set_option linter.all false

structure spec_l1Cur where
  code : List (K .u8)
  at_ : Int
  seed : K .u64

instance : Rep spec_l1Cur where
  wd := 3
  rd m cs x := ∃ s1 : Sl, cs = [s1.v, (.int .i64 x.at_), (.int .u64 x.seed.v)] ∧ Rd m s1 x.code
  mono hm h := by
    obtain ⟨s1, rfl, h1⟩ := h
    exact ⟨s1, rfl, h1.mono hm⟩
  len h := by obtain ⟨s1, rfl, _⟩ := h; rfl
  one h := by obtain ⟨s1, rfl, _⟩ := h; rfl

instance : Rng spec_l1Cur := ⟨fun x => Rng.ok x.code ∧ Rng.ok x.at_ ∧ Rng.ok x.seed⟩

structure impl_Variable where
  Name : List UInt8
  Levels : Int

instance : Rep impl_Variable where
  wd := 2
  rd m cs x := cs = [(strV x.Name), (.int .i64 x.Levels)]
  mono _ h := h
  len h := by subst h; rfl
  one h := by subst h; rfl

instance : Flat impl_Variable := ⟨fun h => h⟩

instance : Rng impl_Variable := ⟨fun x => Rng.ok x.Name ∧ Rng.ok x.Levels⟩

structure impl_Record where
  Area : Int
  House : Int
  Values : List Int

instance : Rep impl_Record where
  wd := 3
  rd m cs x := ∃ s1 : Sl, cs = [(.int .i64 x.Area), (.int .i64 x.House), s1.v] ∧ Rd m s1 x.Values
  mono hm h := by
    obtain ⟨s1, rfl, h1⟩ := h
    exact ⟨s1, rfl, h1.mono hm⟩
  len h := by obtain ⟨s1, rfl, _⟩ := h; rfl
  one h := by obtain ⟨s1, rfl, _⟩ := h; rfl

instance : Rng impl_Record := ⟨fun x => Rng.ok x.Area ∧ Rng.ok x.House ∧ Rng.ok x.Values⟩

structure impl_Stream where
  Seed : Int
  At : Int

instance : Rep impl_Stream where
  wd := 2
  rd m cs x := cs = [(.int .i64 x.Seed), (.int .i64 x.At)]
  mono _ h := h
  len h := by subst h; rfl
  one h := by subst h; rfl

instance : Flat impl_Stream := ⟨fun h => h⟩

instance : Rng impl_Stream := ⟨fun x => Rng.ok x.Seed ∧ Rng.ok x.At⟩

structure spec_kReader where
  s_ : impl_Stream
  ok : Bool

instance : Rep spec_kReader where
  wd := 3
  rd m cs x := cs = [(.int .i64 x.s_.Seed), (.int .i64 x.s_.At), (.bool x.ok)]
  mono _ h := h
  len h := by subst h; rfl
  one h := by subst h; rfl

instance : Flat spec_kReader := ⟨fun h => h⟩

instance : Rng spec_kReader := ⟨fun x => Rng.ok x.s_ ∧ Rng.ok x.ok⟩

noncomputable def laws_big (p_code : List (K .u8)) (p_more : List (K .u8)) : Option (Bool) :=
  (((cond (decide (1048576 < (goLen p_code))) (some true) (some (decide ((w64 (1048576 - (goLen p_code))) < (goLen p_more))))) : Option (Bool)).bind fun t_3 => some t_3)

noncomputable def spec_l1Cur_next (p_c : spec_l1Cur) : Option (Int × spec_l1Cur) :=
  (((cond (decide (p_c.at_ < (goLen p_c.code))) ((goAt p_c.code p_c.at_).bind fun e_2 => some (w64 e_2.v)) (some 0)) : Option (Int)).bind fun b_4 => (cond (decide ((w64 (p_c.at_ + 1)) ≤ (goLen p_c.code))) (some (b_4, (spec_l1Cur.mk p_c.code (w64 (p_c.at_ + 1)) (⟨(IntKind.wrap .u64 ((IntKind.wrap .u64 ((IntKind.wrap .u64 (p_c.seed.v * 6364136223846793005)) + (IntKind.wrap .u64 b_4))) + 1442695040888963407))⟩ : K .u64)))) ((goShr .u64 (IntKind.wrap .u64 ((IntKind.wrap .u64 ((IntKind.wrap .u64 (p_c.seed.v * 6364136223846793005)) + (IntKind.wrap .u64 b_4))) + 1442695040888963407)) 40).bind fun t_5 => some ((w64 (goBits .and .u64 t_5 255)), (spec_l1Cur.mk p_c.code (w64 (p_c.at_ + 1)) (⟨(IntKind.wrap .u64 ((IntKind.wrap .u64 ((IntKind.wrap .u64 (p_c.seed.v * 6364136223846793005)) + (IntKind.wrap .u64 b_4))) + 1442695040888963407))⟩ : K .u64))))))

noncomputable def spec_l1Cur_pick (p_c : spec_l1Cur) (p_n : Int) : Option (Int × spec_l1Cur) :=
  (cond (decide (p_n ≤ 1)) (some (0, p_c)) ((spec_l1Cur_next p_c).bind fun t_3 => (((cond (decide (200 < p_n)) ((spec_l1Cur_next t_3.2).bind fun t_6 => some ((w64 ((w64 (t_3.1 * 256)) + t_6.1)), t_6.2)) (some (t_3.1, t_3.2))) : Option (Int × spec_l1Cur)).bind fun (x_8, p_c_9) => ((goRem x_8 p_n).bind fun t_11 => some (t_11, p_c_9)))))

noncomputable def spec_l1Cur_schema_l1  : (List impl_Variable) × Int × spec_l1Cur → Option (Stp ((List impl_Variable) × Int × spec_l1Cur) ((List impl_Variable) × spec_l1Cur))
  | (out_3, k_5, p_c_6) => ((spec_l1Cur_pick p_c_6 3).bind fun t_9 => (cond (decide (k_5 < (w64 (1 + t_9.1)))) ((((goAt ([([115, 101, 120] : List UInt8), ([97, 103, 101] : List UInt8), ([106, 111, 98] : List UInt8), ([104, 111, 109, 101] : List UInt8), ([115, 105, 122, 101] : List UInt8), ([108, 97, 110, 103] : List UInt8)] : List (List UInt8)) k_5).bind fun e_11 => ((spec_l1Cur_pick t_9.2 3).bind fun t_17 => ((goApp 24 out_3 ([(impl_Variable.mk e_11 (w64 (2 + t_17.1)))] : List impl_Variable)).bind fun l_20 => some (l_20, t_17.2)))) : Option ((List impl_Variable) × spec_l1Cur)).bind fun (out_22, p_c_24) => some (.next (out_22, (w64 (k_5 + 1)), p_c_24))) (some (.done (out_3, t_9.2)))))

noncomputable def spec_l1Cur_schema (p_c : spec_l1Cur) : Option ((List impl_Variable) × spec_l1Cur) :=
  ((loopC (spec_l1Cur_schema_l1) (([] : List impl_Variable), 0, p_c)).bind fun (out_26, p_c_28) => some (out_26, p_c_28))

noncomputable def spec_l1Cur_among (p_c : spec_l1Cur) (p_list : List Int) : Option (Int × spec_l1Cur) :=
  ((spec_l1Cur_pick p_c (goLen p_list)).bind fun t_4 => ((goAt p_list t_4.1).bind fun e_6 => some (e_6, t_4.2)))

noncomputable def spec_l1Cur_of (p_c : spec_l1Cur) (p_list : List (List UInt8)) : Option ((List UInt8) × spec_l1Cur) :=
  ((spec_l1Cur_pick p_c (goLen p_list)).bind fun t_4 => ((goAt p_list t_4.1).bind fun e_6 => some (e_6, t_4.2)))

noncomputable def spec_l1Cur_anySchema_l1  : (List impl_Variable) × spec_l1Cur → Option (Stp ((List impl_Variable) × spec_l1Cur) ((List impl_Variable) × spec_l1Cur))
  | (s_9, p_c_11) => ((spec_l1Cur_pick p_c_11 2).bind fun t_14 => (cond (decide ((goLen s_9) < (w64 (6 + t_14.1)))) ((goCat ([120] : List UInt8) (goBytes ([(⟨(IntKind.wrap .u8 (w64 (97 + (goLen s_9))))⟩ : K .u8)] : List (K .u8)))).bind fun t_17 => ((goApp 24 s_9 ([(impl_Variable.mk t_17 2)] : List impl_Variable)).bind fun l_19 => some (.next (l_19, t_14.2)))) (some (.done (s_9, t_14.2)))))

noncomputable def spec_l1Cur_anySchema (p_c : spec_l1Cur) : Option ((List impl_Variable) × spec_l1Cur) :=
  ((spec_l1Cur_schema p_c).bind fun t_3 => ((spec_l1Cur_pick t_3.2 24).bind fun t_7 => (((cond (t_7.1 == 0) ((spec_l1Cur_among t_7.2 ([1, 8, 9] : List Int)).bind fun t_42 => ((goAt t_3.1 0).bind fun e_44 => some (.inl (goSet t_3.1 0 (impl_Variable.mk e_44.Name t_42.1), t_42.2)))) (((cond (t_7.1 == 1) ((spec_l1Cur_of t_7.2 ([([] : List UInt8), ([65, 103, 101] : List UInt8), ([97, 98, 99, 100, 101, 102, 103, 104, 105] : List UInt8), ([97, 103, 101] : List UInt8), ([97, 98, 32, 99, 100] : List UInt8)] : List (List UInt8))).bind fun t_31 => ((goAt t_3.1 0).bind fun e_33 => some (.inl (goSet t_3.1 0 (impl_Variable.mk t_31.1 e_33.Levels), t_31.2)))) (cond (t_7.1 == 2) (some (.inr (.inr (([] : List impl_Variable), t_7.2)))) (((cond (t_7.1 == 3) ((loopC (spec_l1Cur_anySchema_l1) (t_3.1, t_7.2)).bind fun (s_21, p_c_23) => some (s_21, p_c_23)) (some (t_3.1, t_7.2))) : Option ((List impl_Variable) × spec_l1Cur)).bind fun (s_25, p_c_27) => some (.inl (s_25, p_c_27))))) : Option (((List impl_Variable) × spec_l1Cur) ⊕ (((List impl_Variable) × spec_l1Cur) ⊕ ((List impl_Variable) × spec_l1Cur)))).bind fun | .inl (s_36, p_c_38) => some (.inl (s_36, p_c_38)) | .inr o => some o)) : Option (((List impl_Variable) × spec_l1Cur) ⊕ ((List impl_Variable) × spec_l1Cur))).bind fun | .inl (s_47, p_c_49) => some (s_47, p_c_49) | .inr o => some o)))

noncomputable def spec_l1Cur_values_l1 (p_s : List impl_Variable) : (List Int) × Int × spec_l1Cur → Option (Stp ((List Int) × Int × spec_l1Cur) ((List Int) × spec_l1Cur))
  | (out_3, t_5, p_c_6) => (cond (decide (t_5 < (goLen p_s))) ((goAt p_s t_5).bind fun e_8 => ((spec_l1Cur_pick p_c_6 e_8.Levels).bind fun t_12 => ((goApp 8 out_3 ([t_12.1] : List Int)).bind fun l_15 => some (.next (l_15, (w64 (t_5 + 1)), t_12.2))))) (some (.done (out_3, p_c_6))))

noncomputable def spec_l1Cur_values (p_c : spec_l1Cur) (p_s : List impl_Variable) : Option ((List Int) × spec_l1Cur) :=
  ((loopC (spec_l1Cur_values_l1 p_s) (([] : List Int), 0, p_c)).bind fun (out_17, p_c_19) => some (out_17, p_c_19))

noncomputable def spec_l1Cur_record (p_c : spec_l1Cur) (p_s : List impl_Variable) (p_areas : List Int) : Option (impl_Record × spec_l1Cur) :=
  ((spec_l1Cur_among p_c p_areas).bind fun t_6 => ((spec_l1Cur_pick t_6.2 6).bind fun t_9 => ((spec_l1Cur_values t_9.2 p_s).bind fun t_12 => some ((impl_Record.mk t_6.1 t_9.1 t_12.1), t_12.2))))

noncomputable def spec_l1Cur_one (p_c : spec_l1Cur) (p_n : Int) : Option (Bool × spec_l1Cur) :=
  ((spec_l1Cur_pick p_c p_n).bind fun t_3 => some (t_3.1 == 0, t_3.2))

noncomputable def spec_l1Own (p_l : List Int) : Option ((List Int)) :=
  ((goApp 8 ([] : List Int) p_l).bind fun l_3 => some l_3)

noncomputable def spec_rOwn (p_r : impl_Record) : Option (impl_Record) :=
  ((spec_l1Own p_r.Values).bind fun t_4 => some (impl_Record.mk p_r.Area p_r.House t_4))

noncomputable def spec_l1Cur_data_l1 (p_s : List impl_Variable) (p_areas : List Int) : (List impl_Record) × Int × spec_l1Cur → Option (Stp ((List impl_Record) × Int × spec_l1Cur) ((List impl_Record) × spec_l1Cur))
  | (out_7, k_9, p_c_10) => (cond (decide (0 < k_9)) ((spec_l1Cur_record p_c_10 p_s p_areas).bind fun t_14 => ((goApp 40 out_7 ([t_14.1] : List impl_Record)).bind fun l_20 => ((spec_l1Cur_one t_14.2 4).bind fun t_23 => (((cond t_23.1 ((spec_rOwn t_14.1).bind fun t_25 => ((goApp 40 l_20 ([t_25] : List impl_Record)).bind fun l_30 => some l_30)) (some l_20)) : Option ((List impl_Record))).bind fun out_32 => some (.next (out_32, (w64 (k_9 - 1)), t_23.2)))))) (some (.done (out_7, p_c_10))))

noncomputable def spec_l1Cur_data (p_c : spec_l1Cur) (p_s : List impl_Variable) (p_areas : List Int) : Option ((List impl_Record) × spec_l1Cur) :=
  ((spec_l1Cur_pick p_c 12).bind fun t_5 => ((loopC (spec_l1Cur_data_l1 p_s p_areas) (([] : List impl_Record), t_5.1, t_5.2)).bind fun (out_35, p_c_37) => some (out_35, p_c_37)))

noncomputable def spec_l1Cur_anyValues (p_c : spec_l1Cur) (p_s : List impl_Variable) : Option ((List Int) × spec_l1Cur) :=
  ((spec_l1Cur_values p_c p_s).bind fun t_4 => (((cond (decide (0 < (goLen t_4.1))) ((spec_l1Cur_one t_4.2 16).bind fun t_8 => some (t_8.1, t_8.2)) (some (false, t_4.2))) : Option (Bool × spec_l1Cur)).bind fun (t_10, p_c_11) => (((cond t_10 ((spec_l1Cur_pick p_c_11 (goLen t_4.1)).bind fun t_20 => ((spec_l1Cur_among t_20.2 ([-1, 2, 8] : List Int)).bind fun t_24 => ((goAt t_4.1 t_20.1).bind fun e_26 => some (.inl (goSet t_4.1 t_20.1 t_24.1, t_24.2))))) ((spec_l1Cur_one p_c_11 24).bind fun t_14 => (cond t_14.1 ((goApp 8 t_4.1 ([0] : List Int)).bind fun l_17 => some (.inr (l_17, t_14.2))) (some (.inl (t_4.1, t_14.2)))))) : Option (((List Int) × spec_l1Cur) ⊕ ((List Int) × spec_l1Cur))).bind fun | .inl (out_29, p_c_31) => some (out_29, p_c_31) | .inr o => some o)))

noncomputable def spec_l1Cur_anyData_l1 (p_s : List impl_Variable) : (List impl_Record) × spec_l1Cur → Option (Stp ((List impl_Record) × spec_l1Cur) ((List impl_Record) × spec_l1Cur))
  | (out_12, p_c_14) => ((spec_l1Cur_pick p_c_14 2).bind fun t_18 => (cond (decide ((goLen out_12) < (w64 (40 + t_18.1)))) ((spec_l1Cur_values t_18.2 p_s).bind fun t_21 => ((goApp 40 out_12 ([(impl_Record.mk 0 0 t_21.1)] : List impl_Record)).bind fun l_26 => some (.next (l_26, t_21.2)))) (some (.done (out_12, t_18.2)))))

noncomputable def spec_l1Cur_anyData (p_c : spec_l1Cur) (p_s : List impl_Variable) : Option ((List impl_Record) × spec_l1Cur) :=
  ((spec_l1Cur_data p_c p_s ([0, 1, 2, 3] : List Int)).bind fun t_6 => ((spec_l1Cur_pick t_6.2 24).bind fun t_10 => (((cond (t_10.1 == 0) ((spec_l1Cur_among t_10.2 ([-1, 29, 30] : List Int)).bind fun t_40 => ((spec_l1Cur_among t_40.2 ([0, 999, 1000, -1] : List Int)).bind fun t_44 => ((spec_l1Cur_anyValues t_44.2 p_s).bind fun t_47 => ((goApp 40 t_6.1 ([(impl_Record.mk t_40.1 t_44.1 t_47.1)] : List impl_Record)).bind fun l_52 => some (l_52, t_47.2))))) (((cond (t_10.1 == 1) ((loopC (spec_l1Cur_anyData_l1 p_s) (t_6.1, t_10.2)).bind fun (out_28, p_c_30) => some (out_28, p_c_30)) (some (t_6.1, t_10.2))) : Option ((List impl_Record) × spec_l1Cur)).bind fun (out_33, p_c_35) => some (out_33, p_c_35))) : Option ((List impl_Record) × spec_l1Cur)).bind fun (out_54, p_c_56) => some (out_54, p_c_56))))

noncomputable def spec_l1Cur_fixed_l1 (p_s : List impl_Variable) : (List Int) × Int × spec_l1Cur → Option (Stp ((List Int) × Int × spec_l1Cur) ((List Int) × spec_l1Cur))
  | (out_3, t_5, p_c_6) => (cond (decide (t_5 < (goLen p_s))) ((spec_l1Cur_one p_c_6 2).bind fun t_9 => (((cond t_9.1 ((goApp 8 out_3 ([t_5] : List Int)).bind fun l_12 => some l_12) (some out_3)) : Option ((List Int))).bind fun out_14 => some (.next (out_14, (w64 (t_5 + 1)), t_9.2)))) (some (.done (out_3, p_c_6))))

noncomputable def spec_l1Cur_fixed (p_c : spec_l1Cur) (p_s : List impl_Variable) : Option ((List Int) × spec_l1Cur) :=
  ((loopC (spec_l1Cur_fixed_l1 p_s) (([] : List Int), 0, p_c)).bind fun (out_16, p_c_18) => ((spec_l1Cur_one p_c_18 20).bind fun t_21 => (((cond t_21.1 ((goApp 8 out_16 ([goLen p_s] : List Int)).bind fun l_24 => some l_24) (some out_16)) : Option ((List Int))).bind fun out_26 => some (out_26, t_21.2))))

noncomputable def spec_l1Cur_keyed (p_c : spec_l1Cur) : Option ((List impl_Variable) × (List impl_Record) × (List Int) × spec_l1Cur) :=
  ((spec_l1Cur_anySchema p_c).bind fun t_3 => ((spec_l1Cur_anyData t_3.2 t_3.1).bind fun t_8 => ((spec_l1Cur_fixed t_8.2 t_3.1).bind fun t_12 => some (t_3.1, t_8.1, t_12.1, t_12.2))))

noncomputable def spec_DrawKeyGroups (p_code : List (K .u8)) : Option ((List impl_Variable) × (List impl_Record) × (List Int)) :=
  ((spec_l1Cur_keyed (spec_l1Cur.mk p_code 0 (⟨0⟩ : K .u64))).bind fun t_4 => some (t_4.1, t_4.2.1, t_4.2.2.1))

noncomputable def impl_isWord_l1 (p_s : List UInt8) (t_2 : Int) : Option (Stp (Int) ((Unit) ⊕ (Bool))) :=
  (cond (decide (t_2 < (goLen p_s))) ((((goStrAt p_s t_2).bind fun t_3 => (cond (decide (t_3 < 97)) (some true) ((goStrAt p_s t_2).bind fun t_4 => some (decide (122 < t_4))))) : Option (Bool)).bind fun t_5 => (cond t_5 (some (.done (.inr false))) (some (.next (w64 (t_2 + 1)))))) (some (.done (.inl ()))))

noncomputable def impl_isWord (p_s : List UInt8) : Option (Bool) :=
  (((cond (decide ((goLen p_s) < 1)) (some true) (some (decide (8 < (goLen p_s))))) : Option (Bool)).bind fun t_1 => (cond t_1 (some false) ((loopC (impl_isWord_l1 p_s) 0).bind fun | .inl () => some true | .inr o => some o)))

noncomputable def impl_IsSchema_l2 (e_4 : impl_Variable) (l_9 : List impl_Variable) (t_11 : Int) : Option (Stp (Int) ((Unit) ⊕ (Stp (Int) ((Unit) ⊕ (Bool))))) :=
  (cond (decide (t_11 < (goLen l_9))) ((goAt l_9 t_11).bind fun e_12 => (cond (e_12.Name == e_4.Name) (some (.done (.inr (.done (.inr false))))) (some (.next (w64 (t_11 + 1)))))) (some (.done (.inl ()))))

noncomputable def impl_IsSchema_l1 (p_s : List impl_Variable) (t_3 : Int) : Option (Stp (Int) ((Unit) ⊕ (Bool))) :=
  (cond (decide (t_3 < (goLen p_s))) ((goAt p_s t_3).bind fun e_4 => ((((impl_isWord e_4.Name).bind fun t_7 => (cond (!t_7) (some true) (cond (decide (e_4.Levels < 2)) (some true) (some (decide (8 < e_4.Levels)))))) : Option (Bool)).bind fun t_8 => (cond t_8 (some (.done (.inr false))) ((goSub p_s 0 t_3).bind fun l_9 => ((loopC (impl_IsSchema_l2 e_4 l_9) 0).bind fun | .inl () => some (.next (w64 (t_3 + 1))) | .inr o => some o))))) (some (.done (.inl ()))))

noncomputable def impl_IsSchema (p_s : List impl_Variable) : Option (Bool) :=
  (((cond (decide ((goLen p_s) < 1)) (some true) (some (decide (6 < (goLen p_s))))) : Option (Bool)).bind fun t_2 => (cond t_2 (some false) ((loopC (impl_IsSchema_l1 p_s) 0).bind fun | .inl () => some true | .inr o => some o)))

noncomputable def impl_areValues_l1 (p_s : List impl_Variable) (p_values : List Int) (t_3 : Int) : Option (Stp (Int) ((Unit) ⊕ (Bool))) :=
  (cond (decide (t_3 < (goLen p_values))) ((goAt p_values t_3).bind fun e_4 => (((cond (decide (e_4 < 0)) (some true) ((goAt p_s t_3).bind fun e_6 => some (decide (e_6.Levels ≤ e_4)))) : Option (Bool)).bind fun t_8 => (cond t_8 (some (.done (.inr false))) (some (.next (w64 (t_3 + 1))))))) (some (.done (.inl ()))))

noncomputable def impl_areValues (p_s : List impl_Variable) (p_values : List Int) : Option (Bool) :=
  (cond ((goLen p_values) != (goLen p_s)) (some false) ((loopC (impl_areValues_l1 p_s p_values) 0).bind fun | .inl () => some true | .inr o => some o))

noncomputable def impl_isRecord (p_s : List impl_Variable) (p_r : impl_Record) : Option (Bool) :=
  (((cond (decide (0 ≤ p_r.Area)) (cond (decide (p_r.Area ≤ 29)) (cond (decide (0 ≤ p_r.House)) (cond (decide (p_r.House ≤ 999)) ((impl_areValues p_s p_r.Values).bind fun t_4 => some t_4) (some false)) (some false)) (some false)) (some false)) : Option (Bool)).bind fun t_5 => some t_5)

noncomputable def impl_isData_l1 (p_s : List impl_Variable) (p_l : List impl_Record) (t_3 : Int) : Option (Stp (Int) ((Unit) ⊕ (Bool))) :=
  (cond (decide (t_3 < (goLen p_l))) ((goAt p_l t_3).bind fun e_4 => ((impl_isRecord p_s e_4).bind fun t_8 => (cond (!t_8) (some (.done (.inr false))) (some (.next (w64 (t_3 + 1))))))) (some (.done (.inl ()))))

noncomputable def impl_isData (p_s : List impl_Variable) (p_l : List impl_Record) : Option (Bool) :=
  (cond (decide (40 < (goLen p_l))) (some false) ((loopC (impl_isData_l1 p_s p_l) 0).bind fun | .inl () => some true | .inr o => some o))

noncomputable def impl_areVars_l1 (p_s : List impl_Variable) (p_vars : List Int) : Int × Int → Option (Stp (Int × Int) ((Unit) ⊕ (Bool)))
  | (last_3, t_4) => (cond (decide (t_4 < (goLen p_vars))) ((goAt p_vars t_4).bind fun e_5 => (((cond (decide (e_5 ≤ last_3)) (some true) (some (decide ((goLen p_s) ≤ e_5)))) : Option (Bool)).bind fun t_7 => (cond t_7 (some (.done (.inr false))) (some (.next (e_5, (w64 (t_4 + 1)))))))) (some (.done (.inl ()))))

noncomputable def impl_areVars (p_s : List impl_Variable) (p_vars : List Int) : Option (Bool) :=
  ((loopC (impl_areVars_l1 p_s p_vars) (-1, 0)).bind fun | .inl () => some true | .inr o => some o)

noncomputable def impl_areKeyed (p_s : List impl_Variable) (p_l : List impl_Record) (p_vars : List Int) : Option (Bool) :=
  ((((impl_IsSchema p_s).bind fun t_4 => (cond t_4 ((impl_isData p_s p_l).bind fun t_5 => (cond t_5 ((impl_areVars p_s p_vars).bind fun t_6 => some t_6) (some false))) (some false))) : Option (Bool)).bind fun t_7 => some t_7)

noncomputable def impl_keyOf_l1 (p_s : List impl_Variable) (p_r : impl_Record) (p_vars : List Int) : Int × Int → Option (Stp (Int × Int) (Int))
  | (key_5, t_6) => (cond (decide (t_6 < (goLen p_vars))) ((goAt p_vars t_6).bind fun e_7 => ((goAt p_s e_7).bind fun e_9 => ((goAt p_r.Values e_7).bind fun e_11 => some (.next ((w64 ((w64 (key_5 * e_9.Levels)) + e_11)), (w64 (t_6 + 1))))))) (some (.done key_5)))

noncomputable def impl_keyOf (p_s : List impl_Variable) (p_r : impl_Record) (p_vars : List Int) : Option (Int) :=
  ((loopC (impl_keyOf_l1 p_s p_r p_vars) (0, 0)).bind fun key_13 => some key_13)

noncomputable def slices_Sort_int_int (p_x : List Int) : Option (List Int) :=
  cond (decide (p_x.length < 4611686018427387904)) (some (p_x.mergeSort fun x y => decide (x ≤ y))) none

/-- what a map holds at a key -/
def gfind : List (Int × List Int) → Int → Option (List Int)
  | [], _ => none
  | (k', l) :: G, k => if k' = k then some l else gfind G k

def gput : List (Int × List Int) → Int → List Int → List (Int × List Int)
  | [], k, l => [(k, l)]
  | (k', l') :: G, k, l => if k' = k then (k, l) :: G else (k', l') :: gput G k l

def goI64 (n : Int) : Option Unit := cond (decide (-9223372036854775808 ≤ n) && decide (n ≤ 9223372036854775807)) (some ()) none

noncomputable def impl_keyGroups_l1 (p_s : List impl_Variable) (p_l : List impl_Record) (p_vars : List Int) : (List Int) × (List (Int × List Int)) × Int → Option (Stp ((List Int) × (List (Int × List Int)) × Int) ((List Int) × (List (Int × List Int))))
  | (keys, G, t) => (cond (decide (t < (goLen p_l))) ((goAt p_l t).bind fun e_7 => ((impl_keyOf p_s e_7 p_vars).bind fun k => ((goI64 k).bind fun _ => (((cond (gfind G k).isNone ((goApp 8 keys ([k] : List Int)).bind fun l_13 => some l_13) (some keys)) : Option ((List Int))).bind fun keys_15 => ((goApp 8 ((gfind G k).getD []) ([t] : List Int)).bind fun l_19 => some (.next (keys_15, gput G k l_19, (w64 (t + 1))))))))) (some (.done (keys, G))))

noncomputable def impl_keyGroups_l2 (G : List (Int × List Int)) (t_24 : (List Int)) : (List (List Int)) × Int → Option (Stp ((List (List Int)) × Int) ((List (List Int))))
  | (out_26, t_28) => (cond (decide (t_28 < (goLen t_24))) ((goAt t_24 t_28).bind fun e_29 => ((goI64 e_29).bind fun _ => ((goApp 24 out_26 ([(gfind G e_29).getD []] : List (List Int))).bind fun l_32 => some (.next (l_32, (w64 (t_28 + 1))))))) (some (.done out_26)))

noncomputable def impl_keyGroups (p_s : List impl_Variable) (p_l : List impl_Record) (p_vars : List Int) : Option ((List (List Int))) :=
  ((loopC (impl_keyGroups_l1 p_s p_l p_vars) (([] : List Int), ([] : List (Int × List Int)), 0)).bind fun (keys_21, G) => ((slices_Sort_int_int keys_21).bind fun t_24 => ((loopC (impl_keyGroups_l2 G t_24) (([] : List (List Int)), 0)).bind fun out_34 => some out_34)))

noncomputable def impl_KeyGroups (p_s : List impl_Variable) (p_l : List impl_Record) (p_vars : List Int) : Option ((List (List Int)) × Bool) :=
  ((impl_areKeyed p_s p_l p_vars).bind fun t_4 => (cond (!t_4) (some (([] : List (List Int)), false)) ((impl_keyGroups p_s p_l p_vars).bind fun t_5 => some (t_5, true))))

noncomputable def spec_l1In (p_n : Int) (p_lo : Int) (p_hi : Int) : Option (Bool) :=
  (((cond (decide (p_lo ≤ p_n)) (some (decide (p_n ≤ p_hi))) (some false)) : Option (Bool)).bind fun t_1 => some t_1)

noncomputable def spec_sName_l1 (p_s : List UInt8) (i_1 : Int) : Option (Stp (Int) ((Unit) ⊕ (Bool))) :=
  (cond (decide (i_1 < (goLen p_s))) ((((goStrAt p_s i_1).bind fun t_2 => (cond (decide (t_2 < 97)) (some true) ((goStrAt p_s i_1).bind fun t_3 => some (decide (122 < t_3))))) : Option (Bool)).bind fun t_4 => (cond t_4 (some (.done (.inr false))) (some (.next (w64 (i_1 + 1)))))) (some (.done (.inl ()))))

noncomputable def spec_sName (p_s : List UInt8) : Option (Bool) :=
  ((loopC (spec_sName_l1 p_s) 0).bind fun | .inl () => ((spec_l1In (goLen p_s) 1 8).bind fun t_5 => some t_5) | .inr o => some o)

noncomputable def spec_sFind_l1 (p_s : List impl_Variable) (p_name : List UInt8) (t_2 : Int) : Option (Stp (Int) ((Unit) ⊕ (Int))) :=
  (cond (decide (t_2 < (goLen p_s))) ((goAt p_s t_2).bind fun e_3 => (cond (e_3.Name == p_name) (some (.done (.inr t_2))) (some (.next (w64 (t_2 + 1)))))) (some (.done (.inl ()))))

noncomputable def spec_sFind (p_s : List impl_Variable) (p_name : List UInt8) : Option (Int) :=
  ((loopC (spec_sFind_l1 p_s p_name) 0).bind fun | .inl () => some (-1) | .inr o => some o)

noncomputable def spec_sGood_l1 (p_s : List impl_Variable) (t_3 : Int) : Option (Stp (Int) ((Unit) ⊕ (Bool))) :=
  (cond (decide (t_3 < (goLen p_s))) ((goAt p_s t_3).bind fun e_4 => ((((spec_sName e_4.Name).bind fun t_7 => (cond (!t_7) (some true) ((spec_l1In e_4.Levels 2 8).bind fun t_8 => (cond (!t_8) (some true) ((goSub p_s 0 t_3).bind fun l_9 => ((spec_sFind l_9 e_4.Name).bind fun t_11 => some (decide (0 ≤ t_11)))))))) : Option (Bool)).bind fun t_12 => (cond t_12 (some (.done (.inr false))) (some (.next (w64 (t_3 + 1))))))) (some (.done (.inl ()))))

noncomputable def spec_sGood (p_s : List impl_Variable) : Option (Bool) :=
  ((spec_l1In (goLen p_s) 1 6).bind fun t_2 => (cond (!t_2) (some false) ((loopC (spec_sGood_l1 p_s) 0).bind fun | .inl () => some true | .inr o => some o)))

noncomputable def spec_l1Rising_l1 (p_l : List Int) (p_lo : Int) (p_hi : Int) (t_2 : Int) : Option (Stp (Int) ((Unit) ⊕ (Bool))) :=
  (cond (decide (t_2 < (goLen p_l))) ((goAt p_l t_2).bind fun e_3 => ((((spec_l1In e_3 p_lo p_hi).bind fun t_5 => (cond (!t_5) (some true) (cond (decide (0 < t_2)) ((goAt p_l (w64 (t_2 - 1))).bind fun e_6 => some (decide (e_3 ≤ e_6))) (some false)))) : Option (Bool)).bind fun t_8 => (cond t_8 (some (.done (.inr false))) (some (.next (w64 (t_2 + 1))))))) (some (.done (.inl ()))))

noncomputable def spec_l1Rising (p_l : List Int) (p_lo : Int) (p_hi : Int) : Option (Bool) :=
  ((loopC (spec_l1Rising_l1 p_l p_lo p_hi) 0).bind fun | .inl () => some true | .inr o => some o)

noncomputable def spec_swVars (p_s : List impl_Variable) (p_vars : List Int) : Option (Bool) :=
  ((((spec_sGood p_s).bind fun t_3 => (cond t_3 ((spec_l1Rising p_vars 0 (w64 ((goLen p_s) - 1))).bind fun t_4 => some t_4) (some false))) : Option (Bool)).bind fun t_5 => some t_5)

noncomputable def spec_sFits_l1 (p_s : List impl_Variable) (p_values : List Int) (t_3 : Int) : Option (Stp (Int) ((Unit) ⊕ (Bool))) :=
  (cond (decide (t_3 < (goLen p_s))) ((goAt p_s t_3).bind fun e_4 => ((goAt p_values t_3).bind fun e_7 => ((spec_l1In e_7 0 (w64 (e_4.Levels - 1))).bind fun t_9 => (cond (!t_9) (some (.done (.inr false))) (some (.next (w64 (t_3 + 1)))))))) (some (.done (.inl ()))))

noncomputable def spec_sFits (p_s : List impl_Variable) (p_values : List Int) : Option (Bool) :=
  (cond ((goLen p_values) != (goLen p_s)) (some false) ((loopC (spec_sFits_l1 p_s p_values) 0).bind fun | .inl () => some true | .inr o => some o))

noncomputable def spec_rGood (p_s : List impl_Variable) (p_r : impl_Record) : Option (Bool) :=
  ((((spec_l1In p_r.Area 0 29).bind fun t_4 => (cond t_4 ((spec_l1In p_r.House 0 999).bind fun t_5 => (cond t_5 ((spec_sFits p_s p_r.Values).bind fun t_6 => some t_6) (some false))) (some false))) : Option (Bool)).bind fun t_7 => some t_7)

noncomputable def spec_dGood_l1 (p_s : List impl_Variable) (p_l : List impl_Record) (t_3 : Int) : Option (Stp (Int) ((Unit) ⊕ (Bool))) :=
  (cond (decide (t_3 < (goLen p_l))) ((goAt p_l t_3).bind fun e_4 => ((spec_rGood p_s e_4).bind fun t_8 => (cond (!t_8) (some (.done (.inr false))) (some (.next (w64 (t_3 + 1))))))) (some (.done (.inl ()))))

noncomputable def spec_dGood (p_s : List impl_Variable) (p_l : List impl_Record) : Option (Bool) :=
  ((loopC (spec_dGood_l1 p_s p_l) 0).bind fun | .inl () => some (decide ((goLen p_l) ≤ 40)) | .inr o => some o)

noncomputable def spec_swInput (p_s : List impl_Variable) (p_l : List impl_Record) (p_vars : List Int) : Option (Bool) :=
  ((((spec_swVars p_s p_vars).bind fun t_4 => (cond t_4 ((spec_dGood p_s p_l).bind fun t_5 => some t_5) (some false))) : Option (Bool)).bind fun t_6 => some t_6)

noncomputable def spec_sPart_l1 (p_s : List impl_Variable) (p_vars : List Int) : (List impl_Variable) × Int → Option (Stp ((List impl_Variable) × Int) ((List impl_Variable)))
  | (out_3, t_5) => (cond (decide (t_5 < (goLen p_vars))) ((goAt p_vars t_5).bind fun e_6 => ((goAt p_s e_6).bind fun e_8 => ((goApp 24 out_3 ([e_8] : List impl_Variable)).bind fun l_11 => some (.next (l_11, (w64 (t_5 + 1))))))) (some (.done out_3)))

noncomputable def spec_sPart (p_s : List impl_Variable) (p_vars : List Int) : Option ((List impl_Variable)) :=
  ((loopC (spec_sPart_l1 p_s p_vars) (([] : List impl_Variable), 0)).bind fun out_13 => some out_13)

noncomputable def spec_sPick_l1 (p_values : List Int) (p_vars : List Int) : (List Int) × Int → Option (Stp ((List Int) × Int) ((List Int)))
  | (out_3, t_5) => (cond (decide (t_5 < (goLen p_vars))) ((goAt p_vars t_5).bind fun e_6 => ((goAt p_values e_6).bind fun e_8 => ((goApp 8 out_3 ([e_8] : List Int)).bind fun l_11 => some (.next (l_11, (w64 (t_5 + 1))))))) (some (.done out_3)))

noncomputable def spec_sPick (p_values : List Int) (p_vars : List Int) : Option ((List Int)) :=
  ((loopC (spec_sPick_l1 p_values p_vars) (([] : List Int), 0)).bind fun out_13 => some out_13)

noncomputable def spec_sIndex_l1 (p_s : List impl_Variable) (p_values : List Int) : Int × Int → Option (Stp (Int × Int) (Int))
  | (n_3, t_4) => (cond (decide (t_4 < (goLen p_s))) ((goAt p_s t_4).bind fun e_5 => ((goAt p_values t_4).bind fun e_8 => some (.next ((w64 ((w64 (n_3 * e_5.Levels)) + e_8)), (w64 (t_4 + 1)))))) (some (.done n_3)))

noncomputable def spec_sIndex (p_s : List impl_Variable) (p_values : List Int) : Option (Int) :=
  ((loopC (spec_sIndex_l1 p_s p_values) (0, 0)).bind fun n_10 => some n_10)

noncomputable def spec_swKey (p_s : List impl_Variable) (p_values : List Int) (p_vars : List Int) : Option (Int) :=
  ((spec_sPart p_s p_vars).bind fun t_4 => ((spec_sPick p_values p_vars).bind fun t_7 => ((spec_sIndex t_4 t_7).bind fun t_10 => some t_10)))

noncomputable def spec_l1Put_l1 (p_l : List Int) (p_n : Int) (k_2 : Int) : Option (Stp (Int) (Int)) :=
  (((cond (decide (k_2 < (goLen p_l))) ((goAt p_l k_2).bind fun e_3 => some (decide (e_3 < p_n))) (some false)) : Option (Bool)).bind fun t_5 => (cond t_5 (some (.next (w64 (k_2 + 1)))) (some (.done k_2))))

noncomputable def spec_l1Put (p_l : List Int) (p_n : Int) : Option ((List Int)) :=
  ((loopC (spec_l1Put_l1 p_l p_n) 0).bind fun k_6 => (((cond (decide (k_6 < (goLen p_l))) ((goAt p_l k_6).bind fun e_7 => some (e_7 == p_n)) (some false)) : Option (Bool)).bind fun t_9 => (cond t_9 (some p_l) ((goSub p_l 0 k_6).bind fun l_11 => ((goApp 8 ([] : List Int) l_11).bind fun l_13 => ((goApp 8 l_13 ([p_n] : List Int)).bind fun l_16 => ((goSub p_l k_6 (goLen p_l)).bind fun l_18 => ((goApp 8 l_16 l_18).bind fun l_20 => some l_20))))))))

noncomputable def spec_swGroups_l1 (p_s : List impl_Variable) (p_l : List impl_Record) (p_vars : List Int) : (List Int) × Int → Option (Stp ((List Int) × Int) ((List Int)))
  | (keys_4, t_6) => (cond (decide (t_6 < (goLen p_l))) ((goAt p_l t_6).bind fun e_8 => ((spec_swKey p_s e_8.Values p_vars).bind fun t_12 => ((spec_l1Put keys_4 t_12).bind fun t_13 => some (.next (t_13, (w64 (t_6 + 1))))))) (some (.done keys_4)))

noncomputable def spec_swGroups_l3 (p_s : List impl_Variable) (p_l : List impl_Record) (p_vars : List Int) (e_23 : Int) : (List Int) × Int → Option (Stp ((List Int) × Int) ((List Int)))
  | (group_25, t_27) => (cond (decide (t_27 < (goLen p_l))) ((goAt p_l t_27).bind fun e_28 => ((spec_swKey p_s e_28.Values p_vars).bind fun t_32 => (((cond (t_32 == e_23) ((goApp 8 group_25 ([t_27] : List Int)).bind fun l_34 => some l_34) (some group_25)) : Option ((List Int))).bind fun group_36 => some (.next (group_36, (w64 (t_27 + 1))))))) (some (.done group_25)))

noncomputable def spec_swGroups_l2 (p_s : List impl_Variable) (p_l : List impl_Record) (p_vars : List Int) (keys_16 : List Int) : (List (List Int)) × Int → Option (Stp ((List (List Int)) × Int) ((List (List Int))))
  | (out_19, t_21) => (cond (decide (t_21 < (goLen keys_16))) ((goAt keys_16 t_21).bind fun e_23 => ((loopC (spec_swGroups_l3 p_s p_l p_vars e_23) (([] : List Int), 0)).bind fun group_38 => ((goApp 24 out_19 ([group_38] : List (List Int))).bind fun l_42 => some (.next (l_42, (w64 (t_21 + 1))))))) (some (.done out_19)))

noncomputable def spec_swGroups (p_s : List impl_Variable) (p_l : List impl_Record) (p_vars : List Int) : Option ((List (List Int))) :=
  ((loopC (spec_swGroups_l1 p_s p_l p_vars) (([] : List Int), 0)).bind fun keys_16 => ((loopC (spec_swGroups_l2 p_s p_l p_vars keys_16) (([] : List (List Int)), 0)).bind fun out_44 => some out_44))

noncomputable def spec_KeyGroups (p_s : List impl_Variable) (p_l : List impl_Record) (p_vars : List Int) : Option ((List (List Int)) × Bool) :=
  ((spec_swInput p_s p_l p_vars).bind fun t_4 => (cond (!t_4) (some (([] : List (List Int)), false)) ((spec_swGroups p_s p_l p_vars).bind fun t_5 => some (t_5, true))))

noncomputable def laws_sameInts_l1 (p_a : List Int) (p_b : List Int) (t_3 : Int) : Option (Stp (Int) ((Unit) ⊕ (Bool))) :=
  (cond (decide (t_3 < (goLen p_a))) ((goAt p_a t_3).bind fun e_4 => ((goAt p_b t_3).bind fun e_6 => (cond (e_4 != e_6) (some (.done (.inr false))) (some (.next (w64 (t_3 + 1))))))) (some (.done (.inl ()))))

noncomputable def laws_sameInts (p_a : List Int) (p_b : List Int) : Option (Bool) :=
  (cond ((goLen p_a) != (goLen p_b)) (some false) ((loopC (laws_sameInts_l1 p_a p_b) 0).bind fun | .inl () => some true | .inr o => some o))

noncomputable def laws_sameLists_l1 (p_a : List (List Int)) (p_b : List (List Int)) (t_3 : Int) : Option (Stp (Int) ((Unit) ⊕ (Bool))) :=
  (cond (decide (t_3 < (goLen p_a))) ((goAt p_a t_3).bind fun e_4 => ((goAt p_b t_3).bind fun e_7 => ((laws_sameInts e_4 e_7).bind fun t_10 => (cond (!t_10) (some (.done (.inr false))) (some (.next (w64 (t_3 + 1)))))))) (some (.done (.inl ()))))

noncomputable def laws_sameLists (p_a : List (List Int)) (p_b : List (List Int)) : Option (Bool) :=
  (cond ((goLen p_a) != (goLen p_b)) (some false) ((loopC (laws_sameLists_l1 p_a p_b) 0).bind fun | .inl () => some true | .inr o => some o))

noncomputable def impl_KeyOf (p_s : List impl_Variable) (p_r : impl_Record) (p_vars : List Int) : Option (Int × Bool) :=
  ((((impl_IsSchema p_s).bind fun t_5 => (cond (!t_5) (some true) ((impl_isRecord p_s p_r).bind fun t_6 => (cond (!t_6) (some true) ((impl_areVars p_s p_vars).bind fun t_7 => some (!t_7)))))) : Option (Bool)).bind fun t_8 => (cond t_8 (some (0, false)) ((impl_keyOf p_s p_r p_vars).bind fun t_9 => some (t_9, true))))

noncomputable def spec_DrawSwapCandidates (p_code : List (K .u8)) : Option ((List impl_Variable) × (List impl_Record) × (List Int)) :=
  ((spec_DrawKeyGroups p_code).bind fun t_2 => some (t_2.1, t_2.2.1, t_2.2.2))

noncomputable def impl_canSwap (p_s : List impl_Variable) (p_a : impl_Record) (p_b : impl_Record) (p_vars : List Int) : Option (Bool) :=
  (((cond (p_a.Area != p_b.Area) ((impl_keyOf p_s p_a p_vars).bind fun t_10 => ((impl_keyOf p_s p_b p_vars).bind fun t_11 => some (t_10 == t_11))) (some false)) : Option (Bool)).bind fun t_12 => some t_12)

noncomputable def impl_swapCandidates_l2 (p_s : List impl_Variable) (p_l : List impl_Record) (p_vars : List Int) (t_6 : Int) : (List (List Int)) × Int → Option (Stp ((List (List Int)) × Int) ((List (List Int))))
  | (out_8, k_10) => (cond (decide (k_10 < (goLen p_l))) ((goAt p_l t_6).bind fun e_12 => ((goAt p_l k_10).bind fun e_15 => ((impl_canSwap p_s e_12 e_15 p_vars).bind fun t_18 => (((cond t_18 ((goApp 24 out_8 ([([t_6, k_10] : List Int)] : List (List Int))).bind fun l_22 => some l_22) (some out_8)) : Option ((List (List Int)))).bind fun out_24 => some (.next (out_24, (w64 (k_10 + 1)))))))) (some (.done out_8)))

noncomputable def impl_swapCandidates_l1 (p_s : List impl_Variable) (p_l : List impl_Record) (p_vars : List Int) : (List (List Int)) × Int → Option (Stp ((List (List Int)) × Int) ((List (List Int))))
  | (out_4, t_6) => (cond (decide (t_6 < (goLen p_l))) ((loopC (impl_swapCandidates_l2 p_s p_l p_vars t_6) (out_4, (w64 (t_6 + 1)))).bind fun out_27 => some (.next (out_27, (w64 (t_6 + 1))))) (some (.done out_4)))

noncomputable def impl_swapCandidates (p_s : List impl_Variable) (p_l : List impl_Record) (p_vars : List Int) : Option ((List (List Int))) :=
  ((loopC (impl_swapCandidates_l1 p_s p_l p_vars) (([] : List (List Int)), 0)).bind fun out_30 => some out_30)

noncomputable def impl_SwapCandidates (p_s : List impl_Variable) (p_l : List impl_Record) (p_vars : List Int) : Option ((List (List Int)) × Bool) :=
  ((impl_areKeyed p_s p_l p_vars).bind fun t_4 => (cond (!t_4) (some (([] : List (List Int)), false)) ((impl_swapCandidates p_s p_l p_vars).bind fun t_5 => (cond (decide (400 < (goLen t_5))) (some (([] : List (List Int)), false)) (some (t_5, true))))))

noncomputable def spec_swCan (p_s : List impl_Variable) (p_l : List impl_Record) (p_vars : List Int) (p_i : Int) (p_k : Int) : Option (Bool) :=
  ((((goAt p_l p_i).bind fun e_4 => ((goAt p_l p_k).bind fun e_7 => (cond (e_4.Area != e_7.Area) ((goAt p_l p_i).bind fun e_10 => ((goAt p_l p_k).bind fun e_17 => ((spec_swKey p_s e_10.Values p_vars).bind fun t_23 => ((spec_swKey p_s e_17.Values p_vars).bind fun t_24 => some (t_23 == t_24))))) (some false)))) : Option (Bool)).bind fun t_25 => some t_25)

noncomputable def spec_swCandidates_l2 (p_s : List impl_Variable) (p_l : List impl_Record) (p_vars : List Int) (t_6 : Int) : (List (List Int)) × Int → Option (Stp ((List (List Int)) × Int) ((List (List Int))))
  | (out_8, k_10) => (cond (decide (k_10 < (goLen p_l))) ((spec_swCan p_s p_l p_vars t_6 k_10).bind fun t_12 => (((cond t_12 ((goApp 24 out_8 ([([t_6, k_10] : List Int)] : List (List Int))).bind fun l_16 => some l_16) (some out_8)) : Option ((List (List Int)))).bind fun out_18 => some (.next (out_18, (w64 (k_10 + 1)))))) (some (.done out_8)))

noncomputable def spec_swCandidates_l1 (p_s : List impl_Variable) (p_l : List impl_Record) (p_vars : List Int) : (List (List Int)) × Int → Option (Stp ((List (List Int)) × Int) ((List (List Int))))
  | (out_4, t_6) => (cond (decide (t_6 < (goLen p_l))) ((loopC (spec_swCandidates_l2 p_s p_l p_vars t_6) (out_4, (w64 (t_6 + 1)))).bind fun out_21 => some (.next (out_21, (w64 (t_6 + 1))))) (some (.done out_4)))

noncomputable def spec_swCandidates (p_s : List impl_Variable) (p_l : List impl_Record) (p_vars : List Int) : Option ((List (List Int))) :=
  ((loopC (spec_swCandidates_l1 p_s p_l p_vars) (([] : List (List Int)), 0)).bind fun out_24 => some out_24)

noncomputable def spec_SwapCandidates (p_s : List impl_Variable) (p_l : List impl_Record) (p_vars : List Int) : Option ((List (List Int)) × Bool) :=
  ((spec_swInput p_s p_l p_vars).bind fun t_4 => (cond (!t_4) (some (([] : List (List Int)), false)) ((spec_swCandidates p_s p_l p_vars).bind fun t_5 => (cond (decide (400 < (goLen t_5))) (some (([] : List (List Int)), false)) (some (t_5, true))))))

noncomputable def spec_l1Cur_seed0 (p_c : spec_l1Cur) : Option (Int × spec_l1Cur) :=
  ((spec_l1Cur_pick p_c 12).bind fun t_3 => (cond (t_3.1 == 0) (some (0, t_3.2)) (cond (t_3.1 == 1) ((spec_l1Cur_among t_3.2 ([4611686016279904236, 123456789012] : List Int)).bind fun t_10 => some (t_10.1, t_10.2)) ((spec_l1Cur_pick t_3.2 60000).bind fun t_6 => some (t_6.1, t_6.2)))))

noncomputable def spec_l1Cur_anySeed (p_c : spec_l1Cur) : Option (Int × spec_l1Cur) :=
  ((spec_l1Cur_one p_c 24).bind fun t_3 => (cond t_3.1 ((spec_l1Cur_among t_3.2 ([-1, 4611686016279904237] : List Int)).bind fun t_10 => some (t_10.1, t_10.2)) ((spec_l1Cur_seed0 t_3.2).bind fun t_6 => some (t_6.1, t_6.2))))

noncomputable def spec_DrawSwapPlan (p_code : List (K .u8)) : Option ((List impl_Variable) × (List impl_Record) × (List Int) × Int × Int) :=
  ((spec_l1Cur_keyed (spec_l1Cur.mk p_code 0 (⟨0⟩ : K .u64))).bind fun t_4 => ((spec_l1Cur_among t_4.2.2.2 ([0, 1, 2, 5, 20, 21, -1] : List Int)).bind fun t_11 => ((spec_l1Cur_anySeed t_11.2).bind fun t_14 => some (t_4.1, t_4.2.1, t_4.2.2.1, t_11.1, t_14.1))))

noncomputable def spec_l1All_l1 (p_l : List Int) (p_lo : Int) (p_hi : Int) (t_2 : Int) : Option (Stp (Int) ((Unit) ⊕ (Bool))) :=
  (cond (decide (t_2 < (goLen p_l))) ((goAt p_l t_2).bind fun e_3 => ((spec_l1In e_3 p_lo p_hi).bind fun t_5 => (cond (!t_5) (some (.done (.inr false))) (some (.next (w64 (t_2 + 1))))))) (some (.done (.inl ()))))

noncomputable def spec_l1All (p_l : List Int) (p_lo : Int) (p_hi : Int) : Option (Bool) :=
  ((loopC (spec_l1All_l1 p_l p_lo p_hi) 0).bind fun | .inl () => some true | .inr o => some o)

noncomputable def spec_hDigest (p_l : List Int) : Option (Bool) :=
  ((spec_l1All p_l 0 4611686016279904236).bind fun t_2 => some t_2)

noncomputable def spec_hMod (p_x : Int) (p_m : Int) : Option (Int) :=
  ((goRem p_x p_m).bind fun t_1 => ((goRem (w64 (t_1 + p_m)) p_m).bind fun t_2 => some t_2))

noncomputable def spec_hInts_l1 (p_l : List Int) : Int × Int × Int → Option (Stp (Int × Int × Int) (Int × Int))
  | (a_2, b_3, i_4) => (cond (decide (i_4 < (w64 ((goLen p_l) + 4)))) (((cond (decide (i_4 < (goLen p_l))) ((goAt p_l i_4).bind fun e_5 => some e_5) (some 0)) : Option (Int)).bind fun x_7 => ((spec_hMod x_7 2147483647).bind fun t_8 => ((goRem (w64 ((w64 ((w64 (48271 * a_2)) + t_8)) + 1)) 2147483647).bind fun t_9 => ((spec_hMod x_7 2147483629).bind fun t_10 => ((goRem (w64 ((w64 ((w64 (69621 * b_3)) + t_10)) + t_9)) 2147483629).bind fun t_11 => some (.next (t_9, t_11, (w64 (i_4 + 1))))))))) (some (.done (a_2, b_3))))

noncomputable def spec_hInts (p_l : List Int) : Option (Int) :=
  ((loopC (spec_hInts_l1 p_l) (goLen p_l, 1, 0)).bind fun (a_12, b_13) => ((goShl .i64 a_12 31).bind fun t_14 => some (w64 (t_14 + b_13))))

noncomputable def spec_kBit (p_seed : Int) (p_i : Int) : Option (Int) :=
  ((goQuo .i64 p_i 30).bind fun t_1 => ((spec_hInts ([p_seed, t_1] : List Int)).bind fun t_3 => ((goRem p_i 30).bind fun t_5 => ((goShr .i64 t_3 (IntKind.wrap .u64 (w64 (31 + t_5)))).bind fun t_6 => some (goBits .and .i64 t_6 1)))))

noncomputable def spec_kReader_bit (p_r : spec_kReader) : Option (Int × spec_kReader) :=
  (((cond (decide (1000000 ≤ p_r.s_.At)) (some (spec_kReader.mk p_r.s_ false)) (some p_r)) : Option (spec_kReader)).bind fun p_r_1 => (cond (!p_r_1.ok) (some (0, p_r_1)) ((spec_kBit p_r_1.s_.Seed p_r_1.s_.At).bind fun t_2 => some (t_2, (spec_kReader.mk (impl_Stream.mk p_r_1.s_.Seed (w64 (p_r_1.s_.At + 1))) p_r_1.ok)))))

noncomputable def spec_kReader_below_l1 (p_n : Int) (k_1 : Int) : Option (Stp (Int) (Int)) :=
  ((goShl .i64 1 (IntKind.wrap .u64 k_1)).bind fun t_2 => (cond (decide (t_2 < p_n)) (some (.next (w64 (k_1 + 1)))) (some (.done k_1))))

noncomputable def spec_kReader_below_l3 (k_3 : Int) : Int × Int × spec_kReader → Option (Stp (Int × Int × spec_kReader) (Int × spec_kReader))
  | (x_6, i_7, p_r_8) => (cond (decide (i_7 < k_3)) ((spec_kReader_bit p_r_8).bind fun t_10 => some (.next ((w64 ((w64 (2 * x_6)) + t_10.1)), (w64 (i_7 + 1)), t_10.2))) (some (.done (x_6, p_r_8))))

noncomputable def spec_kReader_below_l2 (p_n : Int) (k_3 : Int) : Int × spec_kReader → Option (Stp (Int × spec_kReader) ((spec_kReader) ⊕ (Int × spec_kReader)))
  | (try_4, p_r_5) => (cond (decide (try_4 < 200)) ((loopC (spec_kReader_below_l3 k_3) (0, 0, p_r_5)).bind fun (x_11, p_r_12) => (cond (!p_r_12.ok) (some (.done (.inr (0, p_r_12)))) (cond (decide (x_11 < p_n)) (some (.done (.inr (x_11, p_r_12)))) (some (.next ((w64 (try_4 + 1)), p_r_12)))))) (some (.done (.inl p_r_5))))

noncomputable def spec_kReader_below (p_r : spec_kReader) (p_n : Int) : Option (Int × spec_kReader) :=
  ((loopC (spec_kReader_below_l1 p_n) 0).bind fun k_3 => ((loopC (spec_kReader_below_l2 p_n k_3) (0, p_r)).bind fun | .inl p_r_13 => some (0, (spec_kReader.mk p_r_13.s_ false)) | .inr o => some o))

noncomputable def spec_kReader_shuffle_l1 (p_n : Int) : (List Int) × Int → Option (Stp ((List Int) × Int) ((List Int)))
  | (out_1, i_3) => (cond (decide (i_3 < p_n)) ((goApp 8 out_1 ([i_3] : List Int)).bind fun l_5 => some (.next (l_5, (w64 (i_3 + 1))))) (some (.done out_1)))

noncomputable def spec_kReader_shuffle_l2  : (List Int) × Int × spec_kReader → Option (Stp ((List Int) × Int × spec_kReader) ((List Int) × spec_kReader))
  | (out_9, k_11, p_r_12) => (cond (decide (1 ≤ k_11)) ((spec_kReader_below p_r_12 (w64 (k_11 + 1))).bind fun t_14 => ((goAt out_9 k_11).bind fun e_15 => ((goAt out_9 t_14.1).bind fun e_17 => ((goAt out_9 k_11).bind fun e_19 => ((goAt (goSet out_9 k_11 e_17) t_14.1).bind fun e_22 => some (.next (goSet (goSet out_9 k_11 e_17) t_14.1 e_15, (w64 (k_11 - 1)), t_14.2))))))) (some (.done (out_9, p_r_12))))

noncomputable def spec_kReader_shuffle (p_r : spec_kReader) (p_n : Int) : Option ((List Int) × spec_kReader) :=
  ((loopC (spec_kReader_shuffle_l1 p_n) (([] : List Int), 0)).bind fun out_7 => ((loopC (spec_kReader_shuffle_l2) (out_7, (w64 (p_n - 1)), p_r)).bind fun (out_25, p_r_27) => some (out_25, p_r_27)))

noncomputable def spec_l1Has_l1 (p_l : List Int) (p_n : Int) (t_2 : Int) : Option (Stp (Int) ((Unit) ⊕ (Bool))) :=
  (cond (decide (t_2 < (goLen p_l))) ((goAt p_l t_2).bind fun e_3 => (cond (e_3 == p_n) (some (.done (.inr true))) (some (.next (w64 (t_2 + 1)))))) (some (.done (.inl ()))))

noncomputable def spec_l1Has (p_l : List Int) (p_n : Int) : Option (Bool) :=
  ((loopC (spec_l1Has_l1 p_l p_n) 0).bind fun | .inl () => some false | .inr o => some o)

noncomputable def spec_SwapPlan_l1 (p_most : Int) (t_10 : List (List Int)) (t_15 : (List Int) × spec_kReader) : (List Int) × (List Bool) × Int × Int → Option (Stp ((List Int) × (List Bool) × Int × Int) ((List Bool)))
  | (used_19, chosen_21, n_23, t_24) => (cond (decide (t_24 < (goLen t_15.1))) ((goAt t_15.1 t_24).bind fun e_25 => ((goAt t_10 e_25).bind fun e_27 => (((cond (decide (n_23 < p_most)) ((goAt e_27 0).bind fun e_30 => ((spec_l1Has used_19 e_30).bind fun t_32 => (cond (!t_32) ((goAt e_27 1).bind fun e_34 => ((spec_l1Has used_19 e_34).bind fun t_36 => some (!t_36))) (some false)))) (some false)) : Option (Bool)).bind fun t_38 => (((cond t_38 ((goApp 8 used_19 e_27).bind fun l_39 => ((goAt chosen_21 e_25).bind fun e_41 => some (l_39, goSet chosen_21 e_25 true, (w64 (n_23 + 1))))) (some (used_19, chosen_21, n_23))) : Option ((List Int) × (List Bool) × Int)).bind fun (used_44, chosen_46, n_48) => some (.next (used_44, chosen_46, n_48, (w64 (t_24 + 1)))))))) (some (.done chosen_21)))

noncomputable def spec_SwapPlan_l2 (t_10 : List (List Int)) (chosen_49 : List Bool) : (List (List Int)) × Int → Option (Stp ((List (List Int)) × Int) ((List (List Int))))
  | (out_51, t_53) => (cond (decide (t_53 < (goLen t_10))) ((goAt t_10 t_53).bind fun e_54 => ((goAt chosen_49 t_53).bind fun e_57 => (((cond e_57 ((goApp 24 out_51 ([e_54] : List (List Int))).bind fun l_60 => some l_60) (some out_51)) : Option ((List (List Int)))).bind fun out_62 => some (.next (out_62, (w64 (t_53 + 1))))))) (some (.done out_51)))

noncomputable def spec_SwapPlan (p_s : List impl_Variable) (p_l : List impl_Record) (p_vars : List Int) (p_most : Int) (p_seed : Int) : Option ((List (List Int)) × Bool) :=
  ((((spec_swInput p_s p_l p_vars).bind fun t_4 => (cond (!t_4) (some true) ((spec_l1In p_most 0 20).bind fun t_5 => (cond (!t_5) (some true) ((spec_hDigest ([p_seed] : List Int)).bind fun t_7 => some (!t_7)))))) : Option (Bool)).bind fun t_9 => (cond t_9 (some (([] : List (List Int)), false)) ((spec_swCandidates p_s p_l p_vars).bind fun t_10 => (cond (decide (60 < (goLen t_10))) (some (([] : List (List Int)), false)) ((spec_kReader_shuffle (spec_kReader.mk (impl_Stream.mk p_seed 0) true) (goLen t_10)).bind fun t_15 => (cond (!t_15.2.ok) (some (([] : List (List Int)), false)) ((goMake 1 (goLen t_10) (false : Bool)).bind fun l_17 => ((loopC (spec_SwapPlan_l1 p_most t_10 t_15) (([] : List Int), l_17, 0, 0)).bind fun chosen_49 => ((loopC (spec_SwapPlan_l2 t_10 chosen_49) (([] : List (List Int)), 0)).bind fun out_64 => some (out_64, true))))))))))

noncomputable def spec_l1Cur_swaps_l1 (p_n : Int) : (List (List Int)) × Int × spec_l1Cur → Option (Stp ((List (List Int)) × Int × spec_l1Cur) ((List (List Int)) × spec_l1Cur))
  | (out_5, k_7, p_c_8) => (((cond (decide (0 < k_7)) (some (decide (1 < p_n))) (some false)) : Option (Bool)).bind fun t_11 => (cond t_11 ((spec_l1Cur_pick p_c_8 (w64 (p_n - 1))).bind fun t_13 => ((spec_l1Cur_pick t_13.2 (w64 ((w64 (p_n - 1)) - t_13.1))).bind fun t_16 => ((goApp 24 out_5 ([([t_13.1, (w64 ((w64 (t_13.1 + 1)) + t_16.1))] : List Int)] : List (List Int))).bind fun l_21 => some (.next (l_21, (w64 (k_7 - 1)), t_16.2))))) (some (.done (out_5, p_c_8)))))

noncomputable def spec_l1Cur_swaps_l2 (p_n : Int) : (List (List Int)) × spec_l1Cur → Option (Stp ((List (List Int)) × spec_l1Cur) ((List (List Int)) × spec_l1Cur))
  | (out_31, p_c_33) => ((((spec_l1Cur_pick p_c_33 2).bind fun t_37 => (cond (decide ((goLen out_31) < (w64 (20 + t_37.1)))) (some (decide (1 < p_n), t_37.2)) (some (false, t_37.2)))) : Option (Bool × spec_l1Cur)).bind fun (t_39, p_c_40) => (cond t_39 ((goApp 24 out_31 ([([0, 1] : List Int)] : List (List Int))).bind fun l_45 => some (.next (l_45, p_c_40))) (some (.done (out_31, p_c_40)))))

noncomputable def spec_l1Cur_swaps (p_c : spec_l1Cur) (p_n : Int) : Option ((List (List Int)) × spec_l1Cur) :=
  ((spec_l1Cur_pick p_c 4).bind fun t_3 => ((loopC (spec_l1Cur_swaps_l1 p_n) (([] : List (List Int)), t_3.1, t_3.2)).bind fun (out_23, p_c_25) => ((spec_l1Cur_pick p_c_25 24).bind fun t_29 => (((cond (t_29.1 == 0) ((goApp 24 out_23 ([([0, p_n] : List Int)] : List (List Int))).bind fun l_70 => some (l_70, t_29.2)) (((cond (t_29.1 == 1) ((goApp 24 out_23 ([([0] : List Int)] : List (List Int))).bind fun l_60 => some (l_60, t_29.2)) (((cond (t_29.1 == 2) ((loopC (spec_l1Cur_swaps_l2 p_n) (out_23, t_29.2)).bind fun (out_47, p_c_49) => some (out_47, p_c_49)) (some (out_23, t_29.2))) : Option ((List (List Int)) × spec_l1Cur)).bind fun (out_52, p_c_54) => some (out_52, p_c_54))) : Option ((List (List Int)) × spec_l1Cur)).bind fun (out_62, p_c_64) => some (out_62, p_c_64))) : Option ((List (List Int)) × spec_l1Cur)).bind fun (out_72, p_c_74) => some (out_72, p_c_74)))))

noncomputable def spec_DrawIsSwapPlan (p_code : List (K .u8)) : Option ((List impl_Variable) × (List impl_Record) × (List Int) × (List (List Int))) :=
  ((spec_DrawSwapPlan p_code).bind fun t_3 => ((spec_SwapPlan t_3.1 t_3.2.1 t_3.2.2.1 t_3.2.2.2.1 t_3.2.2.2.2).bind fun t_10 => (((cond t_10.2 ((spec_l1Cur_one (spec_l1Cur.mk p_code 0 (⟨0⟩ : K .u64)) 3).bind fun t_14 => some (!t_14.1, t_14.2)) (some (false, (spec_l1Cur.mk p_code 0 (⟨0⟩ : K .u64))))) : Option (Bool × spec_l1Cur)).bind fun (t_16, t_17) => (cond t_16 (some (t_3.1, t_3.2.1, t_3.2.2.1, t_10.1)) ((spec_l1Cur_swaps t_17 (goLen t_3.2.1)).bind fun t_20 => some (t_3.1, t_3.2.1, t_3.2.2.1, t_20.1))))))

noncomputable def spec_DrawApplySwaps (p_code : List (K .u8)) : Option ((List impl_Variable) × (List impl_Record) × (List (List Int))) :=
  ((spec_DrawIsSwapPlan p_code).bind fun t_2 => some (t_2.1, t_2.2.1, t_2.2.2.2))

noncomputable def spec_dInput (p_s : List impl_Variable) (p_l : List impl_Record) : Option (Bool) :=
  ((((spec_sGood p_s).bind fun t_3 => (cond t_3 ((spec_dGood p_s p_l).bind fun t_4 => some t_4) (some false))) : Option (Bool)).bind fun t_5 => some t_5)

noncomputable def spec_swPairs_l1 (p_pairs : List (List Int)) (p_n : Int) (t_2 : Int) : Option (Stp (Int) ((Unit) ⊕ (Bool))) :=
  (cond (decide (t_2 < (goLen p_pairs))) ((goAt p_pairs t_2).bind fun e_3 => (((cond ((goLen e_3) != 2) (some true) ((goAt e_3 0).bind fun e_6 => ((spec_l1In e_6 0 (w64 (p_n - 1))).bind fun t_8 => (cond (!t_8) (some true) ((goAt e_3 1).bind fun e_9 => ((goAt e_3 0).bind fun e_11 => ((spec_l1In e_9 (w64 (e_11 + 1)) (w64 (p_n - 1))).bind fun t_13 => some (!t_13)))))))) : Option (Bool)).bind fun t_14 => (cond t_14 (some (.done (.inr false))) (some (.next (w64 (t_2 + 1))))))) (some (.done (.inl ()))))

noncomputable def spec_swPairs (p_pairs : List (List Int)) (p_n : Int) : Option (Bool) :=
  ((loopC (spec_swPairs_l1 p_pairs p_n) 0).bind fun | .inl () => some (decide ((goLen p_pairs) ≤ 20)) | .inr o => some o)

noncomputable def spec_swOwn_l1 (p_l : List impl_Record) : (List impl_Record) × Int → Option (Stp ((List impl_Record) × Int) ((List impl_Record)))
  | (out_2, t_4) => (cond (decide (t_4 < (goLen p_l))) ((goAt p_l t_4).bind fun e_6 => ((spec_rOwn e_6).bind fun t_10 => ((goApp 40 out_2 ([t_10] : List impl_Record)).bind fun l_15 => some (.next (l_15, (w64 (t_4 + 1))))))) (some (.done out_2)))

noncomputable def spec_swOwn (p_l : List impl_Record) : Option ((List impl_Record)) :=
  ((loopC (spec_swOwn_l1 p_l) (([] : List impl_Record), 0)).bind fun out_17 => some out_17)

noncomputable def spec_swApply_l1 (p_pairs : List (List Int)) : (List impl_Record) × Int → Option (Stp ((List impl_Record) × Int) ((List impl_Record)))
  | (out_6, t_8) => (cond (decide (t_8 < (goLen p_pairs))) ((goAt p_pairs t_8).bind fun e_9 => ((((goAt e_9 0).bind fun e_12 => ((goAt out_6 e_12).bind fun e_14 => ((goAt e_9 1).bind fun e_17 => ((goAt out_6 e_17).bind fun e_19 => some (e_19, e_14))))) : Option (impl_Record × impl_Record)).bind fun (b_24, a_26) => ((goAt e_9 0).bind fun e_28 => ((goAt out_6 e_28).bind fun e_30 => ((goAt e_9 1).bind fun e_34 => ((goAt (goSet out_6 e_28 (impl_Record.mk b_24.Area b_24.House a_26.Values)) e_34).bind fun e_36 => some (.next (goSet (goSet out_6 e_28 (impl_Record.mk b_24.Area b_24.House a_26.Values)) e_34 (impl_Record.mk a_26.Area a_26.House b_24.Values), (w64 (t_8 + 1)))))))))) (some (.done out_6)))

noncomputable def spec_swApply (p_l : List impl_Record) (p_pairs : List (List Int)) : Option ((List impl_Record)) :=
  ((spec_swOwn p_l).bind fun t_3 => ((loopC (spec_swApply_l1 p_pairs) (t_3, 0)).bind fun out_40 => some out_40))

noncomputable def spec_ApplySwaps (p_s : List impl_Variable) (p_l : List impl_Record) (p_pairs : List (List Int)) : Option ((List impl_Record) × Bool) :=
  ((((spec_dInput p_s p_l).bind fun t_4 => (cond (!t_4) (some true) ((spec_swPairs p_pairs (goLen p_l)).bind fun t_5 => some (!t_5)))) : Option (Bool)).bind fun t_6 => (cond t_6 (some (([] : List impl_Record), false)) ((spec_swApply p_l p_pairs).bind fun t_7 => some (t_7, true))))

noncomputable def spec_DrawMovedRecords (p_code : List (K .u8)) : Option ((List impl_Variable) × (List impl_Record) × (List impl_Record)) :=
  ((spec_DrawApplySwaps p_code).bind fun t_3 => ((spec_ApplySwaps t_3.1 t_3.2.1 t_3.2.2).bind fun t_9 => (((cond t_9.2 ((spec_l1Cur_one (spec_l1Cur.mk p_code 0 (⟨0⟩ : K .u64)) 6).bind fun t_13 => some (!t_13.1, t_13.2)) (some (false, (spec_l1Cur.mk p_code 0 (⟨0⟩ : K .u64))))) : Option (Bool × spec_l1Cur)).bind fun (t_15, t_16) => (cond t_15 (some (t_3.1, t_3.2.1, t_9.1)) ((spec_l1Cur_anyData t_16 t_3.1).bind fun t_19 => some (t_3.1, t_3.2.1, t_19.1))))))

noncomputable def spec_DrawKeepsCounts (p_code : List (K .u8)) : Option ((List impl_Variable) × (List impl_Record) × (List impl_Record) × (List Int)) :=
  ((spec_DrawMovedRecords p_code).bind fun t_3 => ((spec_l1Cur_fixed (spec_l1Cur.mk p_code 0 (⟨0⟩ : K .u64)) t_3.1).bind fun t_9 => some (t_3.1, t_3.2.1, t_3.2.2, t_9.1)))

/-- a count goes up -/
def bump : List ((Int × Int) × Int) → Int × Int → Int → List ((Int × Int) × Int)
  | [], k, d => [(k, w64 (0 + d))]
  | (k', n) :: C, k, d => if k' = k then (k, w64 (n + d)) :: C else (k', n) :: bump C k d

noncomputable def impl_KeepsCounts_l1 (p_s : List impl_Variable) (p_a : List impl_Record) (p_vars : List Int) (d : Int) : (List ((Int × Int) × Int)) × Int → Option (Stp ((List ((Int × Int) × Int)) × Int) (List ((Int × Int) × Int)))
  | (C, t_8) => (cond (decide (t_8 < (goLen p_a))) ((goAt p_a t_8).bind fun e_9 => ((impl_keyOf p_s e_9 p_vars).bind fun t_13 => ((goI64 e_9.Area).bind fun _ => ((goI64 t_13).bind fun _ => some (.next (bump C (e_9.Area, t_13) d, (w64 (t_8 + 1)))))))) (some (.done C)))

noncomputable def impl_KeepsCounts (p_s : List impl_Variable) (p_a : List impl_Record) (p_b : List impl_Record) (p_vars : List Int) : Option (Bool × Bool) :=
  ((((impl_areKeyed p_s p_a p_vars).bind fun t_5 => (cond (!t_5) (some true) ((impl_isData p_s p_b).bind fun t_6 => some (!t_6)))) : Option (Bool)).bind fun t_7 => (cond t_7 (some (false, false)) ((loopC (impl_KeepsCounts_l1 p_s p_a p_vars 1) (([] : List ((Int × Int) × Int)), 0)).bind fun C => ((loopC (impl_KeepsCounts_l1 p_s p_b p_vars (-1)) (C, 0)).bind fun C2 => some (C2.all (fun p => p.2 == 0), true)))))

noncomputable def spec_swCount_l1 (p_s : List impl_Variable) (p_l : List impl_Record) (p_vars : List Int) (p_area : Int) (p_key : Int) : Int × Int → Option (Stp (Int × Int) (Int))
  | (n_4, t_5) => (cond (decide (t_5 < (goLen p_l))) ((goAt p_l t_5).bind fun e_6 => (((cond (e_6.Area == p_area) ((spec_swKey p_s e_6.Values p_vars).bind fun t_10 => some (t_10 == p_key)) (some false)) : Option (Bool)).bind fun t_11 => (((cond t_11 (some (w64 (n_4 + 1))) (some n_4)) : Option (Int)).bind fun n_12 => some (.next (n_12, (w64 (t_5 + 1))))))) (some (.done n_4)))

noncomputable def spec_swCount (p_s : List impl_Variable) (p_l : List impl_Record) (p_vars : List Int) (p_area : Int) (p_key : Int) : Option (Int) :=
  ((loopC (spec_swCount_l1 p_s p_l p_vars p_area p_key) (0, 0)).bind fun n_13 => some n_13)

noncomputable def spec_KeepsCounts_l1 (p_s : List impl_Variable) (p_a : List impl_Record) (p_b : List impl_Record) (p_vars : List Int) (l_11 : List impl_Record) (t_13 : Int) : Option (Stp (Int) ((Unit) ⊕ (Bool × Bool))) :=
  (cond (decide (t_13 < (goLen l_11))) ((goAt l_11 t_13).bind fun e_14 => ((spec_swKey p_s e_14.Values p_vars).bind fun t_18 => ((spec_swCount p_s p_a p_vars e_14.Area t_18).bind fun t_25 => ((spec_swCount p_s p_b p_vars e_14.Area t_18).bind fun t_26 => (cond (t_25 != t_26) (some (.done (.inr (false, true)))) (some (.next (w64 (t_13 + 1))))))))) (some (.done (.inl ()))))

noncomputable def spec_KeepsCounts (p_s : List impl_Variable) (p_a : List impl_Record) (p_b : List impl_Record) (p_vars : List Int) : Option (Bool × Bool) :=
  ((((spec_swInput p_s p_a p_vars).bind fun t_5 => (cond (!t_5) (some true) ((spec_dGood p_s p_b).bind fun t_6 => some (!t_6)))) : Option (Bool)).bind fun t_7 => (cond t_7 (some (false, false)) ((goApp 40 ([] : List impl_Record) p_a).bind fun l_9 => ((goApp 40 l_9 p_b).bind fun l_11 => ((loopC (spec_KeepsCounts_l1 p_s p_a p_b p_vars l_11) 0).bind fun | .inl () => some (true, true) | .inr o => some o)))))

noncomputable def laws_FnKeys_l2 (t_4 : (List impl_Variable) × (List impl_Record) × (List Int)) (e_22 : List Int) (t_30 : Int × Bool) : Int × Int → Option (Stp (Int × Int) ((Int) ⊕ (Stp (Int × Int) ((Int) ⊕ (Bool)))))
  | (n_31, t_32) => (cond (decide (t_32 < (goLen e_22))) ((goAt e_22 t_32).bind fun e_33 => ((goAt t_4.2.1 e_33).bind fun e_35 => ((impl_KeyOf t_4.1 e_35 t_4.2.2).bind fun t_38 => (((cond (!t_30.2) (some true) (cond (!t_38.2) (some true) (some (t_38.1 != t_30.1)))) : Option (Bool)).bind fun t_39 => (cond t_39 (some (.done (.inr (.done (.inr false))))) (some (.next ((w64 (n_31 + 1)), (w64 (t_32 + 1)))))))))) (some (.done (.inl n_31))))

noncomputable def laws_FnKeys_l1 (t_4 : (List impl_Variable) × (List impl_Record) × (List Int)) (t_14 : (List (List Int)) × Bool) : Int × Int → Option (Stp (Int × Int) ((Int) ⊕ (Bool)))
  | (n_20, t_21) => (cond (decide (t_21 < (goLen t_14.1))) ((goAt t_14.1 t_21).bind fun e_22 => ((goAt e_22 0).bind fun e_25 => ((goAt t_4.2.1 e_25).bind fun e_27 => ((impl_KeyOf t_4.1 e_27 t_4.2.2).bind fun t_30 => ((loopC (laws_FnKeys_l2 t_4 e_22 t_30) (n_20, 0)).bind fun | .inl n_40 => some (.next (n_40, (w64 (t_21 + 1)))) | .inr o => some o))))) (some (.done (.inl n_20))))

noncomputable def laws_FnKeys (p_code : List (K .u8)) (p_more : List (K .u8)) : Option (Bool) :=
  ((laws_big p_code p_more).bind fun t_3 => (cond t_3 (some true) ((spec_DrawKeyGroups p_code).bind fun t_4 => ((impl_KeyGroups t_4.1 t_4.2.1 t_4.2.2).bind fun t_11 => ((spec_KeyGroups t_4.1 t_4.2.1 t_4.2.2).bind fun t_14 => (((cond (t_11.2 != t_14.2) (some true) ((laws_sameLists t_11.1 t_14.1).bind fun t_17 => some (!t_17))) : Option (Bool)).bind fun t_19 => (cond t_19 (some false) ((loopC (laws_FnKeys_l1 t_4 t_14) (0, 0)).bind fun | .inl n_41 => (((cond t_11.2 (some (n_41 != (goLen t_4.2.1))) (some false)) : Option (Bool)).bind fun t_42 => (cond t_42 (some false) ((spec_DrawSwapCandidates p_more).bind fun t_43 => ((impl_SwapCandidates t_43.1 t_43.2.1 t_43.2.2).bind fun t_50 => ((spec_SwapCandidates t_43.1 t_43.2.1 t_43.2.2).bind fun t_53 => (((cond (t_50.2 != t_53.2) (some true) ((laws_sameLists t_50.1 t_53.1).bind fun t_56 => some (!t_56))) : Option (Bool)).bind fun t_58 => (cond t_58 (some false) ((spec_DrawKeepsCounts p_more).bind fun t_59 => ((impl_KeepsCounts t_59.1 t_59.2.1 t_59.2.2.1 t_59.2.2.2).bind fun t_65 => ((spec_KeepsCounts t_59.1 t_59.2.1 t_59.2.2.1 t_59.2.2.2).bind fun t_67 => (((cond (t_65.2 == t_67.2) (some (t_65.1 == t_67.1)) (some false)) : Option (Bool)).bind fun t_69 => some t_69))))))))))) | .inr o => some o))))))))

end Go.Gx.F
