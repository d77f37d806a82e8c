/- The plain functions that the walks come to. -/
import Derived.Lib.ItoaNum
import Derived.Lib.Join
import Derived.Lib.IndexMore
import Derived.Test.YtgaeknajcakinaaDoorGy
namespace Go.Gx.F
open Go.Gx
set_option linter.all false

structure spec_l1Cur where
  code : List (K .u8)
  at_ : Int
  seed : K .u64

instance : Rep spec_l1Cur where
  wd := 3
  rd m cs x := ∃ s1 : Sl, cs = [s1.v, (.int .i64 x.at_), (.int .u64 x.seed.v)] ∧ Rd m s1 x.code
  mono hm h := by
    obtain ⟨s1, rfl, h1⟩ := h
    exact ⟨s1, rfl, h1.mono hm⟩
  len h := by obtain ⟨s1, rfl, _⟩ := h; rfl
  one h := by obtain ⟨s1, rfl, _⟩ := h; rfl

instance : Rng spec_l1Cur := ⟨fun x => Rng.ok x.code ∧ Rng.ok x.at_ ∧ Rng.ok x.seed⟩

structure impl_Geo where
  Parents : List Int

instance : Rep impl_Geo where
  wd := 1
  rd m cs x := ∃ s1 : Sl, cs = [s1.v] ∧ Rd m s1 x.Parents
  mono hm h := by
    obtain ⟨s1, rfl, h1⟩ := h
    exact ⟨s1, rfl, h1.mono hm⟩
  len h := by obtain ⟨s1, rfl, _⟩ := h; rfl
  one h := by obtain ⟨s1, rfl, _⟩ := h; rfl

instance : Rng impl_Geo := ⟨fun x => Rng.ok x.Parents⟩

noncomputable def laws_big (p_code : List (K .u8)) (p_more : List (K .u8)) : Option (Bool) :=
  (((cond (decide (1048576 < (goLen p_code))) (some true) (some (decide ((w64 (1048576 - (goLen p_code))) < (goLen p_more))))) : Option (Bool)).bind fun t_3 => some t_3)

noncomputable def spec_l1Cur_next (p_c : spec_l1Cur) : Option (Int × spec_l1Cur) :=
  (((cond (decide (p_c.at_ < (goLen p_c.code))) ((goAt p_c.code p_c.at_).bind fun e_2 => some (w64 e_2.v)) (some 0)) : Option (Int)).bind fun b_4 => (cond (decide ((w64 (p_c.at_ + 1)) ≤ (goLen p_c.code))) (some (b_4, (spec_l1Cur.mk p_c.code (w64 (p_c.at_ + 1)) (⟨(IntKind.wrap .u64 ((IntKind.wrap .u64 ((IntKind.wrap .u64 (p_c.seed.v * 6364136223846793005)) + (IntKind.wrap .u64 b_4))) + 1442695040888963407))⟩ : K .u64)))) ((goShr .u64 (IntKind.wrap .u64 ((IntKind.wrap .u64 ((IntKind.wrap .u64 (p_c.seed.v * 6364136223846793005)) + (IntKind.wrap .u64 b_4))) + 1442695040888963407)) 40).bind fun t_5 => some ((w64 (goBits .and .u64 t_5 255)), (spec_l1Cur.mk p_c.code (w64 (p_c.at_ + 1)) (⟨(IntKind.wrap .u64 ((IntKind.wrap .u64 ((IntKind.wrap .u64 (p_c.seed.v * 6364136223846793005)) + (IntKind.wrap .u64 b_4))) + 1442695040888963407))⟩ : K .u64))))))

noncomputable def spec_l1Cur_pick (p_c : spec_l1Cur) (p_n : Int) : Option (Int × spec_l1Cur) :=
  (cond (decide (p_n ≤ 1)) (some (0, p_c)) ((spec_l1Cur_next p_c).bind fun t_3 => (((cond (decide (200 < p_n)) ((spec_l1Cur_next t_3.2).bind fun t_6 => some ((w64 ((w64 (t_3.1 * 256)) + t_6.1)), t_6.2)) (some (t_3.1, t_3.2))) : Option (Int × spec_l1Cur)).bind fun (x_8, p_c_9) => ((goRem x_8 p_n).bind fun t_11 => some (t_11, p_c_9)))))

noncomputable def spec_l1Own (p_l : List Int) : Option ((List Int)) :=
  ((goApp 8 ([] : List Int) p_l).bind fun l_3 => some l_3)

noncomputable def spec_l1Cur_geo_l1  : Int × spec_l1Cur × impl_Geo → Option (Stp (Int × spec_l1Cur × impl_Geo) (spec_l1Cur × impl_Geo))
  | (k_29, p_c_30, g_32) => (cond (decide (0 < k_29)) ((((spec_l1Cur_pick p_c_30 (goLen g_32.Parents)).bind fun t_35 => ((goApp 8 g_32.Parents ([t_35.1] : List Int)).bind fun l_38 => some (t_35.2, (impl_Geo.mk l_38)))) : Option (spec_l1Cur × impl_Geo)).bind fun (p_c_40, g_42) => some (.next ((w64 (k_29 - 1)), p_c_40, g_42))) (some (.done (p_c_30, g_32))))

noncomputable def spec_l1Cur_geo (p_c : spec_l1Cur) : Option (impl_Geo × spec_l1Cur) :=
  ((spec_l1Cur_pick p_c (goLen ([([-1, 0, 0] : List Int), ([-1, 0, 0, 1, 1, 2, 2] : List Int), ([-1, 0, 0, 0, 1, 1, 2, 3] : List Int), ([-1, 0, 0, 1, 1] : List Int), ([-1] : List Int), ([-1, 0, 1, 2] : List Int)] : List (List Int)))).bind fun t_17 => ((goAt ([([-1, 0, 0] : List Int), ([-1, 0, 0, 1, 1, 2, 2] : List Int), ([-1, 0, 0, 0, 1, 1, 2, 3] : List Int), ([-1, 0, 0, 1, 1] : List Int), ([-1] : List Int), ([-1, 0, 1, 2] : List Int)] : List (List Int)) t_17.1).bind fun e_19 => ((spec_l1Own e_19).bind fun t_22 => ((spec_l1Cur_pick t_17.2 4).bind fun t_27 => ((loopC (spec_l1Cur_geo_l1) (t_27.1, t_27.2, (impl_Geo.mk t_22))).bind fun (p_c_44, g_46) => some (g_46, p_c_44))))))

noncomputable def spec_l1Cur_among (p_c : spec_l1Cur) (p_list : List Int) : Option (Int × spec_l1Cur) :=
  ((spec_l1Cur_pick p_c (goLen p_list)).bind fun t_4 => ((goAt p_list t_4.1).bind fun e_6 => some (e_6, t_4.2)))

noncomputable def spec_l1Cur_anyGeo (p_c : spec_l1Cur) : Option (impl_Geo × spec_l1Cur) :=
  ((spec_l1Cur_geo p_c).bind fun t_4 => ((spec_l1Cur_pick t_4.2 24).bind fun t_9 => (((cond (t_9.1 == 0) ((goAt t_4.1.Parents 0).bind fun e_38 => some (.inl (t_9.2, (impl_Geo.mk (goSet t_4.1.Parents 0 0))))) (((cond (t_9.1 == 1) ((((spec_l1Cur_among t_9.2 ([-1, goLen t_4.1.Parents, 0] : List Int)).bind fun t_25 => ((goApp 8 t_4.1.Parents ([t_25.1] : List Int)).bind fun l_28 => some (t_25.2, (impl_Geo.mk l_28)))) : Option (spec_l1Cur × impl_Geo)).bind fun (p_c_30, g_32) => some (.inl (p_c_30, g_32))) (cond (t_9.1 == 2) (some (.inr (.inr ((impl_Geo.mk ([] : List Int)), t_9.2)))) (((cond (t_9.1 == 3) ((spec_l1Cur_pick t_9.2 2).bind fun t_15 => ((goAppZ 8 t_4.1.Parents (w64 ((w64 (30 - (goLen t_4.1.Parents))) + t_15.1)) (0 : Int)).bind fun l_17 => some (t_15.2, (impl_Geo.mk l_17)))) (some (t_9.2, t_4.1))) : Option (spec_l1Cur × impl_Geo)).bind fun (p_c_19, g_21) => some (.inl (p_c_19, g_21))))) : Option ((spec_l1Cur × impl_Geo) ⊕ ((spec_l1Cur × impl_Geo) ⊕ (impl_Geo × spec_l1Cur)))).bind fun | .inl (p_c_34, g_36) => some (.inl (p_c_34, g_36)) | .inr o => some o)) : Option ((spec_l1Cur × impl_Geo) ⊕ (impl_Geo × spec_l1Cur))).bind fun | .inl (p_c_41, g_43) => some (g_43, p_c_41) | .inr o => some o)))

noncomputable def spec_DrawIsGeo (p_code : List (K .u8)) : Option (impl_Geo) :=
  ((spec_l1Cur_anyGeo (spec_l1Cur.mk p_code 0 (⟨0⟩ : K .u64))).bind fun t_5 => some t_5.1)

noncomputable def spec_DrawGeoText (p_code : List (K .u8)) : Option (impl_Geo) :=
  ((spec_DrawIsGeo p_code).bind fun t_3 => some t_3)

noncomputable def impl_IsGeo_l1 (p_g : impl_Geo) (i_6 : Int) : Option (Stp (Int) ((Unit) ⊕ (Bool))) :=
  (cond (decide (i_6 < (goLen p_g.Parents))) ((((goAt p_g.Parents i_6).bind fun e_7 => (cond (decide (e_7 < 0)) (some true) ((goAt p_g.Parents i_6).bind fun e_9 => some (decide (i_6 ≤ e_9))))) : Option (Bool)).bind fun t_11 => (cond t_11 (some (.done (.inr false))) (some (.next (w64 (i_6 + 1)))))) (some (.done (.inl ()))))

noncomputable def impl_IsGeo (p_g : impl_Geo) : Option (Bool) :=
  (((cond (decide ((goLen p_g.Parents) < 1)) (some true) (cond (decide (30 < (goLen p_g.Parents))) (some true) ((goAt p_g.Parents 0).bind fun e_3 => some (e_3 != (-1))))) : Option (Bool)).bind fun t_5 => (cond t_5 (some false) ((loopC (impl_IsGeo_l1 p_g) 1).bind fun | .inl () => some true | .inr o => some o)))

noncomputable def impl_childrenOf_l1 (p_g : impl_Geo) (p_i : Int) : (List Int) × Int → Option (Stp ((List Int) × Int) ((List Int)))
  | (list_3, t_5) => (cond (decide (t_5 < (goLen p_g.Parents))) ((goAt p_g.Parents t_5).bind fun e_6 => (((cond (e_6 == p_i) (some (decide (0 < t_5))) (some false)) : Option (Bool)).bind fun t_8 => (((cond t_8 ((goApp 8 list_3 ([t_5] : List Int)).bind fun l_10 => some l_10) (some list_3)) : Option ((List Int))).bind fun list_12 => some (.next (list_12, (w64 (t_5 + 1))))))) (some (.done list_3)))

noncomputable def impl_childrenOf (p_g : impl_Geo) (p_i : Int) : Option ((List Int)) :=
  ((loopC (impl_childrenOf_l1 p_g p_i) (([] : List Int), 0)).bind fun list_14 => some list_14)

noncomputable def strconv_Itoa (p_x : Int) : Option (List UInt8) :=
  cond (decide (-9223372036854775808 ≤ p_x ∧ p_x ≤ 9223372036854775807)) (some (Go.Lib.itoa p_x)) none

noncomputable def strings_Join (p_elems : List (List UInt8)) (p_sep : List UInt8) : Option ((List UInt8)) :=
  cond (decide (p_elems.length ≤ 140737488355328 ∧ (Go.Lib.join p_elems p_sep).length ≤ 140737488355328)) (some (Go.Lib.join p_elems p_sep)) none

noncomputable def impl_areaText_l1 (rcf : impl_Geo → Int → Option ((List UInt8))) (p_g : impl_Geo) (t_4 : List Int) : (List (List UInt8)) × Int → Option (Stp ((List (List UInt8)) × Int) ((List (List UInt8))))
  | (parts_9, t_11) => (cond (decide (t_11 < (goLen t_4))) ((goAt t_4 t_11).bind fun e_12 => ((rcf p_g e_12).bind fun t_14 => ((goAt parts_9 t_11).bind fun e_15 => some (.next (goSet parts_9 t_11 t_14, (w64 (t_11 + 1))))))) (some (.done parts_9)))

noncomputable def impl_areaText_B (rcf : impl_Geo → Int → Option ((List UInt8))) (p_g : impl_Geo) (p_i : Int) : Option ((List UInt8)) :=
  ((strconv_Itoa p_i).bind fun t_3 => ((impl_childrenOf p_g p_i).bind fun t_4 => (cond ((goLen t_4) == 0) (some t_3) ((goMake 16 (goLen t_4) (([] : List UInt8) : List UInt8)).bind fun l_7 => ((loopC (impl_areaText_l1 rcf p_g t_4) (l_7, 0)).bind fun parts_18 => ((goCat t_3 ([40] : List UInt8)).bind fun t_20 => ((strings_Join parts_18 ([32] : List UInt8)).bind fun t_21 => ((goCat t_20 t_21).bind fun t_23 => ((goCat t_23 ([41] : List UInt8)).bind fun t_24 => some t_24)))))))))

noncomputable def impl_areaText_k : Nat → impl_Geo → Int → Option ((List UInt8))
  | 0 => fun _ _ => none
  | k + 1 => impl_areaText_B (impl_areaText_k k)

noncomputable def impl_areaText (p_g : impl_Geo) (p_i : Int) : Option ((List UInt8)) := recO (fun k => impl_areaText_k k p_g p_i)

noncomputable def impl_GeoText (p_g : impl_Geo) : Option ((List UInt8) × Bool) :=
  ((impl_IsGeo p_g).bind fun t_3 => (cond (!t_3) (some (([] : List UInt8), false)) ((impl_areaText p_g 0).bind fun t_4 => some (t_4, true))))

noncomputable def spec_l1In (p_n : Int) (p_lo : Int) (p_hi : Int) : Option (Bool) :=
  (((cond (decide (p_lo ≤ p_n)) (some (decide (p_n ≤ p_hi))) (some false)) : Option (Bool)).bind fun t_1 => some t_1)

noncomputable def spec_gGood_l1 (p_g : impl_Geo) (t_7 : Int) : Option (Stp (Int) ((Unit) ⊕ (Bool))) :=
  (cond (decide (t_7 < (goLen p_g.Parents))) ((goAt p_g.Parents t_7).bind fun e_8 => (((cond (decide (0 < t_7)) ((spec_l1In e_8 0 (w64 (t_7 - 1))).bind fun t_10 => some (!t_10)) (some false)) : Option (Bool)).bind fun t_11 => (cond t_11 (some (.done (.inr false))) (some (.next (w64 (t_7 + 1))))))) (some (.done (.inl ()))))

noncomputable def spec_gGood (p_g : impl_Geo) : Option (Bool) :=
  ((((spec_l1In (goLen p_g.Parents) 1 30).bind fun t_3 => (cond (!t_3) (some true) ((goAt p_g.Parents 0).bind fun e_4 => some (e_4 != (-1))))) : Option (Bool)).bind fun t_6 => (cond t_6 (some false) ((loopC (spec_gGood_l1 p_g) 0).bind fun | .inl () => some true | .inr o => some o)))

noncomputable def spec_l1Num_B (rcf : Int → Option ((List UInt8))) (p_n : Int) : Option ((List UInt8)) :=
  (cond (decide (p_n < 10)) (some (goBytes ([(⟨(IntKind.wrap .u8 (w64 (48 + p_n)))⟩ : K .u8)] : List (K .u8)))) ((((goQuo .i64 p_n 10).bind fun t_1 => ((goRem p_n 10).bind fun t_4 => ((rcf t_1).bind fun t_9 => ((goCat t_9 (goBytes ([(⟨(IntKind.wrap .u8 (w64 (48 + t_4)))⟩ : K .u8)] : List (K .u8)))).bind fun t_11 => some t_11)))) : Option ((List UInt8))).bind fun t_12 => some t_12))

noncomputable def spec_l1Num_k : Nat → Int → Option ((List UInt8))
  | 0 => fun _ => none
  | k + 1 => spec_l1Num_B (spec_l1Num_k k)

noncomputable def spec_l1Num (p_n : Int) : Option ((List UInt8)) := recO (fun k => spec_l1Num_k k p_n)

noncomputable def spec_gChildren_l1 (p_g : impl_Geo) (p_i : Int) : (List Int) × Int → Option (Stp ((List Int) × Int) ((List Int)))
  | (out_3, t_5) => (cond (decide (t_5 < (goLen p_g.Parents))) ((goAt p_g.Parents t_5).bind fun e_6 => (((cond (e_6 == p_i) ((goApp 8 out_3 ([t_5] : List Int)).bind fun l_9 => some l_9) (some out_3)) : Option ((List Int))).bind fun out_11 => some (.next (out_11, (w64 (t_5 + 1)))))) (some (.done out_3)))

noncomputable def spec_gChildren (p_g : impl_Geo) (p_i : Int) : Option ((List Int)) :=
  ((loopC (spec_gChildren_l1 p_g p_i) (([] : List Int), 0)).bind fun out_13 => some out_13)

noncomputable def spec_gText_l1 (rcf : impl_Geo → Int → Option ((List UInt8))) (p_g : impl_Geo) (t_4 : List Int) : (List UInt8) × Int → Option (Stp ((List UInt8) × Int) ((List UInt8)))
  | (s_7, t_8) => (cond (decide (t_8 < (goLen t_4))) ((goAt t_4 t_8).bind fun e_9 => (((cond (t_8 == 0) ((goCat s_7 ([40] : List UInt8)).bind fun t_12 => some t_12) ((goCat s_7 ([32] : List UInt8)).bind fun t_11 => some t_11)) : Option ((List UInt8))).bind fun s_13 => ((rcf p_g e_9).bind fun t_14 => ((goCat s_13 t_14).bind fun t_15 => some (.next (t_15, (w64 (t_8 + 1)))))))) (some (.done s_7)))

noncomputable def spec_gText_B (rcf : impl_Geo → Int → Option ((List UInt8))) (p_g : impl_Geo) (p_i : Int) : Option ((List UInt8)) :=
  ((spec_l1Num p_i).bind fun t_3 => ((spec_gChildren p_g p_i).bind fun t_4 => ((loopC (spec_gText_l1 rcf p_g t_4) (t_3, 0)).bind fun s_16 => ((spec_gChildren p_g p_i).bind fun t_17 => (((cond (decide (0 < (goLen t_17))) ((goCat s_16 ([41] : List UInt8)).bind fun t_20 => some t_20) (some s_16)) : Option ((List UInt8))).bind fun s_21 => some s_21)))))

noncomputable def spec_gText_k : Nat → impl_Geo → Int → Option ((List UInt8))
  | 0 => fun _ _ => none
  | k + 1 => spec_gText_B (spec_gText_k k)

noncomputable def spec_gText (p_g : impl_Geo) (p_i : Int) : Option ((List UInt8)) := recO (fun k => spec_gText_k k p_g p_i)

noncomputable def spec_GeoText (p_g : impl_Geo) : Option ((List UInt8) × Bool) :=
  ((spec_gGood p_g).bind fun t_3 => (cond (!t_3) (some (([] : List UInt8), false)) ((spec_gText p_g 0).bind fun t_4 => some (t_4, true))))

noncomputable def impl_readNatural_l1 (p_s : List UInt8) (p_most : Int) : Int × Int → Option (Stp (Int × Int) ((Int × Int) ⊕ (Int × (List UInt8) × Bool)))
  | (n_1, i_2) => (((cond (decide (i_2 < (goLen p_s))) ((goStrAt p_s i_2).bind fun t_3 => (cond (decide (48 ≤ t_3)) ((goStrAt p_s i_2).bind fun t_4 => some (decide (t_4 ≤ 57))) (some false))) (some false)) : Option (Bool)).bind fun t_5 => (cond t_5 (((cond (decide (0 < i_2)) (some (n_1 == 0)) (some false)) : Option (Bool)).bind fun t_6 => (cond t_6 (some (.done (.inr (0, ([] : List UInt8), false)))) ((goStrAt p_s i_2).bind fun t_7 => (cond (decide (p_most < (w64 ((w64 (n_1 * 10)) + (w64 (IntKind.wrap .u8 (t_7 - 48))))))) (some (.done (.inr (0, ([] : List UInt8), false)))) (some (.next ((w64 ((w64 (n_1 * 10)) + (w64 (IntKind.wrap .u8 (t_7 - 48))))), (w64 (i_2 + 1))))))))) (some (.done (.inl (n_1, i_2))))))

noncomputable def impl_readNatural (p_s : List UInt8) (p_most : Int) : Option (Int × (List UInt8) × Bool) :=
  ((loopC (impl_readNatural_l1 p_s p_most) (0, 0)).bind fun | .inl (n_8, i_9) => (cond (i_9 == 0) (some (0, ([] : List UInt8), false)) ((goSub p_s i_9 (goLen p_s)).bind fun t_10 => some (n_8, t_10, true))) | .inr o => some o)

noncomputable def slices_Clone_int_int (p_s : List Int) : Option ((List Int)) :=
  ((goApp 8 ([] : List Int) p_s).bind fun l_3 => some l_3)

noncomputable def impl_ParseGeo_l1 (l_2 : List Int) : (List Int) × Int → Option (Stp ((List Int) × Int) ((List Int)))
  | (parents_4, t_6) => (cond (decide (t_6 < (goLen l_2))) ((goAt parents_4 t_6).bind fun e_7 => some (.next (goSet parents_4 t_6 (-2), (w64 (t_6 + 1))))) (some (.done parents_4)))

noncomputable def impl_ParseGeo_l2  : (List Int) × (List Int) × Int × Int × (List UInt8) → Option (Stp ((List Int) × (List Int) × Int × Int × (List UInt8)) (((List Int) × Int) ⊕ (impl_Geo × Bool)))
  | (parents_12, open_14, last_16, n_17, rest_18) => (cond (rest_18 != ([] : List UInt8)) ((((goStrAt rest_18 0).bind fun t_19 => (((cond (t_19 == 40) (some (t_19 == 40)) (((cond (t_19 == 32) (some (t_19 == 32)) (some (t_19 == 41))) : Option (Bool)).bind fun t_20 => some t_20)) : Option (Bool)).bind fun t_21 => (cond t_21 (cond (decide (last_16 < 0)) (some (.inr (.done (.inr ((impl_Geo.mk ([] : List Int)), false))))) ((goStrAt rest_18 0).bind fun t_36 => (((cond (t_36 == 40) ((goApp 8 open_14 ([last_16] : List Int)).bind fun l_38 => some (.inl l_38)) (cond ((goLen open_14) == 0) (some (.inr (.inr (.done (.inr ((impl_Geo.mk ([] : List Int)), false)))))) (some (.inl open_14)))) : Option (((List Int)) ⊕ (((List Int) × (List Int) × Int × Int × (List UInt8)) ⊕ (Stp ((List Int) × (List Int) × Int × Int × (List UInt8)) (((List Int) × Int) ⊕ (impl_Geo × Bool)))))).bind fun | .inl open_40 => ((goStrAt rest_18 0).bind fun t_42 => (((cond (t_42 == 41) ((goAt open_40 (w64 ((goLen open_40) - 1))).bind fun e_43 => ((goSub open_40 0 (w64 ((goLen open_40) - 1))).bind fun l_45 => some (l_45, e_43))) (some (open_40, -1))) : Option ((List Int) × Int)).bind fun (open_47, last_49) => ((goSub rest_18 1 (goLen rest_18)).bind fun t_50 => some (.inl (parents_12, open_47, last_49, n_17, t_50))))) | .inr o => some o))) ((impl_readNatural rest_18 29).bind fun t_22 => (((cond (!t_22.2.2) (some true) (cond (decide (0 ≤ last_16)) (some true) ((goAt parents_12 t_22.1).bind fun e_23 => (cond (e_23 != (-2)) (some true) (cond ((goLen open_14) == 0) (some (decide (0 < n_17))) (some false)))))) : Option (Bool)).bind fun t_25 => (cond t_25 (some (.inr (.done (.inr ((impl_Geo.mk ([] : List Int)), false))))) ((goAt parents_12 t_22.1).bind fun e_26 => (((cond (decide (0 < (goLen open_14))) ((goAt open_14 (w64 ((goLen open_14) - 1))).bind fun e_29 => ((goAt (goSet parents_12 t_22.1 (-1)) t_22.1).bind fun e_31 => some (goSet (goSet parents_12 t_22.1 (-1)) t_22.1 e_29))) (some (goSet parents_12 t_22.1 (-1)))) : Option ((List Int))).bind fun parents_34 => some (.inl (parents_34, open_14, t_22.1, (w64 (n_17 + 1)), t_22.2.1)))))))))) : Option (((List Int) × (List Int) × Int × Int × (List UInt8)) ⊕ (Stp ((List Int) × (List Int) × Int × Int × (List UInt8)) (((List Int) × Int) ⊕ (impl_Geo × Bool))))).bind fun | .inl (parents_51, open_53, last_55, n_56, rest_57) => some (.next (parents_51, open_53, last_55, n_56, rest_57)) | .inr o => some o) (some (.done (.inl (parents_12, n_17)))))

noncomputable def impl_ParseGeo (p_s : List UInt8) : Option (impl_Geo × Bool) :=
  ((goMake 8 30 (0 : Int)).bind fun l_2 => ((loopC (impl_ParseGeo_l1 l_2) (l_2, 0)).bind fun parents_10 => ((loopC (impl_ParseGeo_l2) (parents_10, ([] : List Int), -1, 0, p_s)).bind fun | .inl (parents_58, n_60) => ((goSub parents_58 0 n_60).bind fun l_61 => ((slices_Clone_int_int l_61).bind fun t_63 => ((((impl_IsGeo (impl_Geo.mk t_63)).bind fun t_68 => (cond (!t_68) (some true) ((impl_areaText (impl_Geo.mk t_63) 0).bind fun t_70 => some (t_70 != p_s)))) : Option (Bool)).bind fun t_72 => (cond t_72 (some ((impl_Geo.mk ([] : List Int)), false)) (some ((impl_Geo.mk t_63), true)))))) | .inr o => some o)))

noncomputable def laws_sameInts_l1 (p_a : List Int) (p_b : List Int) (t_3 : Int) : Option (Stp (Int) ((Unit) ⊕ (Bool))) :=
  (cond (decide (t_3 < (goLen p_a))) ((goAt p_a t_3).bind fun e_4 => ((goAt p_b t_3).bind fun e_6 => (cond (e_4 != e_6) (some (.done (.inr false))) (some (.next (w64 (t_3 + 1))))))) (some (.done (.inl ()))))

noncomputable def laws_sameInts (p_a : List Int) (p_b : List Int) : Option (Bool) :=
  (cond ((goLen p_a) != (goLen p_b)) (some false) ((loopC (laws_sameInts_l1 p_a p_b) 0).bind fun | .inl () => some true | .inr o => some o))

noncomputable def slices_Index_int_int_l1 (p_s : List Int) (p_v : Int) (t_2 : Int) : Option (Stp (Int) ((Unit) ⊕ (Int))) :=
  (cond (decide (t_2 < (goLen p_s))) ((goAt p_s t_2).bind fun e_3 => (cond (p_v == e_3) (some (.done (.inr t_2))) (some (.next (w64 (t_2 + 1)))))) (some (.done (.inl ()))))

noncomputable def slices_Index_int_int (p_s : List Int) (p_v : Int) : Option (Int) :=
  ((loopC (slices_Index_int_int_l1 p_s p_v) 0).bind fun | .inl () => some (-1) | .inr o => some o)

noncomputable def slices_Contains_int_int (p_s : List Int) (p_v : Int) : Option (Bool) :=
  ((slices_Index_int_int p_s p_v).bind fun t_2 => some (decide (0 ≤ t_2)))

noncomputable def impl_isLeaf (p_g : impl_Geo) (p_i : Int) : Option (Bool) :=
  ((slices_Contains_int_int p_g.Parents p_i).bind fun t_3 => some (!t_3))

noncomputable def impl_leavesOf_l1 (p_g : impl_Geo) : (List Int) × Int → Option (Stp ((List Int) × Int) ((List Int)))
  | (list_3, t_5) => (cond (decide (t_5 < (goLen p_g.Parents))) ((impl_isLeaf p_g t_5).bind fun t_6 => (((cond t_6 ((goApp 8 list_3 ([t_5] : List Int)).bind fun l_8 => some l_8) (some list_3)) : Option ((List Int))).bind fun list_10 => some (.next (list_10, (w64 (t_5 + 1)))))) (some (.done list_3)))

noncomputable def impl_leavesOf (p_g : impl_Geo) : Option ((List Int)) :=
  ((loopC (impl_leavesOf_l1 p_g) (([] : List Int), 0)).bind fun list_12 => some list_12)

noncomputable def impl_LeavesOf (p_g : impl_Geo) : Option ((List Int) × Bool) :=
  ((impl_IsGeo p_g).bind fun t_3 => (cond (!t_3) (some (([] : List Int), false)) ((impl_leavesOf p_g).bind fun t_4 => some (t_4, true))))

noncomputable def spec_gLeaves_l1 (p_g : impl_Geo) : (List Int) × Int → Option (Stp ((List Int) × Int) ((List Int)))
  | (out_3, t_5) => (cond (decide (t_5 < (goLen p_g.Parents))) ((spec_gChildren p_g t_5).bind fun t_6 => (((cond ((goLen t_6) == 0) ((goApp 8 out_3 ([t_5] : List Int)).bind fun l_10 => some l_10) (some out_3)) : Option ((List Int))).bind fun out_12 => some (.next (out_12, (w64 (t_5 + 1)))))) (some (.done out_3)))

noncomputable def spec_gLeaves (p_g : impl_Geo) : Option ((List Int)) :=
  ((loopC (spec_gLeaves_l1 p_g) (([] : List Int), 0)).bind fun out_14 => some out_14)

noncomputable def spec_LeavesOf (p_g : impl_Geo) : Option ((List Int) × Bool) :=
  ((spec_gGood p_g).bind fun t_3 => (cond (!t_3) (some (([] : List Int), false)) ((spec_gLeaves p_g).bind fun t_4 => some (t_4, true))))

noncomputable def impl_depthOf_l1 (p_g : impl_Geo) : Int × Int → Option (Stp (Int × Int) (Int))
  | (i_3, d_4) => (cond (decide (0 < i_3)) ((goAt p_g.Parents i_3).bind fun e_5 => some (.next (e_5, (w64 (d_4 + 1))))) (some (.done d_4)))

noncomputable def impl_depthOf (p_g : impl_Geo) (p_i : Int) : Option (Int) :=
  ((loopC (impl_depthOf_l1 p_g) (p_i, 0)).bind fun d_7 => some d_7)

noncomputable def impl_areasAt_l1 (p_g : impl_Geo) (p_level : Int) : (List Int) × Int → Option (Stp ((List Int) × Int) ((List Int)))
  | (list_3, t_5) => (cond (decide (t_5 < (goLen p_g.Parents))) ((impl_depthOf p_g t_5).bind fun t_6 => (((cond (t_6 == p_level) ((goApp 8 list_3 ([t_5] : List Int)).bind fun l_8 => some l_8) (some list_3)) : Option ((List Int))).bind fun list_10 => some (.next (list_10, (w64 (t_5 + 1)))))) (some (.done list_3)))

noncomputable def impl_areasAt (p_g : impl_Geo) (p_level : Int) : Option ((List Int)) :=
  ((loopC (impl_areasAt_l1 p_g p_level) (([] : List Int), 0)).bind fun list_12 => some list_12)

noncomputable def impl_LevelOf (p_g : impl_Geo) (p_level : Int) : Option ((List Int) × Bool) :=
  ((impl_IsGeo p_g).bind fun t_3 => (cond (!t_3) (some (([] : List Int), false)) ((impl_areasAt p_g p_level).bind fun t_4 => some (t_4, decide (0 < (goLen t_4))))))

noncomputable def spec_gDepth_l1 (p_g : impl_Geo) : Int × Int → Option (Stp (Int × Int) (Int))
  | (i_3, n_4) => ((goAt p_g.Parents i_3).bind fun e_5 => (cond (decide (0 ≤ e_5)) ((goAt p_g.Parents i_3).bind fun e_7 => some (.next (e_7, (w64 (n_4 + 1))))) (some (.done n_4))))

noncomputable def spec_gDepth (p_g : impl_Geo) (p_i : Int) : Option (Int) :=
  ((loopC (spec_gDepth_l1 p_g) (p_i, 0)).bind fun n_9 => some n_9)

noncomputable def spec_gLevel_l1 (p_g : impl_Geo) (p_level : Int) : (List Int) × Int → Option (Stp ((List Int) × Int) ((List Int)))
  | (out_3, t_5) => (cond (decide (t_5 < (goLen p_g.Parents))) ((spec_gDepth p_g t_5).bind fun t_6 => (((cond (t_6 == p_level) ((goApp 8 out_3 ([t_5] : List Int)).bind fun l_8 => some l_8) (some out_3)) : Option ((List Int))).bind fun out_10 => some (.next (out_10, (w64 (t_5 + 1)))))) (some (.done out_3)))

noncomputable def spec_gLevel (p_g : impl_Geo) (p_level : Int) : Option ((List Int)) :=
  ((loopC (spec_gLevel_l1 p_g p_level) (([] : List Int), 0)).bind fun out_12 => some out_12)

noncomputable def spec_LevelOf (p_g : impl_Geo) (p_level : Int) : Option ((List Int) × Bool) :=
  ((spec_gGood p_g).bind fun t_3 => (cond (!t_3) (some (([] : List Int), false)) ((spec_gLevel p_g p_level).bind fun t_4 => some (t_4, decide (0 < (goLen t_4))))))

noncomputable def spec_l1Cur_one (p_c : spec_l1Cur) (p_n : Int) : Option (Bool × spec_l1Cur) :=
  ((spec_l1Cur_pick p_c p_n).bind fun t_3 => some (t_3.1 == 0, t_3.2))

noncomputable def spec_l1Cur_spoilt_l1 (p_with : List UInt8) : (List UInt8) × Int × spec_l1Cur → Option (Stp ((List UInt8) × Int × spec_l1Cur) ((List UInt8) × spec_l1Cur))
  | (t_5, n_6, p_c_7) => (((cond (decide (0 < n_6)) (some (decide (0 < (goLen t_5)))) (some false)) : Option (Bool)).bind fun t_9 => (cond t_9 ((spec_l1Cur_pick p_c_7 (goLen t_5)).bind fun t_11 => ((spec_l1Cur_pick t_11.2 (goLen p_with)).bind fun t_14 => ((goStrAt p_with t_14.1).bind fun t_16 => ((spec_l1Cur_pick t_14.2 3).bind fun t_19 => (((cond (t_19.1 == 0) ((goSub t_5 0 t_11.1).bind fun t_29 => ((goCat t_29 (goBytes ([(⟨t_16⟩ : K .u8)] : List (K .u8)))).bind fun t_30 => ((goSub t_5 t_11.1 (goLen t_5)).bind fun t_31 => ((goCat t_30 t_31).bind fun t_32 => some t_32)))) (((cond (t_19.1 == 1) ((goSub t_5 0 t_11.1).bind fun t_24 => ((goCat t_24 (goBytes ([(⟨t_16⟩ : K .u8)] : List (K .u8)))).bind fun t_25 => ((goSub t_5 (w64 (t_11.1 + 1)) (goLen t_5)).bind fun t_26 => ((goCat t_25 t_26).bind fun t_27 => some t_27)))) ((goSub t_5 0 t_11.1).bind fun t_21 => ((goSub t_5 (w64 (t_11.1 + 1)) (goLen t_5)).bind fun t_22 => ((goCat t_21 t_22).bind fun t_23 => some t_23)))) : Option ((List UInt8))).bind fun t_28 => some t_28)) : Option ((List UInt8))).bind fun t_33 => some (.next (t_33, (w64 (n_6 - 1)), t_19.2))))))) (some (.done (t_5, p_c_7)))))

noncomputable def spec_l1Cur_spoilt (p_c : spec_l1Cur) (p_t : List UInt8) (p_with : List UInt8) : Option ((List UInt8) × spec_l1Cur) :=
  ((spec_l1Cur_pick p_c 2).bind fun t_3 => ((loopC (spec_l1Cur_spoilt_l1 p_with) (p_t, (w64 (1 + t_3.1)), t_3.2)).bind fun (t_34, p_c_35) => some (t_34, p_c_35)))

noncomputable def spec_DrawParseGeo (p_code : List (K .u8)) : Option ((List UInt8)) :=
  ((spec_l1Cur_geo (spec_l1Cur.mk p_code 0 (⟨0⟩ : K .u64))).bind fun t_4 => ((spec_gText t_4.1 0).bind fun t_7 => ((spec_l1Cur_one t_4.2 3).bind fun t_10 => (cond t_10.1 ((spec_l1Cur_spoilt t_10.2 t_7 ([40, 41, 48, 49, 50, 51, 32, 57] : List UInt8)).bind fun t_13 => some t_13.1) (some t_7)))))

noncomputable def spec_l1Most (p_a : Int) (p_b : Int) : Option (Int) :=
  (cond (decide (p_b < p_a)) (some p_a) (some p_b))

noncomputable def spec_gParse_l1 (p_s : List UInt8) : (List Int) × Int × (List Int) × Int × Int × Int → Option (Stp ((List Int) × Int × (List Int) × Int × Int × Int) (((List Int) × Int) ⊕ (impl_Geo × Bool)))
  | (parents_4, n_6, stack_7, last_9, digits_10, i_11) => (cond (decide (i_11 ≤ (goLen p_s))) (((((cond (decide (i_11 < (goLen p_s))) ((goStrAt p_s i_11).bind fun t_12 => (cond (decide (48 ≤ t_12)) ((goStrAt p_s i_11).bind fun t_13 => some (decide (t_13 ≤ 57))) (some false))) (some false)) : Option (Bool)).bind fun t_14 => (cond t_14 ((goStrAt p_s i_11).bind fun t_39 => ((spec_l1Most digits_10 0).bind fun t_42 => (cond (decide (30 ≤ (w64 ((w64 (10 * t_42)) + (w64 (IntKind.wrap .u8 (t_39 - 48))))))) (some (.inr (.done (.inr ((impl_Geo.mk ([] : List Int)), false))))) (some (.inl (parents_4, n_6, stack_7, last_9, (w64 ((w64 (10 * t_42)) + (w64 (IntKind.wrap .u8 (t_39 - 48))))))))))) (((cond (decide (0 ≤ digits_10)) (((cond (decide (0 < (goLen stack_7))) ((goAt stack_7 (w64 ((goLen stack_7) - 1))).bind fun e_15 => some e_15) (some (-1))) : Option (Int)).bind fun up_17 => ((goAt parents_4 digits_10).bind fun e_18 => some (goSet parents_4 digits_10 up_17, (w64 (n_6 + 1)), digits_10, -1))) (some (parents_4, n_6, last_9, digits_10))) : Option ((List Int) × Int × Int × Int)).bind fun (parents_21, n_23, last_24, digits_25) => (cond (i_11 == (goLen p_s)) (some (.inr (.done (.inl (parents_21, n_23))))) ((goStrAt p_s i_11).bind fun t_26 => (((cond (t_26 == 40) ((goApp 8 stack_7 ([last_24] : List Int)).bind fun l_32 => some (.inl l_32)) (((cond (t_26 == 41) (cond ((goLen stack_7) == 0) (some (.inr (.inr (.inr (.done (.inr ((impl_Geo.mk ([] : List Int)), false))))))) ((goSub stack_7 0 (w64 ((goLen stack_7) - 1))).bind fun l_27 => some (.inl l_27))) (some (.inl stack_7))) : Option (((List Int)) ⊕ (((List Int)) ⊕ (((List Int) × Int × (List Int) × Int × Int) ⊕ (Stp ((List Int) × Int × (List Int) × Int × Int × Int) (((List Int) × Int) ⊕ (impl_Geo × Bool))))))).bind fun | .inl stack_29 => some (.inl stack_29) | .inr o => some o)) : Option (((List Int)) ⊕ (((List Int) × Int × (List Int) × Int × Int) ⊕ (Stp ((List Int) × Int × (List Int) × Int × Int × Int) (((List Int) × Int) ⊕ (impl_Geo × Bool)))))).bind fun | .inl stack_34 => some (.inl (parents_21, n_23, stack_34, last_24, digits_25)) | .inr o => some o)))))) : Option (((List Int) × Int × (List Int) × Int × Int) ⊕ (Stp ((List Int) × Int × (List Int) × Int × Int × Int) (((List Int) × Int) ⊕ (impl_Geo × Bool))))).bind fun | .inl (parents_43, n_45, stack_46, last_48, digits_49) => some (.next (parents_43, n_45, stack_46, last_48, digits_49, (w64 (i_11 + 1)))) | .inr o => some o) (some (.done (.inl (parents_4, n_6)))))

noncomputable def spec_gParse (p_s : List UInt8) : Option (impl_Geo × Bool) :=
  ((goMake 8 30 (0 : Int)).bind fun l_2 => ((loopC (spec_gParse_l1 p_s) (l_2, 0, ([] : List Int), -1, -1, 0)).bind fun | .inl (parents_50, n_52) => (((cond (decide (n_52 < 1)) (some true) (some (decide (30 < n_52)))) : Option (Bool)).bind fun t_53 => (cond t_53 (some ((impl_Geo.mk ([] : List Int)), false)) ((goSub parents_50 0 n_52).bind fun l_54 => ((spec_l1Own l_54).bind fun t_56 => ((((spec_gGood (impl_Geo.mk t_56)).bind fun t_61 => (cond (!t_61) (some true) ((spec_gText (impl_Geo.mk t_56) 0).bind fun t_63 => some (t_63 != p_s)))) : Option (Bool)).bind fun t_65 => (cond t_65 (some ((impl_Geo.mk ([] : List Int)), false)) (some ((impl_Geo.mk t_56), true)))))))) | .inr o => some o))

noncomputable def spec_ParseGeo (p_s : List UInt8) : Option (impl_Geo × Bool) :=
  ((spec_gParse p_s).bind fun t_2 => some (t_2.1, t_2.2))

noncomputable def spec_DrawSumsUp_l1 (t_5 : impl_Geo × spec_l1Cur) : (List Int) × Int × spec_l1Cur → Option (Stp ((List Int) × Int × spec_l1Cur) ((List Int) × spec_l1Cur))
  | (l_9, t_11, t_12) => (cond (decide (t_11 < (goLen t_5.1.Parents))) ((spec_l1Cur_pick t_12 30).bind fun t_15 => ((goApp 8 l_9 ([(w64 (t_15.1 - 4))] : List Int)).bind fun l_18 => some (.next (l_18, (w64 (t_11 + 1)), t_15.2)))) (some (.done (l_9, t_12))))

noncomputable def spec_DrawSumsUp (p_code : List (K .u8)) : Option (impl_Geo × (List Int)) :=
  ((spec_l1Cur_anyGeo (spec_l1Cur.mk p_code 0 (⟨0⟩ : K .u64))).bind fun t_5 => ((loopC (spec_DrawSumsUp_l1 t_5) (([] : List Int), 0, t_5.2)).bind fun (l_20, t_22) => ((spec_l1Cur_pick t_22 24).bind fun t_25 => (((cond (t_25.1 == 0) ((goApp 8 l_20 ([0] : List Int)).bind fun l_39 => some l_39) (((cond (t_25.1 == 1) (((cond (decide (0 < (goLen l_20))) ((spec_l1Cur_among t_25.2 ([1000000, 1000001, -1000001] : List Int)).bind fun t_29 => ((goAt l_20 0).bind fun e_31 => some (goSet l_20 0 t_29.1))) (some l_20)) : Option ((List Int))).bind fun l_34 => some l_34) (some l_20)) : Option ((List Int))).bind fun l_36 => some l_36)) : Option ((List Int))).bind fun l_41 => some (t_5.1, l_41)))))

noncomputable def impl_areSmallIntegers_l1 (p_list : List Int) (t_2 : Int) : Option (Stp (Int) ((Unit) ⊕ (Bool))) :=
  (cond (decide (t_2 < (goLen p_list))) ((goAt p_list t_2).bind fun e_3 => (((cond (decide (e_3 < (-1000000))) (some true) (some (decide (1000000 < e_3)))) : Option (Bool)).bind fun t_5 => (cond t_5 (some (.done (.inr false))) (some (.next (w64 (t_2 + 1))))))) (some (.done (.inl ()))))

noncomputable def impl_areSmallIntegers (p_list : List Int) (p_n : Int) : Option (Bool) :=
  (cond ((goLen p_list) != p_n) (some false) ((loopC (impl_areSmallIntegers_l1 p_list) 0).bind fun | .inl () => some true | .inr o => some o))

noncomputable def impl_SumsUp_l1 (p_g : impl_Geo) : (List Int) × Int → Option (Stp ((List Int) × Int) ((List Int)))
  | (sums_10, i_12) => (cond (decide (0 < i_12)) ((goAt p_g.Parents i_12).bind fun e_13 => ((goAt sums_10 e_13).bind fun e_15 => ((goAt sums_10 i_12).bind fun e_17 => ((goAt sums_10 e_13).bind fun e_19 => some (.next (goSet sums_10 e_13 (w64 (e_15 + e_17)), (w64 (i_12 - 1)))))))) (some (.done sums_10)))

noncomputable def impl_SumsUp (p_g : impl_Geo) (p_values : List Int) : Option ((List Int) × Bool) :=
  ((((impl_IsGeo p_g).bind fun t_4 => (cond (!t_4) (some true) ((impl_areSmallIntegers p_values (goLen p_g.Parents)).bind fun t_5 => some (!t_5)))) : Option (Bool)).bind fun t_6 => (cond t_6 (some (([] : List Int), false)) ((slices_Clone_int_int p_values).bind fun t_7 => ((loopC (impl_SumsUp_l1 p_g) (t_7, (w64 ((goLen t_7) - 1)))).bind fun sums_22 => some (sums_22, true)))))

noncomputable def spec_l1All_l1 (p_l : List Int) (p_lo : Int) (p_hi : Int) (t_2 : Int) : Option (Stp (Int) ((Unit) ⊕ (Bool))) :=
  (cond (decide (t_2 < (goLen p_l))) ((goAt p_l t_2).bind fun e_3 => ((spec_l1In e_3 p_lo p_hi).bind fun t_5 => (cond (!t_5) (some (.done (.inr false))) (some (.next (w64 (t_2 + 1))))))) (some (.done (.inl ()))))

noncomputable def spec_l1All (p_l : List Int) (p_lo : Int) (p_hi : Int) : Option (Bool) :=
  ((loopC (spec_l1All_l1 p_l p_lo p_hi) 0).bind fun | .inl () => some true | .inr o => some o)

noncomputable def spec_gSums_l1 (p_g : impl_Geo) : (List Int) × Int → Option (Stp ((List Int) × Int) ((List Int)))
  | (out_7, i_9) => (cond (decide (0 < i_9)) ((goAt p_g.Parents i_9).bind fun e_10 => ((goAt out_7 e_10).bind fun e_12 => ((goAt out_7 i_9).bind fun e_14 => ((goAt out_7 e_10).bind fun e_16 => some (.next (goSet out_7 e_10 (w64 (e_12 + e_14)), (w64 (i_9 - 1)))))))) (some (.done out_7)))

noncomputable def spec_gSums (p_g : impl_Geo) (p_values : List Int) : Option ((List Int)) :=
  ((spec_l1Own p_values).bind fun t_4 => ((loopC (spec_gSums_l1 p_g) (t_4, (w64 ((goLen t_4) - 1)))).bind fun out_19 => some out_19))

noncomputable def spec_SumsUp (p_g : impl_Geo) (p_values : List Int) : Option ((List Int) × Bool) :=
  ((((spec_gGood p_g).bind fun t_4 => (cond (!t_4) (some true) (cond ((goLen p_values) != (goLen p_g.Parents)) (some true) ((spec_l1All p_values (-1000000) 1000000).bind fun t_5 => some (!t_5))))) : Option (Bool)).bind fun t_6 => (cond t_6 (some (([] : List Int), false)) ((spec_gSums p_g p_values).bind fun t_7 => some (t_7, true))))

noncomputable def laws_pSum_l1 (p_l : List Int) : Int × Int → Option (Stp (Int × Int) (Int))
  | (sum_2, t_3) => (cond (decide (t_3 < (goLen p_l))) ((goAt p_l t_3).bind fun e_4 => some (.next ((w64 (sum_2 + e_4)), (w64 (t_3 + 1))))) (some (.done sum_2)))

noncomputable def laws_pSum (p_l : List Int) : Option (Int) :=
  ((loopC (laws_pSum_l1 p_l) (0, 0)).bind fun sum_6 => some sum_6)

noncomputable def laws_FnGeos_l1 (t_4 : impl_Geo) : Int × Int → Option (Stp (Int × Int) ((Int) ⊕ ((Unit) ⊕ (Bool))))
  | (n_33, level_34) => (cond (decide (level_34 < (goLen t_4.Parents))) ((impl_LevelOf t_4 level_34).bind fun t_35 => ((spec_LevelOf t_4 level_34).bind fun t_39 => (((cond (t_35.2 != t_39.2) (some true) ((laws_sameInts t_35.1 t_39.1).bind fun t_43 => some (!t_43))) : Option (Bool)).bind fun t_45 => (cond t_45 (some (.done (.inr (.inr false)))) (some (.next ((w64 (n_33 + (goLen t_35.1))), (w64 (level_34 + 1))))))))) (some (.done (.inl n_33))))

noncomputable def laws_FnGeos (p_code : List (K .u8)) (p_more : List (K .u8)) : Option (Bool) :=
  ((laws_big p_code p_more).bind fun t_3 => (cond t_3 (some true) ((spec_DrawGeoText p_code).bind fun t_4 => ((impl_GeoText t_4).bind fun t_8 => ((spec_GeoText t_4).bind fun t_10 => (((cond (t_8.2 != t_10.2) (some true) (cond (t_8.1 != t_10.1) (some true) ((impl_IsGeo t_4).bind fun t_12 => some (t_8.2 != t_12)))) : Option (Bool)).bind fun t_14 => (cond t_14 (some false) (((cond t_8.2 ((impl_ParseGeo t_8.1).bind fun t_15 => (((cond (!t_15.2) (some true) ((laws_sameInts t_15.1.Parents t_4.Parents).bind fun t_19 => some (!t_19))) : Option (Bool)).bind fun t_21 => (cond t_21 (some (.inr false)) ((impl_LeavesOf t_4).bind fun t_22 => ((spec_LeavesOf t_4).bind fun t_26 => (((cond (!t_22.2) (some true) ((laws_sameInts t_22.1 t_26.1).bind fun t_30 => some (!t_30))) : Option (Bool)).bind fun t_32 => (cond t_32 (some (.inr false)) ((loopC (laws_FnGeos_l1 t_4) (0, 0)).bind fun | .inl n_46 => (cond (n_46 != (goLen t_4.Parents)) (some (.inr false)) (some (.inl ()))) | .inr o => some o)))))))) (some (.inl ()))) : Option ((Unit) ⊕ (Bool))).bind fun | .inl () => ((spec_DrawParseGeo p_more).bind fun t_47 => ((impl_ParseGeo t_47).bind fun t_48 => ((spec_ParseGeo t_47).bind fun t_52 => (((cond (t_48.2 != t_52.2) (some true) ((laws_sameInts t_48.1.Parents t_52.1.Parents).bind fun t_56 => some (!t_56))) : Option (Bool)).bind fun t_58 => (cond t_58 (some false) ((spec_DrawSumsUp p_more).bind fun t_59 => ((impl_SumsUp t_59.1 t_59.2).bind fun t_64 => ((spec_SumsUp t_59.1 t_59.2).bind fun t_68 => (((cond (t_64.2 == t_68.2) ((laws_sameInts t_64.1 t_68.1).bind fun t_72 => (cond t_72 (cond (!t_64.2) (some true) ((goAt t_64.1 0).bind fun e_74 => ((laws_pSum t_59.2).bind fun t_76 => some (e_74 == t_76)))) (some false))) (some false)) : Option (Bool)).bind fun t_78 => some t_78))))))))) | .inr o => some o))))))))

end Go.Gx.F
