/- The plain functions that the walks come to. -/
import Derived.Test.YtdbgmkfniichdaaGx
namespace Go.Gx.F
open Go.Gx
set_option linter.all false

structure spec_l1Cur where
  code : List (K .u8)
  at_ : Int
  seed : K .u64

instance : Rep spec_l1Cur where
  wd := 3
  rd m cs x := ∃ s1 : Sl, cs = [s1.v, (.int .i64 x.at_), (.int .u64 x.seed.v)] ∧ Rd m s1 x.code
  mono hm h := by
    obtain ⟨s1, rfl, h1⟩ := h
    exact ⟨s1, rfl, h1.mono hm⟩
  len h := by obtain ⟨s1, rfl, _⟩ := h; rfl
  one h := by obtain ⟨s1, rfl, _⟩ := h; rfl

instance : Rng spec_l1Cur := ⟨fun x => Rng.ok x.code ∧ Rng.ok x.at_ ∧ Rng.ok x.seed⟩

structure impl_Geo where
  Parents : List Int

instance : Rep impl_Geo where
  wd := 1
  rd m cs x := ∃ s1 : Sl, cs = [s1.v] ∧ Rd m s1 x.Parents
  mono hm h := by
    obtain ⟨s1, rfl, h1⟩ := h
    exact ⟨s1, rfl, h1.mono hm⟩
  len h := by obtain ⟨s1, rfl, _⟩ := h; rfl
  one h := by obtain ⟨s1, rfl, _⟩ := h; rfl

instance : Rng impl_Geo := ⟨fun x => Rng.ok x.Parents⟩

noncomputable def laws_big (p_code : List (K .u8)) (p_more : List (K .u8)) : Option (Bool) :=
  (((cond (decide (1048576 < (goLen p_code))) (some true) (some (decide ((w64 (1048576 - (goLen p_code))) < (goLen p_more))))) : Option (Bool)).bind fun t_3 => some t_3)

noncomputable def spec_l1Cur_next (p_c : spec_l1Cur) : Option (Int × spec_l1Cur) :=
  (((cond (decide (p_c.at_ < (goLen p_c.code))) ((goAt p_c.code p_c.at_).bind fun e_2 => some (w64 e_2.v)) (some 0)) : Option (Int)).bind fun b_4 => (cond (decide ((w64 (p_c.at_ + 1)) ≤ (goLen p_c.code))) (some (b_4, (spec_l1Cur.mk p_c.code (w64 (p_c.at_ + 1)) (⟨(IntKind.wrap .u64 ((IntKind.wrap .u64 ((IntKind.wrap .u64 (p_c.seed.v * 6364136223846793005)) + (IntKind.wrap .u64 b_4))) + 1442695040888963407))⟩ : K .u64)))) ((goShr .u64 (IntKind.wrap .u64 ((IntKind.wrap .u64 ((IntKind.wrap .u64 (p_c.seed.v * 6364136223846793005)) + (IntKind.wrap .u64 b_4))) + 1442695040888963407)) 40).bind fun t_5 => some ((w64 (goBits .and .u64 t_5 255)), (spec_l1Cur.mk p_c.code (w64 (p_c.at_ + 1)) (⟨(IntKind.wrap .u64 ((IntKind.wrap .u64 ((IntKind.wrap .u64 (p_c.seed.v * 6364136223846793005)) + (IntKind.wrap .u64 b_4))) + 1442695040888963407))⟩ : K .u64))))))

noncomputable def spec_l1Cur_pick (p_c : spec_l1Cur) (p_n : Int) : Option (Int × spec_l1Cur) :=
  (cond (decide (p_n ≤ 1)) (some (0, p_c)) ((spec_l1Cur_next p_c).bind fun t_3 => (((cond (decide (200 < p_n)) ((spec_l1Cur_next t_3.2).bind fun t_6 => some ((w64 ((w64 (t_3.1 * 256)) + t_6.1)), t_6.2)) (some (t_3.1, t_3.2))) : Option (Int × spec_l1Cur)).bind fun (x_8, p_c_9) => ((goRem x_8 p_n).bind fun t_11 => some (t_11, p_c_9)))))

noncomputable def spec_l1Own (p_l : List Int) : Option ((List Int)) :=
  ((goApp 8 ([] : List Int) p_l).bind fun l_3 => some l_3)

noncomputable def spec_l1Cur_geo_l1  : Int × spec_l1Cur × impl_Geo → Option (Stp (Int × spec_l1Cur × impl_Geo) (spec_l1Cur × impl_Geo))
  | (k_29, p_c_30, g_32) => (cond (decide (0 < k_29)) ((((spec_l1Cur_pick p_c_30 (goLen g_32.Parents)).bind fun t_35 => ((goApp 8 g_32.Parents ([t_35.1] : List Int)).bind fun l_38 => some (t_35.2, (impl_Geo.mk l_38)))) : Option (spec_l1Cur × impl_Geo)).bind fun (p_c_40, g_42) => some (.next ((w64 (k_29 - 1)), p_c_40, g_42))) (some (.done (p_c_30, g_32))))

noncomputable def spec_l1Cur_geo (p_c : spec_l1Cur) : Option (impl_Geo × spec_l1Cur) :=
  ((spec_l1Cur_pick p_c (goLen ([([-1, 0, 0] : List Int), ([-1, 0, 0, 1, 1, 2, 2] : List Int), ([-1, 0, 0, 0, 1, 1, 2, 3] : List Int), ([-1, 0, 0, 1, 1] : List Int), ([-1] : List Int), ([-1, 0, 1, 2] : List Int)] : List (List Int)))).bind fun t_17 => ((goAt ([([-1, 0, 0] : List Int), ([-1, 0, 0, 1, 1, 2, 2] : List Int), ([-1, 0, 0, 0, 1, 1, 2, 3] : List Int), ([-1, 0, 0, 1, 1] : List Int), ([-1] : List Int), ([-1, 0, 1, 2] : List Int)] : List (List Int)) t_17.1).bind fun e_19 => ((spec_l1Own e_19).bind fun t_22 => ((spec_l1Cur_pick t_17.2 4).bind fun t_27 => ((loopC (spec_l1Cur_geo_l1) (t_27.1, t_27.2, (impl_Geo.mk t_22))).bind fun (p_c_44, g_46) => some (g_46, p_c_44))))))

noncomputable def spec_l1Cur_among (p_c : spec_l1Cur) (p_list : List Int) : Option (Int × spec_l1Cur) :=
  ((spec_l1Cur_pick p_c (goLen p_list)).bind fun t_4 => ((goAt p_list t_4.1).bind fun e_6 => some (e_6, t_4.2)))

noncomputable def spec_l1Cur_anyGeo (p_c : spec_l1Cur) : Option (impl_Geo × spec_l1Cur) :=
  ((spec_l1Cur_geo p_c).bind fun t_4 => ((spec_l1Cur_pick t_4.2 24).bind fun t_9 => (((cond (t_9.1 == 0) ((goAt t_4.1.Parents 0).bind fun e_38 => some (.inl (t_9.2, (impl_Geo.mk (goSet t_4.1.Parents 0 0))))) (((cond (t_9.1 == 1) ((((spec_l1Cur_among t_9.2 ([-1, goLen t_4.1.Parents, 0] : List Int)).bind fun t_25 => ((goApp 8 t_4.1.Parents ([t_25.1] : List Int)).bind fun l_28 => some (t_25.2, (impl_Geo.mk l_28)))) : Option (spec_l1Cur × impl_Geo)).bind fun (p_c_30, g_32) => some (.inl (p_c_30, g_32))) (cond (t_9.1 == 2) (some (.inr (.inr ((impl_Geo.mk ([] : List Int)), t_9.2)))) (((cond (t_9.1 == 3) ((spec_l1Cur_pick t_9.2 2).bind fun t_15 => ((goAppZ 8 t_4.1.Parents (w64 ((w64 (30 - (goLen t_4.1.Parents))) + t_15.1)) (0 : Int)).bind fun l_17 => some (t_15.2, (impl_Geo.mk l_17)))) (some (t_9.2, t_4.1))) : Option (spec_l1Cur × impl_Geo)).bind fun (p_c_19, g_21) => some (.inl (p_c_19, g_21))))) : Option ((spec_l1Cur × impl_Geo) ⊕ ((spec_l1Cur × impl_Geo) ⊕ (impl_Geo × spec_l1Cur)))).bind fun | .inl (p_c_34, g_36) => some (.inl (p_c_34, g_36)) | .inr o => some o)) : Option ((spec_l1Cur × impl_Geo) ⊕ (impl_Geo × spec_l1Cur))).bind fun | .inl (p_c_41, g_43) => some (g_43, p_c_41) | .inr o => some o)))

noncomputable def spec_l1Cur_anArea (p_c : spec_l1Cur) (p_g : impl_Geo) : Option (Int × spec_l1Cur) :=
  ((spec_l1Cur_pick p_c (w64 ((goLen p_g.Parents) + 1))).bind fun t_5 => ((spec_l1Cur_pick t_5.2 20).bind fun t_8 => ((goQuo .i64 t_8.1 19).bind fun t_10 => some ((w64 (t_5.1 - t_10)), t_8.2))))

noncomputable def spec_DrawDepthOf (p_code : List (K .u8)) : Option (impl_Geo × Int) :=
  ((spec_l1Cur_anyGeo (spec_l1Cur.mk p_code 0 (⟨0⟩ : K .u64))).bind fun t_5 => ((spec_l1Cur_anArea t_5.2 t_5.1).bind fun t_10 => some (t_5.1, t_10.1)))

noncomputable def spec_DrawPathTo (p_code : List (K .u8)) : Option (impl_Geo × Int) :=
  ((spec_DrawDepthOf p_code).bind fun t_3 => some (t_3.1, t_3.2))

noncomputable def impl_IsGeo_l1 (p_g : impl_Geo) (i_6 : Int) : Option (Stp (Int) ((Unit) ⊕ (Bool))) :=
  (cond (decide (i_6 < (goLen p_g.Parents))) ((((goAt p_g.Parents i_6).bind fun e_7 => (cond (decide (e_7 < 0)) (some true) ((goAt p_g.Parents i_6).bind fun e_9 => some (decide (i_6 ≤ e_9))))) : Option (Bool)).bind fun t_11 => (cond t_11 (some (.done (.inr false))) (some (.next (w64 (i_6 + 1)))))) (some (.done (.inl ()))))

noncomputable def impl_IsGeo (p_g : impl_Geo) : Option (Bool) :=
  (((cond (decide ((goLen p_g.Parents) < 1)) (some true) (cond (decide (30 < (goLen p_g.Parents))) (some true) ((goAt p_g.Parents 0).bind fun e_3 => some (e_3 != (-1))))) : Option (Bool)).bind fun t_5 => (cond t_5 (some false) ((loopC (impl_IsGeo_l1 p_g) 1).bind fun | .inl () => some true | .inr o => some o)))

noncomputable def impl_isArea (p_g : impl_Geo) (p_i : Int) : Option (Bool) :=
  (((cond (decide (0 ≤ p_i)) (some (decide (p_i < (goLen p_g.Parents)))) (some false)) : Option (Bool)).bind fun t_3 => some t_3)

noncomputable def slices_Reverse_int_int_l1  : (List Int) × Int × Int → Option (Stp ((List Int) × Int × Int) ((List Int)))
  | (s_2, i_4, j_5) => (cond (decide (i_4 < j_5)) ((goAt s_2 j_5).bind fun e_6 => ((goAt s_2 i_4).bind fun e_8 => ((goAt s_2 i_4).bind fun e_10 => ((goAt (goSet s_2 i_4 e_6) j_5).bind fun e_13 => some (.next (goSet (goSet s_2 i_4 e_6) j_5 e_8, (w64 (i_4 + 1)), (w64 (j_5 - 1)))))))) (some (.done s_2)))

noncomputable def slices_Reverse_int_int (p_s : List Int) : Option ((List Int)) :=
  ((loopC (slices_Reverse_int_int_l1) (p_s, 0, (w64 ((goLen p_s) - 1)))).bind fun s_16 => some s_16)

noncomputable def impl_pathTo_l1 (p_g : impl_Geo) : Int × (List Int) → Option (Stp (Int × (List Int)) ((List Int)))
  | (i_3, path_4) => (cond (decide (0 ≤ i_3)) ((goApp 8 path_4 ([i_3] : List Int)).bind fun l_7 => ((goAt p_g.Parents i_3).bind fun e_9 => some (.next (e_9, l_7)))) (some (.done path_4)))

noncomputable def impl_pathTo (p_g : impl_Geo) (p_i : Int) : Option ((List Int)) :=
  ((loopC (impl_pathTo_l1 p_g) (p_i, ([] : List Int))).bind fun path_11 => ((slices_Reverse_int_int path_11).bind fun t_14 => some t_14))

noncomputable def impl_PathTo (p_g : impl_Geo) (p_i : Int) : Option ((List Int) × Bool) :=
  ((((impl_IsGeo p_g).bind fun t_3 => (cond (!t_3) (some true) ((impl_isArea p_g p_i).bind fun t_4 => some (!t_4)))) : Option (Bool)).bind fun t_5 => (cond t_5 (some (([] : List Int), false)) ((impl_pathTo p_g p_i).bind fun t_6 => some (t_6, true))))

noncomputable def spec_l1In (p_n : Int) (p_lo : Int) (p_hi : Int) : Option (Bool) :=
  (((cond (decide (p_lo ≤ p_n)) (some (decide (p_n ≤ p_hi))) (some false)) : Option (Bool)).bind fun t_1 => some t_1)

noncomputable def spec_gGood_l1 (p_g : impl_Geo) (t_7 : Int) : Option (Stp (Int) ((Unit) ⊕ (Bool))) :=
  (cond (decide (t_7 < (goLen p_g.Parents))) ((goAt p_g.Parents t_7).bind fun e_8 => (((cond (decide (0 < t_7)) ((spec_l1In e_8 0 (w64 (t_7 - 1))).bind fun t_10 => some (!t_10)) (some false)) : Option (Bool)).bind fun t_11 => (cond t_11 (some (.done (.inr false))) (some (.next (w64 (t_7 + 1))))))) (some (.done (.inl ()))))

noncomputable def spec_gGood (p_g : impl_Geo) : Option (Bool) :=
  ((((spec_l1In (goLen p_g.Parents) 1 30).bind fun t_3 => (cond (!t_3) (some true) ((goAt p_g.Parents 0).bind fun e_4 => some (e_4 != (-1))))) : Option (Bool)).bind fun t_6 => (cond t_6 (some false) ((loopC (spec_gGood_l1 p_g) 0).bind fun | .inl () => some true | .inr o => some o)))

noncomputable def spec_gArea (p_g : impl_Geo) (p_i : Int) : Option (Bool) :=
  ((((spec_gGood p_g).bind fun t_3 => (cond t_3 ((spec_l1In p_i 0 (w64 ((goLen p_g.Parents) - 1))).bind fun t_4 => some t_4) (some false))) : Option (Bool)).bind fun t_5 => some t_5)

noncomputable def spec_gPath_l1 (p_g : impl_Geo) : Int × (List Int) → Option (Stp (Int × (List Int)) ((List Int)))
  | (i_3, out_4) => (cond (decide (0 ≤ i_3)) ((goApp 8 ([i_3] : List Int) out_4).bind fun l_7 => ((goAt p_g.Parents i_3).bind fun e_9 => some (.next (e_9, l_7)))) (some (.done out_4)))

noncomputable def spec_gPath (p_g : impl_Geo) (p_i : Int) : Option ((List Int)) :=
  ((loopC (spec_gPath_l1 p_g) (p_i, ([] : List Int))).bind fun out_11 => some out_11)

noncomputable def spec_PathTo (p_g : impl_Geo) (p_i : Int) : Option ((List Int) × Bool) :=
  ((spec_gArea p_g p_i).bind fun t_3 => (cond (!t_3) (some (([] : List Int), false)) ((spec_gPath p_g p_i).bind fun t_4 => some (t_4, true))))

noncomputable def laws_sameInts_l1 (p_a : List Int) (p_b : List Int) (t_3 : Int) : Option (Stp (Int) ((Unit) ⊕ (Bool))) :=
  (cond (decide (t_3 < (goLen p_a))) ((goAt p_a t_3).bind fun e_4 => ((goAt p_b t_3).bind fun e_6 => (cond (e_4 != e_6) (some (.done (.inr false))) (some (.next (w64 (t_3 + 1))))))) (some (.done (.inl ()))))

noncomputable def laws_sameInts (p_a : List Int) (p_b : List Int) : Option (Bool) :=
  (cond ((goLen p_a) != (goLen p_b)) (some false) ((loopC (laws_sameInts_l1 p_a p_b) 0).bind fun | .inl () => some true | .inr o => some o))

noncomputable def impl_depthOf_l1 (p_g : impl_Geo) : Int × Int → Option (Stp (Int × Int) (Int))
  | (i_3, d_4) => (cond (decide (0 < i_3)) ((goAt p_g.Parents i_3).bind fun e_5 => some (.next (e_5, (w64 (d_4 + 1))))) (some (.done d_4)))

noncomputable def impl_depthOf (p_g : impl_Geo) (p_i : Int) : Option (Int) :=
  ((loopC (impl_depthOf_l1 p_g) (p_i, 0)).bind fun d_7 => some d_7)

noncomputable def impl_ancestorAt_l1 (p_g : impl_Geo) (p_level : Int) : Int × Int → Option (Stp (Int × Int) (Int))
  | (i_5, d_6) => (cond (decide (p_level < d_6)) ((goAt p_g.Parents i_5).bind fun e_7 => some (.next (e_7, (w64 (d_6 - 1))))) (some (.done i_5)))

noncomputable def impl_ancestorAt (p_g : impl_Geo) (p_i : Int) (p_level : Int) : Option (Int) :=
  ((impl_depthOf p_g p_i).bind fun t_3 => (((cond (decide (p_level < 0)) (some true) (some (decide (t_3 < p_level)))) : Option (Bool)).bind fun t_4 => (cond t_4 (some (-1)) ((loopC (impl_ancestorAt_l1 p_g p_level) (p_i, t_3)).bind fun i_9 => some i_9))))

noncomputable def impl_AncestorAt (p_g : impl_Geo) (p_i : Int) (p_level : Int) : Option (Int × Bool) :=
  ((((impl_IsGeo p_g).bind fun t_3 => (cond (!t_3) (some true) ((impl_isArea p_g p_i).bind fun t_4 => some (!t_4)))) : Option (Bool)).bind fun t_5 => (cond t_5 (some (0, false)) ((impl_ancestorAt p_g p_i p_level).bind fun t_6 => (cond (decide (t_6 < 0)) (some (0, false)) (some (t_6, true))))))

noncomputable def impl_DepthOf (p_g : impl_Geo) (p_i : Int) : Option (Int × Bool) :=
  ((((impl_IsGeo p_g).bind fun t_3 => (cond (!t_3) (some true) ((impl_isArea p_g p_i).bind fun t_4 => some (!t_4)))) : Option (Bool)).bind fun t_5 => (cond t_5 (some (0, false)) ((impl_depthOf p_g p_i).bind fun t_6 => some (t_6, true))))

noncomputable def spec_DrawMeetOf (p_code : List (K .u8)) : Option (impl_Geo × Int × Int) :=
  ((spec_l1Cur_anyGeo (spec_l1Cur.mk p_code 0 (⟨0⟩ : K .u64))).bind fun t_5 => ((spec_l1Cur_anArea t_5.2 t_5.1).bind fun t_10 => ((spec_l1Cur_anArea t_10.2 t_5.1).bind fun t_13 => some (t_5.1, t_10.1, t_13.1))))

noncomputable def impl_MeetOf_l1 (p_g : impl_Geo) : Int × Int → Option (Stp (Int × Int) (Int))
  | (i_7, k_8) => (cond (i_7 != k_8) (((cond (decide (k_8 < i_7)) ((goAt p_g.Parents i_7).bind fun e_11 => some (e_11, k_8)) ((goAt p_g.Parents k_8).bind fun e_9 => some (i_7, e_9))) : Option (Int × Int)).bind fun (i_13, k_14) => some (.next (i_13, k_14))) (some (.done i_7)))

noncomputable def impl_MeetOf (p_g : impl_Geo) (p_i : Int) (p_k : Int) : Option (Int × Bool) :=
  ((((impl_IsGeo p_g).bind fun t_3 => (cond (!t_3) (some true) ((impl_isArea p_g p_i).bind fun t_4 => (cond (!t_4) (some true) ((impl_isArea p_g p_k).bind fun t_5 => some (!t_5)))))) : Option (Bool)).bind fun t_6 => (cond t_6 (some (0, false)) ((loopC (impl_MeetOf_l1 p_g) (p_i, p_k)).bind fun i_15 => some (i_15, true))))

noncomputable def spec_MeetOf_l1 (t_12 : List Int) (t_15 : List Int) : Int × Int → Option (Stp (Int × Int) (Int))
  | (last_18, n_19) => (((cond (decide (n_19 < (goLen t_12))) (cond (decide (n_19 < (goLen t_15))) ((goAt t_12 n_19).bind fun e_20 => ((goAt t_15 n_19).bind fun e_22 => some (e_20 == e_22))) (some false)) (some false)) : Option (Bool)).bind fun t_24 => (cond t_24 ((goAt t_12 n_19).bind fun e_25 => some (.next (e_25, (w64 (n_19 + 1))))) (some (.done last_18))))

noncomputable def spec_MeetOf (p_g : impl_Geo) (p_i : Int) (p_k : Int) : Option (Int × Bool) :=
  ((((spec_gArea p_g p_i).bind fun t_3 => (cond (!t_3) (some true) ((spec_gArea p_g p_k).bind fun t_4 => some (!t_4)))) : Option (Bool)).bind fun t_5 => (cond t_5 (some (0, false)) ((spec_gPath p_g p_i).bind fun t_12 => ((spec_gPath p_g p_k).bind fun t_15 => ((loopC (spec_MeetOf_l1 t_12 t_15) (0, 0)).bind fun last_27 => some (last_27, true))))))

noncomputable def slices_Index_int_int_l1 (p_s : List Int) (p_v : Int) (t_2 : Int) : Option (Stp (Int) ((Unit) ⊕ (Int))) :=
  (cond (decide (t_2 < (goLen p_s))) ((goAt p_s t_2).bind fun e_3 => (cond (p_v == e_3) (some (.done (.inr t_2))) (some (.next (w64 (t_2 + 1)))))) (some (.done (.inl ()))))

noncomputable def slices_Index_int_int (p_s : List Int) (p_v : Int) : Option (Int) :=
  ((loopC (slices_Index_int_int_l1 p_s p_v) 0).bind fun | .inl () => some (-1) | .inr o => some o)

noncomputable def slices_Contains_int_int (p_s : List Int) (p_v : Int) : Option (Bool) :=
  ((slices_Index_int_int p_s p_v).bind fun t_2 => some (decide (0 ≤ t_2)))

noncomputable def impl_isLeaf (p_g : impl_Geo) (p_i : Int) : Option (Bool) :=
  ((slices_Contains_int_int p_g.Parents p_i).bind fun t_3 => some (!t_3))

noncomputable def impl_leavesOf_l1 (p_g : impl_Geo) : (List Int) × Int → Option (Stp ((List Int) × Int) ((List Int)))
  | (list_3, t_5) => (cond (decide (t_5 < (goLen p_g.Parents))) ((impl_isLeaf p_g t_5).bind fun t_6 => (((cond t_6 ((goApp 8 list_3 ([t_5] : List Int)).bind fun l_8 => some l_8) (some list_3)) : Option ((List Int))).bind fun list_10 => some (.next (list_10, (w64 (t_5 + 1)))))) (some (.done list_3)))

noncomputable def impl_leavesOf (p_g : impl_Geo) : Option ((List Int)) :=
  ((loopC (impl_leavesOf_l1 p_g) (([] : List Int), 0)).bind fun list_12 => some list_12)

noncomputable def impl_IsUniform_l1 (p_g : impl_Geo) (t_4 : List Int) (t_7 : Int) : Option (Stp (Int) ((Unit) ⊕ (Bool × Bool))) :=
  (cond (decide (t_7 < (goLen t_4))) ((goAt t_4 t_7).bind fun e_8 => ((goAt t_4 0).bind fun e_13 => ((impl_depthOf p_g e_8).bind fun t_16 => ((impl_depthOf p_g e_13).bind fun t_17 => (cond (t_16 != t_17) (some (.done (.inr (false, true)))) (some (.next (w64 (t_7 + 1))))))))) (some (.done (.inl ()))))

noncomputable def impl_IsUniform (p_g : impl_Geo) : Option (Bool × Bool) :=
  ((impl_IsGeo p_g).bind fun t_3 => (cond (!t_3) (some (false, false)) ((impl_leavesOf p_g).bind fun t_4 => ((loopC (impl_IsUniform_l1 p_g t_4) 0).bind fun | .inl () => some (true, true) | .inr o => some o))))

noncomputable def spec_gChildren_l1 (p_g : impl_Geo) (p_i : Int) : (List Int) × Int → Option (Stp ((List Int) × Int) ((List Int)))
  | (out_3, t_5) => (cond (decide (t_5 < (goLen p_g.Parents))) ((goAt p_g.Parents t_5).bind fun e_6 => (((cond (e_6 == p_i) ((goApp 8 out_3 ([t_5] : List Int)).bind fun l_9 => some l_9) (some out_3)) : Option ((List Int))).bind fun out_11 => some (.next (out_11, (w64 (t_5 + 1)))))) (some (.done out_3)))

noncomputable def spec_gChildren (p_g : impl_Geo) (p_i : Int) : Option ((List Int)) :=
  ((loopC (spec_gChildren_l1 p_g p_i) (([] : List Int), 0)).bind fun out_13 => some out_13)

noncomputable def spec_gLeaves_l1 (p_g : impl_Geo) : (List Int) × Int → Option (Stp ((List Int) × Int) ((List Int)))
  | (out_3, t_5) => (cond (decide (t_5 < (goLen p_g.Parents))) ((spec_gChildren p_g t_5).bind fun t_6 => (((cond ((goLen t_6) == 0) ((goApp 8 out_3 ([t_5] : List Int)).bind fun l_10 => some l_10) (some out_3)) : Option ((List Int))).bind fun out_12 => some (.next (out_12, (w64 (t_5 + 1)))))) (some (.done out_3)))

noncomputable def spec_gLeaves (p_g : impl_Geo) : Option ((List Int)) :=
  ((loopC (spec_gLeaves_l1 p_g) (([] : List Int), 0)).bind fun out_14 => some out_14)

noncomputable def spec_gDepth_l1 (p_g : impl_Geo) : Int × Int → Option (Stp (Int × Int) (Int))
  | (i_3, n_4) => ((goAt p_g.Parents i_3).bind fun e_5 => (cond (decide (0 ≤ e_5)) ((goAt p_g.Parents i_3).bind fun e_7 => some (.next (e_7, (w64 (n_4 + 1))))) (some (.done n_4))))

noncomputable def spec_gDepth (p_g : impl_Geo) (p_i : Int) : Option (Int) :=
  ((loopC (spec_gDepth_l1 p_g) (p_i, 0)).bind fun n_9 => some n_9)

noncomputable def spec_gUniform_l1 (p_g : impl_Geo) (t_3 : List Int) (t_6 : Int) : Option (Stp (Int) ((Unit) ⊕ (Bool))) :=
  (cond (decide (t_6 < (goLen t_3))) ((goAt t_3 t_6).bind fun e_7 => ((goAt t_3 0).bind fun e_12 => ((spec_gDepth p_g e_7).bind fun t_15 => ((spec_gDepth p_g e_12).bind fun t_16 => (cond (t_15 != t_16) (some (.done (.inr false))) (some (.next (w64 (t_6 + 1))))))))) (some (.done (.inl ()))))

noncomputable def spec_gUniform (p_g : impl_Geo) : Option (Bool) :=
  ((spec_gLeaves p_g).bind fun t_3 => ((loopC (spec_gUniform_l1 p_g t_3) 0).bind fun | .inl () => some true | .inr o => some o))

noncomputable def spec_IsUniform (p_g : impl_Geo) : Option (Bool × Bool) :=
  ((spec_gGood p_g).bind fun t_3 => (cond (!t_3) (some (false, false)) ((spec_gUniform p_g).bind fun t_4 => some (t_4, true))))

noncomputable def laws_FnPaths_l1 (t_4 : impl_Geo × Int) (t_12 : (List Int) × Bool) (t_19 : Int) : Option (Stp (Int) ((Unit) ⊕ (Bool))) :=
  (cond (decide (t_19 < (goLen t_12.1))) ((goAt t_12.1 t_19).bind fun e_20 => ((impl_AncestorAt t_4.1 t_4.2 t_19).bind fun t_22 => ((impl_DepthOf t_4.1 e_20).bind fun t_24 => (((cond (!t_22.2) (some true) (cond (!t_24.2) (some true) (cond (t_22.1 != e_20) (some true) (some (t_24.1 != t_19))))) : Option (Bool)).bind fun t_26 => (cond t_26 (some (.done (.inr false))) (some (.next (w64 (t_19 + 1))))))))) (some (.done (.inl ()))))

noncomputable def laws_FnPaths (p_code : List (K .u8)) (p_more : List (K .u8)) : Option (Bool) :=
  ((laws_big p_code p_more).bind fun t_3 => (cond t_3 (some true) ((spec_DrawPathTo p_code).bind fun t_4 => ((impl_PathTo t_4.1 t_4.2).bind fun t_8 => ((spec_PathTo t_4.1 t_4.2).bind fun t_12 => (((cond (t_8.2 != t_12.2) (some true) ((laws_sameInts t_8.1 t_12.1).bind fun t_16 => some (!t_16))) : Option (Bool)).bind fun t_18 => (cond t_18 (some false) ((loopC (laws_FnPaths_l1 t_4 t_12) 0).bind fun | .inl () => ((spec_DrawMeetOf p_more).bind fun t_27 => ((impl_MeetOf t_27.1 t_27.2.1 t_27.2.2).bind fun t_31 => ((spec_MeetOf t_27.1 t_27.2.1 t_27.2.2).bind fun t_33 => ((impl_MeetOf t_27.1 t_27.2.2 t_27.2.1).bind fun t_35 => (((cond (t_31.2 != t_33.2) (some true) (cond (t_31.1 != t_33.1) (some true) (cond (t_35.2 != t_31.2) (some true) (some (t_35.1 != t_31.1))))) : Option (Bool)).bind fun t_37 => (cond t_37 (some false) ((impl_IsUniform t_27.1).bind fun t_38 => ((spec_IsUniform t_27.1).bind fun t_40 => (((cond (t_38.2 == t_40.2) (some (t_38.1 == t_40.1)) (some false)) : Option (Bool)).bind fun t_42 => some t_42))))))))) | .inr o => some o))))))))

end Go.Gx.F
