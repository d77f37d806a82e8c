/- The plain functions that the walks come to. -/
import Derived.Test.YtpjcfmpfiadkgaaGy
namespace Go.Gx.F
open Go.Gx
set_option linter.all false

structure spec_l1Cur where
  code : List (K .u8)
  at_ : Int
  seed : K .u64

instance : Rep spec_l1Cur where
  wd := 3
  rd m cs x := ∃ s1 : Sl, cs = [s1.v, (.int .i64 x.at_), (.int .u64 x.seed.v)] ∧ Rd m s1 x.code
  mono hm h := by
    obtain ⟨s1, rfl, h1⟩ := h
    exact ⟨s1, rfl, h1.mono hm⟩
  len h := by obtain ⟨s1, rfl, _⟩ := h; rfl
  one h := by obtain ⟨s1, rfl, _⟩ := h; rfl

instance : Rng spec_l1Cur := ⟨fun x => Rng.ok x.code ∧ Rng.ok x.at_ ∧ Rng.ok x.seed⟩

structure impl_Transport where
  Rows : List Int
  Cols : List Int
  Lo : List (List Int)
  Hi : List (List Int)

instance : Rep impl_Transport where
  wd := 4
  rd m cs x := ∃ s1 s2 s3 s4 : Sl, cs = [s1.v, s2.v, s3.v, s4.v] ∧ Rd m s1 x.Rows ∧ Rd m s2 x.Cols ∧ Rd m s3 x.Lo ∧ Rd m s4 x.Hi
  mono hm h := by
    obtain ⟨s1, s2, s3, s4, rfl, h1, h2, h3, h4⟩ := h
    exact ⟨s1, s2, s3, s4, rfl, h1.mono hm, h2.mono hm, h3.mono hm, h4.mono hm⟩
  len h := by obtain ⟨s1, s2, s3, s4, rfl, _⟩ := h; rfl
  one h := by obtain ⟨s1, s2, s3, s4, rfl, _⟩ := h; rfl

instance : Rng impl_Transport := ⟨fun x => Rng.ok x.Rows ∧ Rng.ok x.Cols ∧ Rng.ok x.Lo ∧ Rng.ok x.Hi⟩

structure spec_tFill where
  t : impl_Transport
  x : List (List Int)
  rows : List Int
  cols : List Int

instance : Rep spec_tFill where
  wd := 7
  rd m cs x := ∃ s1 s2 s3 s4 s5 s6 s7 : Sl, cs = [s1.v, s2.v, s3.v, s4.v, s5.v, s6.v, s7.v] ∧ Rd m s1 x.t.Rows ∧ Rd m s2 x.t.Cols ∧ Rd m s3 x.t.Lo ∧ Rd m s4 x.t.Hi ∧ Rd m s5 x.x ∧ Rd m s6 x.rows ∧ Rd m s7 x.cols
  mono hm h := by
    obtain ⟨s1, s2, s3, s4, s5, s6, s7, rfl, h1, h2, h3, h4, h5, h6, h7⟩ := h
    exact ⟨s1, s2, s3, s4, s5, s6, s7, rfl, h1.mono hm, h2.mono hm, h3.mono hm, h4.mono hm, h5.mono hm, h6.mono hm, h7.mono hm⟩
  len h := by obtain ⟨s1, s2, s3, s4, s5, s6, s7, rfl, _⟩ := h; rfl
  one h := by obtain ⟨s1, s2, s3, s4, s5, s6, s7, rfl, _⟩ := h; rfl

instance : Rng spec_tFill := ⟨fun x => Rng.ok x.t ∧ Rng.ok x.x ∧ Rng.ok x.rows ∧ Rng.ok x.cols⟩

noncomputable def laws_big (p_code : List (K .u8)) (p_more : List (K .u8)) : Option (Bool) :=
  (((cond (decide (1048576 < (goLen p_code))) (some true) (some (decide ((w64 (1048576 - (goLen p_code))) < (goLen p_more))))) : Option (Bool)).bind fun t_3 => some t_3)

noncomputable def spec_l1Cur_next (p_c : spec_l1Cur) : Option (Int × spec_l1Cur) :=
  (((cond (decide (p_c.at_ < (goLen p_c.code))) ((goAt p_c.code p_c.at_).bind fun e_2 => some (w64 e_2.v)) (some 0)) : Option (Int)).bind fun b_4 => (cond (decide ((w64 (p_c.at_ + 1)) ≤ (goLen p_c.code))) (some (b_4, (spec_l1Cur.mk p_c.code (w64 (p_c.at_ + 1)) (⟨(IntKind.wrap .u64 ((IntKind.wrap .u64 ((IntKind.wrap .u64 (p_c.seed.v * 6364136223846793005)) + (IntKind.wrap .u64 b_4))) + 1442695040888963407))⟩ : K .u64)))) ((goShr .u64 (IntKind.wrap .u64 ((IntKind.wrap .u64 ((IntKind.wrap .u64 (p_c.seed.v * 6364136223846793005)) + (IntKind.wrap .u64 b_4))) + 1442695040888963407)) 40).bind fun t_5 => some ((w64 (goBits .and .u64 t_5 255)), (spec_l1Cur.mk p_c.code (w64 (p_c.at_ + 1)) (⟨(IntKind.wrap .u64 ((IntKind.wrap .u64 ((IntKind.wrap .u64 (p_c.seed.v * 6364136223846793005)) + (IntKind.wrap .u64 b_4))) + 1442695040888963407))⟩ : K .u64))))))

noncomputable def spec_l1Cur_pick (p_c : spec_l1Cur) (p_n : Int) : Option (Int × spec_l1Cur) :=
  (cond (decide (p_n ≤ 1)) (some (0, p_c)) ((spec_l1Cur_next p_c).bind fun t_3 => (((cond (decide (200 < p_n)) ((spec_l1Cur_next t_3.2).bind fun t_6 => some ((w64 ((w64 (t_3.1 * 256)) + t_6.1)), t_6.2)) (some (t_3.1, t_3.2))) : Option (Int × spec_l1Cur)).bind fun (x_8, p_c_9) => ((goRem x_8 p_n).bind fun t_11 => some (t_11, p_c_9)))))

noncomputable def spec_l1Most (p_a : Int) (p_b : Int) : Option (Int) :=
  (cond (decide (p_b < p_a)) (some p_a) (some p_b))

noncomputable def spec_l1Cur_transport_l2 (t_7 : Int × spec_l1Cur) (i_23 : Int) : (List Int) × (List Int) × Int × impl_Transport × spec_l1Cur → Option (Stp ((List Int) × (List Int) × Int × impl_Transport × spec_l1Cur) ((List Int) × (List Int) × impl_Transport × spec_l1Cur))
  | (lo_31, hi_33, j_35, t_36, p_c_41) => (cond (decide (j_35 < (w64 (1 + t_7.1)))) ((spec_l1Cur_pick p_c_41 5).bind fun t_44 => ((spec_l1Cur_pick t_44.2 4).bind fun t_47 => ((spec_l1Most 0 (w64 (t_44.1 - t_47.1))).bind fun t_49 => ((spec_l1Cur_pick t_47.2 4).bind fun t_51 => ((goApp 8 lo_31 ([t_49] : List Int)).bind fun l_54 => ((goApp 8 hi_33 ([(w64 (t_44.1 + t_51.1))] : List Int)).bind fun l_57 => ((goAt t_36.Rows i_23).bind fun e_59 => ((goAt t_36.Rows i_23).bind fun e_61 => ((goAt t_36.Cols j_35).bind fun e_64 => ((goAt t_36.Cols j_35).bind fun e_66 => some (.next (l_54, l_57, (w64 (j_35 + 1)), (impl_Transport.mk (goSet t_36.Rows i_23 (w64 (e_59 + t_44.1))) (goSet t_36.Cols j_35 (w64 (e_64 + t_44.1))) t_36.Lo t_36.Hi), t_51.2)))))))))))) (some (.done (lo_31, hi_33, t_36, p_c_41))))

noncomputable def spec_l1Cur_transport_l1 (t_4 : Int × spec_l1Cur) (t_7 : Int × spec_l1Cur) : Int × impl_Transport × spec_l1Cur → Option (Stp (Int × impl_Transport × spec_l1Cur) (impl_Transport × spec_l1Cur))
  | (i_23, t_24, p_c_29) => (cond (decide (i_23 < (w64 (1 + t_4.1)))) ((loopC (spec_l1Cur_transport_l2 t_7 i_23) (([] : List Int), ([] : List Int), 0, t_24, p_c_29)).bind fun (lo_69, hi_71, t_73, p_c_78) => ((goApp 24 t_73.Lo ([lo_69] : List (List Int))).bind fun l_81 => ((goApp 24 t_73.Hi ([hi_71] : List (List Int))).bind fun l_84 => some (.next ((w64 (i_23 + 1)), (impl_Transport.mk t_73.Rows t_73.Cols l_81 l_84), p_c_78))))) (some (.done (t_24, p_c_29))))

noncomputable def spec_l1Cur_transport (p_c : spec_l1Cur) : Option (impl_Transport × spec_l1Cur) :=
  ((spec_l1Cur_pick p_c 3).bind fun t_4 => ((spec_l1Cur_pick t_4.2 3).bind fun t_7 => ((((goMake 8 (w64 (1 + t_4.1)) (0 : Int)).bind fun l_15 => ((goMake 8 (w64 (1 + t_7.1)) (0 : Int)).bind fun l_17 => some (impl_Transport.mk l_15 l_17 ([] : List (List Int)) ([] : List (List Int))))) : Option (impl_Transport)).bind fun t_20 => ((loopC (spec_l1Cur_transport_l1 t_4 t_7) (0, (impl_Transport.mk t_20.Rows t_20.Cols ([] : List (List Int)) ([] : List (List Int))), t_7.2)).bind fun (t_86, p_c_91) => ((spec_l1Cur_pick p_c_91 6).bind fun t_94 => (((cond (t_94.1 == 0) ((spec_l1Cur_pick t_94.2 3).bind fun t_97 => ((spec_l1Cur_pick t_97.2 (w64 (1 + t_4.1))).bind fun t_103 => ((goAt t_86.Rows t_103.1).bind fun e_105 => ((goAt t_86.Rows t_103.1).bind fun e_107 => ((spec_l1Cur_pick t_103.2 (w64 (1 + t_7.1))).bind fun t_114 => ((goAt t_86.Cols t_114.1).bind fun e_116 => ((goAt t_86.Cols t_114.1).bind fun e_118 => some (t_114.2, (impl_Transport.mk (goSet t_86.Rows t_103.1 (w64 (e_105 + t_97.1))) (goSet t_86.Cols t_114.1 (w64 (e_116 + t_97.1))) t_86.Lo t_86.Hi))))))))) (((cond (t_94.1 == 1) ((spec_l1Cur_pick t_94.2 (w64 (1 + t_4.1))).bind fun t_97 => ((goAt t_86.Rows t_97.1).bind fun e_99 => ((goAt t_86.Rows t_97.1).bind fun e_101 => some (t_97.2, (impl_Transport.mk (goSet t_86.Rows t_97.1 (w64 (e_99 + 1))) t_86.Cols t_86.Lo t_86.Hi))))) (some (t_94.2, t_86))) : Option (spec_l1Cur × impl_Transport)).bind fun (p_c_104, t_106) => some (p_c_104, t_106))) : Option (spec_l1Cur × impl_Transport)).bind fun (p_c_121, t_123) => some (t_123, p_c_121)))))))

noncomputable def spec_l1Cur_among (p_c : spec_l1Cur) (p_list : List Int) : Option (Int × spec_l1Cur) :=
  ((spec_l1Cur_pick p_c (goLen p_list)).bind fun t_4 => ((goAt p_list t_4.1).bind fun e_6 => some (e_6, t_4.2)))

noncomputable def spec_filled_l2 (hi_27 : List Int) : (List Int) × Int → Option (Stp ((List Int) × Int) ((List Int)))
  | (hi_29, t_31) => (cond (decide (t_31 < (goLen hi_27))) ((goAt hi_29 t_31).bind fun e_32 => some (.next (goSet hi_29 t_31 1, (w64 (t_31 + 1))))) (some (.done hi_29)))

noncomputable def spec_filled_l3 (p_n : Int) (p_sum : Int) (i_5 : Int) : Int × impl_Transport → Option (Stp (Int × impl_Transport) (impl_Transport))
  | (k_45, t_46) => (cond (decide (k_45 < p_sum)) ((goRem (w64 (i_5 + k_45)) p_n).bind fun t_51 => ((goAt t_46.Cols t_51).bind fun e_52 => ((goAt t_46.Cols t_51).bind fun e_54 => some (.next ((w64 (k_45 + 1)), (impl_Transport.mk t_46.Rows (goSet t_46.Cols t_51 (w64 (e_52 + 1))) t_46.Lo t_46.Hi)))))) (some (.done t_46)))

noncomputable def spec_filled_l1 (p_m : Int) (p_n : Int) (p_sum : Int) : Int × impl_Transport → Option (Stp (Int × impl_Transport) (impl_Transport))
  | (i_5, t_6) => (cond (decide (i_5 < p_m)) ((goApp 8 t_6.Rows ([p_sum] : List Int)).bind fun l_13 => ((((goMake 8 p_n (0 : Int)).bind fun l_21 => ((goMake 8 p_n (0 : Int)).bind fun l_23 => some (l_21, l_23))) : Option ((List Int) × (List Int))).bind fun (lo_25, hi_27) => ((loopC (spec_filled_l2 hi_27) (hi_27, 0)).bind fun hi_35 => ((goApp 24 t_6.Lo ([lo_25] : List (List Int))).bind fun l_39 => ((goApp 24 t_6.Hi ([hi_35] : List (List Int))).bind fun l_43 => ((loopC (spec_filled_l3 p_n p_sum i_5) (0, (impl_Transport.mk l_13 t_6.Cols l_39 l_43))).bind fun t_57 => some (.next ((w64 (i_5 + 1)), t_57)))))))) (some (.done t_6)))

noncomputable def spec_filled (p_m : Int) (p_n : Int) (p_sum : Int) : Option (impl_Transport) :=
  ((goMake 8 p_n (0 : Int)).bind fun l_2 => ((loopC (spec_filled_l1 p_m p_n p_sum) (0, (impl_Transport.mk ([] : List Int) l_2 ([] : List (List Int)) ([] : List (List Int))))).bind fun t_62 => some t_62))

noncomputable def spec_l1Cur_anyTransport (p_c : spec_l1Cur) : Option (impl_Transport × spec_l1Cur) :=
  ((spec_l1Cur_transport p_c).bind fun t_4 => ((spec_l1Cur_pick t_4.2 24).bind fun t_12 => (((cond (t_12.1 == 0) ((spec_l1Cur_among t_12.2 ([-1, 100000, 100001] : List Int)).bind fun t_16 => ((goAt t_4.1.Rows 0).bind fun e_18 => some (.inl (t_16.2, (impl_Transport.mk (goSet t_4.1.Rows 0 t_16.1) t_4.1.Cols t_4.1.Lo t_4.1.Hi))))) (((cond (t_12.1 == 1) ((goAt t_4.1.Lo 0).bind fun e_14 => ((goAt t_4.1.Hi 0).bind fun e_16 => ((goAt e_16 0).bind fun e_18 => ((goAt e_14 0).bind fun e_20 => some (.inl (t_12.2, (impl_Transport.mk t_4.1.Rows t_4.1.Cols (goSet t_4.1.Lo 0 (goSet e_14 0 (w64 (e_18 + 1)))) t_4.1.Hi))))))) (((cond (t_12.1 == 2) ((goSub t_4.1.Lo 1 (goLen t_4.1.Lo)).bind fun l_15 => some (.inl (t_12.2, (impl_Transport.mk t_4.1.Rows t_4.1.Cols l_15 t_4.1.Hi)))) (((cond (t_12.1 == 3) ((goApp 8 t_4.1.Cols ([0] : List Int)).bind fun l_15 => some (.inl (t_12.2, (impl_Transport.mk t_4.1.Rows l_15 t_4.1.Lo t_4.1.Hi)))) (((cond (t_12.1 == 4) ((((goAt t_4.1.Hi 0).bind fun e_14 => ((spec_l1Cur_among t_12.2 ([100000, 100001] : List Int)).bind fun t_19 => ((goAt e_14 0).bind fun e_21 => some (t_19.2, (impl_Transport.mk t_4.1.Rows t_4.1.Cols t_4.1.Lo (goSet t_4.1.Hi 0 (goSet e_14 0 t_19.1))))))) : Option (spec_l1Cur × impl_Transport)).bind fun (p_c_24, t_26) => some (.inl (p_c_24, t_26))) (cond (t_12.1 == 5) ((spec_l1Cur_pick t_12.2 2).bind fun t_15 => ((spec_filled 4 (w64 (4 + t_15.1)) 2).bind fun t_17 => some (.inr (.inr (.inr (.inr (.inr (t_17, t_15.2)))))))) (cond (t_12.1 == 6) ((spec_l1Cur_pick t_12.2 2).bind fun t_15 => ((spec_filled (w64 (8 + t_15.1)) 1 1).bind fun t_17 => some (.inr (.inr (.inr (.inr (.inr (t_17, t_15.2)))))))) (some (.inl (t_12.2, t_4.1)))))) : Option ((spec_l1Cur × impl_Transport) ⊕ ((spec_l1Cur × impl_Transport) ⊕ ((spec_l1Cur × impl_Transport) ⊕ ((spec_l1Cur × impl_Transport) ⊕ ((spec_l1Cur × impl_Transport) ⊕ (impl_Transport × spec_l1Cur))))))).bind fun | .inl (p_c_31, t_33) => some (.inl (p_c_31, t_33)) | .inr o => some o)) : Option ((spec_l1Cur × impl_Transport) ⊕ ((spec_l1Cur × impl_Transport) ⊕ ((spec_l1Cur × impl_Transport) ⊕ ((spec_l1Cur × impl_Transport) ⊕ (impl_Transport × spec_l1Cur)))))).bind fun | .inl (p_c_38, t_40) => some (.inl (p_c_38, t_40)) | .inr o => some o)) : Option ((spec_l1Cur × impl_Transport) ⊕ ((spec_l1Cur × impl_Transport) ⊕ ((spec_l1Cur × impl_Transport) ⊕ (impl_Transport × spec_l1Cur))))).bind fun | .inl (p_c_45, t_47) => some (.inl (p_c_45, t_47)) | .inr o => some o)) : Option ((spec_l1Cur × impl_Transport) ⊕ ((spec_l1Cur × impl_Transport) ⊕ (impl_Transport × spec_l1Cur)))).bind fun | .inl (p_c_53, t_55) => some (.inl (p_c_53, t_55)) | .inr o => some o)) : Option ((spec_l1Cur × impl_Transport) ⊕ (impl_Transport × spec_l1Cur))).bind fun | .inl (p_c_61, t_63) => some (t_63, p_c_61) | .inr o => some o)))

noncomputable def spec_DrawIsTransport (p_code : List (K .u8)) : Option (impl_Transport) :=
  ((spec_l1Cur_anyTransport (spec_l1Cur.mk p_code 0 (⟨0⟩ : K .u64))).bind fun t_5 => some t_5.1)

noncomputable def spec_DrawFirstFlow (p_code : List (K .u8)) : Option (impl_Transport) :=
  ((spec_DrawIsTransport p_code).bind fun t_3 => some t_3)

noncomputable def impl_areSums_l1 (p_l : List Int) (t_3 : Int) : Option (Stp (Int) ((Unit) ⊕ (Bool))) :=
  (cond (decide (t_3 < (goLen p_l))) ((goAt p_l t_3).bind fun e_4 => (((cond (decide (e_4 < 0)) (some true) (some (decide (100000 < e_4)))) : Option (Bool)).bind fun t_6 => (cond t_6 (some (.done (.inr false))) (some (.next (w64 (t_3 + 1))))))) (some (.done (.inl ()))))

noncomputable def impl_areSums (p_l : List Int) : Option (Bool) :=
  (((cond (decide ((goLen p_l) < 1)) (some true) (some (decide (8 < (goLen p_l))))) : Option (Bool)).bind fun t_2 => (cond t_2 (some false) ((loopC (impl_areSums_l1 p_l) 0).bind fun | .inl () => some true | .inr o => some o)))

noncomputable def impl_hasShape_l1 (p_x : List (List Int)) (p_cols : Int) (t_2 : Int) : Option (Stp (Int) ((Unit) ⊕ (Bool))) :=
  (cond (decide (t_2 < (goLen p_x))) ((goAt p_x t_2).bind fun e_3 => (cond ((goLen e_3) != p_cols) (some (.done (.inr false))) (some (.next (w64 (t_2 + 1)))))) (some (.done (.inl ()))))

noncomputable def impl_hasShape (p_x : List (List Int)) (p_rows : Int) (p_cols : Int) : Option (Bool) :=
  (cond ((goLen p_x) != p_rows) (some false) ((loopC (impl_hasShape_l1 p_x p_cols) 0).bind fun | .inl () => some true | .inr o => some o))

noncomputable def impl_IsTransport_l2 (p_t : impl_Transport) (t_11 : Int) (e_12 : List Int) (t_15 : Int) : Option (Stp (Int) ((Unit) ⊕ (Stp (Int) ((Unit) ⊕ (Bool))))) :=
  (cond (decide (t_15 < (goLen e_12))) ((goAt e_12 t_15).bind fun e_16 => (((cond (decide (e_16 < 0)) (some true) ((goAt p_t.Hi t_11).bind fun e_18 => ((goAt e_18 t_15).bind fun e_21 => (cond (decide (e_21 < e_16)) (some true) ((goAt p_t.Hi t_11).bind fun e_23 => ((goAt e_23 t_15).bind fun e_26 => some (decide (100000 < e_26)))))))) : Option (Bool)).bind fun t_28 => (cond t_28 (some (.done (.inr (.done (.inr false))))) (some (.next (w64 (t_15 + 1))))))) (some (.done (.inl ()))))

noncomputable def impl_IsTransport_l1 (p_t : impl_Transport) (t_11 : Int) : Option (Stp (Int) ((Unit) ⊕ (Bool))) :=
  (cond (decide (t_11 < (goLen p_t.Lo))) ((goAt p_t.Lo t_11).bind fun e_12 => ((loopC (impl_IsTransport_l2 p_t t_11 e_12) 0).bind fun | .inl () => some (.next (w64 (t_11 + 1))) | .inr o => some o)) (some (.done (.inl ()))))

noncomputable def impl_IsTransport (p_t : impl_Transport) : Option (Bool) :=
  ((((impl_areSums p_t.Rows).bind fun t_6 => (cond (!t_6) (some true) ((impl_areSums p_t.Cols).bind fun t_7 => (cond (!t_7) (some true) ((impl_hasShape p_t.Lo (goLen p_t.Rows) (goLen p_t.Cols)).bind fun t_8 => (cond (!t_8) (some true) ((impl_hasShape p_t.Hi (goLen p_t.Rows) (goLen p_t.Cols)).bind fun t_9 => some (!t_9)))))))) : Option (Bool)).bind fun t_10 => (cond t_10 (some false) ((loopC (impl_IsTransport_l1 p_t) 0).bind fun | .inl () => some true | .inr o => some o)))

noncomputable def impl_total_l1 (p_l : List Int) : Int × Int → Option (Stp (Int × Int) (Int))
  | (sum_2, t_3) => (cond (decide (t_3 < (goLen p_l))) ((goAt p_l t_3).bind fun e_4 => some (.next ((w64 (sum_2 + e_4)), (w64 (t_3 + 1))))) (some (.done sum_2)))

noncomputable def impl_total (p_l : List Int) : Option (Int) :=
  ((loopC (impl_total_l1 p_l) (0, 0)).bind fun sum_6 => some sum_6)

noncomputable def impl_residual_l1 (p_t : impl_Transport) (l_7 : List (List Int)) : (List (List Int)) × Int → Option (Stp ((List (List Int)) × Int) ((List (List Int))))
  | (r_9, t_11) => (cond (decide (t_11 < (goLen l_7))) ((goMake 8 (w64 ((goLen p_t.Rows) + (goLen p_t.Cols))) (0 : Int)).bind fun l_12 => ((goAt r_9 t_11).bind fun e_14 => some (.next (goSet r_9 t_11 l_12, (w64 (t_11 + 1)))))) (some (.done r_9)))

noncomputable def impl_residual_l3 (p_t : impl_Transport) (p_fixed : Int) (t_21 : Int) (e_22 : List Int) : (List (List Int)) × Int → Option (Stp ((List (List Int)) × Int) ((List (List Int))))
  | (r_25, t_27) => (cond (decide (t_27 < (goLen e_22))) ((goAt e_22 t_27).bind fun e_28 => (((cond (decide (p_fixed < (w64 ((w64 (t_21 * (goLen p_t.Cols))) + t_27)))) ((goAt r_25 t_21).bind fun e_30 => ((goAt p_t.Hi t_21).bind fun e_32 => ((goAt e_32 t_27).bind fun e_35 => ((goAt e_30 (w64 ((goLen p_t.Rows) + t_27))).bind fun e_37 => ((goAt (goSet r_25 t_21 (goSet e_30 (w64 ((goLen p_t.Rows) + t_27)) (w64 (e_35 - e_28)))) (w64 ((goLen p_t.Rows) + t_27))).bind fun e_40 => ((goAt p_t.Lo t_21).bind fun e_42 => ((goAt e_42 t_27).bind fun e_45 => ((goAt e_40 t_21).bind fun e_47 => some (goSet (goSet r_25 t_21 (goSet e_30 (w64 ((goLen p_t.Rows) + t_27)) (w64 (e_35 - e_28)))) (w64 ((goLen p_t.Rows) + t_27)) (goSet e_40 t_21 (w64 (e_28 - e_45)))))))))))) (some r_25)) : Option ((List (List Int)))).bind fun r_50 => some (.next (r_50, (w64 (t_27 + 1)))))) (some (.done r_25)))

noncomputable def impl_residual_l2 (p_t : impl_Transport) (p_x : List (List Int)) (p_fixed : Int) : (List (List Int)) × Int → Option (Stp ((List (List Int)) × Int) ((List (List Int))))
  | (r_19, t_21) => (cond (decide (t_21 < (goLen p_x))) ((goAt p_x t_21).bind fun e_22 => ((loopC (impl_residual_l3 p_t p_fixed t_21 e_22) (r_19, 0)).bind fun r_52 => some (.next (r_52, (w64 (t_21 + 1)))))) (some (.done r_19)))

noncomputable def impl_residual (p_t : impl_Transport) (p_x : List (List Int)) (p_fixed : Int) : Option ((List (List Int))) :=
  ((goMake 24 (w64 ((goLen p_t.Rows) + (goLen p_t.Cols))) ([] : List Int)).bind fun l_7 => ((loopC (impl_residual_l1 p_t l_7) (l_7, 0)).bind fun r_17 => ((loopC (impl_residual_l2 p_t p_x p_fixed) (r_17, 0)).bind fun r_54 => some r_54)))

noncomputable def impl_rowSums_l2 (t_6 : Int) (e_7 : List Int) : (List Int) × Int → Option (Stp ((List Int) × Int) ((List Int)))
  | (sums_10, t_12) => (cond (decide (t_12 < (goLen e_7))) ((goAt e_7 t_12).bind fun e_13 => ((goAt sums_10 t_6).bind fun e_15 => ((goAt sums_10 t_6).bind fun e_17 => some (.next (goSet sums_10 t_6 (w64 (e_15 + e_13)), (w64 (t_12 + 1))))))) (some (.done sums_10)))

noncomputable def impl_rowSums_l1 (p_x : List (List Int)) : (List Int) × Int → Option (Stp ((List Int) × Int) ((List Int)))
  | (sums_4, t_6) => (cond (decide (t_6 < (goLen p_x))) ((goAt p_x t_6).bind fun e_7 => ((loopC (impl_rowSums_l2 t_6 e_7) (sums_4, 0)).bind fun sums_20 => some (.next (sums_20, (w64 (t_6 + 1)))))) (some (.done sums_4)))

noncomputable def impl_rowSums (p_x : List (List Int)) : Option ((List Int)) :=
  ((goMake 8 (goLen p_x) (0 : Int)).bind fun l_2 => ((loopC (impl_rowSums_l1 p_x) (l_2, 0)).bind fun sums_22 => some sums_22))

noncomputable def impl_colSums_l2 (e_10 : List Int) : (List Int) × Int → Option (Stp ((List Int) × Int) ((List Int)))
  | (sums_13, t_15) => (cond (decide (t_15 < (goLen e_10))) ((goAt e_10 t_15).bind fun e_16 => ((goAt sums_13 t_15).bind fun e_18 => ((goAt sums_13 t_15).bind fun e_20 => some (.next (goSet sums_13 t_15 (w64 (e_18 + e_16)), (w64 (t_15 + 1))))))) (some (.done sums_13)))

noncomputable def impl_colSums_l1 (p_x : List (List Int)) : (List Int) × Int → Option (Stp ((List Int) × Int) ((List Int)))
  | (sums_7, t_9) => (cond (decide (t_9 < (goLen p_x))) ((goAt p_x t_9).bind fun e_10 => ((loopC (impl_colSums_l2 e_10) (sums_7, 0)).bind fun sums_23 => some (.next (sums_23, (w64 (t_9 + 1)))))) (some (.done sums_7)))

noncomputable def impl_colSums (p_x : List (List Int)) : Option ((List Int)) :=
  ((goAt p_x 0).bind fun e_2 => ((goMake 8 (goLen e_2) (0 : Int)).bind fun l_5 => ((loopC (impl_colSums_l1 p_x) (l_5, 0)).bind fun sums_25 => some sums_25)))

noncomputable def impl_push_l2 (l_5 : List Int) : (List Int) × Int → Option (Stp ((List Int) × Int) ((List Int)))
  | (back_7, t_9) => (cond (decide (t_9 < (goLen l_5))) ((goAt back_7 t_9).bind fun e_10 => some (.next (goSet back_7 t_9 (-1), (w64 (t_9 + 1))))) (some (.done back_7)))

noncomputable def impl_push_l4 (e_26 : Int) (e_30 : List Int) : (List Int) × (List Int) × Int → Option (Stp ((List Int) × (List Int) × Int) ((List Int) × (List Int)))
  | (back_32, queue_34, t_36) => (cond (decide (t_36 < (goLen e_30))) ((goAt e_30 t_36).bind fun e_37 => (((cond (decide (0 < e_37)) ((goAt back_32 t_36).bind fun e_39 => some (decide (e_39 < 0))) (some false)) : Option (Bool)).bind fun t_41 => (((cond t_41 ((goAt back_32 t_36).bind fun e_42 => ((goApp 8 queue_34 ([t_36] : List Int)).bind fun l_46 => some (goSet back_32 t_36 e_26, l_46))) (some (back_32, queue_34))) : Option ((List Int) × (List Int))).bind fun (back_48, queue_50) => some (.next (back_48, queue_50, (w64 (t_36 + 1))))))) (some (.done (back_32, queue_34))))

noncomputable def impl_push_l3 (p_to : Int) (r_2 : List (List Int)) : (List Int) × (List Int) → Option (Stp ((List Int) × (List Int)) ((List Int)))
  | (back_19, queue_21) => (((cond (decide (0 < (goLen queue_21))) ((goAt back_19 p_to).bind fun e_23 => some (decide (e_23 < 0))) (some false)) : Option (Bool)).bind fun t_25 => (cond t_25 ((goAt queue_21 0).bind fun e_26 => ((goSub queue_21 1 (goLen queue_21)).bind fun l_28 => ((goAt r_2 e_26).bind fun e_30 => ((loopC (impl_push_l4 e_26 e_30) (back_19, l_28, 0)).bind fun (back_52, queue_54) => some (.next (back_52, queue_54)))))) (some (.done back_19))))

noncomputable def impl_push_l5 (p_from : Int) (r_2 : List (List Int)) (back_56 : List Int) : Int × Int → Option (Stp (Int × Int) (Int))
  | (step_60, v_61) => (cond (v_61 != p_from) ((goAt back_56 v_61).bind fun e_62 => ((goAt r_2 e_62).bind fun e_64 => ((goAt e_64 v_61).bind fun e_66 => ((goAt back_56 v_61).bind fun e_68 => some (.next (min step_60 e_66, e_68)))))) (some (.done step_60)))

noncomputable def impl_push_l6 (p_from : Int) (back_56 : List Int) (step_70 : Int) : (List (List Int)) × Int → Option (Stp ((List (List Int)) × Int) ((List (List Int))))
  | (r_71, v_73) => (cond (v_73 != p_from) ((goAt back_56 v_73).bind fun e_74 => ((goAt r_71 e_74).bind fun e_76 => ((goAt e_76 v_73).bind fun e_78 => ((goAt e_76 v_73).bind fun e_80 => ((goAt (goSet r_71 e_74 (goSet e_76 v_73 (w64 (e_78 - step_70)))) v_73).bind fun e_83 => ((goAt back_56 v_73).bind fun e_85 => ((goAt e_83 e_85).bind fun e_87 => ((goAt e_83 e_85).bind fun e_89 => ((goAt back_56 v_73).bind fun e_92 => some (.next (goSet (goSet r_71 e_74 (goSet e_76 v_73 (w64 (e_78 - step_70)))) v_73 (goSet e_83 e_85 (w64 (e_87 + step_70))), e_92))))))))))) (some (.done r_71)))

noncomputable def impl_push_l1 (p_from : Int) (p_to : Int) (p_limit : Int) : (List (List Int)) × Int → Option (Stp ((List (List Int)) × Int) ((List (List Int)) × Int))
  | (r_2, sent_4) => (cond (decide (sent_4 < p_limit)) ((goMake 8 (goLen r_2) (0 : Int)).bind fun l_5 => ((loopC (impl_push_l2 l_5) (l_5, 0)).bind fun back_13 => ((goAt back_13 p_from).bind fun e_15 => ((loopC (impl_push_l3 p_to r_2) (goSet back_13 p_from p_from, ([p_from] : List Int))).bind fun back_56 => ((goAt back_56 p_to).bind fun e_58 => (cond (decide (e_58 < 0)) (some (.done (r_2, sent_4))) ((loopC (impl_push_l5 p_from r_2 back_56) ((w64 (p_limit - sent_4)), p_to)).bind fun step_70 => ((loopC (impl_push_l6 p_from back_56 step_70) (r_2, p_to)).bind fun r_94 => some (.next (r_94, (w64 (sent_4 + step_70)))))))))))) (some (.done (r_2, sent_4))))

noncomputable def impl_push (p_r : List (List Int)) (p_from : Int) (p_to : Int) (p_limit : Int) : Option (Int × (List (List Int))) :=
  ((loopC (impl_push_l1 p_from p_to p_limit) (p_r, 0)).bind fun (r_96, sent_98) => some (sent_98, r_96))

noncomputable def slices_Clone_int_int (p_s : List Int) : Option ((List Int)) :=
  ((goApp 8 ([] : List Int) p_s).bind fun l_3 => some l_3)

noncomputable def impl_copyMatrix_l1 (p_x : List (List Int)) : (List (List Int)) × Int → Option (Stp ((List (List Int)) × Int) ((List (List Int))))
  | (out_5, t_7) => (cond (decide (t_7 < (goLen p_x))) ((goAt p_x t_7).bind fun e_8 => ((slices_Clone_int_int e_8).bind fun t_11 => ((goAt out_5 t_7).bind fun e_14 => some (.next (goSet out_5 t_7 t_11, (w64 (t_7 + 1))))))) (some (.done out_5)))

noncomputable def impl_copyMatrix (p_x : List (List Int)) : Option ((List (List Int))) :=
  ((goMake 24 (goLen p_x) ([] : List Int)).bind fun l_2 => ((goNE l_2).bind fun u_4 => ((loopC (impl_copyMatrix_l1 p_x) (l_2, 0)).bind fun out_17 => some out_17)))

noncomputable def impl_restore_l2 (p_t : impl_Transport) (p_r : List (List Int)) (p_fixed : Int) (t_13 : Int) (e_14 : List Int) : (List (List Int)) × Int → Option (Stp ((List (List Int)) × Int) ((List (List Int))))
  | (out_16, t_18) => (cond (decide (t_18 < (goLen e_14))) (((cond (decide (p_fixed < (w64 ((w64 (t_13 * (goLen p_t.Cols))) + t_18)))) ((goAt out_16 t_13).bind fun e_19 => ((goAt p_t.Hi t_13).bind fun e_21 => ((goAt e_21 t_18).bind fun e_24 => ((goAt p_r t_13).bind fun e_26 => ((goAt e_26 (w64 ((goLen p_t.Rows) + t_18))).bind fun e_29 => ((goAt e_19 t_18).bind fun e_31 => some (goSet out_16 t_13 (goSet e_19 t_18 (w64 (e_24 - e_29)))))))))) (some out_16)) : Option ((List (List Int)))).bind fun out_34 => some (.next (out_34, (w64 (t_18 + 1))))) (some (.done out_16)))

noncomputable def impl_restore_l1 (p_t : impl_Transport) (p_r : List (List Int)) (p_fixed : Int) (t_8 : List (List Int)) : (List (List Int)) × Int → Option (Stp ((List (List Int)) × Int) ((List (List Int))))
  | (out_11, t_13) => (cond (decide (t_13 < (goLen t_8))) ((goAt out_11 t_13).bind fun e_14 => ((loopC (impl_restore_l2 p_t p_r p_fixed t_13 e_14) (out_11, 0)).bind fun out_36 => some (.next (out_36, (w64 (t_13 + 1)))))) (some (.done out_11)))

noncomputable def impl_restore (p_t : impl_Transport) (p_x : List (List Int)) (p_r : List (List Int)) (p_fixed : Int) : Option ((List (List Int))) :=
  ((impl_copyMatrix p_x).bind fun t_8 => ((loopC (impl_restore_l1 p_t p_r p_fixed t_8) (t_8, 0)).bind fun out_38 => some out_38))

noncomputable def impl_fill_l1 (p_t : impl_Transport) (t_6 : List (List Int)) (l_9 : List (List Int)) : (List (List Int)) × Int → Option (Stp ((List (List Int)) × Int) ((List (List Int))))
  | (r_11, t_13) => (cond (decide (t_13 < (goLen l_9))) ((goMake 8 (w64 ((w64 ((goLen p_t.Rows) + (goLen p_t.Cols))) + 2)) (0 : Int)).bind fun l_14 => ((goAt r_11 t_13).bind fun e_16 => (((cond (decide (t_13 < (w64 ((goLen p_t.Rows) + (goLen p_t.Cols))))) ((goAt (goSet r_11 t_13 l_14) t_13).bind fun e_19 => ((goAt t_6 t_13).bind fun e_21 => ((goCopy e_19 e_21).bind fun l_23 => some (goSet (goSet r_11 t_13 l_14) t_13 l_23)))) (some (goSet r_11 t_13 l_14))) : Option ((List (List Int)))).bind fun r_25 => some (.next (r_25, (w64 (t_13 + 1))))))) (some (.done r_11)))

noncomputable def impl_fill_l2 (p_t : impl_Transport) (t_35 : List Int) : (List (List Int)) × Int → Option (Stp ((List (List Int)) × Int) (((List (List Int))) ⊕ ((List (List Int)))))
  | (r_41, t_43) => (cond (decide (t_43 < (goLen p_t.Rows))) ((goAt p_t.Rows t_43).bind fun e_44 => ((goAt t_35 t_43).bind fun e_46 => (cond (decide (e_44 < e_46)) (some (.done (.inr ([] : List (List Int))))) ((goAt r_41 (w64 ((goLen p_t.Rows) + (goLen p_t.Cols)))).bind fun e_48 => ((goAt t_35 t_43).bind fun e_50 => ((goAt e_48 t_43).bind fun e_52 => some (.next (goSet r_41 (w64 ((goLen p_t.Rows) + (goLen p_t.Cols))) (goSet e_48 t_43 (w64 (e_44 - e_50))), (w64 (t_43 + 1)))))))))) (some (.done (.inl r_41))))

noncomputable def impl_fill_l3 (p_t : impl_Transport) (t_38 : List Int) : (List (List Int)) × Int → Option (Stp ((List (List Int)) × Int) (((List (List Int))) ⊕ ((List (List Int)))))
  | (r_57, t_59) => (cond (decide (t_59 < (goLen p_t.Cols))) ((goAt p_t.Cols t_59).bind fun e_60 => ((goAt t_38 t_59).bind fun e_62 => (cond (decide (e_60 < e_62)) (some (.done (.inr ([] : List (List Int))))) ((goAt r_57 (w64 ((goLen p_t.Rows) + t_59))).bind fun e_64 => ((goAt t_38 t_59).bind fun e_66 => ((goAt e_64 (w64 ((w64 ((goLen p_t.Rows) + (goLen p_t.Cols))) + 1))).bind fun e_68 => some (.next (goSet r_57 (w64 ((goLen p_t.Rows) + t_59)) (goSet e_64 (w64 ((w64 ((goLen p_t.Rows) + (goLen p_t.Cols))) + 1)) (w64 (e_60 - e_66))), (w64 (t_59 + 1)))))))))) (some (.done (.inl r_57))))

noncomputable def impl_fill (p_t : impl_Transport) : Option ((List (List Int))) :=
  ((impl_residual p_t p_t.Lo (-1)).bind fun t_6 => ((goMake 24 (w64 ((w64 ((goLen p_t.Rows) + (goLen p_t.Cols))) + 2)) ([] : List Int)).bind fun l_9 => ((loopC (impl_fill_l1 p_t t_6 l_9) (l_9, 0)).bind fun r_27 => ((impl_rowSums p_t.Lo).bind fun t_35 => ((impl_colSums p_t.Lo).bind fun t_38 => ((loopC (impl_fill_l2 p_t t_35) (r_27, 0)).bind fun | .inl r_55 => ((loopC (impl_fill_l3 p_t t_38) (r_55, 0)).bind fun | .inl r_71 => ((impl_total p_t.Rows).bind fun t_73 => ((impl_push r_71 (w64 ((goLen p_t.Rows) + (goLen p_t.Cols))) (w64 ((w64 ((goLen p_t.Rows) + (goLen p_t.Cols))) + 1)) t_73).bind fun t_75 => ((impl_restore p_t p_t.Lo t_75.2 (-1)).bind fun t_77 => some t_77))) | .inr o => some o) | .inr o => some o))))))

noncomputable def slices_Equal_int_int_l1 (p_s1 : List Int) (p_s2 : List Int) (t_3 : Int) : Option (Stp (Int) ((Unit) ⊕ (Bool))) :=
  (cond (decide (t_3 < (goLen p_s1))) ((goAt p_s1 t_3).bind fun e_4 => ((goAt p_s2 t_3).bind fun e_6 => (cond (e_4 != e_6) (some (.done (.inr false))) (some (.next (w64 (t_3 + 1))))))) (some (.done (.inl ()))))

noncomputable def slices_Equal_int_int (p_s1 : List Int) (p_s2 : List Int) : Option (Bool) :=
  (cond ((goLen p_s1) != (goLen p_s2)) (some false) ((loopC (slices_Equal_int_int_l1 p_s1 p_s2) 0).bind fun | .inl () => some true | .inr o => some o))

noncomputable def impl_anyFlow (p_t : impl_Transport) : Option ((List (List Int))) :=
  ((impl_total p_t.Rows).bind fun t_8 => ((impl_total p_t.Cols).bind fun t_9 => (cond (t_8 != t_9) (some ([] : List (List Int))) ((impl_fill p_t).bind fun t_10 => (((cond t_10.isEmpty (some true) ((impl_rowSums t_10).bind fun t_21 => ((slices_Equal_int_int t_21 p_t.Rows).bind fun t_25 => some (!t_25)))) : Option (Bool)).bind fun t_27 => (cond t_27 (some ([] : List (List Int))) (some t_10)))))))

noncomputable def impl_lowered (p_t : impl_Transport) (p_x : List (List Int)) (p_i : Int) (p_j : Int) : Option ((List (List Int))) :=
  ((impl_residual p_t p_x (w64 ((w64 (p_i * (goLen p_t.Cols))) + p_j))).bind fun t_7 => ((goAt p_x p_i).bind fun e_10 => ((goAt e_10 p_j).bind fun e_13 => ((goAt p_t.Lo p_i).bind fun e_15 => ((goAt e_15 p_j).bind fun e_18 => ((impl_push t_7 p_i (w64 ((goLen p_t.Rows) + p_j)) (w64 (e_13 - e_18))).bind fun t_21 => ((impl_restore p_t p_x t_21.2 (w64 ((w64 (p_i * (goLen p_t.Cols))) + p_j))).bind fun t_23 => ((goAt t_23 p_i).bind fun e_27 => ((goAt e_27 p_j).bind fun e_29 => ((goAt e_27 p_j).bind fun e_31 => some (goSet t_23 p_i (goSet e_27 p_j (w64 (e_29 - t_21.1))))))))))))))

noncomputable def impl_firstFrom_l1 (p_t : impl_Transport) : (List (List Int)) × Int → Option (Stp ((List (List Int)) × Int) ((List (List Int))))
  | (x_7, p_9) => (cond (decide (p_9 < (w64 ((goLen p_t.Rows) * (goLen p_t.Cols))))) ((goQuo .i64 p_9 (goLen p_t.Cols)).bind fun t_10 => ((goRem p_9 (goLen p_t.Cols)).bind fun t_11 => ((impl_lowered p_t x_7 t_10 t_11).bind fun t_12 => some (.next (t_12, (w64 (p_9 + 1))))))) (some (.done x_7)))

noncomputable def impl_firstFrom (p_t : impl_Transport) (p_x : List (List Int)) (p_from : Int) : Option ((List (List Int))) :=
  ((goNE p_x).bind fun _ => ((loopC (impl_firstFrom_l1 p_t) (p_x, (w64 (p_from + 1)))).bind fun x_16 => some x_16))

noncomputable def impl_firstFlow (p_t : impl_Transport) : Option ((List (List Int))) :=
  ((impl_anyFlow p_t).bind fun t_6 => (cond t_6.isEmpty (some ([] : List (List Int))) ((impl_firstFrom p_t t_6 (-1)).bind fun t_10 => some t_10)))

noncomputable def impl_FirstFlow (p_t : impl_Transport) : Option ((List (List Int)) × Bool) :=
  ((impl_IsTransport p_t).bind fun t_6 => (cond (!t_6) (some (([] : List (List Int)), false)) ((impl_firstFlow p_t).bind fun t_7 => some (t_7, !t_7.isEmpty))))

noncomputable def spec_l1In (p_n : Int) (p_lo : Int) (p_hi : Int) : Option (Bool) :=
  (((cond (decide (p_lo ≤ p_n)) (some (decide (p_n ≤ p_hi))) (some false)) : Option (Bool)).bind fun t_1 => some t_1)

noncomputable def spec_l1All_l1 (p_l : List Int) (p_lo : Int) (p_hi : Int) (t_2 : Int) : Option (Stp (Int) ((Unit) ⊕ (Bool))) :=
  (cond (decide (t_2 < (goLen p_l))) ((goAt p_l t_2).bind fun e_3 => ((spec_l1In e_3 p_lo p_hi).bind fun t_5 => (cond (!t_5) (some (.done (.inr false))) (some (.next (w64 (t_2 + 1))))))) (some (.done (.inl ()))))

noncomputable def spec_l1All (p_l : List Int) (p_lo : Int) (p_hi : Int) : Option (Bool) :=
  ((loopC (spec_l1All_l1 p_l p_lo p_hi) 0).bind fun | .inl () => some true | .inr o => some o)

noncomputable def spec_tSize_l1 (p_t : impl_Transport) (p_x : List (List Int)) (t_7 : Int) : Option (Stp (Int) ((Unit) ⊕ (Bool))) :=
  (cond (decide (t_7 < (goLen p_x))) ((goAt p_x t_7).bind fun e_8 => (cond ((goLen e_8) != (goLen p_t.Cols)) (some (.done (.inr false))) (some (.next (w64 (t_7 + 1)))))) (some (.done (.inl ()))))

noncomputable def spec_tSize (p_t : impl_Transport) (p_x : List (List Int)) : Option (Bool) :=
  (cond ((goLen p_x) != (goLen p_t.Rows)) (some false) ((loopC (spec_tSize_l1 p_t p_x) 0).bind fun | .inl () => some true | .inr o => some o))

noncomputable def spec_tGood_l2 (p_t : impl_Transport) (t_13 : Int) (e_14 : List Int) (t_17 : Int) : Option (Stp (Int) ((Unit) ⊕ (Stp (Int) ((Unit) ⊕ (Bool))))) :=
  (cond (decide (t_17 < (goLen e_14))) ((((goAt p_t.Hi t_13).bind fun e_18 => ((goAt e_18 t_17).bind fun e_21 => ((spec_l1In e_21 0 100000).bind fun t_23 => (cond (!t_23) (some true) ((goAt p_t.Lo t_13).bind fun e_24 => ((goAt e_24 t_17).bind fun e_27 => ((goAt p_t.Hi t_13).bind fun e_29 => ((goAt e_29 t_17).bind fun e_32 => ((spec_l1In e_27 0 e_32).bind fun t_34 => some (!t_34)))))))))) : Option (Bool)).bind fun t_35 => (cond t_35 (some (.done (.inr (.done (.inr false))))) (some (.next (w64 (t_17 + 1)))))) (some (.done (.inl ()))))

noncomputable def spec_tGood_l1 (p_t : impl_Transport) (t_13 : Int) : Option (Stp (Int) ((Unit) ⊕ (Bool))) :=
  (cond (decide (t_13 < (goLen p_t.Lo))) ((goAt p_t.Lo t_13).bind fun e_14 => ((loopC (spec_tGood_l2 p_t t_13 e_14) 0).bind fun | .inl () => some (.next (w64 (t_13 + 1))) | .inr o => some o)) (some (.done (.inl ()))))

noncomputable def spec_tGood (p_t : impl_Transport) : Option (Bool) :=
  ((((spec_l1In (goLen p_t.Rows) 1 8).bind fun t_6 => (cond (!t_6) (some true) ((spec_l1In (goLen p_t.Cols) 1 8).bind fun t_7 => (cond (!t_7) (some true) ((spec_l1All p_t.Rows 0 100000).bind fun t_8 => (cond (!t_8) (some true) ((spec_l1All p_t.Cols 0 100000).bind fun t_9 => (cond (!t_9) (some true) ((spec_tSize p_t p_t.Lo).bind fun t_10 => (cond (!t_10) (some true) ((spec_tSize p_t p_t.Hi).bind fun t_11 => some (!t_11)))))))))))) : Option (Bool)).bind fun t_12 => (cond t_12 (some false) ((loopC (spec_tGood_l1 p_t) 0).bind fun | .inl () => some true | .inr o => some o)))

noncomputable def spec_tSum_l1 (p_l : List Int) : Int × Int → Option (Stp (Int × Int) (Int))
  | (sum_2, t_3) => (cond (decide (t_3 < (goLen p_l))) ((goAt p_l t_3).bind fun e_4 => some (.next ((w64 (sum_2 + e_4)), (w64 (t_3 + 1))))) (some (.done sum_2)))

noncomputable def spec_tSum (p_l : List Int) : Option (Int) :=
  ((loopC (spec_tSum_l1 p_l) (0, 0)).bind fun sum_6 => some sum_6)

noncomputable def spec_l1Own (p_l : List Int) : Option ((List Int)) :=
  ((goApp 8 ([] : List Int) p_l).bind fun l_3 => some l_3)

noncomputable def spec_tOwn_l1 (p_x : List (List Int)) : (List (List Int)) × Int → Option (Stp ((List (List Int)) × Int) ((List (List Int))))
  | (out_2, t_4) => (cond (decide (t_4 < (goLen p_x))) ((goAt p_x t_4).bind fun e_5 => ((spec_l1Own e_5).bind fun t_8 => ((goApp 24 out_2 ([t_8] : List (List Int))).bind fun l_12 => some (.next (l_12, (w64 (t_4 + 1))))))) (some (.done out_2)))

noncomputable def spec_tOwn (p_x : List (List Int)) : Option ((List (List Int))) :=
  ((loopC (spec_tOwn_l1 p_x) (([] : List (List Int)), 0)).bind fun out_14 => some out_14)

noncomputable def spec_tColumn_l1 (p_x : List (List Int)) (p_j : Int) : (List Int) × Int → Option (Stp ((List Int) × Int) ((List Int)))
  | (out_2, t_4) => (cond (decide (t_4 < (goLen p_x))) ((goAt p_x t_4).bind fun e_5 => ((goAt e_5 p_j).bind fun e_8 => ((goApp 8 out_2 ([e_8] : List Int)).bind fun l_11 => some (.next (l_11, (w64 (t_4 + 1))))))) (some (.done out_2)))

noncomputable def spec_tColumn (p_x : List (List Int)) (p_j : Int) : Option ((List Int)) :=
  ((loopC (spec_tColumn_l1 p_x p_j) (([] : List Int), 0)).bind fun out_13 => some out_13)

noncomputable def spec_tStart_l1 (p_t : impl_Transport) : Int × spec_tFill → Option (Stp (Int × spec_tFill) (spec_tFill))
  | (t_10, t_11) => (cond (decide (t_10 < (goLen p_t.Rows))) ((goAt p_t.Rows t_10).bind fun e_18 => ((goAt p_t.Lo t_10).bind fun e_20 => ((spec_tSum e_20).bind fun t_23 => ((goApp 8 t_11.rows ([(w64 (e_18 - t_23))] : List Int)).bind fun l_25 => some (.next ((w64 (t_10 + 1)), (spec_tFill.mk t_11.t t_11.x l_25 ([] : List Int)))))))) (some (.done (spec_tFill.mk t_11.t t_11.x t_11.rows ([] : List Int)))))

noncomputable def spec_tStart_l2 (p_t : impl_Transport) : Int × spec_tFill → Option (Stp (Int × spec_tFill) (spec_tFill))
  | (t_34, t_35) => (cond (decide (t_34 < (goLen p_t.Cols))) ((goAt p_t.Cols t_34).bind fun e_43 => ((spec_tColumn p_t.Lo t_34).bind fun t_45 => ((spec_tSum t_45).bind fun t_48 => ((goApp 8 t_35.cols ([(w64 (e_43 - t_48))] : List Int)).bind fun l_51 => some (.next ((w64 (t_34 + 1)), (spec_tFill.mk t_35.t t_35.x t_35.rows l_51))))))) (some (.done t_35)))

noncomputable def spec_tStart (p_t : impl_Transport) : Option (spec_tFill × Bool) :=
  ((spec_tOwn p_t.Lo).bind fun t_6 => ((loopC (spec_tStart_l1 p_t) (0, (spec_tFill.mk p_t t_6 ([] : List Int) ([] : List Int)))).bind fun t_27 => ((loopC (spec_tStart_l2 p_t) (0, (spec_tFill.mk t_27.t t_27.x t_27.rows ([] : List Int)))).bind fun t_53 => ((((spec_l1All t_53.rows 0 100000).bind fun t_61 => (cond t_61 ((spec_l1All t_53.cols 0 100000).bind fun t_63 => some t_63) (some false))) : Option (Bool)).bind fun t_65 => some (t_53, t_65)))))

noncomputable def spec_tFill_room (p_f : spec_tFill) (p_v : Int) (p_k : Int) : Option (Int) :=
  (((cond (decide (p_v < (goLen p_f.rows))) (some (decide ((goLen p_f.rows) ≤ p_k))) (some false)) : Option (Bool)).bind fun t_8 => (cond t_8 ((goAt p_f.t.Hi p_v).bind fun e_9 => ((goAt e_9 (w64 (p_k - (goLen p_f.rows)))).bind fun e_12 => ((goAt p_f.x p_v).bind fun e_14 => ((goAt e_14 (w64 (p_k - (goLen p_f.rows)))).bind fun e_17 => some (w64 (e_12 - e_17)))))) (((cond (decide ((goLen p_f.rows) ≤ p_v)) (some (decide (p_k < (goLen p_f.rows)))) (some false)) : Option (Bool)).bind fun t_9 => (cond t_9 ((goAt p_f.x p_k).bind fun e_10 => ((goAt e_10 (w64 (p_v - (goLen p_f.rows)))).bind fun e_13 => ((goAt p_f.t.Lo p_k).bind fun e_15 => ((goAt e_15 (w64 (p_v - (goLen p_f.rows)))).bind fun e_18 => some (w64 (e_13 - e_18)))))) (some 0)))))

noncomputable def spec_l1Least (p_a : Int) (p_b : Int) : Option (Int) :=
  (cond (decide (p_a < p_b)) (some p_a) (some p_b))

noncomputable def spec_tFill_push_l1 (p_f : spec_tFill) (p_from : List Int) : Int × Int → Option (Stp (Int × Int) (Int × Int))
  | (most_11, start_12) => ((goAt p_from start_12).bind fun e_13 => (cond (decide (0 ≤ e_13)) ((goAt p_from start_12).bind fun e_15 => ((spec_tFill_room p_f e_15 start_12).bind fun t_18 => ((spec_l1Least most_11 t_18).bind fun t_19 => ((goAt p_from start_12).bind fun e_20 => some (.next (t_19, e_20)))))) (some (.done (most_11, start_12)))))

noncomputable def spec_tFill_push_l2 (p_f : spec_tFill) (p_from : List Int) (t_26 : Int) : Int × spec_tFill → Option (Stp (Int × spec_tFill) (spec_tFill))
  | (v_27, p_f_28) => ((goAt p_from v_27).bind fun e_36 => (cond (decide (0 ≤ e_36)) (((cond (decide ((goLen p_f.rows) ≤ v_27)) ((goAt p_from v_27).bind fun e_38 => ((goAt p_f_28.x e_38).bind fun e_40 => ((goAt e_40 (w64 (v_27 - (goLen p_f.rows)))).bind fun e_42 => ((goAt e_40 (w64 (v_27 - (goLen p_f.rows)))).bind fun e_44 => some (spec_tFill.mk p_f_28.t (goSet p_f_28.x e_38 (goSet e_40 (w64 (v_27 - (goLen p_f.rows))) (w64 (e_42 + t_26)))) p_f_28.rows p_f_28.cols))))) ((goAt p_f_28.x v_27).bind fun e_38 => ((goAt p_from v_27).bind fun e_40 => ((goAt e_38 (w64 (e_40 - (goLen p_f.rows)))).bind fun e_42 => ((goAt e_38 (w64 (e_40 - (goLen p_f.rows)))).bind fun e_44 => some (spec_tFill.mk p_f_28.t (goSet p_f_28.x v_27 (goSet e_38 (w64 (e_40 - (goLen p_f.rows))) (w64 (e_42 - t_26)))) p_f_28.rows p_f_28.cols)))))) : Option (spec_tFill)).bind fun p_f_47 => ((goAt p_from v_27).bind fun e_55 => some (.next (e_55, p_f_47)))) (some (.done p_f_28))))

noncomputable def spec_tFill_push (p_f : spec_tFill) (p_from : List Int) (p_end : Int) : Option (spec_tFill) :=
  ((goAt p_f.cols (w64 (p_end - (goLen p_f.rows)))).bind fun e_9 => ((loopC (spec_tFill_push_l1 p_f p_from) (e_9, p_end)).bind fun (most_22, start_23) => ((goAt p_f.rows start_23).bind fun e_24 => ((spec_l1Least most_22 e_24).bind fun t_26 => ((loopC (spec_tFill_push_l2 p_f p_from t_26) (p_end, p_f)).bind fun p_f_57 => ((goAt p_f_57.rows start_23).bind fun e_65 => ((goAt p_f_57.rows start_23).bind fun e_67 => ((goAt p_f_57.cols (w64 (p_end - (goLen p_f.rows)))).bind fun e_70 => ((goAt p_f_57.cols (w64 (p_end - (goLen p_f.rows)))).bind fun e_72 => some (spec_tFill.mk p_f_57.t p_f_57.x (goSet p_f_57.rows start_23 (w64 (e_65 - t_26))) (goSet p_f_57.cols (w64 (p_end - (goLen p_f.rows))) (w64 (e_70 - t_26)))))))))))))

noncomputable def spec_tFill_augment_l1 (p_f : spec_tFill) (l_8 : List Int) : (List Int) × (List Int) × Int → Option (Stp ((List Int) × (List Int) × Int) ((List Int) × (List Int)))
  | (from_10, queue_12, t_14) => (cond (decide (t_14 < (goLen l_8))) ((goAt from_10 t_14).bind fun e_15 => (((cond (decide (t_14 < (goLen p_f.rows))) ((goAt p_f.rows t_14).bind fun e_18 => some (decide (0 < e_18))) (some false)) : Option (Bool)).bind fun t_20 => (((cond t_20 ((goAt (goSet from_10 t_14 (-2)) t_14).bind fun e_21 => ((goApp 8 queue_12 ([t_14] : List Int)).bind fun l_25 => some (goSet (goSet from_10 t_14 (-2)) t_14 (-1), l_25))) (some (goSet from_10 t_14 (-2), queue_12))) : Option ((List Int) × (List Int))).bind fun (from_27, queue_29) => some (.next (from_27, queue_29, (w64 (t_14 + 1))))))) (some (.done (from_10, queue_12))))

noncomputable def spec_tFill_augment_l3 (p_f : spec_tFill) (e_40 : Int) : (List Int) × (List Int) × Int → Option (Stp ((List Int) × (List Int) × Int) ((List Int) × (List Int)))
  | (from_45, queue_47, k_49) => (cond (decide (k_49 < (w64 ((goLen p_f.rows) + (goLen p_f.cols))))) ((((goAt from_45 k_49).bind fun e_50 => (cond (e_50 == (-2)) ((spec_tFill_room p_f e_40 k_49).bind fun t_53 => some (decide (0 < t_53))) (some false))) : Option (Bool)).bind fun t_54 => (((cond t_54 ((goAt from_45 k_49).bind fun e_55 => ((goApp 8 queue_47 ([k_49] : List Int)).bind fun l_59 => some (goSet from_45 k_49 e_40, l_59))) (some (from_45, queue_47))) : Option ((List Int) × (List Int))).bind fun (from_61, queue_63) => some (.next (from_61, queue_63, (w64 (k_49 + 1)))))) (some (.done (from_45, queue_47))))

noncomputable def spec_tFill_augment_l2 (p_f : spec_tFill) : (List Int) × (List Int) × Int → Option (Stp ((List Int) × (List Int) × Int) ((Unit) ⊕ (Bool × spec_tFill)))
  | (from_35, queue_37, at_39) => (cond (decide (at_39 < (goLen queue_37))) ((goAt queue_37 at_39).bind fun e_40 => (((cond (decide ((goLen p_f.rows) ≤ e_40)) ((goAt p_f.cols (w64 (e_40 - (goLen p_f.rows)))).bind fun e_42 => some (decide (0 < e_42))) (some false)) : Option (Bool)).bind fun t_44 => (cond t_44 ((spec_tFill_push p_f from_35 e_40).bind fun t_46 => some (.done (.inr (true, t_46)))) ((loopC (spec_tFill_augment_l3 p_f e_40) (from_35, queue_37, 0)).bind fun (from_65, queue_67) => some (.next (from_65, queue_67, (w64 (at_39 + 1)))))))) (some (.done (.inl ()))))

noncomputable def spec_tFill_augment (p_f : spec_tFill) : Option (Bool × spec_tFill) :=
  ((goMake 8 (w64 ((goLen p_f.rows) + (goLen p_f.cols))) (0 : Int)).bind fun l_8 => ((loopC (spec_tFill_augment_l1 p_f l_8) (l_8, ([] : List Int), 0)).bind fun (from_31, queue_33) => ((loopC (spec_tFill_augment_l2 p_f) (from_31, queue_33, 0)).bind fun | .inl () => some (false, p_f) | .inr o => some o)))

noncomputable def spec_tFilled_l1  (f_16 : spec_tFill) : Option (Stp (spec_tFill) (spec_tFill)) :=
  ((spec_tFill_augment f_16).bind fun t_25 => (cond t_25.1 (some (.next t_25.2)) (some (.done t_25.2))))

noncomputable def spec_tFilled (p_t : impl_Transport) : Option (spec_tFill × Bool) :=
  ((spec_tStart p_t).bind fun t_6 => (cond (!t_6.2) (some (t_6.1, false)) ((loopC (spec_tFilled_l1) t_6.1).bind fun f_33 => some (f_33, true))))

noncomputable def spec_tFeasible (p_t : impl_Transport) : Option ((List (List Int)) × Bool) :=
  ((spec_tSum p_t.Rows).bind fun t_8 => ((spec_tSum p_t.Cols).bind fun t_9 => (cond (t_8 != t_9) (some (([] : List (List Int)), false)) ((spec_tFilled p_t).bind fun t_10 => (((cond (!t_10.2) (some true) ((spec_tSum t_10.1.rows).bind fun t_20 => some (decide (0 < t_20)))) : Option (Bool)).bind fun t_22 => (cond t_22 (some (([] : List (List Int)), false)) (some (t_10.1.x, true))))))))

noncomputable def spec_tWith (p_t : impl_Transport) (p_i : Int) (p_j : Int) (p_lo : Int) (p_hi : Int) : Option (impl_Transport) :=
  ((((spec_tOwn p_t.Lo).bind fun t_16 => ((spec_tOwn p_t.Hi).bind fun t_19 => some (impl_Transport.mk p_t.Rows p_t.Cols t_16 t_19))) : Option (impl_Transport)).bind fun out_23 => ((goAt out_23.Lo p_i).bind fun e_28 => ((goAt e_28 p_j).bind fun e_30 => ((goAt out_23.Hi p_i).bind fun e_33 => ((goAt e_33 p_j).bind fun e_35 => some (impl_Transport.mk out_23.Rows out_23.Cols (goSet out_23.Lo p_i (goSet e_28 p_j p_lo)) (goSet out_23.Hi p_i (goSet e_33 p_j p_hi))))))))

noncomputable def spec_tLow_l1 (p_t : impl_Transport) (p_i : Int) (p_j : Int) : Int × Int → Option (Stp (Int × Int) (Int))
  | (lo_16, hi_17) => (cond (decide (lo_16 < hi_17)) ((goQuo .i64 (w64 (lo_16 + hi_17)) 2).bind fun t_19 => ((goAt p_t.Lo p_i).bind fun e_20 => ((goAt e_20 p_j).bind fun e_23 => ((spec_tWith p_t p_i p_j e_23 t_19).bind fun t_25 => ((spec_tFeasible t_25).bind fun t_33 => (((cond t_33.2 (some (lo_16, t_19)) (some ((w64 (t_19 + 1)), hi_17))) : Option (Int × Int)).bind fun (lo_36, hi_37) => some (.next (lo_36, hi_37)))))))) (some (.done lo_16)))

noncomputable def spec_tLow (p_t : impl_Transport) (p_i : Int) (p_j : Int) : Option (Int) :=
  ((goAt p_t.Lo p_i).bind fun e_6 => ((goAt e_6 p_j).bind fun e_9 => ((goAt p_t.Hi p_i).bind fun e_11 => ((goAt e_11 p_j).bind fun e_14 => ((loopC (spec_tLow_l1 p_t p_i p_j) (e_9, e_14)).bind fun lo_38 => some lo_38)))))

noncomputable def spec_tFirst_l2 (t_9 : Int) (t_10 : impl_Transport) : Int × impl_Transport → Option (Stp (Int × impl_Transport) (impl_Transport))
  | (t_16, t_17) => (cond (decide (t_16 < (goLen t_10.Cols))) ((spec_tLow t_17 t_9 t_16).bind fun t_23 => ((spec_tWith t_17 t_9 t_16 t_23 t_23).bind fun t_24 => some (.next ((w64 (t_16 + 1)), t_24)))) (some (.done t_17)))

noncomputable def spec_tFirst_l1 (p_t : impl_Transport) : Int × impl_Transport → Option (Stp (Int × impl_Transport) (impl_Transport))
  | (t_9, t_10) => (cond (decide (t_9 < (goLen p_t.Rows))) ((loopC (spec_tFirst_l2 t_9 t_10) (0, t_10)).bind fun t_30 => some (.next ((w64 (t_9 + 1)), t_30))) (some (.done t_10)))

noncomputable def spec_tFirst (p_t : impl_Transport) : Option ((List (List Int)) × Bool) :=
  ((spec_tFeasible p_t).bind fun t_6 => (cond (!t_6.2) (some (([] : List (List Int)), false)) ((loopC (spec_tFirst_l1 p_t) (0, p_t)).bind fun t_36 => ((spec_tOwn t_36.Lo).bind fun t_42 => some (t_42, true)))))

noncomputable def spec_FirstFlow (p_t : impl_Transport) : Option ((List (List Int)) × Bool) :=
  ((spec_tGood p_t).bind fun t_6 => (cond (!t_6) (some (([] : List (List Int)), false)) ((spec_tFirst p_t).bind fun t_7 => some (t_7.1, t_7.2))))

noncomputable def laws_sameInts_l1 (p_a : List Int) (p_b : List Int) (t_3 : Int) : Option (Stp (Int) ((Unit) ⊕ (Bool))) :=
  (cond (decide (t_3 < (goLen p_a))) ((goAt p_a t_3).bind fun e_4 => ((goAt p_b t_3).bind fun e_6 => (cond (e_4 != e_6) (some (.done (.inr false))) (some (.next (w64 (t_3 + 1))))))) (some (.done (.inl ()))))

noncomputable def laws_sameInts (p_a : List Int) (p_b : List Int) : Option (Bool) :=
  (cond ((goLen p_a) != (goLen p_b)) (some false) ((loopC (laws_sameInts_l1 p_a p_b) 0).bind fun | .inl () => some true | .inr o => some o))

noncomputable def laws_sameLists_l1 (p_a : List (List Int)) (p_b : List (List Int)) (t_3 : Int) : Option (Stp (Int) ((Unit) ⊕ (Bool))) :=
  (cond (decide (t_3 < (goLen p_a))) ((goAt p_a t_3).bind fun e_4 => ((goAt p_b t_3).bind fun e_7 => ((laws_sameInts e_4 e_7).bind fun t_10 => (cond (!t_10) (some (.done (.inr false))) (some (.next (w64 (t_3 + 1)))))))) (some (.done (.inl ()))))

noncomputable def laws_sameLists (p_a : List (List Int)) (p_b : List (List Int)) : Option (Bool) :=
  (cond ((goLen p_a) != (goLen p_b)) (some false) ((loopC (laws_sameLists_l1 p_a p_b) 0).bind fun | .inl () => some true | .inr o => some o))

noncomputable def impl_HasFlow (p_t : impl_Transport) : Option (Bool × Bool) :=
  ((impl_IsTransport p_t).bind fun t_6 => (cond (!t_6) (some (false, false)) ((impl_anyFlow p_t).bind fun t_7 => some (!t_7.isEmpty, true))))

noncomputable def impl_IsFlow_l2 (p_t : impl_Transport) (t_9 : Int) (e_10 : List Int) (t_13 : Int) : Option (Stp (Int) ((Unit) ⊕ (Stp (Int) ((Unit) ⊕ (Bool × Bool))))) :=
  (cond (decide (t_13 < (goLen e_10))) ((goAt e_10 t_13).bind fun e_14 => ((((goAt p_t.Lo t_9).bind fun e_16 => ((goAt e_16 t_13).bind fun e_19 => (cond (decide (e_14 < e_19)) (some true) ((goAt p_t.Hi t_9).bind fun e_21 => ((goAt e_21 t_13).bind fun e_24 => some (decide (e_24 < e_14))))))) : Option (Bool)).bind fun t_26 => (cond t_26 (some (.done (.inr (.done (.inr (false, true)))))) (some (.next (w64 (t_13 + 1))))))) (some (.done (.inl ()))))

noncomputable def impl_IsFlow_l1 (p_t : impl_Transport) (p_x : List (List Int)) (t_9 : Int) : Option (Stp (Int) ((Unit) ⊕ (Bool × Bool))) :=
  (cond (decide (t_9 < (goLen p_x))) ((goAt p_x t_9).bind fun e_10 => ((loopC (impl_IsFlow_l2 p_t t_9 e_10) 0).bind fun | .inl () => some (.next (w64 (t_9 + 1))) | .inr o => some o)) (some (.done (.inl ()))))

noncomputable def impl_IsFlow (p_t : impl_Transport) (p_x : List (List Int)) : Option (Bool × Bool) :=
  ((impl_IsTransport p_t).bind fun t_7 => (cond (!t_7) (some (false, false)) ((impl_hasShape p_x (goLen p_t.Rows) (goLen p_t.Cols)).bind fun t_8 => (cond (!t_8) (some (false, true)) ((loopC (impl_IsFlow_l1 p_t p_x) 0).bind fun | .inl () => ((((impl_rowSums p_x).bind fun t_33 => ((slices_Equal_int_int t_33 p_t.Rows).bind fun t_36 => (cond t_36 ((impl_colSums p_x).bind fun t_44 => ((slices_Equal_int_int t_44 p_t.Cols).bind fun t_47 => some t_47)) (some false)))) : Option (Bool)).bind fun t_49 => some (t_49, true)) | .inr o => some o)))))

noncomputable def impl_nextFlow_l1 (p_t : impl_Transport) (p_x : List (List Int)) (p_7 : Int) : Option (Stp (Int) ((Unit) ⊕ ((List (List Int))))) :=
  (cond (decide (0 ≤ p_7)) ((((goQuo .i64 p_7 (goLen p_t.Cols)).bind fun t_8 => ((goRem p_7 (goLen p_t.Cols)).bind fun t_9 => ((goAt p_x t_8).bind fun e_10 => ((goAt e_10 t_9).bind fun e_13 => ((goAt p_t.Hi t_8).bind fun e_15 => ((goAt e_15 t_9).bind fun e_18 => (cond (e_13 == e_18) (some (.inl ())) ((impl_residual p_t p_x p_7).bind fun t_20 => ((impl_push t_20 (w64 ((goLen p_t.Rows) + t_9)) t_8 1).bind fun t_24 => (cond (t_24.1 == 0) (some (.inl ())) ((impl_restore p_t p_x t_24.2 p_7).bind fun t_26 => ((goAt t_26 t_8).bind fun e_30 => ((goAt e_30 t_9).bind fun e_32 => ((goAt e_30 t_9).bind fun e_34 => ((impl_firstFrom p_t (goSet t_26 t_8 (goSet e_30 t_9 (w64 (e_32 + 1)))) p_7).bind fun t_38 => some (.inr (.done (.inr t_38)))))))))))))))))) : Option ((Unit) ⊕ (Stp (Int) ((Unit) ⊕ ((List (List Int))))))).bind fun | .inl () => some (.next (w64 (p_7 - 1))) | .inr o => some o) (some (.done (.inl ()))))

noncomputable def impl_nextFlow (p_t : impl_Transport) (p_x : List (List Int)) : Option ((List (List Int))) :=
  ((loopC (impl_nextFlow_l1 p_t p_x) (w64 ((w64 ((goLen p_t.Rows) * (goLen p_t.Cols))) - 1))).bind fun | .inl () => some ([] : List (List Int)) | .inr o => some o)

noncomputable def impl_NextFlow (p_t : impl_Transport) (p_x : List (List Int)) : Option ((List (List Int)) × Bool) :=
  ((impl_IsFlow p_t p_x).bind fun t_7 => (((cond (!t_7.1) (some true) (some (!t_7.2))) : Option (Bool)).bind fun t_8 => (cond t_8 (some (([] : List (List Int)), false)) ((impl_nextFlow p_t p_x).bind fun t_9 => some (t_9, !t_9.isEmpty)))))

noncomputable def spec_tFits_l2 (p_t : impl_Transport) (t_8 : Int) (e_9 : List Int) (t_12 : Int) : Option (Stp (Int) ((Unit) ⊕ (Stp (Int) ((Unit) ⊕ (Bool))))) :=
  (cond (decide (t_12 < (goLen e_9))) ((goAt e_9 t_12).bind fun e_13 => ((goAt p_t.Lo t_8).bind fun e_15 => ((goAt e_15 t_12).bind fun e_18 => ((goAt p_t.Hi t_8).bind fun e_20 => ((goAt e_20 t_12).bind fun e_23 => ((spec_l1In e_13 e_18 e_23).bind fun t_25 => (cond (!t_25) (some (.done (.inr (.done (.inr false))))) (some (.next (w64 (t_12 + 1))))))))))) (some (.done (.inl ()))))

noncomputable def spec_tFits_l1 (p_t : impl_Transport) (p_x : List (List Int)) (t_8 : Int) : Option (Stp (Int) ((Unit) ⊕ (Bool))) :=
  (cond (decide (t_8 < (goLen p_x))) ((goAt p_x t_8).bind fun e_9 => ((loopC (spec_tFits_l2 p_t t_8 e_9) 0).bind fun | .inl () => ((goAt p_t.Rows t_8).bind fun e_30 => ((spec_tSum e_9).bind fun t_33 => (cond (t_33 != e_30) (some (.done (.inr false))) (some (.next (w64 (t_8 + 1))))))) | .inr o => some o)) (some (.done (.inl ()))))

noncomputable def spec_tFits_l3 (p_t : impl_Transport) (p_x : List (List Int)) (t_34 : Int) : Option (Stp (Int) ((Unit) ⊕ (Bool))) :=
  (cond (decide (t_34 < (goLen p_t.Cols))) ((goAt p_t.Cols t_34).bind fun e_35 => ((spec_tColumn p_x t_34).bind fun t_37 => ((spec_tSum t_37).bind fun t_40 => (cond (t_40 != e_35) (some (.done (.inr false))) (some (.next (w64 (t_34 + 1)))))))) (some (.done (.inl ()))))

noncomputable def spec_tFits (p_t : impl_Transport) (p_x : List (List Int)) : Option (Bool) :=
  ((spec_tSize p_t p_x).bind fun t_7 => (cond (!t_7) (some false) ((loopC (spec_tFits_l1 p_t p_x) 0).bind fun | .inl () => ((loopC (spec_tFits_l3 p_t p_x) 0).bind fun | .inl () => some true | .inr o => some o) | .inr o => some o)))

noncomputable def spec_tNext_l2 (p_t : impl_Transport) (p_x : List (List Int)) (k_7 : Int) : Int × impl_Transport → Option (Stp (Int × impl_Transport) (impl_Transport))
  | (b_50, u_51) => (cond (decide (b_50 < k_7)) ((goQuo .i64 b_50 (goLen p_t.Cols)).bind fun t_56 => ((goAt u_51.Lo t_56).bind fun e_57 => ((goRem b_50 (goLen p_t.Cols)).bind fun t_59 => ((goQuo .i64 b_50 (goLen p_t.Cols)).bind fun t_60 => ((goAt p_x t_60).bind fun e_61 => ((goRem b_50 (goLen p_t.Cols)).bind fun t_64 => ((goAt e_61 t_64).bind fun e_65 => ((goAt e_57 t_59).bind fun e_67 => ((goQuo .i64 b_50 (goLen p_t.Cols)).bind fun t_70 => ((goAt u_51.Hi t_70).bind fun e_71 => ((goRem b_50 (goLen p_t.Cols)).bind fun t_73 => ((goQuo .i64 b_50 (goLen p_t.Cols)).bind fun t_74 => ((goAt p_x t_74).bind fun e_75 => ((goRem b_50 (goLen p_t.Cols)).bind fun t_78 => ((goAt e_75 t_78).bind fun e_79 => ((goAt e_71 t_73).bind fun e_81 => some (.next ((w64 (b_50 + 1)), (impl_Transport.mk u_51.Rows u_51.Cols (goSet u_51.Lo t_56 (goSet e_57 t_59 e_65)) (goSet u_51.Hi t_70 (goSet e_71 t_73 e_79))))))))))))))))))))) (some (.done u_51)))

noncomputable def spec_tNext_l1 (p_t : impl_Transport) (p_x : List (List Int)) (k_7 : Int) : Option (Stp (Int) ((Unit) ⊕ ((List (List Int)) × Bool))) :=
  (cond (decide (0 ≤ k_7)) ((((goQuo .i64 k_7 (goLen p_t.Cols)).bind fun t_9 => ((goRem k_7 (goLen p_t.Cols)).bind fun t_10 => ((goAt p_x t_9).bind fun e_11 => ((goAt e_11 t_10).bind fun e_14 => ((goAt p_t.Hi t_9).bind fun e_16 => ((goAt e_16 t_10).bind fun e_19 => (cond (e_14 == e_19) (some (.inl ())) ((((goAt p_x t_9).bind fun e_21 => ((goAt e_21 t_10).bind fun e_24 => ((goAt p_t.Hi t_9).bind fun e_26 => ((goAt e_26 t_10).bind fun e_29 => ((spec_tWith p_t t_9 t_10 (w64 (e_24 + 1)) e_29).bind fun t_37 => some t_37))))) : Option (impl_Transport)).bind fun u_44 => ((loopC (spec_tNext_l2 p_t p_x k_7) (0, u_44)).bind fun u_84 => ((spec_tFirst u_84).bind fun t_91 => (cond t_91.2 (some (.inr (.done (.inr (t_91.1, true))))) (some (.inl ()))))))))))))) : Option ((Unit) ⊕ (Stp (Int) ((Unit) ⊕ ((List (List Int)) × Bool))))).bind fun | .inl () => some (.next (w64 (k_7 - 1))) | .inr o => some o) (some (.done (.inl ()))))

noncomputable def spec_tNext (p_t : impl_Transport) (p_x : List (List Int)) : Option ((List (List Int)) × Bool) :=
  ((loopC (spec_tNext_l1 p_t p_x) (w64 ((w64 ((goLen p_t.Rows) * (goLen p_t.Cols))) - 1))).bind fun | .inl () => some (([] : List (List Int)), false) | .inr o => some o)

noncomputable def spec_NextFlow (p_t : impl_Transport) (p_x : List (List Int)) : Option ((List (List Int)) × Bool) :=
  ((((spec_tGood p_t).bind fun t_7 => (cond (!t_7) (some true) ((spec_tFits p_t p_x).bind fun t_8 => some (!t_8)))) : Option (Bool)).bind fun t_9 => (cond t_9 (some (([] : List (List Int)), false)) ((spec_tNext p_t p_x).bind fun t_10 => some (t_10.1, t_10.2))))

noncomputable def laws_pBefore_l2 (p_a : List (List Int)) (p_b : List (List Int)) (t_3 : Int) (e_4 : List Int) (t_7 : Int) : Option (Stp (Int) ((Unit) ⊕ (Stp (Int) ((Unit) ⊕ (Bool))))) :=
  (cond (decide (t_7 < (goLen e_4))) ((goAt p_a t_3).bind fun e_8 => ((goAt e_8 t_7).bind fun e_11 => ((goAt p_b t_3).bind fun e_13 => ((goAt e_13 t_7).bind fun e_16 => (cond (e_11 != e_16) ((goAt p_a t_3).bind fun e_18 => ((goAt e_18 t_7).bind fun e_21 => ((goAt p_b t_3).bind fun e_23 => ((goAt e_23 t_7).bind fun e_26 => some (.done (.inr (.done (.inr (decide (e_21 < e_26)))))))))) (some (.next (w64 (t_7 + 1))))))))) (some (.done (.inl ()))))

noncomputable def laws_pBefore_l1 (p_a : List (List Int)) (p_b : List (List Int)) (t_3 : Int) : Option (Stp (Int) ((Unit) ⊕ (Bool))) :=
  (cond (decide (t_3 < (goLen p_a))) ((goAt p_a t_3).bind fun e_4 => ((loopC (laws_pBefore_l2 p_a p_b t_3 e_4) 0).bind fun | .inl () => some (.next (w64 (t_3 + 1))) | .inr o => some o)) (some (.done (.inl ()))))

noncomputable def laws_pBefore (p_a : List (List Int)) (p_b : List (List Int)) : Option (Bool) :=
  ((loopC (laws_pBefore_l1 p_a p_b) 0).bind fun | .inl () => some false | .inr o => some o)

noncomputable def spec_DrawFindCut (p_code : List (K .u8)) : Option (impl_Transport) :=
  ((spec_DrawIsTransport p_code).bind fun t_3 => some t_3)

noncomputable def impl_membersOf_l1 (p_mask : Int) : (List Int) × Int → Option (Stp ((List Int) × Int) ((List Int)))
  | (out_1, i_3) => ((goShr .i64 p_mask i_3).bind fun t_4 => (cond (t_4 != 0) ((goShr .i64 p_mask i_3).bind fun t_5 => (((cond ((goBits .and .i64 t_5 1) == 1) ((goApp 8 out_1 ([i_3] : List Int)).bind fun l_7 => some l_7) (some out_1)) : Option ((List Int))).bind fun out_9 => some (.next (out_9, (w64 (i_3 + 1)))))) (some (.done out_1))))

noncomputable def impl_membersOf (p_mask : Int) : Option ((List Int)) :=
  ((loopC (impl_membersOf_l1 p_mask) (([] : List Int), 0)).bind fun out_11 => some out_11)

noncomputable def slices_Index_int_int_l1 (p_s : List Int) (p_v : Int) (t_2 : Int) : Option (Stp (Int) ((Unit) ⊕ (Int))) :=
  (cond (decide (t_2 < (goLen p_s))) ((goAt p_s t_2).bind fun e_3 => (cond (p_v == e_3) (some (.done (.inr t_2))) (some (.next (w64 (t_2 + 1)))))) (some (.done (.inl ()))))

noncomputable def slices_Index_int_int (p_s : List Int) (p_v : Int) : Option (Int) :=
  ((loopC (slices_Index_int_int_l1 p_s p_v) 0).bind fun | .inl () => some (-1) | .inr o => some o)

noncomputable def slices_Contains_int_int (p_s : List Int) (p_v : Int) : Option (Bool) :=
  ((slices_Index_int_int p_s p_v).bind fun t_2 => some (decide (0 ≤ t_2)))

noncomputable def impl_colsFor_l2 (p_t : impl_Transport) (p_rows : List Int) (t_9 : Int) : Int × Int × Int → Option (Stp (Int × Int × Int) (Int × Int))
  | (sum_12, own_13, t_14) => (cond (decide (t_14 < (goLen p_t.Rows))) ((slices_Contains_int_int p_rows t_14).bind fun t_15 => (((cond t_15 ((goAt p_t.Hi t_14).bind fun e_16 => ((goAt e_16 t_9).bind fun e_19 => some (sum_12, (w64 (own_13 + e_19))))) ((goAt p_t.Lo t_14).bind fun e_16 => ((goAt e_16 t_9).bind fun e_19 => some ((w64 (sum_12 - e_19)), own_13)))) : Option (Int × Int)).bind fun (sum_21, own_22) => some (.next (sum_21, own_22, (w64 (t_14 + 1)))))) (some (.done (sum_12, own_13))))

noncomputable def impl_colsFor_l1 (p_t : impl_Transport) (p_rows : List Int) : (List Int) × Int → Option (Stp ((List Int) × Int) ((List Int)))
  | (cols_7, t_9) => (cond (decide (t_9 < (goLen p_t.Cols))) ((goAt p_t.Cols t_9).bind fun e_10 => ((loopC (impl_colsFor_l2 p_t p_rows t_9) (e_10, 0, 0)).bind fun (sum_23, own_24) => (((cond (decide (sum_23 < own_24)) ((goApp 8 cols_7 ([t_9] : List Int)).bind fun l_26 => some l_26) (some cols_7)) : Option ((List Int))).bind fun cols_28 => some (.next (cols_28, (w64 (t_9 + 1))))))) (some (.done cols_7)))

noncomputable def impl_colsFor (p_t : impl_Transport) (p_rows : List Int) : Option ((List Int)) :=
  ((loopC (impl_colsFor_l1 p_t p_rows) (([] : List Int), 0)).bind fun cols_30 => some cols_30)

noncomputable def impl_isCut_l2 (p_t : impl_Transport) (p_cols : List Int) (t_10 : Int) (t_13 : Bool) : Int × Int → Option (Stp (Int × Int) (Int))
  | (right_15, t_16) => (cond (decide (t_16 < (goLen p_t.Cols))) ((slices_Contains_int_int p_cols t_16).bind fun t_17 => (((cond t_13 (some (!t_17)) (some false)) : Option (Bool)).bind fun t_18 => (((cond t_18 ((goAt p_t.Hi t_10).bind fun e_19 => ((goAt e_19 t_16).bind fun e_22 => some (w64 (right_15 + e_22)))) (((cond (!t_13) (some t_17) (some false)) : Option (Bool)).bind fun t_19 => (((cond t_19 ((goAt p_t.Lo t_10).bind fun e_20 => ((goAt e_20 t_16).bind fun e_23 => some (w64 (right_15 - e_23)))) (some right_15)) : Option (Int)).bind fun right_25 => some right_25))) : Option (Int)).bind fun right_26 => some (.next (right_26, (w64 (t_16 + 1))))))) (some (.done right_15)))

noncomputable def impl_isCut_l1 (p_t : impl_Transport) (p_rows : List Int) (p_cols : List Int) : Int × Int × Int → Option (Stp (Int × Int × Int) (Int × Int))
  | (left_8, right_9, t_10) => (cond (decide (t_10 < (goLen p_t.Rows))) ((goAt p_t.Rows t_10).bind fun e_11 => ((slices_Contains_int_int p_rows t_10).bind fun t_13 => (((cond t_13 (some (w64 (left_8 + e_11))) (some left_8)) : Option (Int)).bind fun left_14 => ((loopC (impl_isCut_l2 p_t p_cols t_10 t_13) (right_9, 0)).bind fun right_27 => some (.next (left_14, right_27, (w64 (t_10 + 1)))))))) (some (.done (left_8, right_9))))

noncomputable def impl_isCut_l3 (p_t : impl_Transport) (p_cols : List Int) : Int × Int → Option (Stp (Int × Int) (Int))
  | (right_30, t_31) => (cond (decide (t_31 < (goLen p_cols))) ((goAt p_cols t_31).bind fun e_32 => ((goAt p_t.Cols e_32).bind fun e_34 => some (.next ((w64 (right_30 + e_34)), (w64 (t_31 + 1)))))) (some (.done right_30)))

noncomputable def impl_isCut (p_t : impl_Transport) (p_rows : List Int) (p_cols : List Int) : Option (Bool) :=
  ((loopC (impl_isCut_l1 p_t p_rows p_cols) (0, 0, 0)).bind fun (left_28, right_29) => ((loopC (impl_isCut_l3 p_t p_cols) (right_29, 0)).bind fun right_36 => some (decide (right_36 < left_28))))

noncomputable def impl_FindCut_l1 (p_t : impl_Transport) (t_15 : Int) (t_16 : Int) : Option (Stp (Int) ((Unit) ⊕ ((List Int) × (List Int) × Bool))) :=
  (cond (decide (t_16 < t_15)) ((impl_membersOf t_16).bind fun t_17 => ((impl_colsFor p_t t_17).bind fun t_20 => ((impl_isCut p_t t_17 t_20).bind fun t_24 => (cond t_24 (some (.done (.inr (t_17, t_20, true)))) (some (.next (w64 (t_16 + 1)))))))) (some (.done (.inl ()))))

noncomputable def impl_FindCut (p_t : impl_Transport) : Option ((List Int) × (List Int) × Bool) :=
  ((((impl_IsTransport p_t).bind fun t_6 => (cond (!t_6) (some true) ((impl_total p_t.Rows).bind fun t_9 => ((impl_total p_t.Cols).bind fun t_10 => (cond (t_9 != t_10) (some true) ((impl_anyFlow p_t).bind fun t_11 => some (!t_11.isEmpty))))))) : Option (Bool)).bind fun t_14 => (cond t_14 (some (([] : List Int), ([] : List Int), false)) ((goShl .i64 1 (goLen p_t.Rows)).bind fun t_15 => ((loopC (impl_FindCut_l1 p_t t_15) 0).bind fun | .inl () => some (([] : List Int), ([] : List Int), false) | .inr o => some o))))

noncomputable def spec_l1Has_l1 (p_l : List Int) (p_n : Int) (t_2 : Int) : Option (Stp (Int) ((Unit) ⊕ (Bool))) :=
  (cond (decide (t_2 < (goLen p_l))) ((goAt p_l t_2).bind fun e_3 => (cond (e_3 == p_n) (some (.done (.inr true))) (some (.next (w64 (t_2 + 1)))))) (some (.done (.inl ()))))

noncomputable def spec_l1Has (p_l : List Int) (p_n : Int) : Option (Bool) :=
  ((loopC (spec_l1Has_l1 p_l p_n) 0).bind fun | .inl () => some false | .inr o => some o)

noncomputable def spec_tColumns_l2 (p_t : impl_Transport) (p_rows : List Int) (t_9 : Int) : Int × Int × Int → Option (Stp (Int × Int × Int) (Int × Int))
  | (n_12, in_13, t_14) => (cond (decide (t_14 < (goLen p_t.Rows))) ((spec_l1Has p_rows t_14).bind fun t_15 => (((cond t_15 ((goAt p_t.Hi t_14).bind fun e_16 => ((goAt e_16 t_9).bind fun e_19 => some (n_12, (w64 (in_13 + e_19))))) ((goAt p_t.Lo t_14).bind fun e_16 => ((goAt e_16 t_9).bind fun e_19 => some ((w64 (n_12 - e_19)), in_13)))) : Option (Int × Int)).bind fun (n_21, in_22) => some (.next (n_21, in_22, (w64 (t_14 + 1)))))) (some (.done (n_12, in_13))))

noncomputable def spec_tColumns_l1 (p_t : impl_Transport) (p_rows : List Int) : (List Int) × Int → Option (Stp ((List Int) × Int) ((List Int)))
  | (out_7, t_9) => (cond (decide (t_9 < (goLen p_t.Cols))) ((goAt p_t.Cols t_9).bind fun e_10 => ((loopC (spec_tColumns_l2 p_t p_rows t_9) (e_10, 0, 0)).bind fun (n_23, in_24) => (((cond (decide (n_23 < in_24)) ((goApp 8 out_7 ([t_9] : List Int)).bind fun l_26 => some l_26) (some out_7)) : Option ((List Int))).bind fun out_28 => some (.next (out_28, (w64 (t_9 + 1))))))) (some (.done out_7)))

noncomputable def spec_tColumns (p_t : impl_Transport) (p_rows : List Int) : Option ((List Int)) :=
  ((loopC (spec_tColumns_l1 p_t p_rows) (([] : List Int), 0)).bind fun out_30 => some out_30)

noncomputable def spec_tCut_l1 (p_t : impl_Transport) (p_rows : List Int) : Int × Int → Option (Stp (Int × Int) (Int))
  | (left_8, t_9) => (cond (decide (t_9 < (goLen p_rows))) ((goAt p_rows t_9).bind fun e_10 => ((goAt p_t.Rows e_10).bind fun e_12 => some (.next ((w64 (left_8 + e_12)), (w64 (t_9 + 1)))))) (some (.done left_8)))

noncomputable def spec_tCut_l2 (p_t : impl_Transport) (p_cols : List Int) : Int × Int → Option (Stp (Int × Int) (Int))
  | (right_15, t_16) => (cond (decide (t_16 < (goLen p_cols))) ((goAt p_cols t_16).bind fun e_17 => ((goAt p_t.Cols e_17).bind fun e_19 => some (.next ((w64 (right_15 + e_19)), (w64 (t_16 + 1)))))) (some (.done right_15)))

noncomputable def spec_tCut_l4 (p_t : impl_Transport) (p_rows : List Int) (p_cols : List Int) (t_23 : Int) : Int × Int → Option (Stp (Int × Int) (Int))
  | (right_24, t_25) => (cond (decide (t_25 < (goLen p_t.Cols))) ((((spec_l1Has p_rows t_23).bind fun t_26 => (cond t_26 ((spec_l1Has p_cols t_25).bind fun t_27 => some (!t_27)) (some false))) : Option (Bool)).bind fun t_28 => (((cond t_28 ((goAt p_t.Hi t_23).bind fun e_29 => ((goAt e_29 t_25).bind fun e_32 => some (w64 (right_24 + e_32)))) (some right_24)) : Option (Int)).bind fun right_34 => ((((spec_l1Has p_rows t_23).bind fun t_35 => (cond (!t_35) ((spec_l1Has p_cols t_25).bind fun t_36 => some t_36) (some false))) : Option (Bool)).bind fun t_37 => (((cond t_37 ((goAt p_t.Lo t_23).bind fun e_38 => ((goAt e_38 t_25).bind fun e_41 => some (w64 (right_34 - e_41)))) (some right_34)) : Option (Int)).bind fun right_43 => some (.next (right_43, (w64 (t_25 + 1)))))))) (some (.done right_24)))

noncomputable def spec_tCut_l3 (p_t : impl_Transport) (p_rows : List Int) (p_cols : List Int) : Int × Int → Option (Stp (Int × Int) (Int))
  | (right_22, t_23) => (cond (decide (t_23 < (goLen p_t.Rows))) ((loopC (spec_tCut_l4 p_t p_rows p_cols t_23) (right_22, 0)).bind fun right_44 => some (.next (right_44, (w64 (t_23 + 1))))) (some (.done right_22)))

noncomputable def spec_tCut (p_t : impl_Transport) (p_rows : List Int) (p_cols : List Int) : Option (Bool) :=
  ((loopC (spec_tCut_l1 p_t p_rows) (0, 0)).bind fun left_14 => ((loopC (spec_tCut_l2 p_t p_cols) (0, 0)).bind fun right_21 => ((loopC (spec_tCut_l3 p_t p_rows p_cols) (right_21, 0)).bind fun right_45 => some (decide (right_45 < left_14)))))

noncomputable def spec_FindCut_l2 (p_t : impl_Transport) (set_12 : Int) : (List Int) × Int → Option (Stp ((List Int) × Int) ((List Int)))
  | (rows_14, t_16) => (cond (decide (t_16 < (goLen p_t.Rows))) ((goShr .i64 set_12 (IntKind.wrap .u64 t_16)).bind fun t_17 => (((cond ((goBits .and .i64 t_17 1) == 1) ((goApp 8 rows_14 ([t_16] : List Int)).bind fun l_19 => some l_19) (some rows_14)) : Option ((List Int))).bind fun rows_21 => some (.next (rows_21, (w64 (t_16 + 1)))))) (some (.done rows_14)))

noncomputable def spec_FindCut_l1 (p_t : impl_Transport) (set_12 : Int) : Option (Stp (Int) ((Unit) ⊕ ((List Int) × (List Int) × Bool))) :=
  ((goShl .i64 1 (IntKind.wrap .u64 (goLen p_t.Rows))).bind fun t_13 => (cond (decide (set_12 < t_13)) ((loopC (spec_FindCut_l2 p_t set_12) (([] : List Int), 0)).bind fun rows_23 => ((spec_tColumns p_t rows_23).bind fun t_25 => ((spec_tCut p_t rows_23 t_25).bind fun t_29 => (cond t_29 (some (.done (.inr (rows_23, t_25, true)))) (some (.next (w64 (set_12 + 1)))))))) (some (.done (.inl ())))))

noncomputable def spec_FindCut (p_t : impl_Transport) : Option ((List Int) × (List Int) × Bool) :=
  ((((spec_tGood p_t).bind fun t_6 => (cond (!t_6) (some true) ((spec_tSum p_t.Rows).bind fun t_9 => ((spec_tSum p_t.Cols).bind fun t_10 => some (t_9 != t_10))))) : Option (Bool)).bind fun t_11 => (cond t_11 (some (([] : List Int), ([] : List Int), false)) ((loopC (spec_FindCut_l1 p_t) 0).bind fun | .inl () => some (([] : List Int), ([] : List Int), false) | .inr o => some o)))

noncomputable def impl_areIndices_l1 (p_l : List Int) (p_n : Int) : Int × Int → Option (Stp (Int × Int) ((Unit) ⊕ (Bool)))
  | (last_2, t_3) => (cond (decide (t_3 < (goLen p_l))) ((goAt p_l t_3).bind fun e_4 => (((cond (decide (e_4 ≤ last_2)) (some true) (some (decide (p_n ≤ e_4)))) : Option (Bool)).bind fun t_6 => (cond t_6 (some (.done (.inr false))) (some (.next (e_4, (w64 (t_3 + 1)))))))) (some (.done (.inl ()))))

noncomputable def impl_areIndices (p_l : List Int) (p_n : Int) : Option (Bool) :=
  ((loopC (impl_areIndices_l1 p_l p_n) (-1, 0)).bind fun | .inl () => some true | .inr o => some o)

noncomputable def impl_CheckCut (p_t : impl_Transport) (p_rows : List Int) (p_cols : List Int) : Option (Bool × Bool) :=
  ((((impl_IsTransport p_t).bind fun t_8 => (cond (!t_8) (some true) ((impl_areIndices p_rows (goLen p_t.Rows)).bind fun t_9 => (cond (!t_9) (some true) ((impl_areIndices p_cols (goLen p_t.Cols)).bind fun t_10 => some (!t_10)))))) : Option (Bool)).bind fun t_11 => (cond t_11 (some (false, false)) ((impl_isCut p_t p_rows p_cols).bind fun t_12 => some (t_12, true))))

noncomputable def laws_pSum_l1 (p_l : List Int) : Int × Int → Option (Stp (Int × Int) (Int))
  | (sum_2, t_3) => (cond (decide (t_3 < (goLen p_l))) ((goAt p_l t_3).bind fun e_4 => some (.next ((w64 (sum_2 + e_4)), (w64 (t_3 + 1))))) (some (.done sum_2)))

noncomputable def laws_pSum (p_l : List Int) : Option (Int) :=
  ((loopC (laws_pSum_l1 p_l) (0, 0)).bind fun sum_6 => some sum_6)

noncomputable def laws_FnFlows (p_code : List (K .u8)) (p_more : List (K .u8)) : Option (Bool) :=
  ((laws_big p_code p_more).bind fun t_3 => (cond t_3 (some true) ((spec_DrawFirstFlow p_code).bind fun t_4 => ((impl_FirstFlow t_4).bind fun t_11 => ((spec_FirstFlow t_4).bind fun t_18 => (((cond (t_11.2 != t_18.2) (some true) ((laws_sameLists t_11.1 t_18.1).bind fun t_21 => some (!t_21))) : Option (Bool)).bind fun t_23 => (cond t_23 (some false) ((impl_HasFlow t_4).bind fun t_24 => (((cond t_24.2 (some (t_24.1 != t_11.2)) (some false)) : Option (Bool)).bind fun t_25 => (cond t_25 (some false) (((cond t_11.2 ((impl_IsFlow t_4 t_11.1).bind fun t_26 => ((impl_NextFlow t_4 t_11.1).bind fun t_28 => ((spec_NextFlow t_4 t_11.1).bind fun t_33 => (((cond (!t_26.2) (some true) (cond (!t_26.1) (some true) (cond (t_28.2 != t_33.2) (some true) ((laws_sameLists t_28.1 t_33.1).bind fun t_36 => (cond (!t_36) (some true) (cond t_33.2 ((laws_pBefore t_11.1 t_33.1).bind fun t_38 => some (!t_38)) (some false))))))) : Option (Bool)).bind fun t_40 => (cond t_40 (some (.inr false)) (some (.inl ()))))))) (some (.inl ()))) : Option ((Unit) ⊕ (Bool))).bind fun | .inl () => ((spec_DrawFindCut p_more).bind fun t_42 => ((impl_FindCut t_42).bind fun t_49 => ((spec_FindCut t_42).bind fun t_54 => (((cond (t_49.2.2 != t_54.2.2) (some true) ((laws_sameInts t_49.1 t_54.1).bind fun t_59 => (cond (!t_59) (some true) ((laws_sameInts t_49.2.1 t_54.2.1).bind fun t_61 => some (!t_61))))) : Option (Bool)).bind fun t_63 => (cond t_63 (some false) ((impl_HasFlow t_42).bind fun t_64 => (cond t_49.2.2 ((impl_CheckCut t_42 t_49.1 t_49.2.1).bind fun t_66 => (((cond t_64.2 (cond (!t_64.1) (cond t_66.2 (some t_66.1) (some false)) (some false)) (some false)) : Option (Bool)).bind fun t_68 => some t_68)) (((cond (!t_64.2) (some true) (cond t_64.1 (some true) ((laws_pSum t_42.Rows).bind fun t_70 => ((laws_pSum t_42.Cols).bind fun t_72 => some (t_70 != t_72))))) : Option (Bool)).bind fun t_74 => some t_74)))))))) | .inr o => some o)))))))))))

end Go.Gx.F
