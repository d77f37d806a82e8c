/- The plain functions that the walks come to. -/
import Derived.Test.YtdbgmkfniichdaaGx
namespace Go.Gx.F
open Go.Gx
set_option linter.all false

structure spec_l1Cur where
  code : List (K .u8)
  at_ : Int
  seed : K .u64

instance : Rep spec_l1Cur where
  wd := 3
  rd m cs x := ∃ s1 : Sl, cs = [s1.v, (.int .i64 x.at_), (.int .u64 x.seed.v)] ∧ Rd m s1 x.code
  mono hm h := by
    obtain ⟨s1, rfl, h1⟩ := h
    exact ⟨s1, rfl, h1.mono hm⟩
  len h := by obtain ⟨s1, rfl, _⟩ := h; rfl
  one h := by obtain ⟨s1, rfl, _⟩ := h; rfl

instance : Rng spec_l1Cur := ⟨fun x => Rng.ok x.code ∧ Rng.ok x.at_ ∧ Rng.ok x.seed⟩

structure impl_Frac where
  Num : Int
  Den : Int

instance : Rep impl_Frac where
  wd := 2
  rd m cs x := cs = [(.int .i64 x.Num), (.int .i64 x.Den)]
  mono _ h := h
  len h := by subst h; rfl
  one h := by subst h; rfl

instance : Flat impl_Frac := ⟨fun h => h⟩

instance : Rng impl_Frac := ⟨fun x => Rng.ok x.Num ∧ Rng.ok x.Den⟩

structure impl_Loss where
  Ratio : impl_Frac
  Rho : impl_Frac

instance : Rep impl_Loss where
  wd := 4
  rd m cs x := cs = [(.int .i64 x.Ratio.Num), (.int .i64 x.Ratio.Den), (.int .i64 x.Rho.Num), (.int .i64 x.Rho.Den)]
  mono _ h := h
  len h := by subst h; rfl
  one h := by subst h; rfl

instance : Flat impl_Loss := ⟨fun h => h⟩

instance : Rng impl_Loss := ⟨fun x => Rng.ok x.Ratio ∧ Rng.ok x.Rho⟩

structure impl_Entry where
  Scope : Int
  Loss : impl_Loss

instance : Rep impl_Entry where
  wd := 5
  rd m cs x := cs = [(.int .i64 x.Scope), (.int .i64 x.Loss.Ratio.Num), (.int .i64 x.Loss.Ratio.Den), (.int .i64 x.Loss.Rho.Num), (.int .i64 x.Loss.Rho.Den)]
  mono _ h := h
  len h := by subst h; rfl
  one h := by subst h; rfl

instance : Flat impl_Entry := ⟨fun h => h⟩

instance : Rng impl_Entry := ⟨fun x => Rng.ok x.Scope ∧ Rng.ok x.Loss⟩

noncomputable def spec_l1Cur_next (p_c : spec_l1Cur) : Option (Int × spec_l1Cur) :=
  (((cond (decide (p_c.at_ < (goLen p_c.code))) ((goAt p_c.code p_c.at_).bind fun e_2 => some (w64 e_2.v)) (some 0)) : Option (Int)).bind fun b_4 => (cond (decide ((w64 (p_c.at_ + 1)) ≤ (goLen p_c.code))) (some (b_4, (spec_l1Cur.mk p_c.code (w64 (p_c.at_ + 1)) (⟨(IntKind.wrap .u64 ((IntKind.wrap .u64 ((IntKind.wrap .u64 (p_c.seed.v * 6364136223846793005)) + (IntKind.wrap .u64 b_4))) + 1442695040888963407))⟩ : K .u64)))) ((goShr .u64 (IntKind.wrap .u64 ((IntKind.wrap .u64 ((IntKind.wrap .u64 (p_c.seed.v * 6364136223846793005)) + (IntKind.wrap .u64 b_4))) + 1442695040888963407)) 40).bind fun t_5 => some ((w64 (goBits .and .u64 t_5 255)), (spec_l1Cur.mk p_c.code (w64 (p_c.at_ + 1)) (⟨(IntKind.wrap .u64 ((IntKind.wrap .u64 ((IntKind.wrap .u64 (p_c.seed.v * 6364136223846793005)) + (IntKind.wrap .u64 b_4))) + 1442695040888963407))⟩ : K .u64))))))

noncomputable def spec_l1Cur_pick (p_c : spec_l1Cur) (p_n : Int) : Option (Int × spec_l1Cur) :=
  (cond (decide (p_n ≤ 1)) (some (0, p_c)) ((spec_l1Cur_next p_c).bind fun t_3 => (((cond (decide (200 < p_n)) ((spec_l1Cur_next t_3.2).bind fun t_6 => some ((w64 ((w64 (t_3.1 * 256)) + t_6.1)), t_6.2)) (some (t_3.1, t_3.2))) : Option (Int × spec_l1Cur)).bind fun (x_8, p_c_9) => ((goRem x_8 p_n).bind fun t_11 => some (t_11, p_c_9)))))

noncomputable def spec_l1Cur_one (p_c : spec_l1Cur) (p_n : Int) : Option (Bool × spec_l1Cur) :=
  ((spec_l1Cur_pick p_c p_n).bind fun t_3 => some (t_3.1 == 0, t_3.2))

noncomputable def spec_l1Most (p_a : Int) (p_b : Int) : Option (Int) :=
  (cond (decide (p_b < p_a)) (some p_a) (some p_b))

noncomputable def spec_l1Abs (p_n : Int) : Option (Int) :=
  ((spec_l1Most p_n (w64 (-p_n))).bind fun t_1 => some t_1)

noncomputable def spec_fGcd_l1  : Int × Int → Option (Stp (Int × Int) (Int))
  | (a_1, b_2) => (cond (b_2 != 0) ((goRem a_1 b_2).bind fun t_3 => some (.next (b_2, t_3))) (some (.done a_1)))

noncomputable def spec_fGcd (p_a : Int) (p_b : Int) : Option (Int) :=
  ((loopC (spec_fGcd_l1) (p_a, p_b)).bind fun a_4 => ((spec_l1Abs a_4).bind fun t_5 => some t_5))

noncomputable def spec_l1In (p_n : Int) (p_lo : Int) (p_hi : Int) : Option (Bool) :=
  (((cond (decide (p_lo ≤ p_n)) (some (decide (p_n ≤ p_hi))) (some false)) : Option (Bool)).bind fun t_1 => some t_1)

noncomputable def spec_fGood (p_f : impl_Frac) : Option (Bool) :=
  ((((spec_l1In p_f.Den 1 1000000000).bind fun t_2 => (cond t_2 ((spec_l1In p_f.Num (-1000000000) 1000000000).bind fun t_3 => (cond t_3 ((spec_fGcd p_f.Num p_f.Den).bind fun t_4 => some (t_4 == 1)) (some false))) (some false))) : Option (Bool)).bind fun t_5 => some t_5)

noncomputable def spec_fMake (p_n : Int) (p_d : Int) : Option (impl_Frac × Bool) :=
  (cond (p_d == 0) (some ((impl_Frac.mk 0 0), false)) ((spec_fGcd p_n p_d).bind fun t_2 => (((cond (decide (p_d < 0)) (some (w64 (-t_2))) (some t_2)) : Option (Int)).bind fun g_3 => ((goQuo .i64 p_n g_3).bind fun t_4 => ((goQuo .i64 p_d g_3).bind fun t_5 => ((spec_fGood (impl_Frac.mk t_4 t_5)).bind fun t_7 => (cond (!t_7) (some ((impl_Frac.mk 0 0), false)) (some ((impl_Frac.mk t_4 t_5), true)))))))))

noncomputable def spec_l1Cur_loss (p_c : spec_l1Cur) : Option (impl_Loss × spec_l1Cur) :=
  ((spec_l1Cur_pick p_c 6).bind fun t_4 => ((spec_l1Cur_pick t_4.2 4).bind fun t_7 => ((spec_fMake (w64 ((w64 (1 + t_4.1)) + t_7.1)) (w64 (1 + t_4.1))).bind fun t_9 => ((spec_l1Cur_pick t_7.2 5).bind fun t_12 => ((spec_l1Cur_pick t_12.2 8).bind fun t_15 => ((spec_fMake t_12.1 (w64 (1 + t_15.1))).bind fun t_17 => some ((impl_Loss.mk t_9.1 t_17.1), t_15.2)))))))

noncomputable def spec_l1Cur_among (p_c : spec_l1Cur) (p_list : List Int) : Option (Int × spec_l1Cur) :=
  ((spec_l1Cur_pick p_c (goLen p_list)).bind fun t_4 => ((goAt p_list t_4.1).bind fun e_6 => some (e_6, t_4.2)))

noncomputable def spec_l1Cur_frac (p_c : spec_l1Cur) : Option (impl_Frac × spec_l1Cur) :=
  ((spec_l1Cur_pick p_c 41).bind fun t_4 => ((spec_l1Cur_pick t_4.2 12).bind fun t_7 => ((spec_fMake (w64 (t_4.1 - 20)) (w64 (1 + t_7.1))).bind fun t_9 => some (t_9.1, t_7.2))))

noncomputable def spec_l1Cur_anyFrac (p_c : spec_l1Cur) : Option (impl_Frac × spec_l1Cur) :=
  ((spec_l1Cur_pick p_c 16).bind fun t_4 => (cond (t_4.1 == 0) ((spec_l1Cur_among t_4.2 ([1000000000, -1000000000, 999999999, 1000000001] : List Int)).bind fun t_26 => ((spec_l1Cur_among t_26.2 ([1, 7, 999999999, 999999937] : List Int)).bind fun t_31 => some ((impl_Frac.mk t_26.1 t_31.1), t_31.2))) (cond (t_4.1 == 1) ((spec_l1Cur_pick t_4.2 9).bind fun t_18 => ((spec_l1Cur_pick t_18.2 7).bind fun t_21 => some ((impl_Frac.mk (w64 (t_18.1 - 4)) (w64 (t_21.1 - 1))), t_21.2))) (cond (t_4.1 == 2) ((spec_l1Cur_pick t_4.2 3).bind fun t_10 => ((spec_l1Cur_among t_10.2 ([1000000000, 1000000001, 999999937] : List Int)).bind fun t_15 => some ((impl_Frac.mk t_10.1 t_15.1), t_15.2))) ((spec_l1Cur_frac t_4.2).bind fun t_7 => some (t_7.1, t_7.2))))))

noncomputable def spec_l1Cur_anyLoss (p_c : spec_l1Cur) : Option (impl_Loss × spec_l1Cur) :=
  ((spec_l1Cur_loss p_c).bind fun t_4 => ((spec_l1Cur_pick t_4.2 20).bind fun t_8 => (((cond (t_8.1 == 0) ((spec_l1Cur_anyFrac t_8.2).bind fun t_27 => some (t_27.2, (impl_Loss.mk t_27.1 t_4.1.Rho))) (((cond (t_8.1 == 1) ((spec_l1Cur_anyFrac t_8.2).bind fun t_20 => some (t_20.2, (impl_Loss.mk t_4.1.Ratio t_20.1))) (((cond (t_8.1 == 2) ((spec_l1Cur_among t_8.2 ([1, 999999937] : List Int)).bind fun t_13 => some (t_13.2, (impl_Loss.mk (impl_Frac.mk 1000000000 t_13.1) t_4.1.Rho))) (some (t_8.2, t_4.1))) : Option (spec_l1Cur × impl_Loss)).bind fun (p_c_15, x_17) => some (p_c_15, x_17))) : Option (spec_l1Cur × impl_Loss)).bind fun (p_c_22, x_24) => some (p_c_22, x_24))) : Option (spec_l1Cur × impl_Loss)).bind fun (p_c_29, x_31) => some (x_31, p_c_29))))

noncomputable def spec_fInt (p_n : Int) : Option (impl_Frac) :=
  some (impl_Frac.mk p_n 1)

noncomputable def spec_l1Cur_budget (p_c : spec_l1Cur) : Option (impl_Loss × spec_l1Cur) :=
  ((spec_l1Cur_one p_c 8).bind fun t_4 => (cond t_4.1 ((spec_l1Cur_anyLoss t_4.2).bind fun t_19 => some (t_19.1, t_19.2)) ((spec_l1Cur_among t_4.2 ([1, 2, 4, 10, 100] : List Int)).bind fun t_9 => ((spec_fInt t_9.1).bind fun t_11 => ((spec_l1Cur_among t_9.2 ([0, 1, 2, 10] : List Int)).bind fun t_15 => ((spec_fInt t_15.1).bind fun t_17 => some ((impl_Loss.mk t_11 t_17), t_15.2)))))))

noncomputable def spec_pNone  : Option (impl_Loss) :=
  ((spec_fInt 1).bind fun t_2 => ((spec_fInt 0).bind fun t_3 => some (impl_Loss.mk t_2 t_3)))

noncomputable def spec_DrawLedgerLoss_l1  : (List impl_Entry) × Int × spec_l1Cur → Option (Stp ((List impl_Entry) × Int × spec_l1Cur) ((List impl_Entry) × spec_l1Cur))
  | (l_6, k_8, t_9) => (cond (decide (0 < k_8)) ((spec_l1Cur_among t_9 ([-1, 0, 1, 1, 29] : List Int)).bind fun t_15 => ((spec_l1Cur_loss t_15.2).bind fun t_18 => ((goApp 40 l_6 ([(impl_Entry.mk t_15.1 t_18.1)] : List impl_Entry)).bind fun l_21 => some (.next (l_21, (w64 (k_8 - 1)), t_18.2))))) (some (.done (l_6, t_9))))

noncomputable def spec_DrawLedgerLoss_l2  : (List impl_Entry) × spec_l1Cur → Option (Stp ((List impl_Entry) × spec_l1Cur) ((List impl_Entry)))
  | (l_31, t_33) => ((spec_l1Cur_pick t_33 2).bind fun t_37 => (cond (decide ((goLen l_31) < (w64 (30 + t_37.1)))) ((spec_pNone).bind fun t_39 => ((goApp 40 l_31 ([(impl_Entry.mk 0 t_39)] : List impl_Entry)).bind fun l_41 => some (.next (l_41, t_37.2)))) (some (.done l_31))))

noncomputable def spec_DrawLedgerLoss (p_code : List (K .u8)) : Option ((List impl_Entry)) :=
  ((spec_l1Cur_pick (spec_l1Cur.mk p_code 0 (⟨0⟩ : K .u64)) 7).bind fun t_4 => ((loopC (spec_DrawLedgerLoss_l1) (([] : List impl_Entry), t_4.1, t_4.2)).bind fun (l_23, t_25) => ((spec_l1Cur_pick t_25 16).bind fun t_29 => (((cond (t_29.1 == 0) ((spec_l1Cur_among t_29.2 ([-2, 30, 3] : List Int)).bind fun t_52 => ((spec_l1Cur_anyLoss t_52.2).bind fun t_55 => ((goApp 40 l_23 ([(impl_Entry.mk t_52.1 t_55.1)] : List impl_Entry)).bind fun l_58 => some l_58))) (((cond (t_29.1 == 1) ((loopC (spec_DrawLedgerLoss_l2) (l_23, t_29.2)).bind fun l_43 => some l_43) (some l_23)) : Option ((List impl_Entry))).bind fun l_46 => some l_46)) : Option ((List impl_Entry))).bind fun l_60 => some l_60))))

noncomputable def spec_DrawAcceptEntries (p_code : List (K .u8)) : Option (impl_Loss × (List impl_Entry)) :=
  ((spec_l1Cur_budget (spec_l1Cur.mk p_code 0 (⟨0⟩ : K .u64))).bind fun t_5 => ((spec_DrawLedgerLoss p_code).bind fun t_7 => some (t_5.1, t_7)))

noncomputable def impl_gcdOf_l1  : Int × Int → Option (Stp (Int × Int) (Int))
  | (a_3, b_4) => (cond (b_4 != 0) ((goRem a_3 b_4).bind fun t_5 => some (.next (b_4, t_5))) (some (.done a_3)))

noncomputable def impl_gcdOf (p_a : Int) (p_b : Int) : Option (Int) :=
  (((cond (decide (p_a < 0)) (some (w64 (-p_a))) (some p_a)) : Option (Int)).bind fun a_1 => (((cond (decide (p_b < 0)) (some (w64 (-p_b))) (some p_b)) : Option (Int)).bind fun b_2 => ((loopC (impl_gcdOf_l1) (a_1, b_2)).bind fun a_6 => some a_6)))

noncomputable def impl_IsFrac (p_f : impl_Frac) : Option (Bool) :=
  (((cond (decide (1 ≤ p_f.Den)) (cond (decide (p_f.Den ≤ 1000000000)) (cond (decide ((-1000000000) ≤ p_f.Num)) (cond (decide (p_f.Num ≤ 1000000000)) ((impl_gcdOf p_f.Num p_f.Den).bind fun t_2 => some (t_2 == 1)) (some false)) (some false)) (some false)) (some false)) : Option (Bool)).bind fun t_3 => some t_3)

noncomputable def impl_IsLoss (p_x : impl_Loss) : Option (Bool) :=
  ((((impl_IsFrac p_x.Ratio).bind fun t_2 => (cond t_2 ((impl_IsFrac p_x.Rho).bind fun t_3 => (cond t_3 (cond (decide (p_x.Ratio.Den ≤ p_x.Ratio.Num)) (some (decide (0 ≤ p_x.Rho.Num))) (some false)) (some false))) (some false))) : Option (Bool)).bind fun t_4 => some t_4)

noncomputable def impl_areEntries_l1 (p_l : List impl_Entry) (t_2 : Int) : Option (Stp (Int) ((Unit) ⊕ (Bool))) :=
  (cond (decide (t_2 < (goLen p_l))) ((goAt p_l t_2).bind fun e_3 => (((cond (decide (e_3.Scope < (-1))) (some true) (cond (decide (29 < e_3.Scope)) (some true) ((impl_IsLoss e_3.Loss).bind fun t_6 => some (!t_6)))) : Option (Bool)).bind fun t_7 => (cond t_7 (some (.done (.inr false))) (some (.next (w64 (t_2 + 1))))))) (some (.done (.inl ()))))

noncomputable def impl_areEntries (p_l : List impl_Entry) : Option (Bool) :=
  (cond (decide (30 < (goLen p_l))) (some false) ((loopC (impl_areEntries_l1 p_l) 0).bind fun | .inl () => some true | .inr o => some o))

noncomputable def impl_NoLoss  : Option (impl_Loss) :=
  some (impl_Loss.mk (impl_Frac.mk 1 1) (impl_Frac.mk 0 1))

noncomputable def impl_reduced (p_n : Int) (p_d : Int) : Option (impl_Frac × Bool) :=
  ((impl_gcdOf p_n p_d).bind fun t_2 => ((goQuo .i64 p_n t_2).bind fun t_3 => ((goQuo .i64 p_d t_2).bind fun t_4 => (((cond (decide (t_4 < 0)) (some ((w64 (-t_3)), (w64 (-t_4)))) (some (t_3, t_4))) : Option (Int × Int)).bind fun (n_5, d_6) => (((cond (decide (1000000000 < n_5)) (some true) (cond (decide (n_5 < (-1000000000))) (some true) (some (decide (1000000000 < d_6))))) : Option (Bool)).bind fun t_7 => (cond t_7 (some ((impl_Frac.mk 0 0), false)) (some ((impl_Frac.mk n_5 d_6), true))))))))

noncomputable def impl_MulFrac (p_a : impl_Frac) (p_b : impl_Frac) : Option (impl_Frac × Bool) :=
  ((((impl_IsFrac p_a).bind fun t_4 => (cond (!t_4) (some true) ((impl_IsFrac p_b).bind fun t_5 => some (!t_5)))) : Option (Bool)).bind fun t_6 => (cond t_6 (some ((impl_Frac.mk 0 0), false)) ((impl_reduced (w64 (p_a.Num * p_b.Num)) (w64 (p_a.Den * p_b.Den))).bind fun t_7 => some (t_7.1, t_7.2))))

noncomputable def impl_AddFrac (p_a : impl_Frac) (p_b : impl_Frac) : Option (impl_Frac × Bool) :=
  ((((impl_IsFrac p_a).bind fun t_4 => (cond (!t_4) (some true) ((impl_IsFrac p_b).bind fun t_5 => some (!t_5)))) : Option (Bool)).bind fun t_6 => (cond t_6 (some ((impl_Frac.mk 0 0), false)) ((impl_reduced (w64 ((w64 (p_a.Num * p_b.Den)) + (w64 (p_b.Num * p_a.Den)))) (w64 (p_a.Den * p_b.Den))).bind fun t_7 => some (t_7.1, t_7.2))))

noncomputable def impl_composed (p_a : impl_Loss) (p_b : impl_Loss) : Option (impl_Loss × Bool) :=
  ((impl_MulFrac p_a.Ratio p_b.Ratio).bind fun t_4 => (cond (!t_4.2) (some ((impl_Loss.mk (impl_Frac.mk 0 0) (impl_Frac.mk 0 0)), false)) ((impl_AddFrac p_a.Rho p_b.Rho).bind fun t_6 => (cond (!t_6.2) (some ((impl_Loss.mk (impl_Frac.mk 0 0) (impl_Frac.mk 0 0)), false)) (some ((impl_Loss.mk t_4.1 t_6.1), true))))))

noncomputable def impl_scopeBefore_l1 (p_l : List impl_Entry) (p_scope : Int) (t_2 : Int) : Option (Stp (Int) ((Unit) ⊕ (Bool))) :=
  (cond (decide (t_2 < (goLen p_l))) ((goAt p_l t_2).bind fun e_3 => (cond (e_3.Scope == p_scope) (some (.done (.inr true))) (some (.next (w64 (t_2 + 1)))))) (some (.done (.inl ()))))

noncomputable def impl_scopeBefore (p_l : List impl_Entry) (p_scope : Int) : Option (Bool) :=
  ((loopC (impl_scopeBefore_l1 p_l p_scope) 0).bind fun | .inl () => some false | .inr o => some o)

noncomputable def impl_cmpFrac (p_a : impl_Frac) (p_b : impl_Frac) : Option (Int) :=
  (cond (decide ((w64 (p_a.Num * p_b.Den)) < (w64 (p_b.Num * p_a.Den)))) (some (-1)) (cond (decide ((w64 (p_b.Num * p_a.Den)) < (w64 (p_a.Num * p_b.Den)))) (some 1) (some 0)))

noncomputable def impl_greatest (p_a : impl_Loss) (p_b : impl_Loss) : Option (impl_Loss) :=
  ((impl_cmpFrac p_b.Ratio p_a.Ratio).bind fun t_4 => (((cond (decide (0 < t_4)) (some (impl_Loss.mk p_b.Ratio p_a.Rho)) (some p_a)) : Option (impl_Loss)).bind fun a_5 => ((impl_cmpFrac p_b.Rho a_5.Rho).bind fun t_6 => (((cond (decide (0 < t_6)) (some (impl_Loss.mk a_5.Ratio p_b.Rho)) (some a_5)) : Option (impl_Loss)).bind fun a_7 => some a_7))))

noncomputable def impl_ledgerLoss_l1 (p_l : List impl_Entry) : Int × impl_Loss → Option (Stp (Int × impl_Loss) ((impl_Loss) ⊕ (impl_Loss × Bool)))
  | (t_5, first_6) => (cond (decide (t_5 < (goLen p_l))) ((goAt p_l t_5).bind fun e_7 => (((cond (e_7.Scope == (-1)) ((impl_composed first_6 e_7.Loss).bind fun t_10 => (cond (!t_10.2) (some (.inr (.done (.inr ((impl_Loss.mk (impl_Frac.mk 0 0) (impl_Frac.mk 0 0)), false))))) (some (.inl t_10.1)))) (some (.inl first_6))) : Option ((impl_Loss) ⊕ (Stp (Int × impl_Loss) ((impl_Loss) ⊕ (impl_Loss × Bool))))).bind fun | .inl first_11 => some (.next ((w64 (t_5 + 1)), first_11)) | .inr o => some o)) (some (.done (.inl first_6))))

noncomputable def impl_ledgerLoss_l3 (p_l : List impl_Entry) (e_16 : impl_Entry) : Int × impl_Loss → Option (Stp (Int × impl_Loss) ((impl_Loss) ⊕ ((impl_Loss) ⊕ (Stp (Int × impl_Loss) ((impl_Loss) ⊕ (impl_Loss × Bool))))))
  | (t_24, own_25) => (cond (decide (t_24 < (goLen p_l))) ((goAt p_l t_24).bind fun e_26 => (((cond (e_26.Scope == e_16.Scope) ((impl_composed own_25 e_26.Loss).bind fun t_29 => (cond (!t_29.2) (some (.inr (.done (.inr (.inr (.done (.inr ((impl_Loss.mk (impl_Frac.mk 0 0) (impl_Frac.mk 0 0)), false)))))))) (some (.inl t_29.1)))) (some (.inl own_25))) : Option ((impl_Loss) ⊕ (Stp (Int × impl_Loss) ((impl_Loss) ⊕ ((impl_Loss) ⊕ (Stp (Int × impl_Loss) ((impl_Loss) ⊕ (impl_Loss × Bool)))))))).bind fun | .inl own_30 => some (.next ((w64 (t_24 + 1)), own_30)) | .inr o => some o)) (some (.done (.inl own_25))))

noncomputable def impl_ledgerLoss_l2 (p_l : List impl_Entry) (first_12 : impl_Loss) : Int × impl_Loss → Option (Stp (Int × impl_Loss) ((impl_Loss) ⊕ (impl_Loss × Bool)))
  | (t_14, out_15) => (cond (decide (t_14 < (goLen p_l))) ((((goAt p_l t_14).bind fun e_16 => (((cond (e_16.Scope == (-1)) (some true) ((goSub p_l 0 t_14).bind fun l_19 => ((impl_scopeBefore l_19 e_16.Scope).bind fun t_21 => some t_21))) : Option (Bool)).bind fun t_22 => (cond t_22 (some (.inl out_15)) ((loopC (impl_ledgerLoss_l3 p_l e_16) (0, first_12)).bind fun | .inl own_31 => ((impl_greatest out_15 own_31).bind fun t_32 => some (.inl t_32)) | .inr o => some o)))) : Option ((impl_Loss) ⊕ (Stp (Int × impl_Loss) ((impl_Loss) ⊕ (impl_Loss × Bool))))).bind fun | .inl out_33 => some (.next ((w64 (t_14 + 1)), out_33)) | .inr o => some o) (some (.done (.inl out_15))))

noncomputable def impl_ledgerLoss (p_l : List impl_Entry) : Option (impl_Loss × Bool) :=
  ((impl_NoLoss).bind fun t_3 => ((loopC (impl_ledgerLoss_l1 p_l) (0, t_3)).bind fun | .inl first_12 => ((loopC (impl_ledgerLoss_l2 p_l first_12) (0, first_12)).bind fun | .inl out_34 => some (out_34, true) | .inr o => some o) | .inr o => some o))

noncomputable def impl_isWithin (p_budget : impl_Loss) (p_x : impl_Loss) : Option (Bool) :=
  ((((impl_cmpFrac p_x.Ratio p_budget.Ratio).bind fun t_3 => (cond (decide (t_3 ≤ 0)) ((impl_cmpFrac p_x.Rho p_budget.Rho).bind fun t_4 => some (decide (t_4 ≤ 0))) (some false))) : Option (Bool)).bind fun t_5 => some t_5)

noncomputable def impl_AcceptEntries_l1 (p_budget : impl_Loss) (p_l : List impl_Entry) : (List impl_Entry) × (List Int) × Int → Option (Stp ((List impl_Entry) × (List Int) × Int) ((List Int)))
  | (accepted_6, out_8, t_10) => (cond (decide (t_10 < (goLen p_l))) ((goAt p_l t_10).bind fun e_11 => ((goSub3 accepted_6 0 (goLen accepted_6) (goLen accepted_6)).bind fun l_14 => ((goApp 40 l_14 ([e_11] : List impl_Entry)).bind fun l_17 => ((impl_ledgerLoss l_17).bind fun t_19 => (((cond t_19.2 ((impl_isWithin p_budget t_19.1).bind fun t_22 => some t_22) (some false)) : Option (Bool)).bind fun t_23 => (((cond t_23 ((goApp 8 out_8 ([t_10] : List Int)).bind fun l_25 => some (l_17, l_25)) (some (accepted_6, out_8))) : Option ((List impl_Entry) × (List Int))).bind fun (accepted_27, out_29) => some (.next (accepted_27, out_29, (w64 (t_10 + 1)))))))))) (some (.done out_8)))

noncomputable def impl_AcceptEntries (p_budget : impl_Loss) (p_l : List impl_Entry) : Option ((List Int) × Bool) :=
  ((((impl_IsLoss p_budget).bind fun t_3 => (cond (!t_3) (some true) ((impl_areEntries p_l).bind fun t_4 => some (!t_4)))) : Option (Bool)).bind fun t_5 => (cond t_5 (some (([] : List Int), false)) ((loopC (impl_AcceptEntries_l1 p_budget p_l) (([] : List impl_Entry), ([] : List Int), 0)).bind fun out_31 => some (out_31, true))))

noncomputable def spec_pGood (p_x : impl_Loss) : Option (Bool) :=
  ((((spec_fGood p_x.Ratio).bind fun t_2 => (cond t_2 ((spec_fGood p_x.Rho).bind fun t_3 => (cond t_3 (cond (decide (p_x.Ratio.Den ≤ p_x.Ratio.Num)) (some (decide (0 ≤ p_x.Rho.Num))) (some false)) (some false))) (some false))) : Option (Bool)).bind fun t_4 => some t_4)

noncomputable def spec_pEntries_l1 (p_l : List impl_Entry) (t_2 : Int) : Option (Stp (Int) ((Unit) ⊕ (Bool))) :=
  (cond (decide (t_2 < (goLen p_l))) ((goAt p_l t_2).bind fun e_3 => ((((spec_l1In e_3.Scope (-1) 29).bind fun t_6 => (cond (!t_6) (some true) ((spec_pGood e_3.Loss).bind fun t_7 => some (!t_7)))) : Option (Bool)).bind fun t_8 => (cond t_8 (some (.done (.inr false))) (some (.next (w64 (t_2 + 1))))))) (some (.done (.inl ()))))

noncomputable def spec_pEntries (p_l : List impl_Entry) : Option (Bool) :=
  ((loopC (spec_pEntries_l1 p_l) 0).bind fun | .inl () => some (decide ((goLen p_l) ≤ 30)) | .inr o => some o)

noncomputable def spec_fMul (p_a : impl_Frac) (p_b : impl_Frac) : Option (impl_Frac × Bool) :=
  ((spec_fMake (w64 (p_a.Num * p_b.Num)) (w64 (p_a.Den * p_b.Den))).bind fun t_4 => some (t_4.1, t_4.2))

noncomputable def spec_fAdd (p_a : impl_Frac) (p_b : impl_Frac) : Option (impl_Frac × Bool) :=
  ((spec_fMake (w64 ((w64 (p_a.Num * p_b.Den)) + (w64 (p_b.Num * p_a.Den)))) (w64 (p_a.Den * p_b.Den))).bind fun t_4 => some (t_4.1, t_4.2))

noncomputable def spec_pTwo (p_a : impl_Loss) (p_b : impl_Loss) : Option (impl_Loss × Bool) :=
  ((spec_fMul p_a.Ratio p_b.Ratio).bind fun t_4 => ((spec_fAdd p_a.Rho p_b.Rho).bind fun t_6 => (((cond (!t_4.2) (some true) (some (!t_6.2))) : Option (Bool)).bind fun t_8 => (cond t_8 (some ((impl_Loss.mk (impl_Frac.mk 0 0) (impl_Frac.mk 0 0)), false)) (some ((impl_Loss.mk t_4.1 t_6.1), true))))))

noncomputable def spec_pOf_l1 (p_l : List impl_Entry) (p_scope : Int) : Int × impl_Loss → Option (Stp (Int × impl_Loss) ((impl_Loss) ⊕ (impl_Loss × Bool)))
  | (t_5, out_6) => (cond (decide (t_5 < (goLen p_l))) ((((goAt p_l t_5).bind fun e_7 => (cond (e_7.Scope != p_scope) (some (.inl out_6)) ((spec_pTwo out_6 e_7.Loss).bind fun t_10 => (cond (!t_10.2) (some (.inr (.done (.inr ((impl_Loss.mk (impl_Frac.mk 0 0) (impl_Frac.mk 0 0)), false))))) (some (.inl t_10.1)))))) : Option ((impl_Loss) ⊕ (Stp (Int × impl_Loss) ((impl_Loss) ⊕ (impl_Loss × Bool))))).bind fun | .inl out_12 => some (.next ((w64 (t_5 + 1)), out_12)) | .inr o => some o) (some (.done (.inl out_6))))

noncomputable def spec_pOf (p_l : List impl_Entry) (p_scope : Int) (p_first : impl_Loss) : Option (impl_Loss × Bool) :=
  ((loopC (spec_pOf_l1 p_l p_scope) (0, p_first)).bind fun | .inl out_13 => some (out_13, true) | .inr o => some o)

noncomputable def spec_l1Sign (p_n : Int) : Option (Int) :=
  (cond (decide (p_n < 0)) (some (-1)) (cond (decide (0 < p_n)) (some 1) (some 0)))

noncomputable def spec_fCmp (p_a : impl_Frac) (p_b : impl_Frac) : Option (Int) :=
  ((spec_l1Sign (w64 ((w64 (p_a.Num * p_b.Den)) - (w64 (p_b.Num * p_a.Den))))).bind fun t_3 => some t_3)

noncomputable def spec_fGreater (p_a : impl_Frac) (p_b : impl_Frac) : Option (impl_Frac) :=
  ((spec_fCmp p_a p_b).bind fun t_4 => (cond (decide (t_4 < 0)) (some p_b) (some p_a)))

noncomputable def spec_pParallel_l1 (p_l : List impl_Loss) : Int × impl_Loss → Option (Stp (Int × impl_Loss) (impl_Loss))
  | (t_5, out_6) => (cond (decide (t_5 < (goLen p_l))) ((goAt p_l t_5).bind fun e_7 => ((spec_fGreater out_6.Ratio e_7.Ratio).bind fun t_14 => ((spec_fGreater out_6.Rho e_7.Rho).bind fun t_15 => some (.next ((w64 (t_5 + 1)), (impl_Loss.mk t_14 t_15)))))) (some (.done out_6)))

noncomputable def spec_pParallel (p_l : List impl_Loss) : Option (impl_Loss) :=
  ((spec_pNone).bind fun t_3 => ((loopC (spec_pParallel_l1 p_l) (0, t_3)).bind fun out_16 => some out_16))

noncomputable def spec_pLedger_l1 (p_l : List impl_Entry) (t_4 : impl_Loss × Bool) : Int × impl_Loss → Option (Stp (Int × impl_Loss) ((impl_Loss) ⊕ (impl_Loss × Bool)))
  | (scope_7, out_8) => (cond (decide (scope_7 ≤ 29)) ((spec_pOf p_l scope_7 t_4.1).bind fun t_9 => (cond (!t_9.2) (some (.done (.inr ((impl_Loss.mk (impl_Frac.mk 0 0) (impl_Frac.mk 0 0)), false)))) ((spec_pParallel ([out_8, t_9.1] : List impl_Loss)).bind fun t_12 => some (.next ((w64 (scope_7 + 1)), t_12))))) (some (.done (.inl out_8))))

noncomputable def spec_pLedger (p_l : List impl_Entry) : Option (impl_Loss × Bool) :=
  ((spec_pNone).bind fun t_3 => ((spec_pOf p_l (-1) t_3).bind fun t_4 => (cond (!t_4.2) (some ((impl_Loss.mk (impl_Frac.mk 0 0) (impl_Frac.mk 0 0)), false)) ((loopC (spec_pLedger_l1 p_l t_4) (0, t_4.1)).bind fun | .inl out_14 => some (out_14, true) | .inr o => some o))))

noncomputable def spec_pWithin (p_budget : impl_Loss) (p_x : impl_Loss) : Option (Bool) :=
  ((((spec_fCmp p_x.Ratio p_budget.Ratio).bind fun t_3 => (cond (decide (t_3 ≤ 0)) ((spec_fCmp p_x.Rho p_budget.Rho).bind fun t_4 => some (decide (t_4 ≤ 0))) (some false))) : Option (Bool)).bind fun t_5 => some t_5)

noncomputable def spec_AcceptEntries_l1 (p_budget : impl_Loss) (p_l : List impl_Entry) : (List Int) × (List impl_Entry) × Int → Option (Stp ((List Int) × (List impl_Entry) × Int) ((List Int)))
  | (out_6, kept_8, t_10) => (cond (decide (t_10 < (goLen p_l))) ((goAt p_l t_10).bind fun e_11 => ((((goApp 40 ([] : List impl_Entry) kept_8).bind fun l_17 => ((goApp 40 l_17 ([e_11] : List impl_Entry)).bind fun l_20 => some l_20)) : Option ((List impl_Entry))).bind fun next_22 => ((spec_pLedger next_22).bind fun t_24 => (((cond t_24.2 ((spec_pWithin p_budget t_24.1).bind fun t_27 => some t_27) (some false)) : Option (Bool)).bind fun t_28 => (((cond t_28 ((goApp 8 out_6 ([t_10] : List Int)).bind fun l_30 => some (l_30, next_22)) (some (out_6, kept_8))) : Option ((List Int) × (List impl_Entry))).bind fun (out_32, kept_34) => some (.next (out_32, kept_34, (w64 (t_10 + 1))))))))) (some (.done out_6)))

noncomputable def spec_AcceptEntries (p_budget : impl_Loss) (p_l : List impl_Entry) : Option ((List Int) × Bool) :=
  ((((spec_pGood p_budget).bind fun t_3 => (cond (!t_3) (some true) ((spec_pEntries p_l).bind fun t_4 => some (!t_4)))) : Option (Bool)).bind fun t_5 => (cond t_5 (some (([] : List Int), false)) ((loopC (spec_AcceptEntries_l1 p_budget p_l) (([] : List Int), ([] : List impl_Entry), 0)).bind fun out_36 => some (out_36, true))))

noncomputable def impl_LedgerLoss (p_l : List impl_Entry) : Option (impl_Loss × Bool) :=
  ((impl_areEntries p_l).bind fun t_3 => (cond (!t_3) (some ((impl_Loss.mk (impl_Frac.mk 0 0) (impl_Frac.mk 0 0)), false)) ((impl_ledgerLoss p_l).bind fun t_4 => some (t_4.1, t_4.2))))

noncomputable def spec_LedgerLoss (p_l : List impl_Entry) : Option (impl_Loss × Bool) :=
  ((spec_pEntries p_l).bind fun t_3 => (cond (!t_3) (some ((impl_Loss.mk (impl_Frac.mk 0 0) (impl_Frac.mk 0 0)), false)) ((spec_pLedger p_l).bind fun t_4 => some (t_4.1, t_4.2))))

noncomputable def laws_qInts_l1 (p_a : List Int) (p_b : List Int) (t_3 : Int) : Option (Stp (Int) ((Unit) ⊕ (Bool))) :=
  (cond (decide (t_3 < (goLen p_a))) ((goAt p_a t_3).bind fun e_4 => ((goAt p_b t_3).bind fun e_6 => (cond (e_4 != e_6) (some (.done (.inr false))) (some (.next (w64 (t_3 + 1))))))) (some (.done (.inl ()))))

noncomputable def laws_qInts (p_a : List Int) (p_b : List Int) : Option (Bool) :=
  (cond ((goLen p_a) != (goLen p_b)) (some false) ((loopC (laws_qInts_l1 p_a p_b) 0).bind fun | .inl () => some true | .inr o => some o))

noncomputable def impl_IsWithin (p_budget : impl_Loss) (p_x : impl_Loss) : Option (Bool × Bool) :=
  ((((impl_IsLoss p_budget).bind fun t_3 => (cond (!t_3) (some true) ((impl_IsLoss p_x).bind fun t_4 => some (!t_4)))) : Option (Bool)).bind fun t_5 => (cond t_5 (some (false, false)) ((impl_isWithin p_budget p_x).bind fun t_6 => some (t_6, true))))

noncomputable def laws_FnLedgers_l1 (t_3 : impl_Loss × (List impl_Entry)) (t_7 : (List Int) × Bool) : (List impl_Entry) × Int → Option (Stp ((List impl_Entry) × Int) ((List impl_Entry)))
  | (kept_35, t_37) => (cond (decide (t_37 < (goLen t_7.1))) ((goAt t_7.1 t_37).bind fun e_38 => ((goAt t_3.2 e_38).bind fun e_40 => ((goApp 40 kept_35 ([e_40] : List impl_Entry)).bind fun l_43 => some (.next (l_43, (w64 (t_37 + 1))))))) (some (.done kept_35)))

noncomputable def laws_FnLedgers (p_code : List (K .u8)) (p_more : List (K .u8)) : Option (Bool) :=
  (cond (decide (1048576 < (w64 ((goLen p_code) + (goLen p_more))))) (some true) ((spec_DrawAcceptEntries p_code).bind fun t_3 => ((impl_AcceptEntries t_3.1 t_3.2).bind fun t_7 => ((spec_AcceptEntries t_3.1 t_3.2).bind fun t_11 => ((spec_DrawLedgerLoss p_more).bind fun t_15 => ((impl_LedgerLoss t_15).bind fun t_18 => ((spec_LedgerLoss t_15).bind fun t_21 => (((cond (t_7.2 != t_11.2) (some true) ((laws_qInts t_7.1 t_11.1).bind fun t_24 => (cond (!t_24) (some true) (cond (t_18.2 != t_21.2) (some true) (some (!(((t_18.1.Ratio.Num == t_21.1.Ratio.Num) && ((t_18.1.Ratio.Den == t_21.1.Ratio.Den) && true)) && (((t_18.1.Rho.Num == t_21.1.Rho.Num) && ((t_18.1.Rho.Den == t_21.1.Rho.Den) && true)) && true)))))))) : Option (Bool)).bind fun t_26 => (cond t_26 (some false) (((cond t_18.2 (some (decide (0 < (goLen t_15)))) (some false)) : Option (Bool)).bind fun t_27 => (((cond t_27 ((goSub t_15 0 (w64 ((goLen t_15) - 1))).bind fun l_28 => ((impl_LedgerLoss l_28).bind fun t_30 => ((impl_IsWithin t_18.1 t_30.1).bind fun t_33 => (((cond t_30.2 (cond (!t_33.2) (some true) (some (!t_33.1))) (some false)) : Option (Bool)).bind fun t_34 => (cond t_34 (some (.inr false)) (some (.inl ()))))))) (some (.inl ()))) : Option ((Unit) ⊕ (Bool))).bind fun | .inl () => (cond (!t_7.2) (some true) ((loopC (laws_FnLedgers_l1 t_3 t_7) (([] : List impl_Entry), 0)).bind fun kept_45 => ((impl_LedgerLoss kept_45).bind fun t_47 => ((impl_IsWithin t_3.1 t_47.1).bind fun t_50 => (((cond t_47.2 (cond t_50.2 (some t_50.1) (some false)) (some false)) : Option (Bool)).bind fun t_51 => some t_51))))) | .inr o => some o)))))))))))

end Go.Gx.F
