/- The plain functions that the walks come to. -/
import Derived.Test.YtkgmphgbmjbfhaaGx
namespace Go.Gx.F
open Go.Gx
set_option linter.all false

structure laws_Frac where
  Num : Int
  Den : Int

instance : Rep laws_Frac where
  wd := 2
  rd m cs x := cs = [(.int .i64 x.Num), (.int .i64 x.Den)]
  mono _ h := h
  len h := by subst h; rfl
  one h := by subst h; rfl

instance : Flat laws_Frac := ⟨fun h => h⟩

instance : Rng laws_Frac := ⟨fun x => Rng.ok x.Num ∧ Rng.ok x.Den⟩

structure laws_Loss where
  Ratio : laws_Frac
  Rho : laws_Frac

instance : Rep laws_Loss where
  wd := 4
  rd m cs x := cs = [(.int .i64 x.Ratio.Num), (.int .i64 x.Ratio.Den), (.int .i64 x.Rho.Num), (.int .i64 x.Rho.Den)]
  mono _ h := h
  len h := by subst h; rfl
  one h := by subst h; rfl

instance : Flat laws_Loss := ⟨fun h => h⟩

instance : Rng laws_Loss := ⟨fun x => Rng.ok x.Ratio ∧ Rng.ok x.Rho⟩

structure laws_Entry where
  Scope : Int
  Loss : laws_Loss

instance : Rep laws_Entry where
  wd := 5
  rd m cs x := cs = [(.int .i64 x.Scope), (.int .i64 x.Loss.Ratio.Num), (.int .i64 x.Loss.Ratio.Den), (.int .i64 x.Loss.Rho.Num), (.int .i64 x.Loss.Rho.Den)]
  mono _ h := h
  len h := by subst h; rfl
  one h := by subst h; rfl

instance : Flat laws_Entry := ⟨fun h => h⟩

instance : Rng laws_Entry := ⟨fun x => Rng.ok x.Scope ∧ Rng.ok x.Loss⟩

structure impl_Frac where
  Num : Int
  Den : Int

instance : Rep impl_Frac where
  wd := 2
  rd m cs x := cs = [(.int .i64 x.Num), (.int .i64 x.Den)]
  mono _ h := h
  len h := by subst h; rfl
  one h := by subst h; rfl

instance : Flat impl_Frac := ⟨fun h => h⟩

instance : Rng impl_Frac := ⟨fun x => Rng.ok x.Num ∧ Rng.ok x.Den⟩

structure impl_Loss where
  Ratio : impl_Frac
  Rho : impl_Frac

instance : Rep impl_Loss where
  wd := 4
  rd m cs x := cs = [(.int .i64 x.Ratio.Num), (.int .i64 x.Ratio.Den), (.int .i64 x.Rho.Num), (.int .i64 x.Rho.Den)]
  mono _ h := h
  len h := by subst h; rfl
  one h := by subst h; rfl

instance : Flat impl_Loss := ⟨fun h => h⟩

instance : Rng impl_Loss := ⟨fun x => Rng.ok x.Ratio ∧ Rng.ok x.Rho⟩

structure impl_Entry where
  Scope : Int
  Loss : impl_Loss

instance : Rep impl_Entry where
  wd := 5
  rd m cs x := cs = [(.int .i64 x.Scope), (.int .i64 x.Loss.Ratio.Num), (.int .i64 x.Loss.Ratio.Den), (.int .i64 x.Loss.Rho.Num), (.int .i64 x.Loss.Rho.Den)]
  mono _ h := h
  len h := by subst h; rfl
  one h := by subst h; rfl

instance : Flat impl_Entry := ⟨fun h => h⟩

instance : Rng impl_Entry := ⟨fun x => Rng.ok x.Scope ∧ Rng.ok x.Loss⟩

noncomputable def laws_szEntryS (p_a : List laws_Entry) (p_left : Int) : Option (Int) :=
  (cond (decide ((w64 (p_left - (goLen p_a))) < 0)) (some (-1)) (some (w64 (p_left - (goLen p_a)))))

noncomputable def laws_toFrac (p_a : laws_Frac) : Option (impl_Frac) :=
  some (impl_Frac.mk p_a.Num p_a.Den)

noncomputable def laws_toLoss (p_a : laws_Loss) : Option (impl_Loss) :=
  ((laws_toFrac p_a.Ratio).bind fun t_4 => ((laws_toFrac p_a.Rho).bind fun t_5 => some (impl_Loss.mk t_4 t_5)))

noncomputable def laws_toEntry (p_a : laws_Entry) : Option (impl_Entry) :=
  ((laws_toLoss p_a.Loss).bind fun t_4 => some (impl_Entry.mk p_a.Scope t_4))

noncomputable def laws_toEntryS_l1 (p_a : List laws_Entry) : (List impl_Entry) × Int → Option (Stp ((List impl_Entry) × Int) ((List impl_Entry)))
  | (out_4, i_6) => (cond (decide (i_6 < (goLen p_a))) ((goAt p_a i_6).bind fun e_7 => ((laws_toEntry e_7).bind fun t_9 => ((goAt out_4 i_6).bind fun e_10 => some (.next (goSet out_4 i_6 t_9, (w64 (i_6 + 1))))))) (some (.done out_4)))

noncomputable def laws_toEntryS (p_a : List laws_Entry) : Option ((List impl_Entry)) :=
  ((goMake 40 (goLen p_a) ((impl_Entry.mk 0 (impl_Loss.mk (impl_Frac.mk 0 0) (impl_Frac.mk 0 0))) : impl_Entry)).bind fun l_2 => ((loopC (laws_toEntryS_l1 p_a) (l_2, 0)).bind fun out_13 => some out_13))

noncomputable def spec_l1In (p_n : Int) (p_lo : Int) (p_hi : Int) : Option (Bool) :=
  (((cond (decide (p_lo ≤ p_n)) (some (decide (p_n ≤ p_hi))) (some false)) : Option (Bool)).bind fun t_1 => some t_1)

noncomputable def spec_l1Most (p_a : Int) (p_b : Int) : Option (Int) :=
  (cond (decide (p_b < p_a)) (some p_a) (some p_b))

noncomputable def spec_l1Abs (p_n : Int) : Option (Int) :=
  ((spec_l1Most p_n (w64 (-p_n))).bind fun t_1 => some t_1)

noncomputable def spec_fGcd_l1  : Int × Int → Option (Stp (Int × Int) (Int))
  | (a_1, b_2) => (cond (b_2 != 0) ((goRem a_1 b_2).bind fun t_3 => some (.next (b_2, t_3))) (some (.done a_1)))

noncomputable def spec_fGcd (p_a : Int) (p_b : Int) : Option (Int) :=
  ((loopC (spec_fGcd_l1) (p_a, p_b)).bind fun a_4 => ((spec_l1Abs a_4).bind fun t_5 => some t_5))

noncomputable def spec_fGood (p_f : impl_Frac) : Option (Bool) :=
  ((((spec_l1In p_f.Den 1 1000000000).bind fun t_2 => (cond t_2 ((spec_l1In p_f.Num (-1000000000) 1000000000).bind fun t_3 => (cond t_3 ((spec_fGcd p_f.Num p_f.Den).bind fun t_4 => some (t_4 == 1)) (some false))) (some false))) : Option (Bool)).bind fun t_5 => some t_5)

noncomputable def spec_pGood (p_x : impl_Loss) : Option (Bool) :=
  ((((spec_fGood p_x.Ratio).bind fun t_2 => (cond t_2 ((spec_fGood p_x.Rho).bind fun t_3 => (cond t_3 (cond (decide (p_x.Ratio.Den ≤ p_x.Ratio.Num)) (some (decide (0 ≤ p_x.Rho.Num))) (some false)) (some false))) (some false))) : Option (Bool)).bind fun t_4 => some t_4)

noncomputable def spec_pEntries_l1 (p_l : List impl_Entry) (t_2 : Int) : Option (Stp (Int) ((Unit) ⊕ (Bool))) :=
  (cond (decide (t_2 < (goLen p_l))) ((goAt p_l t_2).bind fun e_3 => ((((spec_l1In e_3.Scope (-1) 29).bind fun t_6 => (cond (!t_6) (some true) ((spec_pGood e_3.Loss).bind fun t_7 => some (!t_7)))) : Option (Bool)).bind fun t_8 => (cond t_8 (some (.done (.inr false))) (some (.next (w64 (t_2 + 1))))))) (some (.done (.inl ()))))

noncomputable def spec_pEntries (p_l : List impl_Entry) : Option (Bool) :=
  ((loopC (spec_pEntries_l1 p_l) 0).bind fun | .inl () => some (decide ((goLen p_l) ≤ 30)) | .inr o => some o)

noncomputable def spec_fInt (p_n : Int) : Option (impl_Frac) :=
  some (impl_Frac.mk p_n 1)

noncomputable def spec_pNone  : Option (impl_Loss) :=
  ((spec_fInt 1).bind fun t_2 => ((spec_fInt 0).bind fun t_3 => some (impl_Loss.mk t_2 t_3)))

noncomputable def spec_fMake (p_n : Int) (p_d : Int) : Option (impl_Frac × Bool) :=
  (cond (p_d == 0) (some ((impl_Frac.mk 0 0), false)) ((spec_fGcd p_n p_d).bind fun t_2 => (((cond (decide (p_d < 0)) (some (w64 (-t_2))) (some t_2)) : Option (Int)).bind fun g_3 => ((goQuo .i64 p_n g_3).bind fun t_4 => ((goQuo .i64 p_d g_3).bind fun t_5 => ((spec_fGood (impl_Frac.mk t_4 t_5)).bind fun t_7 => (cond (!t_7) (some ((impl_Frac.mk 0 0), false)) (some ((impl_Frac.mk t_4 t_5), true)))))))))

noncomputable def spec_fMul (p_a : impl_Frac) (p_b : impl_Frac) : Option (impl_Frac × Bool) :=
  ((spec_fMake (w64 (p_a.Num * p_b.Num)) (w64 (p_a.Den * p_b.Den))).bind fun t_4 => some (t_4.1, t_4.2))

noncomputable def spec_fAdd (p_a : impl_Frac) (p_b : impl_Frac) : Option (impl_Frac × Bool) :=
  ((spec_fMake (w64 ((w64 (p_a.Num * p_b.Den)) + (w64 (p_b.Num * p_a.Den)))) (w64 (p_a.Den * p_b.Den))).bind fun t_4 => some (t_4.1, t_4.2))

noncomputable def spec_pTwo (p_a : impl_Loss) (p_b : impl_Loss) : Option (impl_Loss × Bool) :=
  ((spec_fMul p_a.Ratio p_b.Ratio).bind fun t_4 => ((spec_fAdd p_a.Rho p_b.Rho).bind fun t_6 => (((cond (!t_4.2) (some true) (some (!t_6.2))) : Option (Bool)).bind fun t_8 => (cond t_8 (some ((impl_Loss.mk (impl_Frac.mk 0 0) (impl_Frac.mk 0 0)), false)) (some ((impl_Loss.mk t_4.1 t_6.1), true))))))

noncomputable def spec_pOf_l1 (p_l : List impl_Entry) (p_scope : Int) : Int × impl_Loss → Option (Stp (Int × impl_Loss) ((impl_Loss) ⊕ (impl_Loss × Bool)))
  | (t_5, out_6) => (cond (decide (t_5 < (goLen p_l))) ((((goAt p_l t_5).bind fun e_7 => (cond (e_7.Scope != p_scope) (some (.inl out_6)) ((spec_pTwo out_6 e_7.Loss).bind fun t_10 => (cond (!t_10.2) (some (.inr (.done (.inr ((impl_Loss.mk (impl_Frac.mk 0 0) (impl_Frac.mk 0 0)), false))))) (some (.inl t_10.1)))))) : Option ((impl_Loss) ⊕ (Stp (Int × impl_Loss) ((impl_Loss) ⊕ (impl_Loss × Bool))))).bind fun | .inl out_12 => some (.next ((w64 (t_5 + 1)), out_12)) | .inr o => some o) (some (.done (.inl out_6))))

noncomputable def spec_pOf (p_l : List impl_Entry) (p_scope : Int) (p_first : impl_Loss) : Option (impl_Loss × Bool) :=
  ((loopC (spec_pOf_l1 p_l p_scope) (0, p_first)).bind fun | .inl out_13 => some (out_13, true) | .inr o => some o)

noncomputable def spec_l1Sign (p_n : Int) : Option (Int) :=
  (cond (decide (p_n < 0)) (some (-1)) (cond (decide (0 < p_n)) (some 1) (some 0)))

noncomputable def spec_fCmp (p_a : impl_Frac) (p_b : impl_Frac) : Option (Int) :=
  ((spec_l1Sign (w64 ((w64 (p_a.Num * p_b.Den)) - (w64 (p_b.Num * p_a.Den))))).bind fun t_3 => some t_3)

noncomputable def spec_fGreater (p_a : impl_Frac) (p_b : impl_Frac) : Option (impl_Frac) :=
  ((spec_fCmp p_a p_b).bind fun t_4 => (cond (decide (t_4 < 0)) (some p_b) (some p_a)))

noncomputable def spec_pParallel_l1 (p_l : List impl_Loss) : Int × impl_Loss → Option (Stp (Int × impl_Loss) (impl_Loss))
  | (t_5, out_6) => (cond (decide (t_5 < (goLen p_l))) ((goAt p_l t_5).bind fun e_7 => ((spec_fGreater out_6.Ratio e_7.Ratio).bind fun t_14 => ((spec_fGreater out_6.Rho e_7.Rho).bind fun t_15 => some (.next ((w64 (t_5 + 1)), (impl_Loss.mk t_14 t_15)))))) (some (.done out_6)))

noncomputable def spec_pParallel (p_l : List impl_Loss) : Option (impl_Loss) :=
  ((spec_pNone).bind fun t_3 => ((loopC (spec_pParallel_l1 p_l) (0, t_3)).bind fun out_16 => some out_16))

noncomputable def spec_pLedger_l1 (p_l : List impl_Entry) (t_4 : impl_Loss × Bool) : Int × impl_Loss → Option (Stp (Int × impl_Loss) ((impl_Loss) ⊕ (impl_Loss × Bool)))
  | (scope_7, out_8) => (cond (decide (scope_7 ≤ 29)) ((spec_pOf p_l scope_7 t_4.1).bind fun t_9 => (cond (!t_9.2) (some (.done (.inr ((impl_Loss.mk (impl_Frac.mk 0 0) (impl_Frac.mk 0 0)), false)))) ((spec_pParallel ([out_8, t_9.1] : List impl_Loss)).bind fun t_12 => some (.next ((w64 (scope_7 + 1)), t_12))))) (some (.done (.inl out_8))))

noncomputable def spec_pLedger (p_l : List impl_Entry) : Option (impl_Loss × Bool) :=
  ((spec_pNone).bind fun t_3 => ((spec_pOf p_l (-1) t_3).bind fun t_4 => (cond (!t_4.2) (some ((impl_Loss.mk (impl_Frac.mk 0 0) (impl_Frac.mk 0 0)), false)) ((loopC (spec_pLedger_l1 p_l t_4) (0, t_4.1)).bind fun | .inl out_14 => some (out_14, true) | .inr o => some o))))

noncomputable def spec_pWithin (p_budget : impl_Loss) (p_x : impl_Loss) : Option (Bool) :=
  ((((spec_fCmp p_x.Ratio p_budget.Ratio).bind fun t_3 => (cond (decide (t_3 ≤ 0)) ((spec_fCmp p_x.Rho p_budget.Rho).bind fun t_4 => some (decide (t_4 ≤ 0))) (some false))) : Option (Bool)).bind fun t_5 => some t_5)

noncomputable def spec_AcceptEntries_l1 (p_budget : impl_Loss) (p_l : List impl_Entry) : (List Int) × (List impl_Entry) × Int → Option (Stp ((List Int) × (List impl_Entry) × Int) ((List Int)))
  | (out_6, kept_8, t_10) => (cond (decide (t_10 < (goLen p_l))) ((goAt p_l t_10).bind fun e_11 => ((((goApp 40 ([] : List impl_Entry) kept_8).bind fun l_17 => ((goApp 40 l_17 ([e_11] : List impl_Entry)).bind fun l_20 => some l_20)) : Option ((List impl_Entry))).bind fun next_22 => ((spec_pLedger next_22).bind fun t_24 => (((cond t_24.2 ((spec_pWithin p_budget t_24.1).bind fun t_27 => some t_27) (some false)) : Option (Bool)).bind fun t_28 => (((cond t_28 ((goApp 8 out_6 ([t_10] : List Int)).bind fun l_30 => some (l_30, next_22)) (some (out_6, kept_8))) : Option ((List Int) × (List impl_Entry))).bind fun (out_32, kept_34) => some (.next (out_32, kept_34, (w64 (t_10 + 1))))))))) (some (.done out_6)))

noncomputable def spec_AcceptEntries (p_budget : impl_Loss) (p_l : List impl_Entry) : Option ((List Int) × Bool) :=
  ((((spec_pGood p_budget).bind fun t_3 => (cond (!t_3) (some true) ((spec_pEntries p_l).bind fun t_4 => some (!t_4)))) : Option (Bool)).bind fun t_5 => (cond t_5 (some (([] : List Int), false)) ((loopC (spec_AcceptEntries_l1 p_budget p_l) (([] : List Int), ([] : List impl_Entry), 0)).bind fun out_36 => some (out_36, true))))

noncomputable def impl_gcdOf_l1  : Int × Int → Option (Stp (Int × Int) (Int))
  | (a_3, b_4) => (cond (b_4 != 0) ((goRem a_3 b_4).bind fun t_5 => some (.next (b_4, t_5))) (some (.done a_3)))

noncomputable def impl_gcdOf (p_a : Int) (p_b : Int) : Option (Int) :=
  (((cond (decide (p_a < 0)) (some (w64 (-p_a))) (some p_a)) : Option (Int)).bind fun a_1 => (((cond (decide (p_b < 0)) (some (w64 (-p_b))) (some p_b)) : Option (Int)).bind fun b_2 => ((loopC (impl_gcdOf_l1) (a_1, b_2)).bind fun a_6 => some a_6)))

noncomputable def impl_IsFrac (p_f : impl_Frac) : Option (Bool) :=
  (((cond (decide (1 ≤ p_f.Den)) (cond (decide (p_f.Den ≤ 1000000000)) (cond (decide ((-1000000000) ≤ p_f.Num)) (cond (decide (p_f.Num ≤ 1000000000)) ((impl_gcdOf p_f.Num p_f.Den).bind fun t_2 => some (t_2 == 1)) (some false)) (some false)) (some false)) (some false)) : Option (Bool)).bind fun t_3 => some t_3)

noncomputable def impl_IsLoss (p_x : impl_Loss) : Option (Bool) :=
  ((((impl_IsFrac p_x.Ratio).bind fun t_2 => (cond t_2 ((impl_IsFrac p_x.Rho).bind fun t_3 => (cond t_3 (cond (decide (p_x.Ratio.Den ≤ p_x.Ratio.Num)) (some (decide (0 ≤ p_x.Rho.Num))) (some false)) (some false))) (some false))) : Option (Bool)).bind fun t_4 => some t_4)

noncomputable def impl_areEntries_l1 (p_l : List impl_Entry) (t_2 : Int) : Option (Stp (Int) ((Unit) ⊕ (Bool))) :=
  (cond (decide (t_2 < (goLen p_l))) ((goAt p_l t_2).bind fun e_3 => (((cond (decide (e_3.Scope < (-1))) (some true) (cond (decide (29 < e_3.Scope)) (some true) ((impl_IsLoss e_3.Loss).bind fun t_6 => some (!t_6)))) : Option (Bool)).bind fun t_7 => (cond t_7 (some (.done (.inr false))) (some (.next (w64 (t_2 + 1))))))) (some (.done (.inl ()))))

noncomputable def impl_areEntries (p_l : List impl_Entry) : Option (Bool) :=
  (cond (decide (30 < (goLen p_l))) (some false) ((loopC (impl_areEntries_l1 p_l) 0).bind fun | .inl () => some true | .inr o => some o))

noncomputable def impl_NoLoss  : Option (impl_Loss) :=
  some (impl_Loss.mk (impl_Frac.mk 1 1) (impl_Frac.mk 0 1))

noncomputable def impl_reduced (p_n : Int) (p_d : Int) : Option (impl_Frac × Bool) :=
  ((impl_gcdOf p_n p_d).bind fun t_2 => ((goQuo .i64 p_n t_2).bind fun t_3 => ((goQuo .i64 p_d t_2).bind fun t_4 => (((cond (decide (t_4 < 0)) (some ((w64 (-t_3)), (w64 (-t_4)))) (some (t_3, t_4))) : Option (Int × Int)).bind fun (n_5, d_6) => (((cond (decide (1000000000 < n_5)) (some true) (cond (decide (n_5 < (-1000000000))) (some true) (some (decide (1000000000 < d_6))))) : Option (Bool)).bind fun t_7 => (cond t_7 (some ((impl_Frac.mk 0 0), false)) (some ((impl_Frac.mk n_5 d_6), true))))))))

noncomputable def impl_MulFrac (p_a : impl_Frac) (p_b : impl_Frac) : Option (impl_Frac × Bool) :=
  ((((impl_IsFrac p_a).bind fun t_4 => (cond (!t_4) (some true) ((impl_IsFrac p_b).bind fun t_5 => some (!t_5)))) : Option (Bool)).bind fun t_6 => (cond t_6 (some ((impl_Frac.mk 0 0), false)) ((impl_reduced (w64 (p_a.Num * p_b.Num)) (w64 (p_a.Den * p_b.Den))).bind fun t_7 => some (t_7.1, t_7.2))))

noncomputable def impl_AddFrac (p_a : impl_Frac) (p_b : impl_Frac) : Option (impl_Frac × Bool) :=
  ((((impl_IsFrac p_a).bind fun t_4 => (cond (!t_4) (some true) ((impl_IsFrac p_b).bind fun t_5 => some (!t_5)))) : Option (Bool)).bind fun t_6 => (cond t_6 (some ((impl_Frac.mk 0 0), false)) ((impl_reduced (w64 ((w64 (p_a.Num * p_b.Den)) + (w64 (p_b.Num * p_a.Den)))) (w64 (p_a.Den * p_b.Den))).bind fun t_7 => some (t_7.1, t_7.2))))

noncomputable def impl_composed (p_a : impl_Loss) (p_b : impl_Loss) : Option (impl_Loss × Bool) :=
  ((impl_MulFrac p_a.Ratio p_b.Ratio).bind fun t_4 => (cond (!t_4.2) (some ((impl_Loss.mk (impl_Frac.mk 0 0) (impl_Frac.mk 0 0)), false)) ((impl_AddFrac p_a.Rho p_b.Rho).bind fun t_6 => (cond (!t_6.2) (some ((impl_Loss.mk (impl_Frac.mk 0 0) (impl_Frac.mk 0 0)), false)) (some ((impl_Loss.mk t_4.1 t_6.1), true))))))

noncomputable def impl_scopeBefore_l1 (p_l : List impl_Entry) (p_scope : Int) (t_2 : Int) : Option (Stp (Int) ((Unit) ⊕ (Bool))) :=
  (cond (decide (t_2 < (goLen p_l))) ((goAt p_l t_2).bind fun e_3 => (cond (e_3.Scope == p_scope) (some (.done (.inr true))) (some (.next (w64 (t_2 + 1)))))) (some (.done (.inl ()))))

noncomputable def impl_scopeBefore (p_l : List impl_Entry) (p_scope : Int) : Option (Bool) :=
  ((loopC (impl_scopeBefore_l1 p_l p_scope) 0).bind fun | .inl () => some false | .inr o => some o)

noncomputable def impl_cmpFrac (p_a : impl_Frac) (p_b : impl_Frac) : Option (Int) :=
  (cond (decide ((w64 (p_a.Num * p_b.Den)) < (w64 (p_b.Num * p_a.Den)))) (some (-1)) (cond (decide ((w64 (p_b.Num * p_a.Den)) < (w64 (p_a.Num * p_b.Den)))) (some 1) (some 0)))

noncomputable def impl_greatest (p_a : impl_Loss) (p_b : impl_Loss) : Option (impl_Loss) :=
  ((impl_cmpFrac p_b.Ratio p_a.Ratio).bind fun t_4 => (((cond (decide (0 < t_4)) (some (impl_Loss.mk p_b.Ratio p_a.Rho)) (some p_a)) : Option (impl_Loss)).bind fun a_5 => ((impl_cmpFrac p_b.Rho a_5.Rho).bind fun t_6 => (((cond (decide (0 < t_6)) (some (impl_Loss.mk a_5.Ratio p_b.Rho)) (some a_5)) : Option (impl_Loss)).bind fun a_7 => some a_7))))

noncomputable def impl_ledgerLoss_l1 (p_l : List impl_Entry) : Int × impl_Loss → Option (Stp (Int × impl_Loss) ((impl_Loss) ⊕ (impl_Loss × Bool)))
  | (t_5, first_6) => (cond (decide (t_5 < (goLen p_l))) ((goAt p_l t_5).bind fun e_7 => (((cond (e_7.Scope == (-1)) ((impl_composed first_6 e_7.Loss).bind fun t_10 => (cond (!t_10.2) (some (.inr (.done (.inr ((impl_Loss.mk (impl_Frac.mk 0 0) (impl_Frac.mk 0 0)), false))))) (some (.inl t_10.1)))) (some (.inl first_6))) : Option ((impl_Loss) ⊕ (Stp (Int × impl_Loss) ((impl_Loss) ⊕ (impl_Loss × Bool))))).bind fun | .inl first_11 => some (.next ((w64 (t_5 + 1)), first_11)) | .inr o => some o)) (some (.done (.inl first_6))))

noncomputable def impl_ledgerLoss_l3 (p_l : List impl_Entry) (e_16 : impl_Entry) : Int × impl_Loss → Option (Stp (Int × impl_Loss) ((impl_Loss) ⊕ ((impl_Loss) ⊕ (Stp (Int × impl_Loss) ((impl_Loss) ⊕ (impl_Loss × Bool))))))
  | (t_24, own_25) => (cond (decide (t_24 < (goLen p_l))) ((goAt p_l t_24).bind fun e_26 => (((cond (e_26.Scope == e_16.Scope) ((impl_composed own_25 e_26.Loss).bind fun t_29 => (cond (!t_29.2) (some (.inr (.done (.inr (.inr (.done (.inr ((impl_Loss.mk (impl_Frac.mk 0 0) (impl_Frac.mk 0 0)), false)))))))) (some (.inl t_29.1)))) (some (.inl own_25))) : Option ((impl_Loss) ⊕ (Stp (Int × impl_Loss) ((impl_Loss) ⊕ ((impl_Loss) ⊕ (Stp (Int × impl_Loss) ((impl_Loss) ⊕ (impl_Loss × Bool)))))))).bind fun | .inl own_30 => some (.next ((w64 (t_24 + 1)), own_30)) | .inr o => some o)) (some (.done (.inl own_25))))

noncomputable def impl_ledgerLoss_l2 (p_l : List impl_Entry) (first_12 : impl_Loss) : Int × impl_Loss → Option (Stp (Int × impl_Loss) ((impl_Loss) ⊕ (impl_Loss × Bool)))
  | (t_14, out_15) => (cond (decide (t_14 < (goLen p_l))) ((((goAt p_l t_14).bind fun e_16 => (((cond (e_16.Scope == (-1)) (some true) ((goSub p_l 0 t_14).bind fun l_19 => ((impl_scopeBefore l_19 e_16.Scope).bind fun t_21 => some t_21))) : Option (Bool)).bind fun t_22 => (cond t_22 (some (.inl out_15)) ((loopC (impl_ledgerLoss_l3 p_l e_16) (0, first_12)).bind fun | .inl own_31 => ((impl_greatest out_15 own_31).bind fun t_32 => some (.inl t_32)) | .inr o => some o)))) : Option ((impl_Loss) ⊕ (Stp (Int × impl_Loss) ((impl_Loss) ⊕ (impl_Loss × Bool))))).bind fun | .inl out_33 => some (.next ((w64 (t_14 + 1)), out_33)) | .inr o => some o) (some (.done (.inl out_15))))

noncomputable def impl_ledgerLoss (p_l : List impl_Entry) : Option (impl_Loss × Bool) :=
  ((impl_NoLoss).bind fun t_3 => ((loopC (impl_ledgerLoss_l1 p_l) (0, t_3)).bind fun | .inl first_12 => ((loopC (impl_ledgerLoss_l2 p_l first_12) (0, first_12)).bind fun | .inl out_34 => some (out_34, true) | .inr o => some o) | .inr o => some o))

noncomputable def impl_isWithin (p_budget : impl_Loss) (p_x : impl_Loss) : Option (Bool) :=
  ((((impl_cmpFrac p_x.Ratio p_budget.Ratio).bind fun t_3 => (cond (decide (t_3 ≤ 0)) ((impl_cmpFrac p_x.Rho p_budget.Rho).bind fun t_4 => some (decide (t_4 ≤ 0))) (some false))) : Option (Bool)).bind fun t_5 => some t_5)

noncomputable def impl_AcceptEntries_l1 (p_budget : impl_Loss) (p_l : List impl_Entry) : (List impl_Entry) × (List Int) × Int → Option (Stp ((List impl_Entry) × (List Int) × Int) ((List Int)))
  | (accepted_6, out_8, t_10) => (cond (decide (t_10 < (goLen p_l))) ((goAt p_l t_10).bind fun e_11 => ((goSub3 accepted_6 0 (goLen accepted_6) (goLen accepted_6)).bind fun l_14 => ((goApp 40 l_14 ([e_11] : List impl_Entry)).bind fun l_17 => ((impl_ledgerLoss l_17).bind fun t_19 => (((cond t_19.2 ((impl_isWithin p_budget t_19.1).bind fun t_22 => some t_22) (some false)) : Option (Bool)).bind fun t_23 => (((cond t_23 ((goApp 8 out_8 ([t_10] : List Int)).bind fun l_25 => some (l_17, l_25)) (some (accepted_6, out_8))) : Option ((List impl_Entry) × (List Int))).bind fun (accepted_27, out_29) => some (.next (accepted_27, out_29, (w64 (t_10 + 1)))))))))) (some (.done out_8)))

noncomputable def impl_AcceptEntries (p_budget : impl_Loss) (p_l : List impl_Entry) : Option ((List Int) × Bool) :=
  ((((impl_IsLoss p_budget).bind fun t_3 => (cond (!t_3) (some true) ((impl_areEntries p_l).bind fun t_4 => some (!t_4)))) : Option (Bool)).bind fun t_5 => (cond t_5 (some (([] : List Int), false)) ((loopC (impl_AcceptEntries_l1 p_budget p_l) (([] : List impl_Entry), ([] : List Int), 0)).bind fun out_31 => some (out_31, true))))

noncomputable def laws_eqIntS_l1 (p_a : List Int) (p_b : List Int) (i_3 : Int) : Option (Stp (Int) ((Unit) ⊕ (Bool))) :=
  (cond (decide (i_3 < (goLen p_a))) ((goAt p_a i_3).bind fun e_4 => ((goAt p_b i_3).bind fun e_6 => (cond (e_4 != e_6) (some (.done (.inr false))) (some (.next (w64 (i_3 + 1))))))) (some (.done (.inl ()))))

noncomputable def laws_eqIntS (p_a : List Int) (p_b : List Int) : Option (Bool) :=
  (cond ((goLen p_a) != (goLen p_b)) (some false) ((loopC (laws_eqIntS_l1 p_a p_b) 0).bind fun | .inl () => some true | .inr o => some o))

noncomputable def laws_eqFrac (p_a : impl_Frac) (p_b : impl_Frac) : Option (Bool) :=
  (cond (p_a.Num != p_b.Num) (some false) (cond (p_a.Den != p_b.Den) (some false) (some true)))

noncomputable def laws_eqLoss (p_a : impl_Loss) (p_b : impl_Loss) : Option (Bool) :=
  ((laws_eqFrac p_a.Ratio p_b.Ratio).bind fun t_3 => (cond (!t_3) (some false) ((laws_eqFrac p_a.Rho p_b.Rho).bind fun t_4 => (cond (!t_4) (some false) (some true)))))

noncomputable def laws_eqEntry (p_a : impl_Entry) (p_b : impl_Entry) : Option (Bool) :=
  (cond (p_a.Scope != p_b.Scope) (some false) ((laws_eqLoss p_a.Loss p_b.Loss).bind fun t_3 => (cond (!t_3) (some false) (some true))))

noncomputable def laws_eqEntryS_l1 (p_a : List impl_Entry) (p_b : List impl_Entry) (i_3 : Int) : Option (Stp (Int) ((Unit) ⊕ (Bool))) :=
  (cond (decide (i_3 < (goLen p_a))) ((goAt p_a i_3).bind fun e_4 => ((goAt p_b i_3).bind fun e_6 => ((laws_eqEntry e_4 e_6).bind fun t_8 => (cond (!t_8) (some (.done (.inr false))) (some (.next (w64 (i_3 + 1)))))))) (some (.done (.inl ()))))

noncomputable def laws_eqEntryS (p_a : List impl_Entry) (p_b : List impl_Entry) : Option (Bool) :=
  (cond ((goLen p_a) != (goLen p_b)) (some false) ((loopC (laws_eqEntryS_l1 p_a p_b) 0).bind fun | .inl () => some true | .inr o => some o))

noncomputable def laws_markEntryS_l1  : (List impl_Entry) × Int × Int → Option (Stp ((List impl_Entry) × Int × Int) ((List impl_Entry) × Int))
  | (a_2, k_4, i_5) => (cond (decide (i_5 < (goLen a_2))) ((goAt a_2 i_5).bind fun e_6 => ((goAt (goSet a_2 i_5 (impl_Entry.mk k_4 e_6.Loss)) i_5).bind fun e_9 => ((goAt (goSet (goSet a_2 i_5 (impl_Entry.mk k_4 e_6.Loss)) i_5 (impl_Entry.mk e_9.Scope (impl_Loss.mk (impl_Frac.mk (w64 (k_4 + 1)) e_9.Loss.Ratio.Den) e_9.Loss.Rho))) i_5).bind fun e_12 => ((goAt (goSet (goSet (goSet a_2 i_5 (impl_Entry.mk k_4 e_6.Loss)) i_5 (impl_Entry.mk e_9.Scope (impl_Loss.mk (impl_Frac.mk (w64 (k_4 + 1)) e_9.Loss.Ratio.Den) e_9.Loss.Rho))) i_5 (impl_Entry.mk e_12.Scope (impl_Loss.mk (impl_Frac.mk e_12.Loss.Ratio.Num (w64 ((w64 (k_4 + 1)) + 1))) e_12.Loss.Rho))) i_5).bind fun e_15 => ((goAt (goSet (goSet (goSet (goSet a_2 i_5 (impl_Entry.mk k_4 e_6.Loss)) i_5 (impl_Entry.mk e_9.Scope (impl_Loss.mk (impl_Frac.mk (w64 (k_4 + 1)) e_9.Loss.Ratio.Den) e_9.Loss.Rho))) i_5 (impl_Entry.mk e_12.Scope (impl_Loss.mk (impl_Frac.mk e_12.Loss.Ratio.Num (w64 ((w64 (k_4 + 1)) + 1))) e_12.Loss.Rho))) i_5 (impl_Entry.mk e_15.Scope (impl_Loss.mk e_15.Loss.Ratio (impl_Frac.mk (w64 ((w64 ((w64 (k_4 + 1)) + 1)) + 1)) e_15.Loss.Rho.Den)))) i_5).bind fun e_18 => some (.next (goSet (goSet (goSet (goSet (goSet a_2 i_5 (impl_Entry.mk k_4 e_6.Loss)) i_5 (impl_Entry.mk e_9.Scope (impl_Loss.mk (impl_Frac.mk (w64 (k_4 + 1)) e_9.Loss.Ratio.Den) e_9.Loss.Rho))) i_5 (impl_Entry.mk e_12.Scope (impl_Loss.mk (impl_Frac.mk e_12.Loss.Ratio.Num (w64 ((w64 (k_4 + 1)) + 1))) e_12.Loss.Rho))) i_5 (impl_Entry.mk e_15.Scope (impl_Loss.mk e_15.Loss.Ratio (impl_Frac.mk (w64 ((w64 ((w64 (k_4 + 1)) + 1)) + 1)) e_15.Loss.Rho.Den)))) i_5 (impl_Entry.mk e_18.Scope (impl_Loss.mk e_18.Loss.Ratio (impl_Frac.mk e_18.Loss.Rho.Num (w64 ((w64 ((w64 ((w64 (k_4 + 1)) + 1)) + 1)) + 1))))), (w64 ((w64 ((w64 ((w64 ((w64 (k_4 + 1)) + 1)) + 1)) + 1)) + 1)), (w64 (i_5 + 1))))))))) (some (.done (a_2, k_4))))

noncomputable def laws_markEntryS (p_a : List impl_Entry) (p_k : Int) : Option (Int × (List impl_Entry)) :=
  ((loopC (laws_markEntryS_l1) (p_a, p_k, 0)).bind fun (a_21, k_23) => some (k_23, a_21))

noncomputable def laws_markIntS_l1  : (List Int) × Int × Int → Option (Stp ((List Int) × Int × Int) ((List Int) × Int))
  | (a_2, k_4, i_5) => (cond (decide (i_5 < (goLen a_2))) ((goAt a_2 i_5).bind fun e_6 => some (.next (goSet a_2 i_5 k_4, (w64 (k_4 + 1)), (w64 (i_5 + 1))))) (some (.done (a_2, k_4))))

noncomputable def laws_markIntS (p_a : List Int) (p_k : Int) : Option (Int × (List Int)) :=
  ((loopC (laws_markIntS_l1) (p_a, p_k, 0)).bind fun (a_9, k_11) => some (k_11, a_9))

noncomputable def laws_heldIntS_l1 (p_a : List Int) : Int × Int → Option (Stp (Int × Int) ((Int) ⊕ (Int)))
  | (k_2, i_3) => (cond (decide (i_3 < (goLen p_a))) ((goAt p_a i_3).bind fun e_4 => (cond (e_4 != k_2) (some (.done (.inr (-1)))) (some (.next ((w64 (k_2 + 1)), (w64 (i_3 + 1))))))) (some (.done (.inl k_2))))

noncomputable def laws_heldIntS (p_a : List Int) (p_k : Int) : Option (Int) :=
  ((loopC (laws_heldIntS_l1 p_a) (p_k, 0)).bind fun | .inl k_6 => some k_6 | .inr o => some o)

noncomputable def laws_FnExactAcceptEntries (p_aBudget : laws_Loss) (p_aL : List laws_Entry) : Option (Bool) :=
  ((laws_szEntryS p_aL 1048576).bind fun t_3 => (cond (decide (t_3 < 0)) (some true) ((laws_toLoss p_aBudget).bind fun t_4 => ((laws_toEntryS p_aL).bind fun t_5 => ((spec_AcceptEntries t_4 t_5).bind fun t_8 => ((laws_toEntryS p_aL).bind fun t_12 => ((laws_toLoss p_aBudget).bind fun t_15 => ((impl_AcceptEntries t_15 t_12).bind fun t_16 => ((((laws_eqIntS t_16.1 t_8.1).bind fun t_20 => (cond (!t_20) (some true) (some (t_16.2 != t_8.2)))) : Option (Bool)).bind fun t_22 => (cond t_22 (some false) ((laws_toEntryS p_aL).bind fun t_23 => ((laws_eqEntryS t_12 t_23).bind fun t_26 => (cond (!t_26) (some false) ((laws_markEntryS t_12 1).bind fun t_29 => (((cond (decide (t_29.1 < 0)) (some true) ((laws_eqIntS t_16.1 t_8.1).bind fun t_31 => (cond (!t_31) (some true) (some (t_16.2 != t_8.2))))) : Option (Bool)).bind fun t_33 => (cond t_33 (some false) ((laws_markIntS t_16.1 1).bind fun t_35 => ((laws_heldIntS t_35.2 1).bind fun t_37 => (cond (decide (t_37 < 0)) (some false) (cond (t_37 != t_35.1) (some false) ((laws_toLoss p_aBudget).bind fun t_39 => ((laws_toEntryS p_aL).bind fun t_40 => ((impl_AcceptEntries t_39 t_40).bind fun t_43 => ((((laws_eqIntS t_43.1 t_8.1).bind fun t_47 => (cond (!t_47) (some true) (some (t_43.2 != t_8.2)))) : Option (Bool)).bind fun t_49 => (cond t_49 (some false) ((laws_heldIntS t_35.2 1).bind fun t_50 => (cond (decide (t_50 < 0)) (some false) (cond (t_50 != t_35.1) (some false) (some true)))))))))))))))))))))))))))))

end Go.Gx.F
