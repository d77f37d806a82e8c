/- Plain laws: budgets and losses. -/
import Derived.Test.YtdbgmkfniichdaaAPLos
import Derived.Test.YtdbgmkfniichdaaAPCur
namespace Go.Gx.F
open Go.Gx
set_option linter.all false

theorem rep_loop (t10 : impl_Loss × impl_Loss) (r : Nat) (ok : Bool) (hr : r ≤ 30) : loopC (laws_FnLosses_l1 t10 ((r : Int), ok)) ([], 0) = some (List.replicate r t10.2) := by
  have h := loop_app (fun k out => (out, k)) (List.replicate r t10.2) (fun _ x => some x) [] (fun q => q) (laws_FnLosses_l1 t10 ((r : Int), ok)) (fun k x out hx ho => ?_) (fun out _ => ?_)
  · rw [h]
    congr 1
    have : ∀ (l : List impl_Loss) (k : Nat), mapO (fun _ x => some x) k l = some l := by
      intro l
      induction l with
      | nil => intro k; rfl
      | cons x l ih => intro k; simp [mapO, ih]
    rw [this]
    rfl
  · have hlt := (List.getElem?_eq_some_iff.1 hx).1
    have hk : k < r := by simpa using hlt
    have hx' : x = t10.2 := by
      rw [List.getElem?_replicate_of_lt hk] at hx
      simpa using hx.symm
    subst hx'
    simp only [laws_FnLosses_l1, show decide ((k : Int) < (r : Int)) = true by simp; omega, cond_true, goApp_ok (show (out.length + [t10.2].length) * 32 ≤ 140737488355328 by simp; omega), Option.bind_some, nx_ok hx (by simp; omega)]
    rfl
  · simp only [laws_FnLosses_l1, show decide (((List.replicate r t10.2).length : Int) < (r : Int)) = false by simp, cond_false]

theorem laws_FnLosses_true (code more : List (K .u8)) (o1 : Rng.ok code) (o2 : Rng.ok more) : laws_FnLosses code more = some true := by
  unfold laws_FnLosses
  cases hb : decide (1048576 < w64 (goLen code + goLen more)) with
  | true => rfl
  | false =>
    obtain ⟨⟨b, x⟩, d1⟩ := DrawRemainingLoss_ok o1.2
    obtain ⟨⟨c, y⟩, d2⟩ := DrawCountUses_ok o2.2
    obtain ⟨r1, r2⟩ := remains b x
    obtain ⟨n, ok, u1, u2, u3, u4⟩ := counted c y
    simp only [cond_false, d1, d2, r1, r2, u1, u2, Option.bind_some, bne_self_eq_false, cond_false, beq_self_eq_true, Bool.and_self, Bool.not_true]
    -- the uses
    have mid : (((cond ((((cond ok (cond (decide (0 < (n : Int))) (some (decide ((n : Int) ≤ 30))) (some false)) (some false)) : Option (Bool))).getD false) ((loopC (laws_FnLosses_l1 (c, y) ((n : Int), ok)) (([] : List impl_Loss), 0)).bind fun l_23 => ((impl_ComposeLosses l_23).bind fun t_25 => ((impl_IsWithin c t_25.1).bind fun t_28 => (((cond (!t_25.2) (some true) (cond (!t_28.2) (some true) (some (!t_28.1)))) : Option (Bool)).bind fun t_29 => (cond t_29 (some (.inr false)) (some (.inl ()))))))) (some (.inl ()))) : Option ((Unit) ⊕ (Bool)))) = some (.inl ()) := by
      cases ok with
      | false => rfl
      | true =>
        by_cases hn : 0 < (n : Int) ∧ (n : Int) ≤ 30
        · obtain ⟨g1, g2, z, z1, z2, z3⟩ := u4 rfl
          rw [decide_eq_true hn.1, decide_eq_true hn.2]
          simp only [cond_true, Option.getD_some]
          have hw := z3 (by omega)
          rw [rep_loop (c, y) n true (by omega), Option.bind_some, impl_ComposeLosses_good (by simp; omega) (fun q hq => by rw [List.eq_of_mem_replicate hq]; exact g2), z1]
          simp only [Option.bind_some, impl_IsWithin_eq, if_pos (show GoodL c ∧ GoodL z from ⟨g1, z2⟩), hw, Bool.not_true, cond_false]
        · by_cases h0 : 0 < (n : Int)
          · rw [decide_eq_true h0, decide_eq_false (show ¬ (n : Int) ≤ 30 by omega)]; rfl
          · rw [decide_eq_false h0]; rfl
    -- what remains
    have last : (cond (!(remL b x).2) (some true) ((impl_ComposeLosses ([(remL b x).1, x] : List impl_Loss)).bind fun t_31 => ((((impl_IsLoss (remL b x).1).bind fun t_34 => (cond t_34 (cond (!t_31.2) (some true) (some (((t_31.1.Ratio.Num == b.Ratio.Num) && ((t_31.1.Ratio.Den == b.Ratio.Den) && true)) && (((t_31.1.Rho.Num == b.Rho.Num) && ((t_31.1.Rho.Den == b.Rho.Den) && true)) && true)))) (some false))) : Option (Bool)).bind fun t_35 => some t_35)) : Option Bool) = some true := by
      cases hr : (remL b x).2 with
      | false => rfl
      | true =>
        obtain ⟨g1, g2, g3, g4⟩ := rem_back hr
        rw [impl_ComposeLosses_good (by simp) (fun q hq => by simp at hq; rcases hq with rfl | rfl <;> assumption)]
        simp only [compL, comp_none g3, g4, if_true, Option.bind_some, impl_IsLoss_eq, g3, decide_true, Bool.not_true, cond_false, cond_true, beq_self_eq_true, Bool.and_self]
    cases ok with
    | false =>
      simp only [cond_false, Option.bind_some]
      exact last
    | true =>
      by_cases h0 : 0 < (n : Int)
      · by_cases h30 : (n : Int) ≤ 30
        · simp only [cond_true, decide_eq_true h0, decide_eq_true h30, Option.bind_some, Option.getD_some] at mid ⊢
          rw [mid]
          exact last
        · simp only [cond_true, decide_eq_true h0, decide_eq_false h30, Option.bind_some, cond_false]
          exact last
      · simp only [cond_true, decide_eq_false h0, cond_false, Option.bind_some]
        exact last
end Go.Gx.F
