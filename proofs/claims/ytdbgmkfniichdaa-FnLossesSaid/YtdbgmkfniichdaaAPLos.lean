/- Plain laws: uses that are counted can be composed. -/
import Derived.Test.YtdbgmkfniichdaaAPBack
namespace Go.Gx.F
open Go.Gx
set_option linter.all false

theorem compL_snoc {x : impl_Loss} : ∀ (L : List impl_Loss) (s z : impl_Loss), compL L s = (z, true) → (comp z x).2 = true → compL (L ++ [x]) s = ((comp z x).1, true)
  | [], s, z, h, hc => by
    simp only [compL, Prod.mk.injEq, and_true] at h
    subst h
    simp [compL, hc]
  | y :: L, s, z, h, hc => by
    simp only [compL, List.cons_append] at h ⊢
    by_cases hy : (comp s y).2 = true
    · rw [if_pos hy] at h ⊢
      exact compL_snoc L _ z h hc
    · rw [if_neg hy] at h
      cases h

theorem uses_rep {b x : impl_Loss} (hb : GoodL b) (hx : GoodL x) : ∀ (n j : Nat) (s : impl_Loss), j ≤ 60 → 60 - j ≤ n → GoodL s → compL (List.replicate j x) ⟨⟨1, 1⟩, ⟨0, 1⟩⟩ = (s, true) → (0 < j → within b s = true) →
    ∃ r : Nat, ((loopC (impl_usesFrom_l1 b x 60) ((j : Int), s)).bind fun | .inl () => some 60 | .inr o => some o) = some (r : Int) ∧ r ≤ 60 ∧ ∃ z, compL (List.replicate r x) ⟨⟨1, 1⟩, ⟨0, 1⟩⟩ = (z, true) ∧ GoodL z ∧ (0 < r → within b z = true) := by
  intro n
  induction n with
  | zero =>
    intro j s h1 hn hs hc hw
    obtain rfl : j = 60 := by omega
    refine ⟨60, ?_, by omega, s, hc, hs, hw⟩
    rw [loopC_eq]; simp [impl_usesFrom_l1]
  | succ n ih =>
    intro j s h1 hn hs hc hw
    by_cases ht : j < 60
    · rw [loopC_eq (impl_usesFrom_l1 b x 60)]
      have e1 : decide ((j : Int) < 60) = true := by simp; omega
      simp only [impl_usesFrom_l1, e1, cond_true, impl_composed_eq hs hx, Option.bind_some]
      rcases hd : (comp s x).2 with _ | _
      · exact ⟨j, by simp, h1, s, hc, hs, hw⟩
      · have hg := comp_good hs hx hd
        simp only [Bool.not_true, cond_false, impl_isWithin_eq hb hg, Option.bind_some]
        rw [show w64 ((j : Int) + 1) = ((j + 1 : Nat) : Int) by rw [w64_in (by omega) (by omega)]; omega]
        cases hq : within b (comp s x).1 with
        | true =>
          simp only [Bool.not_true, cond_false, Option.bind_some]
          refine ih (j + 1) _ (by omega) (by omega) hg ?_ (fun _ => hq)
          rw [List.replicate_succ']
          exact compL_snoc _ _ _ hc hd
        | false => exact ⟨j, by simp, h1, s, hc, hs, hw⟩
    · obtain rfl : j = 60 := by omega
      refine ⟨60, ?_, by omega, s, hc, hs, hw⟩
      rw [loopC_eq]; simp [impl_usesFrom_l1]

/-- what CountUses comes to -/
theorem counted (b x : impl_Loss) : ∃ r : Nat, ∃ ok : Bool, spec_CountUses b x = some ((r : Int), ok) ∧ impl_CountUses b x = some ((r : Int), ok) ∧ r ≤ 60 ∧
    (ok = true → GoodL b ∧ GoodL x ∧ ∃ z, compL (List.replicate r x) ⟨⟨1, 1⟩, ⟨0, 1⟩⟩ = (z, true) ∧ GoodL z ∧ (0 < r → within b z = true)) := by
  unfold spec_CountUses impl_CountUses
  simp only [Option.bind_some, spec_pGood_eq, impl_IsLoss_eq, bools2]
  by_cases hc : GoodL b ∧ GoodL x
  · obtain ⟨h1, h2⟩ := hc
    obtain ⟨r, e1, e2⟩ := uses_same h1 h2 _ 0 ⟨⟨1, 1⟩, ⟨0, 1⟩⟩ (by omega) (by omega) (Nat.le_refl _) good_none
    obtain ⟨r', e3, e4, e5⟩ := uses_rep h1 h2 60 0 ⟨⟨1, 1⟩, ⟨0, 1⟩⟩ (by omega) (by omega) good_none rfl (fun h => absurd h (by omega))
    have er : r = (r' : Int) := Option.some.inj (e1.symm.trans e3)
    subst er
    have e1' : impl_usesFrom b ⟨⟨1, 1⟩, ⟨0, 1⟩⟩ x 60 = some (r' : Int) := by unfold impl_usesFrom; exact e1
    have e2' : loopC (spec_CountUses_l1 b x) (0, 1, ⟨⟨1, 1⟩, ⟨0, 1⟩⟩) = some (r' : Int) := e2
    refine ⟨r', true, ?_, ?_, e4, fun _ => ⟨h1, h2, e5⟩⟩
    · simp only [h1, h2, and_self, if_true, spec_pNone, spec_fInt, Option.bind_some, e2']
      try simp
    · simp only [h1, h2, and_self, if_true, impl_NoLoss, Option.bind_some, e1']
      try simp
  · refine ⟨0, false, ?_, ?_, by omega, fun h => by cases h⟩ <;> simp only [hc, if_false, Option.bind_some] <;> simp

/-- the program's composition of good losses -/
theorem impl_ComposeLosses_good {l : List impl_Loss} (hl : l.length ≤ 30) (hg : ∀ x ∈ l, GoodL x) : impl_ComposeLosses l = some (compL l ⟨⟨1, 1⟩, ⟨0, 1⟩⟩) := by
  have hgl : goodLs l = true := by
    unfold goodLs
    simp only [Bool.and_eq_true, List.all_eq_true, decide_eq_true_eq]
    exact ⟨hg, hl⟩
  unfold impl_ComposeLosses
  simp only [impl_areLosses_eq (show l.length ≤ 1048576 by omega), hgl, Option.bind_some, Bool.not_true, cond_false, impl_NoLoss_eq, impl_Compose_loop (show l.length ≤ 1048576 by omega) hg, lfold_comp]
  generalize compL l ⟨⟨1, 1⟩, ⟨0, 1⟩⟩ = p
  obtain ⟨u, b⟩ := p
  cases b <;> simp [compR]

/-- whether a loss is within another one -/
theorem impl_IsWithin_eq (b x : impl_Loss) : impl_IsWithin b x = some (if GoodL b ∧ GoodL x then (within b x, true) else (false, false)) := by
  unfold impl_IsWithin
  simp only [impl_IsLoss_eq, Option.bind_some]
  by_cases hb : GoodL b
  · by_cases hx : GoodL x
    · simp [hb, hx, impl_isWithin_eq hb hx]
    · simp [hb, hx]
  · simp [hb]
end Go.Gx.F
