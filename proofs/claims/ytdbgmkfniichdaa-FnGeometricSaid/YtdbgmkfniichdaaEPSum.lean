/- Plain laws: sums of fractions. -/
import Derived.Test.YtdbgmkfniichdaaEPAcc
namespace Go.Gx.F
open Go.Gx
set_option linter.all false

def fsums : List impl_Frac → impl_Frac → Option impl_Frac
  | [], s => some s
  | x :: l, s => if (fadd s x).2 then fsums l (fadd s x).1 else none

theorem good_zero : Good ⟨0, 1⟩ := by decide

def stepF (_ : Nat) (x s : impl_Frac) : Option (impl_Frac ⊕ (impl_Frac ⊕ (impl_Frac × Bool))) := some (if (fadd s x).2 then .inl (fadd s x).1 else .inr (.inr (⟨0, 0⟩, false)))

theorem lfold_fsums : ∀ (l : List impl_Frac) (k : Nat) (s : impl_Frac), lfold stepF (fun s => some (.inl s)) k l s = some ((fsums l s).elim (.inr (⟨0, 0⟩, false)) .inl)
  | [], _, _ => rfl
  | x :: l, k, s => by
    simp only [lfold, stepF, fsums]
    by_cases h : (fadd s x).2 = true
    · simp only [h, if_true]; exact lfold_fsums l (k + 1) _
    · simp [h]

theorem impl_SumFracs_eq {l : List impl_Frac} (hl : l.length ≤ 100) (hg : ∀ x ∈ l, Good x) : impl_SumFracs l = some ((fsums l ⟨0, 1⟩).elim (⟨0, 0⟩, false) (fun r => (r, true))) := by
  unfold impl_SumFracs
  rw [show decide (100 < goLen l) = false by simp [goLen]; omega]
  simp only [cond_false]
  rw [loop_list (fun k s => (k, s)) l (impl_SumFracs_l1 l) stepF (fun s => some (.inl s)) (fun _ s => Good s) (fun k x s hx hs => ?_) (fun s _ => ?_) (fun k x s s' hx hs h => ?_) good_zero]
  · rw [lfold_fsums]
    cases fsums l ⟨0, 1⟩ <;> rfl
  · have gx := hg x (List.mem_of_getElem? hx)
    simp only [impl_SumFracs_l1, lt_ok hx, cond_true, at_ok hx, Option.bind_some, impl_AddFrac_eq hs gx, nx_ok hx (by omega), stepF]
    cases hc : (fadd s x).2 <;> simp [nxt]
  · simp only [impl_SumFracs_l1, lt_end, cond_false]; rfl
  · simp only [stepF] at h
    by_cases hc : (fadd s x).2 = true
    · simp only [hc, if_true, Option.some.injEq, Sum.inl.injEq] at h
      subst h
      exact fadd_good hs (hg x (List.mem_of_getElem? hx)) hc
    · simp [hc] at h

theorem fsums_good : ∀ (l : List impl_Frac) (s t : impl_Frac), Good s → (∀ x ∈ l, Good x) → fsums l s = some t → Good t
  | [], s, t, hs, _, h => by simp only [fsums, Option.some.injEq] at h; subst h; exact hs
  | x :: l, s, t, hs, hl, h => by
    simp only [fsums] at h
    split at h
    · rename_i hc
      exact fsums_good l _ t (fadd_good hs (hl x (by simp)) hc) (fun y hy => hl y (by simp [hy])) h
    · cases h
end Go.Gx.F
