/- Plain laws: losses of several releases. -/
import Derived.Test.YtdbgmkfniichdaaDPUse
namespace Go.Gx.F
open Go.Gx
set_option linter.all false

theorem w64_len {n : Nat} (h : n ≤ 9223372036854775807) : w64 (1048576 - (n : Int)) = 1048576 - (n : Int) := w64_in (by omega) (by omega)

theorem maxLen_le {n : Nat} (h : n ≤ maxLen) : n ≤ 9223372036854775807 := by unfold maxLen at h; omega

def goodLs (l : List impl_Loss) : Bool := l.all (fun x => decide (GoodL x)) && decide (l.length ≤ 30)

theorem goodLs_mem {l : List impl_Loss} (h : goodLs l = true) : ∀ x ∈ l, GoodL x := by
  unfold goodLs at h
  simp only [Bool.and_eq_true, List.all_eq_true, decide_eq_true_eq] at h
  exact h.1

/-- the greater fraction -/
def fgr (a b : impl_Frac) : impl_Frac := if cmp a b < 0 then b else a

theorem cmp_flip (a b : impl_Frac) : 0 < cmp b a ↔ cmp a b < 0 := by
  unfold cmp
  split <;> split <;> (try split) <;> (try split) <;> omega

theorem fgr_good {a b : impl_Frac} (ha : Good a) (hb : Good b) : Good (fgr a b) := by unfold fgr; split <;> assumption

theorem spec_fGreater_eq {a b : impl_Frac} (ha : Good a) (hb : Good b) : spec_fGreater a b = some (fgr a b) := by
  unfold spec_fGreater fgr
  rw [spec_cmp_good ha hb]
  simp only [Option.bind_some]
  by_cases h : cmp a b < 0 <;> simp [h]

def lgr (a b : impl_Loss) : impl_Loss := ⟨fgr a.Ratio b.Ratio, fgr a.Rho b.Rho⟩

theorem lgr_good {a b : impl_Loss} (ha : GoodL a) (hb : GoodL b) : GoodL (lgr a b) := by
  obtain ⟨a1, a2, a3, a4⟩ := ha
  obtain ⟨b1, b2, b3, b4⟩ := hb
  refine ⟨fgr_good a1 b1, fgr_good a2 b2, ?_, ?_⟩
  · unfold lgr fgr; dsimp only; split <;> assumption
  · unfold lgr fgr; dsimp only; split <;> assumption

theorem impl_greatest_eq {a b : impl_Loss} (ha : GoodL a) (hb : GoodL b) : impl_greatest a b = some (lgr a b) := by
  unfold impl_greatest lgr fgr
  rw [impl_cmp_good hb.1 ha.1]
  simp only [Option.bind_some]
  have e1 := cmp_flip a.Ratio b.Ratio
  have e2 := cmp_flip a.Rho b.Rho
  by_cases h1 : cmp a.Ratio b.Ratio < 0
  · rw [show decide (0 < cmp b.Ratio a.Ratio) = true by simp [e1, h1]]
    simp only [cond_true, Option.bind_some, impl_cmp_good hb.2.1 ha.2.1]
    by_cases h2 : cmp a.Rho b.Rho < 0
    · rw [show decide (0 < cmp b.Rho a.Rho) = true by simp [e2, h2]]; simp [h1, h2]
    · rw [show decide (0 < cmp b.Rho a.Rho) = false by simp [e2, h2]]; simp [h1, h2]
  · rw [show decide (0 < cmp b.Ratio a.Ratio) = false by simp [e1, h1]]
    simp only [cond_false, Option.bind_some, impl_cmp_good hb.2.1 ha.2.1]
    by_cases h2 : cmp a.Rho b.Rho < 0
    · rw [show decide (0 < cmp b.Rho a.Rho) = true by simp [e2, h2]]; simp [h1, h2]
    · rw [show decide (0 < cmp b.Rho a.Rho) = false by simp [e2, h2]]; simp [h1, h2]

theorem spec_pNone_eq : spec_pNone = some ⟨⟨1, 1⟩, ⟨0, 1⟩⟩ := rfl

theorem impl_NoLoss_eq : impl_NoLoss = some ⟨⟨1, 1⟩, ⟨0, 1⟩⟩ := rfl

theorem foldl_lgr_good : ∀ (l : List impl_Loss) (s : impl_Loss), GoodL s → (∀ x ∈ l, GoodL x) → GoodL (l.foldl lgr s)
  | [], s, h, _ => h
  | x :: l, s, h, hl => foldl_lgr_good l _ (lgr_good h (hl x (by simp))) (fun y hy => hl y (by simp [hy]))

theorem lfold_lgr : ∀ (l : List impl_Loss) (k : Nat) (s : impl_Loss), lfold (ρ := impl_Loss) (fun _ x s => some (.inl (lgr s x))) some k l s = some (l.foldl lgr s)
  | [], _, _ => rfl
  | x :: l, k, s => by simp only [lfold, lfold_lgr l, List.foldl_cons]

theorem spec_pParallel_eq {l : List impl_Loss} (hl : l.length ≤ 1048576) (hg : ∀ x ∈ l, GoodL x) : spec_pParallel l = some (l.foldl lgr ⟨⟨1, 1⟩, ⟨0, 1⟩⟩) := by
  unfold spec_pParallel
  rw [spec_pNone_eq]
  simp only [Option.bind_some]
  rw [loop_list (fun k s => (k, s)) l (spec_pParallel_l1 l) (fun _ x s => some (.inl (lgr s x))) some (fun _ s => GoodL s) (fun k x s hx hs => ?_) (fun s _ => ?_) (fun k x s s' hx hs h => ?_) (s := ⟨⟨1, 1⟩, ⟨0, 1⟩⟩) good_none]
  · rw [lfold_lgr]; rfl
  · have gx := hg x (List.mem_of_getElem? hx)
    simp only [spec_pParallel_l1, lt_ok hx, cond_true, at_ok hx, Option.bind_some, spec_fGreater_eq hs.1 gx.1, spec_fGreater_eq hs.2.1 gx.2.1, nx_ok hx (by omega)]
    rfl
  · simp only [spec_pParallel_l1, lt_end, cond_false]; rfl
  · simp only [Option.some.injEq, Sum.inl.injEq] at h
    subst h
    exact lgr_good hs (hg x (List.mem_of_getElem? hx))

/-- losses one after the other -/
def compL : List impl_Loss → impl_Loss → impl_Loss × Bool
  | [], s => (s, true)
  | x :: l, s => if (comp s x).2 then compL l (comp s x).1 else (⟨⟨0, 0⟩, ⟨0, 0⟩⟩, false)

def stepC (_ : Nat) (x s : impl_Loss) : Option (impl_Loss ⊕ (impl_Loss ⊕ (impl_Loss × Bool))) :=
  some (if (comp s x).2 then .inl (comp s x).1 else .inr (.inr (⟨⟨0, 0⟩, ⟨0, 0⟩⟩, false)))

def compR (p : impl_Loss × Bool) : impl_Loss ⊕ (impl_Loss × Bool) := if p.2 then .inl p.1 else .inr p

theorem lfold_comp : ∀ (l : List impl_Loss) (k : Nat) (s : impl_Loss), lfold stepC (fun s => some (.inl s)) k l s = some (compR (compL l s))
  | [], _, _ => rfl
  | x :: l, k, s => by
    simp only [lfold, stepC, compL]
    by_cases h : (comp s x).2 = true
    · simp only [h, if_true]; exact lfold_comp l (k + 1) _
    · simp [h, compR]
