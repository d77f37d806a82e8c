/- Plain laws: a fraction split by weights. -/
import Derived.Test.YtdbgmkfniichdaaCPMark
import Derived.Test.YtdbgmkfniichdaaCPAcc
namespace Go.Gx.F
open Go.Gx
set_option linter.all false

def isum (l : List Int) : Int := l.foldl (· + ·) 0

theorem lfold_sum : ∀ (l : List Int) (k : Nat) (s : Int), lfold (ρ := Int) (fun _ x s => some (.inl (s + x))) some k l s = some (l.foldl (· + ·) s)
  | [], _, _ => rfl
  | x :: l, k, s => by simp only [lfold, lfold_sum l, List.foldl_cons]

theorem isum_bound : ∀ (l : List Int) (s : Int), (∀ x ∈ l, 1 ≤ x ∧ x ≤ 1000) → s + l.length ≤ l.foldl (· + ·) s ∧ l.foldl (· + ·) s ≤ s + 1000 * l.length
  | [], s, _ => by simp
  | x :: l, s, h => by
    have h1 := h x (by simp)
    have h2 := isum_bound l (s + x) (fun y hy => h y (by simp [hy]))
    simp only [List.foldl_cons, List.length_cons]
    omega

theorem impl_total_eq {l : List Int} (hl : l.length ≤ 1048576) (h : ∀ x ∈ l, 1 ≤ x ∧ x ≤ 1000) : impl_total l = some (isum l) := by
  unfold impl_total
  rw [loop_list (fun k s => (s, k)) l (impl_total_l1 l) (fun _ x s => some (.inl (s + x))) some (fun k s => 0 ≤ s ∧ s ≤ 1000 * (k : Int)) (fun k x s hx hs => ?_) (fun s _ => ?_) (fun k x s s' hx hs hh => ?_) (s := 0) ⟨by simp, by simp⟩]
  · rw [lfold_sum]; rfl
  · have hlt := (List.getElem?_eq_some_iff.1 hx).1
    have hb := h x (List.mem_of_getElem? hx)
    simp only [impl_total_l1, lt_ok hx, cond_true, at_ok hx, Option.bind_some, nx_ok hx (by omega)]
    rw [w64_in (by omega) (by omega)]
    rfl
  · simp only [impl_total_l1, lt_end, cond_false]; rfl
  · have hb := h x (List.mem_of_getElem? hx)
    simp only [Option.some.injEq, Sum.inl.injEq] at hh
    subst hh
    omega

theorem spec_total_eq {l : List Int} (hl : l.length ≤ 1048576) (h : ∀ x ∈ l, 1 ≤ x ∧ x ≤ 1000) : loopC (spec_SplitRho_l1 l) (0, 0) = some (isum l) := by
  rw [loop_list (fun k s => (s, k)) l (spec_SplitRho_l1 l) (fun _ x s => some (.inl (s + x))) some (fun k s => 0 ≤ s ∧ s ≤ 1000 * (k : Int)) (fun k x s hx hs => ?_) (fun s _ => ?_) (fun k x s s' hx hs hh => ?_) (s := 0) ⟨by simp, by simp⟩]
  · rw [lfold_sum]; rfl
  · have hlt := (List.getElem?_eq_some_iff.1 hx).1
    have hb := h x (List.mem_of_getElem? hx)
    simp only [spec_SplitRho_l1, lt_ok hx, cond_true, at_ok hx, Option.bind_some, nx_ok hx (by omega)]
    rw [w64_in (by omega) (by omega)]
    rfl
  · simp only [spec_SplitRho_l1, lt_end, cond_false]; rfl
  · have hb := h x (List.mem_of_getElem? hx)
    simp only [Option.some.injEq, Sum.inl.injEq] at hh
    subst hh
    omega

theorem spec_l1All_eq {l : List Int} (lo hi : Int) (hl : l.length ≤ 1048576) : spec_l1All l lo hi = some (l.all fun x => decide (lo ≤ x ∧ x ≤ hi)) := by
  unfold spec_l1All
  rw [loop_all (l := l) (fun x => decide (lo ≤ x ∧ x ≤ hi)) _ (fun k x hx => ?_) (fun _ => ?_)]
  · by_cases ha : l.all (fun x => decide (lo ≤ x ∧ x ≤ hi)) = true
    · rw [if_pos ha, ha]; rfl
    · rw [if_neg ha]; simp only [Bool.not_eq_true] at ha; rw [ha]; rfl
  · simp only [spec_l1All_l1, lt_ok hx, cond_true, at_ok hx, Option.bind_some, spec_l1In_eq, nx_ok hx (by omega)]
    by_cases hs : lo ≤ x ∧ x ≤ hi <;> simp [hs]
  · simp only [spec_l1All_l1, lt_end, cond_false]

theorem impl_weights_eq {l : List Int} (hl : l.length ≤ 1048576) : loopC (impl_SplitRho_l1 l) 0 = some (if l.all (fun x => decide (1 ≤ x ∧ x ≤ 1000)) then .inl () else .inr ([], false)) := by
  have h := loop_list (σ := Unit) (fun k _ => k) l (impl_SplitRho_l1 l) (fun _ x _ => some (if 1 ≤ x ∧ x ≤ 1000 then .inl () else .inr (.inr ([], false)))) (fun _ => some (.inl ())) (fun _ _ => True)
    (fun k x _ hx _ => by
      simp only [impl_SplitRho_l1, lt_ok hx, cond_true, at_ok hx, Option.bind_some, nx_ok hx (by omega)]
      by_cases h1 : x < 1
      · simp [h1, nxt, show ¬ (1 ≤ x ∧ x ≤ 1000) by omega]
      · by_cases h2 : 1000 < x
        · simp [h1, h2, nxt, show ¬ (1 ≤ x ∧ x ≤ 1000) by omega]
        · simp [h1, h2, nxt, show 1 ≤ x ∧ x ≤ 1000 by omega]) (fun _ _ => by simp only [impl_SplitRho_l1, lt_end, cond_false]; rfl) (fun _ _ _ _ _ _ _ => trivial) (s := ()) trivial
  rw [h]
  suffices ∀ (l : List Int) (k : Nat), lfold (ρ := Unit ⊕ (List impl_Frac × Bool)) (fun _ x (_ : Unit) => some (if 1 ≤ x ∧ x ≤ 1000 then .inl () else .inr (.inr ([], false)))) (fun _ => some (.inl ())) k l () = some (if l.all (fun x => decide (1 ≤ x ∧ x ≤ 1000)) then .inl () else .inr ([], false)) from this l 0
  intro l
  induction l with
  | nil => intro k; rfl
  | cons y l ih =>
    intro k
    simp only [lfold]
    by_cases hp : 1 ≤ y ∧ y ≤ 1000
    · simp only [if_pos hp, ih, List.all_cons, decide_eq_true hp, Bool.true_and]
    · rw [if_neg hp, List.all_cons, decide_eq_false hp]; rfl

def partOf (rho : impl_Frac) (S : Int) (_ : Nat) (w : Int) : Option impl_Frac := if (fmul rho (mk w S).1).2 then some (fmul rho (mk w S).1).1 else none

theorem splits {rho : impl_Frac} (hr : Good rho) {l : List Int} (hl : l.length ≤ 30) (h : ∀ x ∈ l, 1 ≤ x ∧ x ≤ 1000) (hne : 1 ≤ l.length) :
    loopC (spec_SplitRho_l2 rho l (isum l)) ([], 0) = some ((mapO (partOf rho (isum l)) 0 l).elim (.inr ([], false)) .inl) ∧
    loopC (impl_SplitRho_l2 rho l (isum l)) (List.replicate l.length ⟨0, 0⟩, 0) = some ((mapO (partOf rho (isum l)) 0 l).elim (.inr ([], false)) .inl) := by
  have hb := isum_bound l 0 h
  have hS1 : 1 ≤ isum l := by unfold isum; omega
  have hS2 : isum l ≤ 30000 := by unfold isum; omega
  have ok : ∀ x ∈ l, (mk x (isum l)).2 = true ∧ Good (mk x (isum l)).1 := fun x hx => by
    have := h x hx
    have h1 := mk_ok (n := x) (d := isum l) (by omega) (by omega) hS1 (by omega)
    exact ⟨h1, mk_good (by omega) h1⟩
  constructor
  · refine loop_app (fun k out => (out, k)) l (partOf rho (isum l)) _ Sum.inl _ (fun k x out hx ho => ?_) (fun out _ => ?_)
    · have hlt := (List.getElem?_eq_some_iff.1 hx).1
      have hx' := List.mem_of_getElem? hx
      have := h x hx'
      obtain ⟨o1, o2⟩ := ok x hx'
      simp only [spec_SplitRho_l2, lt_ok hx, cond_true, at_ok hx, Option.bind_some, nx_ok hx (by omega), partOf]
      rw [spec_fMake_eq (by omega) (by omega) (by omega)]
      simp only [Option.bind_some, spec_fMul_eq hr o2, o1, Bool.not_true, cond_false]
      cases hf : (fmul rho (mk x (isum l)).1).2 with
      | false => simp
      | true => simp [goApp_ok (show (out.length + [(fmul rho (mk x (isum l)).1).1].length) * 16 ≤ 140737488355328 by simp; omega)]
    · simp only [spec_SplitRho_l2, lt_end, cond_false]
  · refine loop_set (fun k out => (out, k)) l (partOf rho (isum l)) _ Sum.inl _ _ (fun k x out hx ho => ?_) (fun out _ => ?_)
    · have hlt := (List.getElem?_eq_some_iff.1 hx).1
      have hx' := List.mem_of_getElem? hx
      have := h x hx'
      obtain ⟨o1, o2⟩ := ok x hx'
      have ho' : out[k]? = some out[k] := by simp [ho, hlt]
      simp only [impl_SplitRho_l2, lt_ok hx, cond_true, at_ok hx, Option.bind_some, nx_ok hx (by omega), partOf]
      rw [impl_reduced_eq (by omega) (by omega) (by omega)]
      simp only [Option.bind_some, impl_MulFrac_eq o2 hr, o1, Bool.not_true, cond_false, at_ok ho', fmul_comm (mk x (isum l)).1 rho]
      cases hf : (fmul rho (mk x (isum l)).1).2 with
      | false => simp
      | true => simp [goSet]
    · simp only [impl_SplitRho_l2, lt_end, cond_false]

theorem splits_same (rho : impl_Frac) {l : List Int} (hl : l.length ≤ 1048576) : ∃ p, spec_SplitRho rho l = some p ∧ impl_SplitRho rho l = some p ∧ p.1.length ≤ 1048576 := by
  unfold spec_SplitRho impl_SplitRho
  rw [spec_fGood_eq, impl_IsFrac_eq]
  simp only [Option.bind_some]
  by_cases hr : Good rho
  · by_cases h0 : rho.Num < 0
    · exact ⟨([], false), by simp [hr, h0], by simp [hr, h0], by simp⟩
    · simp only [hr, h0, decide_true, decide_false, Bool.not_true, cond_false, spec_l1In_eq, Option.bind_some, spec_l1All_eq 1 1000 hl, goLen]
      by_cases h1 : (l.length : Int) < 1
      · exact ⟨([], false), by simp [h1, show ¬ (1 ≤ (l.length : Int) ∧ (l.length : Int) ≤ 30) by omega], by simp [h1], by simp⟩
      · by_cases h2 : 30 < (l.length : Int)
        · exact ⟨([], false), by simp [h1, show ¬ (1 ≤ (l.length : Int) ∧ (l.length : Int) ≤ 30) by omega], by simp [h1, h2], by simp⟩
        · simp only [h1, h2, show 1 ≤ (l.length : Int) ∧ (l.length : Int) ≤ 30 by omega, decide_true, decide_false, Bool.not_true, cond_false, Option.bind_some, impl_weights_eq hl]
          by_cases ha : l.all (fun x => decide (1 ≤ x ∧ x ≤ 1000)) = true
          · have hm : ∀ x ∈ l, 1 ≤ x ∧ x ≤ 1000 := fun x hx => by simpa using List.all_eq_true.1 ha x hx
            obtain ⟨s1, s2⟩ := splits hr (l := l) (by omega) hm (by omega)
            simp only [ha, Bool.not_true, cond_false, if_true, Option.bind_some, spec_total_eq hl hm, impl_total_eq hl hm, s1]
            rw [goMake_ok (by omega) (by omega)]
            simp only [Option.bind_some, s2]
            cases hq : mapO (partOf rho (isum l)) 0 l with
            | none => exact ⟨([], false), rfl, rfl, by simp⟩
            | some r => exact ⟨(r, true), rfl, rfl, by have := mapO_len hq; simp only; omega⟩
          · simp only [Bool.not_eq_true] at ha
            exact ⟨([], false), by rw [ha]; rfl, by rw [ha]; rfl, by simp⟩
  · exact ⟨([], false), by simp [hr], by simp [hr], by simp⟩
