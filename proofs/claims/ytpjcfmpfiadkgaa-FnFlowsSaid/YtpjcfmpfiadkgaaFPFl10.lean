/- Plain laws: the best columns for chosen rows. -/
import Derived.Test.YtpjcfmpfiadkgaaFPFl9

namespace Go.Gx.F

open Go.Gx

set_option linter.all false

set_option maxRecDepth 10000

def bst (n : Nat) (C : Nat → Int) (lo hi : Nat → Nat → Int) (S : Nat → Bool) : Nat → Bool := fun j => decide (C j - (sm n fun i => if S i = true then 0 else lo i j) < sm n fun i => if S i = true then hi i j else 0)

theorem cols_sel {n m : Nat} {t : impl_Transport} (hT : Tr n m t) (S : Nat → Bool) : spec_tColumns t (sel S n) = some (sel (bst n (vc t.Cols) (mt t.Lo) (mt t.Hi) S) m) := by
  have h1 := hT.rl; have h2 := hT.cl; have h3 := hT.n8; have h4 := hT.m8
  have hsl := sel_len S n
  have inner : ∀ j, j < m → loopC (spec_tColumns_l2 t (sel S n) (j : Int)) (vc t.Cols j, 0, 0) = some (vc t.Cols j - (sm n fun i => if S i = true then 0 else mt t.Lo i j), sm n fun i => if S i = true then mt t.Hi i j else 0) := by
    intro j hj
    have bd : ∀ i, i ≤ n → (0 ≤ sm i fun i => if S i = true then 0 else mt t.Lo i j) ∧ (sm i fun i => if S i = true then 0 else mt t.Lo i j) ≤ 100000 * (i : Int) ∧ (0 ≤ sm i fun i => if S i = true then mt t.Hi i j else 0) ∧ (sm i fun i => if S i = true then mt t.Hi i j else 0) ≤ 100000 * (i : Int) := by
      intro i
      induction i with
      | zero => intro _; exact ⟨Int.le_refl _, by simp [sm], Int.le_refl _, by simp [sm]⟩
      | succ i ih =>
        intro hi
        have g := ih (by omega)
        have b := hT.bd i j (by omega) hj
        simp only [sm]
        cases S i <;> simp <;> omega
    have hcj := hT.cb j hj
    refine tot_eq (tot_loop (fun s => ∃ i : Nat, i ≤ n ∧ s = (vc t.Cols j - (sm i fun i => if S i = true then 0 else mt t.Lo i j), sm i fun i => if S i = true then mt t.Hi i j else 0, (i : Int))) (fun s => n - s.2.2.toNat) ⟨0, by omega, by simp [sm]⟩ ?_)
    rintro _ ⟨i, hi', rfl⟩
    by_cases hi : i < n
    · have e0 : decide ((i : Int) < goLen t.Rows) = true := decide_eq_true (by simp only [goLen]; omega)
      obtain ⟨lr, hlr, _, _, _, _⟩ := hT.lo.get hi
      obtain ⟨hr, hhr, _, _, _, _⟩ := hT.hi.get hi
      have b := hT.bd i j hi hj
      have g := bd i hi'
      have g2 := bd (i + 1) (by omega)
      simp only [spec_tColumns_l2, e0, cond_true]
      rw [has_ok (by omega), mem_sel hi, Option.bind_some, wid (n := (i : Int) + 1) (by omega) (by omega)]
      cases hs : S i with
      | true =>
        simp only [cond_true, at_ok hhr, at_ok (hT.hi.el hhr hj), Option.bind_some]
        rw [wid (by omega) (by omega)]
        exact tot_some ⟨⟨i + 1, by omega, by simp only [sm, hs]; simp⟩, by simp only; omega⟩
      | false =>
        simp only [cond_false, at_ok hlr, at_ok (hT.lo.el hlr hj), Option.bind_some]
        rw [wid (by omega) (by omega)]
        exact tot_some ⟨⟨i + 1, by omega, by simp only [sm, hs]; simp; omega⟩, by simp only; omega⟩
    · obtain rfl : i = n := by omega
      have e0 : decide ((i : Int) < goLen t.Rows) = false := decide_eq_false (by simp only [goLen]; omega)
      simp only [spec_tColumns_l2, e0, cond_false]
      exact tot_some rfl
  unfold spec_tColumns
  generalize hB : bst n (vc t.Cols) (mt t.Lo) (mt t.Hi) S = B
  have h : loopC (spec_tColumns_l1 t (sel S n)) (([] : List Int), 0) = some (sel B m) := by
    refine tot_eq (tot_loop (fun s => ∃ j : Nat, j ≤ m ∧ s = (sel B j, (j : Int))) (fun s => m - s.2.toNat) ⟨0, by omega, rfl⟩ ?_)
    rintro _ ⟨j, hj', rfl⟩
    by_cases hj : j < m
    · have e0 : decide ((j : Int) < goLen t.Cols) = true := decide_eq_true (by simp only [goLen]; omega)
      have hbl := sel_len B j
      have hBj : B j = decide (vc t.Cols j - (sm n fun i => if S i = true then 0 else mt t.Lo i j) < sm n fun i => if S i = true then mt t.Hi i j else 0) := by rw [← hB]; rfl
      simp only [spec_tColumns_l1, e0, cond_true]
      rw [at_ok (vc_at (by omega)), Option.bind_some, inner j hj, Option.bind_some]
      simp only
      rw [← hBj, wid (n := (j : Int) + 1) (by omega) (by omega)]
      cases hs : B j with
      | true =>
        rw [cond_true, goApp_ok (by simp; omega), Option.bind_some, Option.bind_some]
        exact tot_some ⟨⟨j + 1, by omega, by simp only [sel]; rw [hs]; rfl⟩, by simp only; omega⟩
      | false =>
        rw [cond_false, Option.bind_some]
        exact tot_some ⟨⟨j + 1, by omega, by simp only [sel]; rw [hs, cond_false, List.append_nil]; rfl⟩, by simp only; omega⟩
    · obtain rfl : j = m := by omega
      have e0 : decide ((j : Int) < goLen t.Cols) = false := decide_eq_false (by simp only [goLen]; omega)
      simp only [spec_tColumns_l1, e0, cond_false]
      exact tot_some rfl
  rw [h]; rfl

end Go.Gx.F
