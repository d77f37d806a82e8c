/- Plain laws: tCut and isCut are the same. -/
import Derived.Test.YtpjcfmpfiadkgaaFPFl14

namespace Go.Gx.F

open Go.Gx

set_option linter.all false

set_option maxRecDepth 10000

theorem tCut_ok {n m : Nat} {t : impl_Transport} (hT : Tr n m t) (S T : Nat → Bool) : spec_tCut t (sel S n) (sel T m) = some (decide (rgt n m (vc t.Cols) (mt t.Lo) (mt t.Hi) S T < lft n (vc t.Rows) S)) := by
  have h1 := hT.rl; have h2 := hT.cl; have h3 := hT.n8; have h4 := hT.m8
  have hd : ∀ i, i < n → -800000 ≤ sm m (dlc (mt t.Lo) (mt t.Hi) S T i) ∧ sm m (dlc (mt t.Lo) (mt t.Hi) S T i) ≤ 800000 := fun i hi => by
    have := sm_abs (n := m) (f := dlc (mt t.Lo) (mt t.Hi) S T i) (B := 100000) (by omega) (fun j hj => by
      have b := hT.bd i j hi hj
      unfold dlc
      cases S i <;> cases T j <;> simp <;> omega) m (Nat.le_refl _)
    omega
  have br := sm_abs (f := fun i => sm m (dlc (mt t.Lo) (mt t.Hi) S T i)) (B := 800000) (by omega) hd
  have bc := sm_abs (n := m) (f := fun j => if T j = true then vc t.Cols j else 0) (B := 100000) (by omega) (fun j hj => by
    have := hT.cb j hj
    split <;> omega) m (Nat.le_refl _)
  have L3 : loopC (spec_tCut_l3 t (sel S n) (sel T m)) ((sm m fun j => if T j = true then vc t.Cols j else 0), 0) = some ((sm m fun j => if T j = true then vc t.Cols j else 0) + sm n fun i => sm m (dlc (mt t.Lo) (mt t.Hi) S T i)) := by
    generalize hc : (sm m fun j => if T j = true then vc t.Cols j else 0) = c at bc
    refine tot_eq (tot_loop (fun s => ∃ i : Nat, i ≤ n ∧ s = (c + sm i (fun i => sm m (dlc (mt t.Lo) (mt t.Hi) S T i)), (i : Int))) (fun s => n - s.2.toNat) ⟨0, by omega, by simp [sm]⟩ ?_)
    rintro _ ⟨i, hi', rfl⟩
    by_cases hi : i < n
    · have e0 : decide ((i : Int) < goLen t.Rows) = true := decide_eq_true (by simp only [goLen]; omega)
      have g2 := br i hi'
      simp only [spec_tCut_l3, e0, cond_true]
      rw [tCut_l4_ok hT S T hi (by omega), Option.bind_some, wid (n := (i : Int) + 1) (by omega) (by omega)]
      exact tot_some ⟨⟨i + 1, by omega, by simp only [sm]; exact Prod.ext (by simp only; omega) (by simp only; omega)⟩, by simp only; omega⟩
    · obtain rfl : i = n := by omega
      have e0 : decide ((i : Int) < goLen t.Rows) = false := decide_eq_false (by simp only [goLen]; omega)
      simp only [spec_tCut_l3, e0, cond_false]
      exact tot_some rfl
  unfold spec_tCut
  rw [idx_sum (l := t.Rows) (n := n) (S := S) h1 h3 hT.rb (fun s k e v hx hv => by simp only [spec_tCut_l1, lt_ok hx, cond_true, at_ok hx, Option.bind_some, hv]) (fun s => by simp only [spec_tCut_l1, lt_end, cond_false]) (by omega), Option.bind_some,
    idx_sum (l := t.Cols) (n := m) (S := T) h2 h4 hT.cb (fun s k e v hx hv => by simp only [spec_tCut_l2, lt_ok hx, cond_true, at_ok hx, Option.bind_some, hv]) (fun s => by simp only [spec_tCut_l2, lt_end, cond_false]) (by omega), Option.bind_some, Int.zero_add, Int.zero_add, L3]
  rfl

end Go.Gx.F
