/- Plain laws: isCut tells whether the left side is greater. -/
import Derived.Test.YtpjcfmpfiadkgaaFPFl12

namespace Go.Gx.F

open Go.Gx

set_option linter.all false

set_option maxRecDepth 10000

theorem isCut_ok {n m : Nat} {t : impl_Transport} (hT : Tr n m t) (S T : Nat → Bool) : impl_isCut t (sel S n) (sel T m) = some (decide (rgt n m (vc t.Cols) (mt t.Lo) (mt t.Hi) S T < lft n (vc t.Rows) S)) := by
  have h1 := hT.rl; have h2 := hT.cl; have h3 := hT.n8; have h4 := hT.m8
  have hsl := sel_len S n
  have hr : ∀ i, i < n → -100000 ≤ (fun i => if S i = true then vc t.Rows i else 0) i ∧ (fun i => if S i = true then vc t.Rows i else 0) i ≤ 100000 := fun i hi => by
    have := hT.rb i hi
    simp only
    split <;> omega
  have bl := sm_abs (B := 100000) (by omega) hr
  have hd : ∀ i, i < n → -800000 ≤ sm m (dlc (mt t.Lo) (mt t.Hi) S T i) ∧ sm m (dlc (mt t.Lo) (mt t.Hi) S T i) ≤ 800000 := fun i hi => by
    have := sm_abs (n := m) (f := dlc (mt t.Lo) (mt t.Hi) S T i) (B := 100000) (by omega) (fun j hj => by
      have b := hT.bd i j hi hj
      unfold dlc
      cases S i <;> cases T j <;> simp <;> omega) m (Nat.le_refl _)
    omega
  have br := sm_abs (f := fun i => sm m (dlc (mt t.Lo) (mt t.Hi) S T i)) (B := 800000) (by omega) hd
  have L1 : loopC (impl_isCut_l1 t (sel S n) (sel T m)) (0, 0, 0) = some (lft n (vc t.Rows) S, sm n fun i => sm m (dlc (mt t.Lo) (mt t.Hi) S T i)) := by
    refine tot_eq (tot_loop (fun s => ∃ i : Nat, i ≤ n ∧ s = (sm i (fun i => if S i = true then vc t.Rows i else 0), sm i (fun i => sm m (dlc (mt t.Lo) (mt t.Hi) S T i)), (i : Int))) (fun s => n - s.2.2.toNat) ⟨0, by omega, rfl⟩ ?_)
    rintro _ ⟨i, hi', rfl⟩
    by_cases hi : i < n
    · have e0 : decide ((i : Int) < goLen t.Rows) = true := decide_eq_true (by simp only [goLen]; omega)
      have g1 := bl i hi'; have g2 := br i hi'; have g3 := hT.rb i hi
      simp only [impl_isCut_l1, e0, cond_true]
      rw [at_ok (vc_at (by omega)), Option.bind_some, contains_ok (by omega), mem_sel hi, Option.bind_some, isCut_l2_ok hT S T hi (by omega), wid (n := (i : Int) + 1) (by omega) (by omega)]
      cases hs : S i with
      | true =>
        simp only [cond_true, Option.bind_some]
        rw [wid (by omega) (by omega)]
        exact tot_some ⟨⟨i + 1, by omega, by simp only [sm, hs]; simp⟩, by simp only; omega⟩
      | false =>
        simp only [cond_false, Option.bind_some]
        exact tot_some ⟨⟨i + 1, by omega, by simp only [sm, hs]; simp⟩, by simp only; omega⟩
    · obtain rfl : i = n := by omega
      have e0 : decide ((i : Int) < goLen t.Rows) = false := decide_eq_false (by simp only [goLen]; omega)
      simp only [impl_isCut_l1, e0, cond_false]
      exact tot_some rfl
  have g := br n (Nat.le_refl _)
  unfold impl_isCut
  rw [L1, Option.bind_some]
  simp only
  rw [idx_sum (l := t.Cols) (n := m) (S := T) h2 h4 hT.cb (fun s k e v hx hv => by simp only [impl_isCut_l3, lt_ok hx, cond_true, at_ok hx, Option.bind_some, hv]) (fun s => by simp only [impl_isCut_l3, lt_end, cond_false]) (by omega), Option.bind_some]
  unfold rgt
  rw [Int.add_comm]
  rfl

end Go.Gx.F
