/- Plain laws: tCut tells whether the left side is greater. -/
import Derived.Test.YtpjcfmpfiadkgaaFPFl13

namespace Go.Gx.F

open Go.Gx

set_option linter.all false

set_option maxRecDepth 10000

theorem tCut_l4_ok {n m : Nat} {t : impl_Transport} (hT : Tr n m t) (S T : Nat → Bool) {i : Nat} (hi : i < n) {r0 : Int} (hr : -1000000000 ≤ r0 ∧ r0 ≤ 1000000000) :
    loopC (spec_tCut_l4 t (sel S n) (sel T m) (i : Int)) (r0, 0) = some (r0 + sm m (dlc (mt t.Lo) (mt t.Hi) S T i)) := by
  have h2 := hT.cl; have h4 := hT.m8; have h3 := hT.n8
  have hsl := sel_len T m; have hsl2 := sel_len S n
  obtain ⟨lr, hlr, _, _, _, _⟩ := hT.lo.get hi
  obtain ⟨hr', hhr, _, _, _, _⟩ := hT.hi.get hi
  have hd : ∀ j, j < m → -100000 ≤ dlc (mt t.Lo) (mt t.Hi) S T i j ∧ dlc (mt t.Lo) (mt t.Hi) S T i j ≤ 100000 := fun j hj => by
    have b := hT.bd i j hi hj
    unfold dlc
    cases S i <;> cases T j <;> simp <;> omega
  have bd := sm_abs (B := 100000) (by omega) hd
  refine tot_eq (tot_loop (fun s => ∃ j : Nat, j ≤ m ∧ s = (r0 + sm j (dlc (mt t.Lo) (mt t.Hi) S T i), (j : Int))) (fun s => m - s.2.toNat) ⟨0, by omega, by simp [sm]⟩ ?_)
  rintro _ ⟨j, hj', rfl⟩
  by_cases hj : j < m
  · have e0 : decide ((j : Int) < goLen t.Cols) = true := decide_eq_true (by simp only [goLen]; omega)
    have b := hT.bd i j hi hj
    have g := bd j hj'
    have hdj : dlc (mt t.Lo) (mt t.Hi) S T i j = if S i = true then (if T j = true then 0 else mt t.Hi i j) else (if T j = true then - mt t.Lo i j else 0) := rfl
    simp only [spec_tCut_l4, e0, cond_true]
    rw [has_ok (by omega), has_ok (by omega), mem_sel hj, mem_sel hi, wid (n := (j : Int) + 1) (by omega) (by omega)]
    have fin : ∀ v : Int, v = r0 + sm j (dlc (mt t.Lo) (mt t.Hi) S T i) + dlc (mt t.Lo) (mt t.Hi) S T i j → (v, (j : Int) + 1) = (r0 + sm (j + 1) (dlc (mt t.Lo) (mt t.Hi) S T i), ((j + 1 : Nat) : Int)) := fun v hv => by
      simp only [sm]
      exact Prod.ext (by simp only; omega) (by simp only; omega)
    cases hs : S i <;> cases ht : T j <;> rw [hs, ht] at hdj <;> simp only [Bool.not_true, Bool.not_false, cond_true, cond_false, Option.bind_some, at_ok hlr, at_ok hhr, at_ok (hT.lo.el hlr hj), at_ok (hT.hi.el hhr hj)] <;> simp at hdj <;>
      first
      | exact tot_some ⟨⟨j + 1, by omega, fin _ (by omega)⟩, by simp only; omega⟩
      | (rw [wid (by omega) (by omega)]; exact tot_some ⟨⟨j + 1, by omega, fin _ (by omega)⟩, by simp only; omega⟩)
  · obtain rfl : j = m := by omega
    have e0 : decide ((j : Int) < goLen t.Cols) = false := decide_eq_false (by simp only [goLen]; omega)
    simp only [spec_tCut_l4, e0, cond_false]
    exact tot_some rfl

end Go.Gx.F
