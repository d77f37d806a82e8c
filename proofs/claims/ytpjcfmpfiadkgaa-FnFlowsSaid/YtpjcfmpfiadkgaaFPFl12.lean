/- Plain laws: what isCut computes. -/
import Derived.Test.YtpjcfmpfiadkgaaFPFl11

namespace Go.Gx.F

open Go.Gx

set_option linter.all false

set_option maxRecDepth 10000

def dlc (lo hi : Nat → Nat → Int) (S T : Nat → Bool) : Nat → Nat → Int := fun i j => if S i = true then (if T j = true then 0 else hi i j) else (if T j = true then - lo i j else 0)

theorem sm_abs {n : Nat} {f : Nat → Int} {B : Int} (hB : 0 ≤ B) (h : ∀ i, i < n → -B ≤ f i ∧ f i ≤ B) : ∀ k, k ≤ n → -(B * (k : Int)) ≤ sm k f ∧ sm k f ≤ B * (k : Int) := by
  intro k
  induction k with
  | zero => intro _; simp [sm]
  | succ k ih =>
    intro hk
    have h1 := ih (by omega)
    have h2 := h k (by omega)
    have e : B * ((k + 1 : Nat) : Int) = B * (k : Int) + B := by rw [Int.natCast_succ, Int.mul_add, Int.mul_one]
    simp only [sm]
    rw [e]
    omega

theorem isCut_l2_ok {n m : Nat} {t : impl_Transport} (hT : Tr n m t) (S T : Nat → Bool) {i : Nat} (hi : i < n) {r0 : Int} (hr : -1000000000 ≤ r0 ∧ r0 ≤ 1000000000) :
    loopC (impl_isCut_l2 t (sel T m) (i : Int) (S i)) (r0, 0) = some (r0 + sm m (dlc (mt t.Lo) (mt t.Hi) S T i)) := by
  have h2 := hT.cl; have h4 := hT.m8
  have hsl := sel_len T m
  obtain ⟨lr, hlr, _, _, _, _⟩ := hT.lo.get hi
  obtain ⟨hr', hhr, _, _, _, _⟩ := hT.hi.get hi
  have hd : ∀ j, j < m → -100000 ≤ dlc (mt t.Lo) (mt t.Hi) S T i j ∧ dlc (mt t.Lo) (mt t.Hi) S T i j ≤ 100000 := fun j hj => by
    have b := hT.bd i j hi hj
    unfold dlc
    cases S i <;> cases T j <;> simp <;> omega
  have bd := sm_abs (B := 100000) (by omega) hd
  refine tot_eq (tot_loop (fun s => ∃ j : Nat, j ≤ m ∧ s = (r0 + sm j (dlc (mt t.Lo) (mt t.Hi) S T i), (j : Int))) (fun s => m - s.2.toNat) ⟨0, by omega, by simp [sm]⟩ ?_)
  rintro _ ⟨j, hj', rfl⟩
  by_cases hj : j < m
  · have e0 : decide ((j : Int) < goLen t.Cols) = true := decide_eq_true (by simp only [goLen]; omega)
    have b := hT.bd i j hi hj
    have g := bd j hj'
    have hdj : dlc (mt t.Lo) (mt t.Hi) S T i j = if S i = true then (if T j = true then 0 else mt t.Hi i j) else (if T j = true then - mt t.Lo i j else 0) := rfl
    simp only [impl_isCut_l2, e0, cond_true]
    rw [contains_ok (by omega), mem_sel hj, Option.bind_some, wid (n := (j : Int) + 1) (by omega) (by omega)]
    have fin : ∀ v : Int, v = r0 + sm j (dlc (mt t.Lo) (mt t.Hi) S T i) + dlc (mt t.Lo) (mt t.Hi) S T i j → (v, (j : Int) + 1) = (r0 + sm (j + 1) (dlc (mt t.Lo) (mt t.Hi) S T i), ((j + 1 : Nat) : Int)) := fun v hv => by
      simp only [sm]
      exact Prod.ext (by simp only; omega) (by simp only; omega)
    cases hs : S i <;> cases ht : T j <;> rw [hs, ht] at hdj <;> simp only [Bool.not_true, Bool.not_false, cond_true, cond_false, Option.bind_some, at_ok hlr, at_ok hhr, at_ok (hT.lo.el hlr hj), at_ok (hT.hi.el hhr hj)] <;> simp at hdj <;>
      first
      | exact tot_some ⟨⟨j + 1, by omega, fin _ (by omega)⟩, by simp only; omega⟩
      | (rw [wid (by omega) (by omega)]; exact tot_some ⟨⟨j + 1, by omega, fin _ (by omega)⟩, by simp only; omega⟩)
  · obtain rfl : j = m := by omega
    have e0 : decide ((j : Int) < goLen t.Cols) = false := decide_eq_false (by simp only [goLen]; omega)
    simp only [impl_isCut_l2, e0, cond_false]
    exact tot_some rfl

end Go.Gx.F
