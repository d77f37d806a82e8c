/- Plain laws: the best columns make the right side least. -/
import Derived.Test.YtpjcfmpfiadkgaaFPFl10

namespace Go.Gx.F

open Go.Gx

set_option linter.all false

set_option maxRecDepth 10000

section

variable {n m : Nat} {C : Nat → Int} {lo hi : Nat → Nat → Int}

theorem rgt_cols (S T : Nat → Bool) : rgt n m C lo hi S T = sm m fun j => if T j = true then C j - (sm n fun i => if S i = true then 0 else lo i j) else sm n fun i => if S i = true then hi i j else 0 := by
  unfold rgt
  rw [sm_comm n m, ← sm_add]
  refine sm_congr fun j hj => ?_
  cases T j with
  | true =>
    simp only [if_true]
    rw [show (sm n fun i => if S i = true then (0 : Int) else - lo i j) = - sm n fun i => if S i = true then 0 else lo i j by
      rw [← sm_neg]
      refine sm_congr fun i hi' => ?_
      cases S i <;> simp]
    omega
  | false =>
    simp only [Bool.false_eq_true, if_false]
    rw [show (sm n fun i => if S i = true then hi i j else (0 : Int)) = sm n fun i => if S i = true then hi i j else 0 from rfl]
    omega

theorem rgt_best (S T : Nat → Bool) : rgt n m C lo hi S (bst n C lo hi S) ≤ rgt n m C lo hi S T := by
  rw [rgt_cols, rgt_cols]
  refine sm_le fun j hj => ?_
  by_cases h : C j - (sm n fun i => if S i = true then 0 else lo i j) < sm n fun i => if S i = true then hi i j else 0
  · rw [if_pos (show bst n C lo hi S j = true from decide_eq_true h)]
    split <;> omega
  · rw [if_neg (show ¬ bst n C lo hi S j = true by rw [show bst n C lo hi S j = false from decide_eq_false h]; simp)]
    split <;> omega

end

end Go.Gx.F
