/- Plain laws: without a flow there is a cut. -/
import Derived.Test.YtpjcfmpfiadkgaaFPFl2

namespace Go.Gx.F

open Go.Gx

set_option linter.all false

set_option maxRecDepth 10000

theorem sm_z {n : Nat} {f : Nat → Int} (h : ∀ i, i < n → f i = 0) : sm n f = 0 := (sm_congr h).trans (sm_zero n)

section

variable {n m : Nat} {R C : Nat → Int} {lo hi : Nat → Nat → Int}

def lft (n : Nat) (R : Nat → Int) (S : Nat → Bool) : Int := sm n fun i => if S i = true then R i else 0

def rgt (n m : Nat) (C : Nat → Int) (lo hi : Nat → Nat → Int) (S T : Nat → Bool) : Int := (sm m fun j => if T j = true then C j else 0) + sm n fun i => sm m fun j => if S i = true then (if T j = true then 0 else hi i j) else (if T j = true then - lo i j else 0)

theorem fil_cut {S : Nat → Bool} (ha : S (n + m) = true) (hb : S (n + m + 1) = false) :
    (sm (n + m + 2) fun u => sm (n + m + 2) fun w => if S u = true ∧ S w = false then fil n m lo hi R C u w else 0) =
      (sm n fun i => sm m fun j => if S i = true ∧ S (n + j) = false then hi i j - lo i j else 0) + (sm m fun j => if S (n + j) = true then C j - sm n (fun i => lo i j) else 0) + sm n fun i => if S i = false then R i - sm m (lo i) else 0 := by
  rw [sm_N]
  have e1 : (sm n fun u => sm (n + m + 2) fun w => if S u = true ∧ S w = false then fil n m lo hi R C u w else 0) = sm n fun i => sm m fun j => if S i = true ∧ S (n + j) = false then hi i j - lo i j else 0 := by
    refine sm_congr fun i hi' => ?_
    rw [sm_N]
    have z1 : (sm n fun w => if S i = true ∧ S w = false then fil n m lo hi R C i w else 0) = 0 := by
      refine sm_z fun w hw => ?_
      rw [fil_0 (by omega) (by omega) (by omega)]
      split <;> rfl
    have z2 : (sm m fun j => if S i = true ∧ S (n + j) = false then fil n m lo hi R C i (n + j) else 0) = sm m fun j => if S i = true ∧ S (n + j) = false then hi i j - lo i j else 0 := by
      refine sm_congr fun j hj => ?_
      rw [fil_rc hi' hj]
    have z3 : (if S i = true ∧ S (n + m) = false then fil n m lo hi R C i (n + m) else 0) = 0 := by
      rw [fil_0 (by omega) (by omega) (by omega)]
      split <;> rfl
    have z4 : (if S i = true ∧ S (n + m + 1) = false then fil n m lo hi R C i (n + m + 1) else 0) = 0 := by
      rw [fil_0 (by omega) (by omega) (by omega)]
      split <;> rfl
    rw [z1, z2, z3, z4]
    omega
  have e2 : (sm m fun j => sm (n + m + 2) fun w => if S (n + j) = true ∧ S w = false then fil n m lo hi R C (n + j) w else 0) = sm m fun j => if S (n + j) = true then C j - sm n (fun i => lo i j) else 0 := by
    refine sm_congr fun j hj => ?_
    rw [sm_N]
    have z1 : (sm n fun w => if S (n + j) = true ∧ S w = false then fil n m lo hi R C (n + j) w else 0) = 0 := by
      refine sm_z fun w hw => ?_
      rw [fil_0 (by omega) (by omega) (by omega)]
      split <;> rfl
    have z2 : (sm m fun j' => if S (n + j) = true ∧ S (n + j') = false then fil n m lo hi R C (n + j) (n + j') else 0) = 0 := by
      refine sm_z fun w hw => ?_
      rw [fil_0 (by omega) (by omega) (by omega)]
      split <;> rfl
    have z3 : (if S (n + j) = true ∧ S (n + m) = false then fil n m lo hi R C (n + j) (n + m) else 0) = 0 := by
      rw [fil_0 (by omega) (by omega) (by omega)]
      split <;> rfl
    have z4 : (if S (n + j) = true ∧ S (n + m + 1) = false then fil n m lo hi R C (n + j) (n + m + 1) else 0) = if S (n + j) = true then C j - sm n (fun i => lo i j) else 0 := by
      rw [fil_ct hj, hb]
      cases S (n + j) <;> simp
    rw [z1, z2, z3, z4]
    omega
  have e3 : (sm (n + m + 2) fun w => if S (n + m) = true ∧ S w = false then fil n m lo hi R C (n + m) w else 0) = sm n fun i => if S i = false then R i - sm m (lo i) else 0 := by
    rw [sm_N]
    have z1 : (sm n fun w => if S (n + m) = true ∧ S w = false then fil n m lo hi R C (n + m) w else 0) = sm n fun i => if S i = false then R i - sm m (lo i) else 0 := by
      refine sm_congr fun w hw => ?_
      rw [fil_sr hw, ha]
      cases S w <;> simp
    have z2 : (sm m fun j' => if S (n + m) = true ∧ S (n + j') = false then fil n m lo hi R C (n + m) (n + j') else 0) = 0 := by
      refine sm_z fun w hw => ?_
      rw [fil_0 (by omega) (by omega) (by omega)]
      split <;> rfl
    have z3 : (if S (n + m) = true ∧ S (n + m) = false then fil n m lo hi R C (n + m) (n + m) else 0) = 0 := by
      rw [fil_0 (by omega) (by omega) (by omega)]
      split <;> rfl
    have z4 : (if S (n + m) = true ∧ S (n + m + 1) = false then fil n m lo hi R C (n + m) (n + m + 1) else 0) = 0 := by
      rw [fil_0 (by omega) (by omega) (by omega)]
      split <;> rfl
    rw [z1, z2, z3, z4]
    omega
  have e4 : (sm (n + m + 2) fun w => if S (n + m + 1) = true ∧ S w = false then fil n m lo hi R C (n + m + 1) w else 0) = 0 := by
    refine sm_z fun w hw => ?_
    rw [if_neg (by rw [hb]; simp)]
  rw [e1, e2, e3, e4]
  omega

theorem cut_of {S : Nat → Bool} (hlt : (sm n fun i => sm m fun j => if S i = true ∧ S (n + j) = false then hi i j - lo i j else 0) + (sm m fun j => if S (n + j) = true then C j - sm n (fun i => lo i j) else 0) + (sm n fun i => if S i = false then R i - sm m (lo i) else 0) < sm n fun i => R i - sm m (lo i)) :
    rgt n m C lo hi S (fun j => S (n + j)) < lft n R S := by
  have e1 : (sm n fun i => R i - sm m (lo i)) = (sm n fun i => if S i = true then R i - sm m (lo i) else 0) + sm n fun i => if S i = false then R i - sm m (lo i) else 0 := by
    rw [← sm_add]
    refine sm_congr fun i hi' => ?_
    cases S i <;> simp
  have e2 : (sm n fun i => if S i = true then R i - sm m (lo i) else 0) = lft n R S - sm n fun i => sm m fun j => if S i = true then lo i j else 0 := by
    unfold lft
    rw [← sm_sub]
    refine sm_congr fun i hi' => ?_
    cases S i with
    | true => simp
    | false =>
      have := sm_zero m
      simp only [Bool.false_eq_true, if_false]
      rw [this]; rfl
  have e3 : (sm m fun j => if S (n + j) = true then C j - sm n (fun i => lo i j) else 0) = (sm m fun j => if S (n + j) = true then C j else 0) - sm n fun i => sm m fun j => if S (n + j) = true then lo i j else 0 := by
    rw [sm_comm n m, ← sm_sub]
    refine sm_congr fun j hj => ?_
    cases S (n + j) with
    | true => simp
    | false =>
      have := sm_zero n
      simp only [Bool.false_eq_true, if_false]
      rw [this]; rfl
  have e4 : (sm n fun i => sm m fun j => if S i = true then (if S (n + j) = true then 0 else hi i j) else (if S (n + j) = true then - lo i j else 0)) =
      (sm n fun i => sm m fun j => if S i = true ∧ S (n + j) = false then hi i j - lo i j else 0) + (sm n fun i => sm m fun j => if S i = true then lo i j else 0) - sm n fun i => sm m fun j => if S (n + j) = true then lo i j else 0 := by
    rw [← sm_add, ← sm_sub]
    refine sm_congr fun i hi' => ?_
    rw [← sm_add, ← sm_sub]
    refine sm_congr fun j hj => ?_
    cases S i <;> cases S (n + j) <;> simp
  unfold rgt
  show (sm m fun j => if S (n + j) = true then C j else 0) + (sm n fun i => sm m fun j => if S i = true then (if S (n + j) = true then 0 else hi i j) else (if S (n + j) = true then - lo i j else 0)) < _
  rw [e4]
  omega

end

end Go.Gx.F
