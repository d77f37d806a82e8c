/- The arithmetic of valid fractions on both sides. -/
import Derived.Test.YtdbgmkfniichdaaEPLoss
namespace Go.Gx.F
open Go.Gx
set_option linter.all false

def zz : impl_Frac × Bool := (⟨0, 0⟩, false)

def fmul (a b : impl_Frac) : impl_Frac × Bool := mk (a.Num * b.Num) (a.Den * b.Den)

def fadd (a b : impl_Frac) : impl_Frac × Bool := mk (a.Num * b.Den + b.Num * a.Den) (a.Den * b.Den)

def fsub (a b : impl_Frac) : impl_Frac × Bool := mk (a.Num * b.Den - b.Num * a.Den) (a.Den * b.Den)

def fdiv (a b : impl_Frac) : impl_Frac × Bool := if b.Num = 0 then zz else mk (a.Num * b.Den) (a.Den * b.Num)

theorem pp (a b : Int) (ha : a.natAbs ≤ 1000000000) (hb : b.natAbs ≤ 1000000000) : (a * b).natAbs ≤ 1000000000000000000 := prod_bound ha hb

theorem den_mul_ne {a b : impl_Frac} (ha : Good a) (hb : Good b) : a.Den * b.Den ≠ 0 := by
  have h1 := ha.1
  have h2 := hb.1
  have := Int.mul_pos (show 0 < a.Den by omega) (show 0 < b.Den by omega)
  omega

theorem bools2 (p q : Prop) [Decidable p] [Decidable q] {α : Type} (x y : Option α) :
    ((cond (!decide p) (some true) (some !decide q) : Option Bool).bind fun t => cond t x y) = if p ∧ q then y else x := by
  by_cases hp : p <;> by_cases hq : q <;> simp [hp, hq]

theorem impl_MulFrac_eq {a b : impl_Frac} (ha : Good a) (hb : Good b) : impl_MulFrac a b = some (fmul a b) := by
  unfold impl_MulFrac
  simp only [impl_IsFrac_eq, Option.bind_some, bools2, if_pos (And.intro ha hb)]
  have h1 := pp _ _ (good_num ha) (good_num hb)
  have h2 := pp _ _ (good_den ha) (good_den hb)
  rw [w64_in (n := a.Num * b.Num) (by omega) (by omega), w64_in (n := a.Den * b.Den) (by omega) (by omega), impl_reduced_eq (den_mul_ne ha hb) (by omega) (by omega)]
  rfl

theorem spec_fMul_eq {a b : impl_Frac} (ha : Good a) (hb : Good b) : spec_fMul a b = some (fmul a b) := by
  unfold spec_fMul
  have h1 := pp _ _ (good_num ha) (good_num hb)
  have h2 := pp _ _ (good_den ha) (good_den hb)
  rw [w64_in (n := a.Num * b.Num) (by omega) (by omega), w64_in (n := a.Den * b.Den) (by omega) (by omega), spec_fMake_eq (den_mul_ne ha hb) (by omega) (by omega)]
  rfl

theorem impl_AddFrac_eq {a b : impl_Frac} (ha : Good a) (hb : Good b) : impl_AddFrac a b = some (fadd a b) := by
  unfold impl_AddFrac
  simp only [impl_IsFrac_eq, Option.bind_some, bools2, if_pos (And.intro ha hb)]
  have h1 := pp _ _ (good_num ha) (good_den hb)
  have h3 := pp _ _ (good_num hb) (good_den ha)
  have h2 := pp _ _ (good_den ha) (good_den hb)
  rw [w64_in (n := a.Num * b.Den) (by omega) (by omega), w64_in (n := b.Num * a.Den) (by omega) (by omega), w64_in (n := a.Num * b.Den + b.Num * a.Den) (by omega) (by omega), w64_in (n := a.Den * b.Den) (by omega) (by omega), impl_reduced_eq (den_mul_ne ha hb) (by omega) (by omega)]
  rfl

theorem spec_fAdd_eq {a b : impl_Frac} (ha : Good a) (hb : Good b) : spec_fAdd a b = some (fadd a b) := by
  unfold spec_fAdd
  have h1 := pp _ _ (good_num ha) (good_den hb)
  have h3 := pp _ _ (good_num hb) (good_den ha)
  have h2 := pp _ _ (good_den ha) (good_den hb)
  rw [w64_in (n := a.Num * b.Den) (by omega) (by omega), w64_in (n := b.Num * a.Den) (by omega) (by omega), w64_in (n := a.Num * b.Den + b.Num * a.Den) (by omega) (by omega), w64_in (n := a.Den * b.Den) (by omega) (by omega), spec_fMake_eq (den_mul_ne ha hb) (by omega) (by omega)]
  rfl

theorem spec_fSub_eq {a b : impl_Frac} (ha : Good a) (hb : Good b) : spec_fSub a b = some (fsub a b) := by
  unfold spec_fSub
  have h1 := pp _ _ (good_num ha) (good_den hb)
  have h3 := pp _ _ (good_num hb) (good_den ha)
  have h2 := pp _ _ (good_den ha) (good_den hb)
  rw [w64_in (n := a.Num * b.Den) (by omega) (by omega), w64_in (n := b.Num * a.Den) (by omega) (by omega), w64_in (n := a.Num * b.Den - b.Num * a.Den) (by omega) (by omega), w64_in (n := a.Den * b.Den) (by omega) (by omega), spec_fMake_eq (den_mul_ne ha hb) (by omega) (by omega)]
  rfl

theorem den_num_ne {a b : impl_Frac} (ha : Good a) (hb : b.Num ≠ 0) : a.Den * b.Num ≠ 0 := by
  have h1 := ha.1
  exact Int.mul_ne_zero (by omega) hb

theorem impl_DivFrac_eq {a b : impl_Frac} (ha : Good a) (hb : Good b) : impl_DivFrac a b = some (fdiv a b) := by
  unfold impl_DivFrac fdiv
  simp only [impl_IsFrac_eq, Option.bind_some, ha, hb, decide_true, Bool.not_true, cond_false]
  by_cases h0 : b.Num = 0
  · simp [h0, zz]
  · have h0' : (b.Num == 0) = false := by simpa using h0
    have h1 := pp _ _ (good_num ha) (good_den hb)
    have h2 := pp _ _ (good_den ha) (good_num hb)
    rw [h0', if_neg h0, cond_false, w64_in (n := a.Num * b.Den) (by omega) (by omega), w64_in (n := a.Den * b.Num) (by omega) (by omega), impl_reduced_eq (den_num_ne ha h0) (by omega) (by omega)]
    rfl

theorem spec_fDiv_eq {a b : impl_Frac} (ha : Good a) (hb : Good b) : spec_fDiv a b = some (fdiv a b) := by
  unfold spec_fDiv fdiv
  by_cases h0 : b.Num = 0
  · simp [h0, zz]
  · have h0' : (b.Num == 0) = false := by simpa using h0
    have h1 := pp _ _ (good_num ha) (good_den hb)
    have h2 := pp _ _ (good_den ha) (good_num hb)
    rw [h0', if_neg h0, cond_false, w64_in (n := a.Num * b.Den) (by omega) (by omega), w64_in (n := a.Den * b.Num) (by omega) (by omega), spec_fMake_eq (den_num_ne ha h0) (by omega) (by omega)]
    rfl

theorem good_one : Good ⟨1, 1⟩ := by decide

theorem good_int {n : Int} (h1 : -1000000000 ≤ n) (h2 : n ≤ 1000000000) : Good ⟨n, 1⟩ := ⟨by simp, by simp, h1, h2, by simp [Int.gcd]⟩

theorem fmul_good {a b : impl_Frac} (ha : Good a) (hb : Good b) (h : (fmul a b).2 = true) : Good (fmul a b).1 := mk_good (den_mul_ne ha hb) h

theorem fadd_good {a b : impl_Frac} (ha : Good a) (hb : Good b) (h : (fadd a b).2 = true) : Good (fadd a b).1 := mk_good (den_mul_ne ha hb) h

theorem fsub_good {a b : impl_Frac} (ha : Good a) (hb : Good b) (h : (fsub a b).2 = true) : Good (fsub a b).1 := mk_good (den_mul_ne ha hb) h

theorem fdiv_good {a b : impl_Frac} (ha : Good a) (hb : Good b) (h : (fdiv a b).2 = true) : Good (fdiv a b).1 := by
  unfold fdiv at h ⊢
  split at h
  · cases h
  · rename_i h0
    rw [if_neg h0]
    exact mk_good (den_num_ne ha h0) h

theorem fmul_comm (a b : impl_Frac) : fmul a b = fmul b a := by unfold fmul; rw [Int.mul_comm a.Num, Int.mul_comm a.Den]

theorem fmul_bad {a b : impl_Frac} (h : (fmul a b).2 = false) : fmul a b = zz := Prod.ext (mk_bad h) h

theorem fadd_bad {a b : impl_Frac} (h : (fadd a b).2 = false) : fadd a b = zz := Prod.ext (mk_bad h) h

theorem fsub_bad {a b : impl_Frac} (h : (fsub a b).2 = false) : fsub a b = zz := Prod.ext (mk_bad h) h

theorem fdiv_bad {a b : impl_Frac} (h : (fdiv a b).2 = false) : fdiv a b = zz := by
  unfold fdiv at h ⊢
  split at h
  · rename_i h0; rw [if_pos h0]
  · rename_i h0
    rw [if_neg h0]
    exact Prod.ext (mk_bad h) h

/-! what has failed is handed on -/

theorem spec_fMul_zl (b : impl_Frac) : spec_fMul ⟨0, 0⟩ b = some zz := by
  unfold spec_fMul
  simp only [Int.zero_mul]
  rw [w64_in (n := 0) (by omega) (by omega), spec_fMake_zero]
  rfl

theorem spec_fMul_zr (b : impl_Frac) : spec_fMul b ⟨0, 0⟩ = some zz := by
  unfold spec_fMul
  simp only [Int.mul_zero]
  rw [w64_in (n := 0) (by omega) (by omega), spec_fMake_zero]
  rfl

/-! powers -/

def pwI (f : impl_Frac) : impl_Frac → Nat → impl_Frac × Bool
  | p, 0 => (p, true)
  | p, n + 1 => if (fmul p f).2 then pwI f (fmul p f).1 n else zz

theorem pwI_good {f : impl_Frac} (hf : Good f) : ∀ (n : Nat) (p : impl_Frac), Good p → (pwI f p n).2 = true → Good (pwI f p n).1
  | 0, p, hp, _ => hp
  | n + 1, p, hp, h => by
    unfold pwI at h ⊢
    split at h
    · rename_i hm
      rw [if_pos hm]
      exact pwI_good hf n _ (fmul_good hp hf hm) h
    · cases h

theorem pwI_bad {f : impl_Frac} : ∀ (n : Nat) (p : impl_Frac), (pwI f p n).2 = false → pwI f p n = zz
  | 0, p, h => by cases h
  | n + 1, p, h => by
    unfold pwI at h ⊢
    split at h
    · rename_i hm
      rw [if_pos hm]
      exact pwI_bad n _ h
    · rename_i hm
      rw [if_neg hm]

theorem impl_PowFrac_loop {f : impl_Frac} (hf : Good f) {k : Int} (hk : k ≤ 9223372036854775800) : ∀ (n : Nat) (t : Int) (p : impl_Frac), 0 ≤ t → (k - t).toNat = n → Good p →
    ((loopC (impl_PowFrac_l1 f k) (t, p)).bind fun | .inl p => some (p, true) | .inr o => some o) = some (pwI f p n) := by
  intro n
  induction n with
  | zero =>
    intro t p ht hn hp
    have : ¬ t < k := by omega
    rw [loopC_eq]
    simp only [impl_PowFrac_l1, this, decide_false, cond_false]
    rfl
  | succ n ih =>
    intro t p ht hn hp
    have : t < k := by omega
    rw [loopC_eq]
    simp only [impl_PowFrac_l1, this, decide_true, cond_true, impl_MulFrac_eq hp hf, Option.bind_some]
    rw [w64_in (n := t + 1) (by omega) (by omega)]
    rcases hm : (fmul p f).2 with _ | _
    · simp [pwI, hm, zz]
    · simp only [Bool.not_true, cond_false]
      rw [ih (t + 1) _ (by omega) (by omega) (fmul_good hp hf hm)]
      simp [pwI, hm]

theorem impl_PowFrac_eq {f : impl_Frac} (hf : Good f) {k : Int} (h0 : 0 ≤ k) (hk : k ≤ 60) : impl_PowFrac f k = some (pwI f ⟨1, 1⟩ k.toNat) := by
  unfold impl_PowFrac
  rw [impl_IsFrac_eq]
  simp only [Option.bind_some, hf, decide_true, Bool.not_true, cond_false, show ¬ k < 0 by omega, show ¬ 60 < k by omega, decide_false]
  exact impl_PowFrac_loop hf (by omega) _ 0 _ (by omega) (by simp) good_one

theorem spec_fPow_loop {f : impl_Frac} (hf : Good f) : ∀ (n : Nat) (k : Int) (p : impl_Frac), k ≤ 9223372036854775800 → k.toNat = n → Good p →
    ((loopC (spec_fPow_l1 f) (k, p)).bind fun | .inl p => some (p, true) | .inr o => some o) = some (pwI f p n) := by
  intro n
  induction n with
  | zero =>
    intro k p hk hn hp
    have : ¬ 0 < k := by omega
    rw [loopC_eq]
    simp only [spec_fPow_l1, this, decide_false, cond_false]
    rfl
  | succ n ih =>
    intro k p hk hn hp
    have : 0 < k := by omega
    rw [loopC_eq]
    simp only [spec_fPow_l1, this, decide_true, cond_true, spec_fMul_eq hp hf, Option.bind_some]
    rw [w64_in (n := k - 1) (by omega) (by omega)]
    rcases hm : (fmul p f).2 with _ | _
    · simp [pwI, hm, zz]
    · simp only [Bool.not_true, cond_false]
      rw [ih (k - 1) _ (by omega) (by omega) (fmul_good hp hf hm)]
      simp [pwI, hm]

theorem spec_fPow_eq {f : impl_Frac} (hf : Good f) {k : Int} (hk : k ≤ 60) : spec_fPow f k = some (pwI f ⟨1, 1⟩ k.toNat) := by
  unfold spec_fPow spec_fInt
  simp only [Option.bind_some]
  exact spec_fPow_loop hf _ k _ (by omega) rfl good_one

end Go.Gx.F
