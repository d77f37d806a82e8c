/- Plain laws: sets of levels as bits of integers. -/
import Derived.Test.YtnmimeojimfogaaBPTb2

namespace Go.Gx.F

open Go.Gx

set_option linter.all false

theorem ofInt_nat {a : Nat} (h : a < 18446744073709551616) : (BitVec.ofInt IntKind.i64.bits (a : Int)).toNat = a := by
  show (BitVec.ofInt 64 (a : Int)).toNat = a
  rw [BitVec.toNat_ofInt]
  omega

theorem and_nat {a b : Nat} (ha : a < 4611686018427387904) (hb : b < 4611686018427387904) : goBits .and .i64 (a : Int) (b : Int) = ((a &&& b : Nat) : Int) := by
  have e : goBits .and .i64 (a : Int) (b : Int) = IntKind.wrap .i64 ((BitVec.ofInt IntKind.i64.bits (a : Int) &&& BitVec.ofInt IntKind.i64.bits (b : Int)).toNat) := rfl
  have h : a &&& b ≤ a := Nat.and_le_left
  rw [e, BitVec.toNat_and, ofInt_nat (by omega), ofInt_nat (by omega), Go.IntWalk.i64_in _ ⟨by omega, by omega⟩]

theorem andNot_zero {a b : Nat} (ha : a < 4611686018427387904) (hb : b < 4611686018427387904) : (goBits .andNot .i64 (a : Int) (b : Int) = 0) ↔ a &&& b = a := by
  have e : goBits .andNot .i64 (a : Int) (b : Int) = IntKind.wrap .i64 ((BitVec.ofInt IntKind.i64.bits (a : Int) &&& ~~~ BitVec.ofInt IntKind.i64.bits (b : Int)).toNat) := rfl
  have h : ∀ y : Nat, a &&& y ≤ a := fun y => Nat.and_le_left
  have hn : (~~~ BitVec.ofInt IntKind.i64.bits (b : Int)).toNat = 2 ^ 64 - (b + 1) := by
    rw [BitVec.toNat_not, ofInt_nat (by omega)]
    show 2 ^ 64 - 1 - b = _
    omega
  rw [e, BitVec.toNat_and, ofInt_nat (by omega), hn, Go.IntWalk.i64_in _ ⟨by have := h (2 ^ 64 - (b + 1)); omega, by have := h (2 ^ 64 - (b + 1)); omega⟩]
  have hb64 : b < 2 ^ 64 := by omega
  have ht : ∀ i, Nat.testBit (2 ^ 64 - (b + 1)) i = (decide (i < 64) && !Nat.testBit b i) := fun i => Nat.testBit_two_pow_sub_succ hb64 i
  have ha64 : ∀ i, 64 ≤ i → Nat.testBit a i = false := fun i hi => Nat.testBit_lt_two_pow (Nat.lt_of_lt_of_le (show a < 2 ^ 64 by omega) (Nat.pow_le_pow_right (by omega) hi))
  constructor
  · intro h0
    have h0' : a &&& (2 ^ 64 - (b + 1)) = 0 := by omega
    apply Nat.eq_of_testBit_eq
    intro i
    have hi := congrArg (fun n => Nat.testBit n i) h0'
    simp only [Nat.testBit_and, ht, Nat.zero_testBit] at hi ⊢
    by_cases hi64 : i < 64
    · simp only [decide_eq_true hi64, Bool.true_and] at hi
      cases ha : Nat.testBit a i <;> simp_all
    · rw [ha64 i (by omega)]; rfl
  · intro h0
    have : a &&& (2 ^ 64 - (b + 1)) = 0 := by
      apply Nat.eq_of_testBit_eq
      intro i
      have hi := congrArg (fun n => Nat.testBit n i) h0
      simp only [Nat.testBit_and, ht, Nat.zero_testBit] at hi ⊢
      cases ha : Nat.testBit a i <;> cases hb : Nat.testBit b i <;> simp_all
    rw [this]; rfl

end Go.Gx.F
