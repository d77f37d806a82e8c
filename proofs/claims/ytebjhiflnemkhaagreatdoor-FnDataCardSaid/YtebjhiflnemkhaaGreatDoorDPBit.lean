/- Plain laws: sets of levels as bits of integers. -/
import Derived.Test.YtebjhiflnemkhaaGreatDoorDPTb2
namespace Go.Gx.F
open Go.Gx
set_option linter.all false

theorem ofInt_nat {a : Nat} (h : a < 18446744073709551616) : (BitVec.ofInt IntKind.i64.bits (a : Int)).toNat = a := by
  show (BitVec.ofInt 64 (a : Int)).toNat = a
  rw [BitVec.toNat_ofInt]
  omega

theorem and_nat {a b : Nat} (ha : a < 4611686018427387904) (hb : b < 4611686018427387904) : goBits .and .i64 (a : Int) (b : Int) = ((a &&& b : Nat) : Int) := by
  have e : goBits .and .i64 (a : Int) (b : Int) = IntKind.wrap .i64 ((BitVec.ofInt IntKind.i64.bits (a : Int) &&& BitVec.ofInt IntKind.i64.bits (b : Int)).toNat) := rfl
  have h : a &&& b ≤ a := Nat.and_le_left
  rw [e, BitVec.toNat_and, ofInt_nat (by omega), ofInt_nat (by omega), Go.IntWalk.i64_in _ ⟨by omega, by omega⟩]

theorem andNot_zero {a b : Nat} (ha : a < 4611686018427387904) (hb : b < 4611686018427387904) : (goBits .andNot .i64 (a : Int) (b : Int) = 0) ↔ a &&& b = a := by
  have e : goBits .andNot .i64 (a : Int) (b : Int) = IntKind.wrap .i64 ((BitVec.ofInt IntKind.i64.bits (a : Int) &&& ~~~ BitVec.ofInt IntKind.i64.bits (b : Int)).toNat) := rfl
  have h : ∀ y : Nat, a &&& y ≤ a := fun y => Nat.and_le_left
  have hn : (~~~ BitVec.ofInt IntKind.i64.bits (b : Int)).toNat = 2 ^ 64 - (b + 1) := by
    rw [BitVec.toNat_not, ofInt_nat (by omega)]
    show 2 ^ 64 - 1 - b = _
    omega
  rw [e, BitVec.toNat_and, ofInt_nat (by omega), hn, Go.IntWalk.i64_in _ ⟨by have := h (2 ^ 64 - (b + 1)); omega, by have := h (2 ^ 64 - (b + 1)); omega⟩]
  have hb64 : b < 2 ^ 64 := by omega
  have ht : ∀ i, Nat.testBit (2 ^ 64 - (b + 1)) i = (decide (i < 64) && !Nat.testBit b i) := fun i => Nat.testBit_two_pow_sub_succ hb64 i
  have ha64 : ∀ i, 64 ≤ i → Nat.testBit a i = false := fun i hi => Nat.testBit_lt_two_pow (Nat.lt_of_lt_of_le (show a < 2 ^ 64 by omega) (Nat.pow_le_pow_right (by omega) hi))
  constructor
  · intro h0
    have h0' : a &&& (2 ^ 64 - (b + 1)) = 0 := by omega
    apply Nat.eq_of_testBit_eq
    intro i
    have hi := congrArg (fun n => Nat.testBit n i) h0'
    simp only [Nat.testBit_and, ht, Nat.zero_testBit] at hi ⊢
    by_cases hi64 : i < 64
    · simp only [decide_eq_true hi64, Bool.true_and] at hi
      cases ha : Nat.testBit a i <;> simp_all
    · rw [ha64 i (by omega)]; rfl
  · intro h0
    have : a &&& (2 ^ 64 - (b + 1)) = 0 := by
      apply Nat.eq_of_testBit_eq
      intro i
      have hi := congrArg (fun n => Nat.testBit n i) h0
      simp only [Nat.testBit_and, ht, Nat.zero_testBit] at hi ⊢
      cases ha : Nat.testBit a i <;> cases hb : Nat.testBit b i <;> simp_all
    rw [this]; rfl

theorem shift_nat {a x : Nat} (hx : x ≤ 60) : (a : Int).fdiv (2 ^ min (x : Int).toNat (IntKind.bits .i64)) = ((a / 2 ^ x : Nat) : Int) := by
  rw [show min (x : Int).toNat (IntKind.bits .i64) = x by show min (x : Int).toNat 64 = x; omega, Int.fdiv_eq_ediv_of_nonneg _ (by exact Int.le_of_lt (Int.pow_pos (by decide)))]
  rw [Int.natCast_ediv]
  congr 1

theorem and_one {a : Nat} (ha : a < 4611686018427387904) : goBits .and .i64 (a : Int) 1 = ((a % 2 : Nat) : Int) := by
  rw [show (1 : Int) = ((1 : Nat) : Int) from rfl, and_nat ha (by omega), Nat.and_one_is_mod]

theorem bit_nat {a x : Nat} (ha : a < 4611686018427387904) (hx : x ≤ 60) : bit (a : Int) (x : Int) = Nat.testBit a x := by
  unfold bit
  have h : a / 2 ^ x ≤ a := Nat.div_le_self _ _
  rw [shift_nat hx, and_one (by omega), Nat.testBit_eq_decide_div_mod_eq]
  have h2 := Nat.mod_two_eq_zero_or_one (a / 2 ^ x)
  rcases h2 with h2 | h2 <;> rw [h2] <;> rfl

theorem bit_one {a x : Nat} (ha : a < 4611686018427387904) (hx : x ≤ 60) : (goBits .and .i64 ((a : Int).fdiv (2 ^ min (x : Int).toNat (IntKind.bits .i64))) 1 == 1) = bit (a : Int) (x : Int) := by
  rw [bit_nat ha hx]
  have h : a / 2 ^ x ≤ a := Nat.div_le_self _ _
  rw [shift_nat hx, and_one (by omega), Nat.testBit_eq_decide_div_mod_eq]
  have h2 := Nat.mod_two_eq_zero_or_one (a / 2 ^ x)
  rcases h2 with h2 | h2 <;> rw [h2] <;> rfl

end Go.Gx.F
