/- Fractions: what the functions of both sides return, in plain words. -/
import Derived.Test.YtdbgmkfniichdaaFDefs
import Derived.IntWalk
namespace Go.Gx.F
open Go.Gx
set_option linter.all false

theorem w64_in {n : Int} (h1 : -9223372036854775808 ≤ n) (h2 : n ≤ 9223372036854775807) : w64 n = n := Go.IntWalk.i64_in n ⟨h1, h2⟩

theorem goRem_ok {a b : Int} (h : b ≠ 0) : goRem a b = some (a.tmod b) := by
  have hb : (b == 0) = false := by simpa using h
  simp [goRem, hb]

theorem goQuo_ok {a b : Int} (h : b ≠ 0) (h1 : -9223372036854775807 ≤ a) (h2 : a ≤ 9223372036854775807) : goQuo .i64 a b = some (a.tdiv b) := by
  have hb : (b == 0) = false := by simpa using h
  unfold goQuo
  rw [hb]
  have e : (a.tdiv b).natAbs ≤ a.natAbs := by
    rw [Int.natAbs_tdiv]
    exact Nat.div_le_self _ _
  simp only [cond_false]
  congr 1
  exact w64_in (by omega) (by omega)

theorem gcd_tmod (a b : Int) : Int.gcd b (a.tmod b) = Int.gcd a b := by
  unfold Int.gcd
  rw [Int.natAbs_tmod, Nat.gcd_comm a.natAbs b.natAbs, Nat.gcd_rec b.natAbs a.natAbs, Nat.gcd_comm]

theorem natAbs_tmod_lt (a b : Int) (h : b ≠ 0) : (a.tmod b).natAbs < b.natAbs := by
  rw [Int.natAbs_tmod]
  exact Nat.mod_lt _ (by omega)

theorem gcd_le_max (a b : Int) : Int.gcd a b ≤ max a.natAbs b.natAbs := by
  by_cases ha : a = 0
  · subst ha; simp [Int.gcd]
  · exact Nat.le_trans (Nat.le_of_dvd (by omega) (Int.gcd_dvd_natAbs_left a b)) (Nat.le_max_left _ _)

/-! valid fractions -/

theorem dec_iff {b : Bool} {p : Prop} [Decidable p] (h : b = true ↔ p) : some b = some (decide p) := by
  refine congrArg some ?_
  rw [Bool.eq_iff_iff, decide_eq_true_iff]
  exact h

theorem spec_l1In_eq (n lo hi : Int) : spec_l1In n lo hi = some (decide (lo ≤ n ∧ n ≤ hi)) := by
  unfold spec_l1In
  by_cases h : lo ≤ n <;> simp [h]

/-! the fraction n/d in lowest terms, where it is valid -/

theorem gcd_pos {n d : Int} (hd : d ≠ 0) : 0 < Int.gcd n d := Nat.pos_of_ne_zero fun h => hd (Int.gcd_eq_zero_iff.1 h).2

theorem natAbs_tdiv_le (a b : Int) : (a.tdiv b).natAbs ≤ a.natAbs := by
  rw [Int.natAbs_tdiv]
  exact Nat.div_le_self _ _

theorem sgn_tdiv {G d : Int} (hG : 0 < G) (hd : G ∣ d) : (d < 0 → d.tdiv G < 0) ∧ (0 < d → 0 < d.tdiv G) ∧ (d.tdiv G < 0 → d < 0) := by
  obtain ⟨k, rfl⟩ := hd
  rw [Int.mul_tdiv_cancel_left _ (by omega)]
  refine ⟨fun h => ?_, fun h => ?_, fun h => ?_⟩
  · rcases Int.lt_or_le k 0 with h' | h'
    · exact h'
    · have := Int.mul_nonneg (Int.le_of_lt hG) h'
      omega
  · rcases Int.lt_or_le 0 k with h' | h'
    · exact h'
    · have := Int.mul_nonpos_of_nonneg_of_nonpos (Int.le_of_lt hG) h'
      omega
  · exact Int.mul_neg_of_pos_of_neg hG h

theorem gcd_tdiv {n d : Int} (hd : d ≠ 0) : Int.gcd (n.tdiv (Int.gcd n d)) (d.tdiv (Int.gcd n d)) = 1 := by
  have hg := gcd_pos (n := n) hd
  unfold Int.gcd
  rw [Int.natAbs_tdiv, Int.natAbs_tdiv]
  have : ((n.natAbs.gcd d.natAbs : Nat) : Int).natAbs = n.natAbs.gcd d.natAbs := by simp
  rw [this]
  show Nat.gcd (n.natAbs / _) (d.natAbs / _) = 1
  rw [Nat.gcd_div (Nat.gcd_dvd_left _ _) (Nat.gcd_dvd_right _ _)]
  exact Nat.div_self hg

theorem tdiv_pos {n d : Int} (hd : d ≠ 0) : (d < 0 → d.tdiv (Int.gcd n d) < 0) ∧ (0 < d → 0 < d.tdiv (Int.gcd n d)) := by
  have hg := gcd_pos (n := n) hd
  have := sgn_tdiv (G := Int.gcd n d) (d := d) (by omega) (Int.gcd_dvd_right _ _)
  exact ⟨this.1, this.2.1⟩

/-! comparing -/

theorem prod_bound {a b : Int} {A B : Nat} (ha : a.natAbs ≤ A) (hb : b.natAbs ≤ B) : (a * b).natAbs ≤ A * B := by
  rw [Int.natAbs_mul]
  exact Nat.mul_le_mul ha hb

/-! what a law asks -/

end Go.Gx.F
