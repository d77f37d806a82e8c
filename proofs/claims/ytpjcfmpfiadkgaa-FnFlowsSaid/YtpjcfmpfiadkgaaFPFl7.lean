/- Plain laws: sets of rows by their bits. -/
import Derived.Test.YtpjcfmpfiadkgaaFPFl6

namespace Go.Gx.F

open Go.Gx

set_option linter.all false

set_option maxRecDepth 10000

theorem shr_256 {m d : Nat} (hm : m < 256) (hd : d < 9) : goShr .i64 (m : Int) (d : Int) = some ((m / 2 ^ d : Nat) : Int) := by
  have : ∀ (m : Fin 256) (d : Fin 9), goShr .i64 (m.1 : Int) (d.1 : Int) = some ((m.1 / 2 ^ d.1 : Nat) : Int) := by decide +kernel
  exact this ⟨m, hm⟩ ⟨d, hd⟩

theorem wrap_9 {d : Nat} (hd : d < 9) : IntKind.wrap .u64 (d : Int) = (d : Int) := by
  have : ∀ (d : Fin 9), IntKind.wrap .u64 (d.1 : Int) = (d.1 : Int) := by decide +kernel
  exact this ⟨d, hd⟩

theorem bit_256 {m : Nat} (hm : m < 256) : (goBits .and .i64 (m : Int) 1 == 1) = decide (m % 2 = 1) := by
  have : ∀ (m : Fin 256), (goBits .and .i64 (m.1 : Int) 1 == 1) = decide (m.1 % 2 = 1) := by decide +kernel
  exact this ⟨m, hm⟩

def bts (k : Nat) : Nat → List Int
  | 0 => []
  | i + 1 => bts k i ++ cond (decide (k / 2 ^ i % 2 = 1)) [(i : Int)] []

theorem bts_len (k : Nat) : ∀ i, (bts k i).length ≤ i
  | 0 => by simp [bts]
  | i + 1 => by
    have := bts_len k i
    simp only [bts, List.length_append]
    cases decide (k / 2 ^ i % 2 = 1) <;> simp <;> omega

theorem bts_end {k i : Nat} (hk : k < 2 ^ i) : ∀ n, i ≤ n → bts k n = bts k i := by
  intro n hn
  induction n with
  | zero => obtain rfl : i = 0 := by omega
            rfl
  | succ n ih =>
    by_cases hi : i = n + 1
    · rw [hi]
    · have h1 : k < 2 ^ n := Nat.lt_of_lt_of_le hk (Nat.pow_le_pow_right (by omega) (by omega))
      simp only [bts]
      rw [Nat.div_eq_of_lt h1, ih (by omega)]
      simp

theorem div_256 {k i : Nat} (hk : k < 256) : k / 2 ^ i < 256 := Nat.lt_of_le_of_lt (Nat.div_le_self _ _) hk

theorem members_ok {k n : Nat} (hn : n ≤ 8) (hk : k < 2 ^ n) : impl_membersOf (k : Int) = some (bts k n) := by
  have h256 : k < 256 := Nat.lt_of_lt_of_le hk (Nat.pow_le_pow_right (n := 2) (by omega) hn)
  unfold impl_membersOf
  have h : loopC (impl_membersOf_l1 (k : Int)) (([] : List Int), 0) = some (bts k n) := by
    refine tot_eq (tot_loop (fun s => ∃ i : Nat, i ≤ n ∧ s = (bts k i, (i : Int))) (fun s => n - s.2.toNat) ⟨0, by omega, rfl⟩ ?_)
    rintro _ ⟨i, hi, rfl⟩
    have hbl := bts_len k i
    simp only [impl_membersOf_l1]
    rw [shr_256 h256 (by omega), Option.bind_some]
    by_cases h0 : k / 2 ^ i = 0
    · rw [h0]
      rw [show ((((0 : Nat) : Int)) != 0) = false from rfl, cond_false]
      have hki : k < 2 ^ i := by
        rcases Nat.lt_or_ge k (2 ^ i) with h | h
        · exact h
        · have := Nat.div_pos h (Nat.pow_pos (by omega)); omega
      exact tot_some (bts_end hki n hi).symm
    · have hin : i < n := by
        rcases Nat.lt_or_ge i n with h | h
        · exact h
        · obtain rfl : i = n := by omega
          exact absurd (Nat.div_eq_of_lt hk) h0
      rw [show (((k / 2 ^ i : Nat) : Int) != 0) = true by rw [bne_iff_ne]; omega, cond_true, Option.bind_some, bit_256 (div_256 h256), wid (n := (i : Int) + 1) (by omega) (by omega)]
      cases hb : decide (k / 2 ^ i % 2 = 1) with
      | true =>
        rw [cond_true, goApp_ok (by simp; omega), Option.bind_some, Option.bind_some]
        exact tot_some ⟨⟨i + 1, by omega, by simp only [bts]; rw [hb]; rfl⟩, by simp only; omega⟩
      | false =>
        rw [cond_false, Option.bind_some]
        exact tot_some ⟨⟨i + 1, by omega, by simp only [bts]; rw [hb, cond_false, List.append_nil]; rfl⟩, by simp only; omega⟩
  rw [h]; rfl

theorem rows_ok {t : impl_Transport} {k n : Nat} (hrl : t.Rows.length = n) (hn : n ≤ 8) (hk : k < 2 ^ n) : loopC (spec_FindCut_l2 t (k : Int)) (([] : List Int), 0) = some (bts k n) := by
  have h256 : k < 256 := Nat.lt_of_lt_of_le hk (Nat.pow_le_pow_right (n := 2) (by omega) hn)
  refine tot_eq (tot_loop (fun s => ∃ i : Nat, i ≤ n ∧ s = (bts k i, (i : Int))) (fun s => n - s.2.toNat) ⟨0, by omega, rfl⟩ ?_)
  rintro _ ⟨i, hi, rfl⟩
  have hbl := bts_len k i
  by_cases hin : i < n
  · have e0 : decide ((i : Int) < goLen t.Rows) = true := decide_eq_true (by simp only [goLen]; omega)
    simp only [spec_FindCut_l2, e0, cond_true]
    rw [wrap_9 (by omega), shr_256 h256 (by omega), Option.bind_some, bit_256 (div_256 h256), wid (n := (i : Int) + 1) (by omega) (by omega)]
    cases hb : decide (k / 2 ^ i % 2 = 1) with
    | true =>
      rw [cond_true, goApp_ok (by simp; omega), Option.bind_some, Option.bind_some]
      exact tot_some ⟨⟨i + 1, by omega, by simp only [bts]; rw [hb]; rfl⟩, by simp only; omega⟩
    | false =>
      rw [cond_false, Option.bind_some]
      exact tot_some ⟨⟨i + 1, by omega, by simp only [bts]; rw [hb, cond_false, List.append_nil]; rfl⟩, by simp only; omega⟩
  · obtain rfl : i = n := by omega
    have e0 : decide ((i : Int) < goLen t.Rows) = false := decide_eq_false (by simp only [goLen]; omega)
    simp only [spec_FindCut_l2, e0, cond_false]
    exact tot_some rfl

end Go.Gx.F
