/- How often a loss can be composed within a budget. -/
import Derived.Test.YtdbgmkfniichdaaEPTwo
namespace Go.Gx.F
open Go.Gx
set_option linter.all false

theorem fmul_val {a b : impl_Frac} (ha : Good a) (hb : Good b) (h : (fmul a b).2 = true) : (fmul a b).1.Num * (a.Den * b.Den) = (a.Num * b.Num) * (fmul a b).1.Den := mk_val (den_mul_ne ha hb) h

theorem fadd_val {a b : impl_Frac} (ha : Good a) (hb : Good b) (h : (fadd a b).2 = true) : (fadd a b).1.Num * (a.Den * b.Den) = (a.Num * b.Den + b.Num * a.Den) * (fadd a b).1.Den := mk_val (den_mul_ne ha hb) h

theorem cmp_le {a b : impl_Frac} : cmp a b ≤ 0 ↔ a.Num * b.Den ≤ b.Num * a.Den := by
  unfold cmp
  split
  · constructor <;> intro <;> omega
  · split
    · constructor <;> intro <;> omega
    · constructor <;> intro <;> omega

theorem den_pos {a : impl_Frac} (h : Good a) : 0 < a.Den := by have := h.1; omega

theorem mul_ge {a x : impl_Frac} (ha : Good a) (hx : Good x) (h1 : a.Den ≤ a.Num) (h2 : x.Den ≤ x.Num) (h : (fmul a x).2 = true) : (fmul a x).1.Den ≤ (fmul a x).1.Num := by
  have hv := fmul_val ha hx h
  have hd := den_pos (fmul_good ha hx h)
  have ha0 := den_pos ha
  have hx0 := den_pos hx
  have hW : 0 < a.Den * x.Den := Int.mul_pos ha0 hx0
  refine Int.le_of_mul_le_mul_right ?_ hW
  rw [hv, Int.mul_comm (fmul a x).1.Den]
  exact Int.mul_le_mul_of_nonneg_right (Int.mul_le_mul h1 h2 (by omega) (by omega)) (by omega)

theorem add_ge {a x : impl_Frac} (ha : Good a) (hx : Good x) (h1 : 0 ≤ a.Num) (h2 : 0 ≤ x.Num) (h : (fadd a x).2 = true) : 0 ≤ (fadd a x).1.Num := by
  have hv := fadd_val ha hx h
  have hd := den_pos (fadd_good ha hx h)
  have ha0 := den_pos ha
  have hx0 := den_pos hx
  have hW : 0 < a.Den * x.Den := Int.mul_pos ha0 hx0
  refine Int.le_of_mul_le_mul_right ?_ hW
  rw [hv, Int.zero_mul]
  exact Int.mul_nonneg (Int.add_nonneg (Int.mul_nonneg h1 (by omega)) (Int.mul_nonneg h2 (by omega))) (by omega)

theorem mul_mono {a x b : impl_Frac} (ha : Good a) (hx : Good x) (hb : Good b) (h1 : a.Den ≤ a.Num) (h2 : x.Den ≤ x.Num) (h : (fmul a x).2 = true) (hn : ¬ cmp a b ≤ 0) : ¬ cmp (fmul a x).1 b ≤ 0 := by
  rw [cmp_le] at hn ⊢
  have hv := fmul_val ha hx h
  have hd := den_pos (fmul_good ha hx h)
  have ha0 := den_pos ha
  have hx0 := den_pos hx
  have hb0 := den_pos hb
  have hW : 0 < a.Den * x.Den := Int.mul_pos ha0 hx0
  generalize (fmul a x).1 = c at *
  have h3 : b.Num * a.Den < a.Num * b.Den := by omega
  have h4 : b.Num * a.Den * x.Den < a.Num * b.Den * x.Den := Int.mul_lt_mul_of_pos_right h3 hx0
  have h5 : a.Num * b.Den * x.Den ≤ a.Num * b.Den * x.Num := Int.mul_le_mul_of_nonneg_left h2 (Int.mul_nonneg (by omega) (by omega))
  have h6 : b.Num * a.Den * x.Den * c.Den < a.Num * b.Den * x.Num * c.Den := Int.mul_lt_mul_of_pos_right (by omega) hd
  have e1 : b.Num * a.Den * x.Den * c.Den = b.Num * c.Den * (a.Den * x.Den) := by simp only [Int.mul_comm, Int.mul_left_comm, Int.mul_assoc]
  have e2 : a.Num * b.Den * x.Num * c.Den = c.Num * b.Den * (a.Den * x.Den) := by
    have : c.Num * b.Den * (a.Den * x.Den) = c.Num * (a.Den * x.Den) * b.Den := by simp only [Int.mul_comm, Int.mul_left_comm, Int.mul_assoc]
    rw [this, hv]
    simp only [Int.mul_comm, Int.mul_left_comm, Int.mul_assoc]
  rw [e1, e2] at h6
  have := Int.lt_of_mul_lt_mul_right h6 (by omega)
  omega

theorem add_mono {a x b : impl_Frac} (ha : Good a) (hx : Good x) (hb : Good b) (h2 : 0 ≤ x.Num) (h : (fadd a x).2 = true) (hn : ¬ cmp a b ≤ 0) : ¬ cmp (fadd a x).1 b ≤ 0 := by
  rw [cmp_le] at hn ⊢
  have hv := fadd_val ha hx h
  have hd := den_pos (fadd_good ha hx h)
  have ha0 := den_pos ha
  have hx0 := den_pos hx
  have hb0 := den_pos hb
  have hW : 0 < a.Den * x.Den := Int.mul_pos ha0 hx0
  generalize (fadd a x).1 = c at *
  have h3 : b.Num * a.Den < a.Num * b.Den := by omega
  have h4 : b.Num * a.Den * x.Den < a.Num * b.Den * x.Den := Int.mul_lt_mul_of_pos_right h3 hx0
  have h5 : 0 ≤ x.Num * a.Den * b.Den := Int.mul_nonneg (Int.mul_nonneg h2 (by omega)) (by omega)
  have e0 : (a.Num * x.Den + x.Num * a.Den) * b.Den = a.Num * b.Den * x.Den + x.Num * a.Den * b.Den := by
    rw [Int.add_mul]
    congr 1
    simp only [Int.mul_comm, Int.mul_left_comm, Int.mul_assoc]
  have h6 : b.Num * a.Den * x.Den * c.Den < (a.Num * x.Den + x.Num * a.Den) * b.Den * c.Den := Int.mul_lt_mul_of_pos_right (by omega) hd
  have e1 : b.Num * a.Den * x.Den * c.Den = b.Num * c.Den * (a.Den * x.Den) := by simp only [Int.mul_comm, Int.mul_left_comm, Int.mul_assoc]
  have e2 : (a.Num * x.Den + x.Num * a.Den) * b.Den * c.Den = c.Num * b.Den * (a.Den * x.Den) := by
    have : c.Num * b.Den * (a.Den * x.Den) = c.Num * (a.Den * x.Den) * b.Den := by simp only [Int.mul_comm, Int.mul_left_comm, Int.mul_assoc]
    rw [this, hv, Int.mul_assoc, Int.mul_assoc, Int.mul_comm b.Den]
  rw [e1, e2] at h6
  have := Int.lt_of_mul_lt_mul_right h6 (by omega)
  omega

end Go.Gx.F
