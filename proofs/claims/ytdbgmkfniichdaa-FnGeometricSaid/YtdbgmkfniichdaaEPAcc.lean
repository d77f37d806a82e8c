/- AcceptExponent on both sides. -/
import Derived.Test.YtdbgmkfniichdaaEPTwo
namespace Go.Gx.F
open Go.Gx
set_option linter.all false

theorem sq_bad {d : impl_Frac} (hd : Good d) (h : 31623 ≤ d.Den) : (fmul d d).2 = false := by
  have hg : Int.gcd (d.Num * d.Num) (d.Den * d.Den) = 1 := by
    have h5 := hd.2.2.2.2
    unfold Int.gcd at h5 ⊢
    rw [Int.natAbs_mul, Int.natAbs_mul]
    have hc : Nat.Coprime d.Num.natAbs d.Den.natAbs := h5
    exact Nat.Coprime.mul_left (Nat.Coprime.mul_right hc hc) (Nat.Coprime.mul_right hc hc)
  have hb : 31623 * 31623 ≤ d.Den * d.Den := Int.mul_le_mul h h (by omega) (by omega)
  unfold fmul mk
  rw [hg]
  have h0 : ¬ d.Den * d.Den < 0 := by omega
  simp only [h0, if_false]
  rw [if_neg]
  intro hc
  have := hc.2.2
  simp at this
  omega

theorem mk_ok {n d : Int} (h0 : 0 ≤ n) (h1 : n ≤ 1000000000) (h2 : 1 ≤ d) (h3 : d ≤ 1000000000) : (mk n d).2 = true := by
  have b1 := natAbs_tdiv_le n (Int.gcd n d)
  have b2 := natAbs_tdiv_le d (Int.gcd n d)
  unfold mk
  simp only [show ¬ d < 0 by omega, if_false]
  rw [if_pos]
  omega

theorem mk_cross {n1 d1 n2 d2 : Int} (h1 : 0 < d1) (h2 : 0 < d2) (h : n1 * d2 = n2 * d1) : mk n1 d1 = mk n2 d2 := by
  rw [← mk_scale (k := d2) (n := n1) (d := d1) h2 (by omega), ← mk_scale (k := d1) (n := n2) (d := d2) h1 (by omega), Int.mul_comm d2 n1, h, Int.mul_comm d2 d1, Int.mul_comm n2 d1]

theorem shift_den {s : impl_Frac} (hs : Good s) {r : Int} (hr : 1 ≤ r) (h : (fdiv s ⟨r, 1⟩).2 = true) : s.Den ≤ (fdiv s ⟨r, 1⟩).1.Den := by
  unfold fdiv at h ⊢
  rw [if_neg (show ¬ r = 0 by omega)] at h ⊢
  have hs0 := hs.1
  have hne : s.Den * r ≠ 0 := by
    have := Int.mul_pos (show 0 < s.Den by omega) (show 0 < r by omega)
    omega
  have hv := mk_val hne h
  have hg := mk_good hne h
  simp only [Int.mul_one] at hv h hg ⊢
  generalize (mk s.Num (s.Den * r)).1 = c at *
  have hc := hg.1
  have hdv : s.Den ∣ s.Num * c.Den := ⟨c.Num * r, by rw [← hv]; simp only [Int.mul_comm, Int.mul_left_comm, Int.mul_assoc]⟩
  have h6 : s.Den.natAbs ∣ c.Den.natAbs := by
    have h7 : s.Den.natAbs ∣ s.Num.natAbs * c.Den.natAbs := by
      rw [← Int.natAbs_mul]
      exact Int.natAbs_dvd_natAbs.2 hdv
    have hco : Nat.Coprime s.Den.natAbs s.Num.natAbs := by
      have h5 := hs.2.2.2.2
      unfold Int.gcd at h5
      exact Nat.Coprime.symm h5
    exact Nat.Coprime.dvd_of_dvd_mul_left hco h7
  have := Nat.le_of_dvd (by omega) h6
  omega

theorem sub_den {y : Int} {s : impl_Frac} (hs : Good s) (h : (fsub ⟨y, 1⟩ s).2 = true) : (fsub ⟨y, 1⟩ s).1.Den = s.Den := by
  have hg : Int.gcd (y * s.Den - s.Num) s.Den = 1 := by
    have h5 := hs.2.2.2.2
    rw [Int.gcd_comm, show y * s.Den - s.Num = -s.Num + y * s.Den by omega, Int.gcd_add_mul_right_right, Int.gcd_neg, Int.gcd_comm]
    exact h5
  have hd := hs.1
  unfold fsub mk at h ⊢
  simp only [Int.mul_one, Int.one_mul, hg, show ¬ s.Den < 0 by omega, if_false] at h ⊢
  split at h
  · rename_i hc
    rw [if_pos hc]
    simp
  · cases h

/-- what the exponent comes to -/

def accE (s : impl_Frac) (r y : Int) : impl_Frac × Bool :=
  if (fdiv s ⟨r, 1⟩).2 = true then
    if (fsub ⟨y, 1⟩ (fdiv s ⟨r, 1⟩).1).2 = true then
      if (fmul (fsub ⟨y, 1⟩ (fdiv s ⟨r, 1⟩).1).1 (fsub ⟨y, 1⟩ (fdiv s ⟨r, 1⟩).1).1).2 = true then
        mk ((fmul (fsub ⟨y, 1⟩ (fdiv s ⟨r, 1⟩).1).1 (fsub ⟨y, 1⟩ (fdiv s ⟨r, 1⟩).1).1).1.Num * s.Den) (2 * (fmul (fsub ⟨y, 1⟩ (fdiv s ⟨r, 1⟩).1).1 (fsub ⟨y, 1⟩ (fdiv s ⟨r, 1⟩).1).1).1.Den * s.Num)
      else zz
    else zz
  else zz

end Go.Gx.F
