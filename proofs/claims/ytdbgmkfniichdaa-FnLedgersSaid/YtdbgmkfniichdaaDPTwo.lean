/- Budgets, masses and radii on both sides. -/
import Derived.Test.YtdbgmkfniichdaaDPGeo
namespace Go.Gx.F
open Go.Gx
set_option linter.all false

/-! masses -/

/-! radii -/

def gtail (A : impl_Frac) (k : Int) : impl_Frac × Bool :=
  if (pwI A ⟨1, 1⟩ k.toNat).2 = true ∧ (fadd ⟨1, 1⟩ A).2 = true then fdiv (pwI A ⟨1, 1⟩ k.toNat).1 (fadd ⟨1, 1⟩ A).1 else zz

theorem gtail_bad {A : impl_Frac} {k : Int} (h : (gtail A k).2 = false) : gtail A k = zz := by
  unfold gtail at h ⊢
  split at h
  · rename_i hc; rw [if_pos hc]; exact fdiv_bad h
  · rename_i hc; rw [if_neg hc]

/-! the exact value of a fraction -/

theorem mk_val {n d : Int} (hd : d ≠ 0) (h : (mk n d).2 = true) : (mk n d).1.Num * d = n * (mk n d).1.Den := by
  obtain ⟨p, hp⟩ : (Int.gcd n d : Int) ∣ n := Int.gcd_dvd_left _ _
  obtain ⟨q, hq⟩ : (Int.gcd n d : Int) ∣ d := Int.gcd_dvd_right _ _
  have hg := gcd_pos (n := n) hd
  have ep : n.tdiv (Int.gcd n d) = p := by
    have := Int.mul_tdiv_cancel_left (b := p) (a := (Int.gcd n d : Int)) (by omega)
    rwa [← hp] at this
  have eq : d.tdiv (Int.gcd n d) = q := by
    have := Int.mul_tdiv_cancel_left (b := q) (a := (Int.gcd n d : Int)) (by omega)
    rwa [← hq] at this
  have hval : p * d = n * q := by
    generalize (Int.gcd n d : Int) = g at *
    rw [hp, hq]
    simp only [Int.mul_comm, Int.mul_left_comm, Int.mul_assoc]
  unfold mk at h ⊢
  simp only [ep, eq] at h ⊢
  by_cases h0 : d < 0
  · simp only [h0, if_true] at h ⊢
    split at h
    · rename_i hc
      simp only [hc, and_self, if_true]
      rw [Int.neg_mul, Int.mul_neg, hval]
    · simp at h
  · simp only [h0, if_false] at h ⊢
    split at h
    · rename_i hc
      simp only [hc, and_self, if_true]
      exact hval
    · simp at h

end Go.Gx.F
