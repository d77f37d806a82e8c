/- Budgets, masses and radii on both sides. -/
import Derived.Test.YtdbgmkfniichdaaEPGeo
namespace Go.Gx.F
open Go.Gx
set_option linter.all false

/-! masses -/

/-! radii -/

def gtail (A : impl_Frac) (k : Int) : impl_Frac × Bool :=
  if (pwI A ⟨1, 1⟩ k.toNat).2 = true ∧ (fadd ⟨1, 1⟩ A).2 = true then fdiv (pwI A ⟨1, 1⟩ k.toNat).1 (fadd ⟨1, 1⟩ A).1 else zz

theorem tails {A : impl_Frac} (hr : Ratio A) {k : Int} (h0 : 0 ≤ k) (h1 : k ≤ 60) : spec_zTail A k = some (gtail A k) ∧ impl_geoTail A k = some (gtail A k) ∧ ((gtail A k).2 = true → Good (gtail A k).1) := by
  unfold gtail
  simp only [spec_zTail, impl_geoTail, impl_moreOne, spec_fInt, Option.bind_some, spec_fPow_eq hr.1 h1, impl_PowFrac_eq hr.1 h0 h1, spec_fAdd_eq good_one hr.1, impl_AddFrac_eq good_one hr.1]
  rcases h3 : (pwI A ⟨1, 1⟩ k.toNat).2 with _ | _
  · simp [zz]
  · rcases h4 : (fadd ⟨1, 1⟩ A).2 with _ | _
    · simp [zz]
    · have g1 := pwI_good hr.1 _ _ good_one h3
      have g2 := fadd_good good_one hr.1 h4
      simp only [Bool.not_true, cond_false, Option.bind_some, spec_fDiv_eq g1 g2, impl_DivFrac_eq g1 g2, and_self, if_true, true_and]
      exact fdiv_good g1 g2

theorem gtail_bad {A : impl_Frac} {k : Int} (h : (gtail A k).2 = false) : gtail A k = zz := by
  unfold gtail at h ⊢
  split at h
  · rename_i hc; rw [if_pos hc]; exact fdiv_bad h
  · rename_i hc; rw [if_neg hc]

theorem radius_bodies {A D : impl_Frac} (hr : Ratio A) (hD : Good D) {t : Int} (h0 : 0 ≤ t) (h1 : t < 60) :
    impl_LeastRadius_l1 A D t = spec_LeastRadius_l1 A D t ∧ ((∃ r, impl_LeastRadius_l1 A D t = some (.done r)) ∨ impl_LeastRadius_l1 A D t = some (.next (t + 1))) := by
  have e : w64 (t + 1) = t + 1 := w64_in (by omega) (by omega)
  obtain ⟨e1, e2, e3⟩ := tails hr (k := t + 1) (by omega) (by omega)
  have h2 : Good ⟨2, 1⟩ := by decide
  unfold impl_LeastRadius_l1 spec_LeastRadius_l1
  simp only [h1, decide_true, cond_true, e, e1, e2, Option.bind_some, spec_fInt]
  rcases hg : (gtail A (t + 1)).2 with _ | _
  · rw [gtail_bad hg]
    simp [zz, spec_fMul_zl]
  · have g := e3 hg
    simp only [Bool.not_true, cond_false, spec_fMul_eq g h2, impl_MulFrac_eq h2 g, fmul_comm ⟨2, 1⟩, Option.bind_some]
    rcases hm : (fmul (gtail A (t + 1)).1 ⟨2, 1⟩).2 with _ | _
    · simp
    · have gm := fmul_good g h2 hm
      simp only [Bool.not_true, cond_false, Option.bind_some, impl_cmp_good gm hD, spec_cmp_good gm hD]
      by_cases hc : cmp (fmul (gtail A (t + 1)).1 ⟨2, 1⟩).1 D ≤ 0 <;> simp [hc]

/-! the exact value of a fraction -/

theorem mk_val {n d : Int} (hd : d ≠ 0) (h : (mk n d).2 = true) : (mk n d).1.Num * d = n * (mk n d).1.Den := by
  obtain ⟨p, hp⟩ : (Int.gcd n d : Int) ∣ n := Int.gcd_dvd_left _ _
  obtain ⟨q, hq⟩ : (Int.gcd n d : Int) ∣ d := Int.gcd_dvd_right _ _
  have hg := gcd_pos (n := n) hd
  have ep : n.tdiv (Int.gcd n d) = p := by
    have := Int.mul_tdiv_cancel_left (b := p) (a := (Int.gcd n d : Int)) (by omega)
    rwa [← hp] at this
  have eq : d.tdiv (Int.gcd n d) = q := by
    have := Int.mul_tdiv_cancel_left (b := q) (a := (Int.gcd n d : Int)) (by omega)
    rwa [← hq] at this
  have hval : p * d = n * q := by
    generalize (Int.gcd n d : Int) = g at *
    rw [hp, hq]
    simp only [Int.mul_comm, Int.mul_left_comm, Int.mul_assoc]
  unfold mk at h ⊢
  simp only [ep, eq] at h ⊢
  by_cases h0 : d < 0
  · simp only [h0, if_true] at h ⊢
    split at h
    · rename_i hc
      simp only [hc, and_self, if_true]
      rw [Int.neg_mul, Int.mul_neg, hval]
    · simp at h
  · simp only [h0, if_false] at h ⊢
    split at h
    · rename_i hc
      simp only [hc, and_self, if_true]
      exact hval
    · simp at h

end Go.Gx.F
