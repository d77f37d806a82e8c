/- AcceptExponent on both sides. -/
import Derived.Test.YtkgmphgbmjbfhaaBPTwo
namespace Go.Gx.F
open Go.Gx
set_option linter.all false

theorem sq_bad {d : impl_Frac} (hd : Good d) (h : 31623 ≤ d.Den) : (fmul d d).2 = false := by
  have hg : Int.gcd (d.Num * d.Num) (d.Den * d.Den) = 1 := by
    have h5 := hd.2.2.2.2
    unfold Int.gcd at h5 ⊢
    rw [Int.natAbs_mul, Int.natAbs_mul]
    have hc : Nat.Coprime d.Num.natAbs d.Den.natAbs := h5
    exact Nat.Coprime.mul_left (Nat.Coprime.mul_right hc hc) (Nat.Coprime.mul_right hc hc)
  have hb : 31623 * 31623 ≤ d.Den * d.Den := Int.mul_le_mul h h (by omega) (by omega)
  unfold fmul mk
  rw [hg]
  have h0 : ¬ d.Den * d.Den < 0 := by omega
  simp only [h0, if_false]
  rw [if_neg]
  intro hc
  have := hc.2.2
  simp at this
  omega

theorem mk_ok {n d : Int} (h0 : 0 ≤ n) (h1 : n ≤ 1000000000) (h2 : 1 ≤ d) (h3 : d ≤ 1000000000) : (mk n d).2 = true := by
  have b1 := natAbs_tdiv_le n (Int.gcd n d)
  have b2 := natAbs_tdiv_le d (Int.gcd n d)
  unfold mk
  simp only [show ¬ d < 0 by omega, if_false]
  rw [if_pos]
  omega

theorem mk_cross {n1 d1 n2 d2 : Int} (h1 : 0 < d1) (h2 : 0 < d2) (h : n1 * d2 = n2 * d1) : mk n1 d1 = mk n2 d2 := by
  rw [← mk_scale (k := d2) (n := n1) (d := d1) h2 (by omega), ← mk_scale (k := d1) (n := n2) (d := d2) h1 (by omega), Int.mul_comm d2 n1, h, Int.mul_comm d2 d1, Int.mul_comm n2 d1]

theorem shift_den {s : impl_Frac} (hs : Good s) {r : Int} (hr : 1 ≤ r) (h : (fdiv s ⟨r, 1⟩).2 = true) : s.Den ≤ (fdiv s ⟨r, 1⟩).1.Den := by
  unfold fdiv at h ⊢
  rw [if_neg (show ¬ r = 0 by omega)] at h ⊢
  have hs0 := hs.1
  have hne : s.Den * r ≠ 0 := by
    have := Int.mul_pos (show 0 < s.Den by omega) (show 0 < r by omega)
    omega
  have hv := mk_val hne h
  have hg := mk_good hne h
  simp only [Int.mul_one] at hv h hg ⊢
  generalize (mk s.Num (s.Den * r)).1 = c at *
  have hc := hg.1
  have hdv : s.Den ∣ s.Num * c.Den := ⟨c.Num * r, by rw [← hv]; simp only [Int.mul_comm, Int.mul_left_comm, Int.mul_assoc]⟩
  have h6 : s.Den.natAbs ∣ c.Den.natAbs := by
    have h7 : s.Den.natAbs ∣ s.Num.natAbs * c.Den.natAbs := by
      rw [← Int.natAbs_mul]
      exact Int.natAbs_dvd_natAbs.2 hdv
    have hco : Nat.Coprime s.Den.natAbs s.Num.natAbs := by
      have h5 := hs.2.2.2.2
      unfold Int.gcd at h5
      exact Nat.Coprime.symm h5
    exact Nat.Coprime.dvd_of_dvd_mul_left hco h7
  have := Nat.le_of_dvd (by omega) h6
  omega

theorem sub_den {y : Int} {s : impl_Frac} (hs : Good s) (h : (fsub ⟨y, 1⟩ s).2 = true) : (fsub ⟨y, 1⟩ s).1.Den = s.Den := by
  have hg : Int.gcd (y * s.Den - s.Num) s.Den = 1 := by
    have h5 := hs.2.2.2.2
    rw [Int.gcd_comm, show y * s.Den - s.Num = -s.Num + y * s.Den by omega, Int.gcd_add_mul_right_right, Int.gcd_neg, Int.gcd_comm]
    exact h5
  have hd := hs.1
  unfold fsub mk at h ⊢
  simp only [Int.mul_one, Int.one_mul, hg, show ¬ s.Den < 0 by omega, if_false] at h ⊢
  split at h
  · rename_i hc
    rw [if_pos hc]
    simp
  · cases h

/-- what the exponent comes to -/

def accE (s : impl_Frac) (r y : Int) : impl_Frac × Bool :=
  if (fdiv s ⟨r, 1⟩).2 = true then
    if (fsub ⟨y, 1⟩ (fdiv s ⟨r, 1⟩).1).2 = true then
      if (fmul (fsub ⟨y, 1⟩ (fdiv s ⟨r, 1⟩).1).1 (fsub ⟨y, 1⟩ (fdiv s ⟨r, 1⟩).1).1).2 = true then
        mk ((fmul (fsub ⟨y, 1⟩ (fdiv s ⟨r, 1⟩).1).1 (fsub ⟨y, 1⟩ (fdiv s ⟨r, 1⟩).1).1).1.Num * s.Den) (2 * (fmul (fsub ⟨y, 1⟩ (fdiv s ⟨r, 1⟩).1).1 (fsub ⟨y, 1⟩ (fdiv s ⟨r, 1⟩).1).1).1.Den * s.Num)
      else zz
    else zz
  else zz

theorem both_accept {s : impl_Frac} (hs : Sig s) {y : Int} (h1 : -1000000000 ≤ y) (h2 : y ≤ 1000000000) : ∃ e, impl_acceptExponent s y = some e ∧ spec_yAccept s y = some e := by
  obtain ⟨r, e1, e2, hr1, hr2⟩ := scales hs
  have hg := hs.1
  have hrg : Good ⟨r, 1⟩ := good_int (by omega) (by omega)
  have hyg : Good ⟨(y.natAbs : Int), 1⟩ := good_int (by omega) (by omega)
  have hab : max y (w64 (-y)) = (y.natAbs : Int) := by rw [w64_in (by omega) (by omega)]; omega
  refine ⟨accE s r y.natAbs, ?_, ?_⟩
  · unfold impl_acceptExponent accE
    simp only [e1, hab, Option.bind_some, impl_DivFrac_eq hg hrg]
    rcases c1 : (fdiv s ⟨r, 1⟩).2 with _ | _
    · simp [zz]
    · have g1 := fdiv_good hg hrg c1
      simp only [Bool.not_true, cond_false, if_true, impl_SubFrac_eq hyg g1, Option.bind_some]
      rcases c2 : (fsub ⟨(y.natAbs : Int), 1⟩ (fdiv s ⟨r, 1⟩).1).2 with _ | _
      · simp [zz]
      · have g2 := fsub_good hyg g1 c2
        simp only [Bool.not_true, cond_false, if_true, impl_MulFrac_eq g2 g2, Option.bind_some]
        rcases c3 : (fmul (fsub ⟨(y.natAbs : Int), 1⟩ (fdiv s ⟨r, 1⟩).1).1 (fsub ⟨(y.natAbs : Int), 1⟩ (fdiv s ⟨r, 1⟩).1).1).2 with _ | _
        · simp [zz]
        · have g3 := fmul_good g2 g2 c3
          simp only [Bool.not_true, cond_false, if_true]
          rw [impl_quotient_eq (by have := good_num g3; omega) g3.1 g3.2.1 hg hs.2.1]
          simp
  · unfold spec_yAccept accE
    simp only [e2, spec_fInt, Option.bind_some, spec_fDiv_eq hg hrg, spec_l1Abs_eq (show -9223372036854775807 ≤ y by omega) (show y ≤ 9223372036854775807 by omega)]
    rcases c1 : (fdiv s ⟨r, 1⟩).2 with _ | _
    · simp [zz]
    · have g1 := fdiv_good hg hrg c1
      simp only [Bool.not_true, cond_false, if_true, spec_fSub_eq hyg g1, Option.bind_some]
      rcases c2 : (fsub ⟨(y.natAbs : Int), 1⟩ (fdiv s ⟨r, 1⟩).1).2 with _ | _
      · rw [fsub_bad c2]
        simp [zz, spec_fMul_zl]
      · have g2 := fsub_good hyg g1 c2
        have h2g : Good ⟨2, 1⟩ := by decide
        simp only [Bool.not_true, cond_false, if_true, spec_fMul_eq g2 g2, spec_fMul_eq hg h2g, Option.bind_some]
        rcases c3 : (fmul (fsub ⟨(y.natAbs : Int), 1⟩ (fdiv s ⟨r, 1⟩).1).1 (fsub ⟨(y.natAbs : Int), 1⟩ (fdiv s ⟨r, 1⟩).1).1).2 with _ | _
        · simp [zz]
        · have g3 := fmul_good g2 g2 c3
          simp only [Bool.not_true, cond_false, if_true, Option.bind_some]
          rcases c4 : (fmul s ⟨2, 1⟩).2 with _ | _
          · -- then the square was none
            exfalso
            have hd2 : s.Den ≤ (fsub ⟨(y.natAbs : Int), 1⟩ (fdiv s ⟨r, 1⟩).1).1.Den := by
              rw [sub_den g1 c2]
              exact shift_den hg hr1 c1
            have hbig : 31623 ≤ s.Den := by
              have hs2 := hs.2.1
              have hs3 := hs.2.2
              by_cases hle : s.Num ≤ 500000000
              · have := mk_ok (n := s.Num * 2) (d := s.Den * 1) (by omega) (by omega) (by have := hg.1; omega) (by have := hg.2.1; omega)
                unfold fmul at c4
                rw [this] at c4
                cases c4
              · omega
            have := sq_bad g2 (by omega)
            rw [this] at c3
            cases c3
          · have g4 := fmul_good hg h2g c4
            have hv : (fmul s ⟨2, 1⟩).1.Num * s.Den = s.Num * 2 * (fmul s ⟨2, 1⟩).1.Den := by
              have h := mk_val (n := s.Num * 2) (d := s.Den * 1) (by have := hg.1; omega) c4
              rw [Int.mul_one] at h
              unfold fmul
              simp only [Int.mul_one]
              exact h
            simp only [Bool.not_true, cond_false, spec_fDiv_eq g3 g4, Option.bind_some]
            generalize (fmul s ⟨2, 1⟩).1 = tw at *
            generalize (fmul (fsub ⟨(y.natAbs : Int), 1⟩ (fdiv s ⟨r, 1⟩).1).1 (fsub ⟨(y.natAbs : Int), 1⟩ (fdiv s ⟨r, 1⟩).1).1).1 = sq at *
            have hN : 0 < tw.Num := by
              have hs2 := hs.2.1
              have hd := hg.1
              have h4 := g4.1
              have h5 : 0 < s.Num * 2 * tw.Den := Int.mul_pos (by omega) (by omega)
              rw [← hv] at h5
              rcases Int.lt_or_le 0 tw.Num with h | h
              · exact h
              · have := Int.mul_nonpos_of_nonpos_of_nonneg h (show 0 ≤ s.Den by omega)
                omega
            have e4 : fdiv sq tw = mk (sq.Num * s.Den) (2 * sq.Den * s.Num) := by
              unfold fdiv
              rw [if_neg (by omega)]
              have h7 := g3.1
              have hs2 := hs.2.1
              refine mk_cross (Int.mul_pos (by omega) hN) (Int.mul_pos (by omega) hs2) ?_
              have e3 : sq.Num * s.Den * (sq.Den * tw.Num) = sq.Num * sq.Den * (tw.Num * s.Den) := by simp only [Int.mul_comm, Int.mul_left_comm, Int.mul_assoc]
              rw [e3, hv]
              simp only [Int.mul_comm, Int.mul_left_comm, Int.mul_assoc]
            rw [e4]

theorem laws_FnExactAcceptExponent_true (a : laws_Frac) (y : Int) (o1 : Rng.ok a) (o2 : Rng.ok y) : laws_FnExactAcceptExponent a y = some true := by
  unfold laws_FnExactAcceptExponent spec_AcceptExponent impl_AcceptExponent
  obtain ⟨A, hA⟩ : ∃ A, laws_toFrac a = some A := ⟨_, rfl⟩
  simp only [hA, Option.bind_some, spec_ySigma_eq, impl_isSigma2_eq, spec_l1In_eq, bools2, bnd_l]
  by_cases hc : Sig A ∧ -1000000000 ≤ y ∧ y ≤ 1000000000
  · obtain ⟨hs, h1, h2⟩ := hc
    obtain ⟨e, e1, e2⟩ := both_accept hs h1 h2
    simp only [hs, h1, h2, and_self, if_true, Option.bind_some, e1, e2]
    simp [laws_eqFrac_self]
  · simp only [hc, if_false, Option.bind_some]
    simp [laws_eqFrac_self]

end Go.Gx.F
