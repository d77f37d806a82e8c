/- Losses and variances: what the functions of both sides return. -/
import Derived.Test.YtbmeacngcdekbabPFrac
namespace Go.Gx.F
open Go.Gx
set_option linter.all false

def GoodL (x : impl_Loss) : Prop := Good x.Ratio ∧ Good x.Rho ∧ x.Ratio.Den ≤ x.Ratio.Num ∧ 0 ≤ x.Rho.Num
instance (x : impl_Loss) : Decidable (GoodL x) := by unfold GoodL; infer_instance

theorem and4 {a b c d : Prop} [Decidable a] [Decidable b] [Decidable c] [Decidable d] {p : Prop} [Decidable p] (h : p ↔ (a ∧ b ∧ c ∧ d)) :
    ((cond (decide a) ((some (decide b)).bind fun t => cond t (cond (decide c) (some (decide d)) (some false)) (some false)) (some false) : Option Bool).bind fun t => some t) = some (decide p) := by
  by_cases ha : a <;> by_cases hb : b <;> by_cases hc : c <;> by_cases hd : d <;> simp [h, ha, hb, hc, hd]

theorem impl_IsLoss_eq (x : impl_Loss) : impl_IsLoss x = some (decide (GoodL x)) := by
  unfold impl_IsLoss
  rw [impl_IsFrac_eq, impl_IsFrac_eq]
  exact and4 Iff.rfl

theorem spec_pGood_eq (x : impl_Loss) : spec_pGood x = some (decide (GoodL x)) := by
  unfold spec_pGood
  rw [spec_fGood_eq, spec_fGood_eq]
  exact and4 Iff.rfl

theorem laws_toLoss_eq (x : laws_Loss) : laws_toLoss x = some ⟨⟨x.Ratio.Num, x.Ratio.Den⟩, ⟨x.Rho.Num, x.Rho.Den⟩⟩ := rfl

/-! within a budget -/
def within (b x : impl_Loss) : Bool := decide (cmp x.Ratio b.Ratio ≤ 0) && decide (cmp x.Rho b.Rho ≤ 0)

/-! variances -/
def Sig (s : impl_Frac) : Prop := Good s ∧ 0 < s.Num ∧ s.Num ≤ 10000 * s.Den
instance (s : impl_Frac) : Decidable (Sig s) := by unfold Sig; infer_instance

theorem and3 {a b c : Prop} [Decidable a] [Decidable b] [Decidable c] {p : Prop} [Decidable p] (h : p ↔ (a ∧ b ∧ c)) :
    ((cond (decide a) (cond (decide b) (some (decide c)) (some false)) (some false) : Option Bool).bind fun t => some t) = some (decide p) := by
  by_cases ha : a <;> by_cases hb : b <;> by_cases hc : c <;> simp [h, ha, hb, hc]

theorem impl_isSigma2_eq (s : impl_Frac) : impl_isSigma2 s = some (decide (Sig s)) := by
  unfold impl_isSigma2
  rw [impl_IsFrac_eq]
  simp only [Option.bind_some]
  by_cases h : Good s
  · rw [w64_in (by have := h.1; have := h.2.1; omega) (by have := h.1; have := h.2.1; omega)]
    exact and3 Iff.rfl
  · have : ¬ Sig s := fun hs => h hs.1
    simp [h, this]

theorem cmp_int_le {s : impl_Frac} {k : Int} : cmp s ⟨k, 1⟩ ≤ 0 ↔ s.Num ≤ k * s.Den := by
  unfold cmp
  simp only [Int.mul_one]
  split
  · constructor <;> intro <;> omega
  · split
    · constructor <;> intro <;> omega
    · constructor <;> intro <;> omega

theorem int_cmp_le {s : impl_Frac} {k : Int} : cmp ⟨k, 1⟩ s ≤ 0 ↔ k * s.Den ≤ s.Num := by
  unfold cmp
  simp only [Int.mul_one]
  split
  · constructor <;> intro <;> omega
  · split
    · constructor <;> intro <;> omega
    · constructor <;> intro <;> omega

theorem spec_ySigma_eq (s : impl_Frac) : spec_ySigma s = some (decide (Sig s)) := by
  unfold spec_ySigma spec_fInt
  rw [spec_fGood_eq]
  simp only [Option.bind_some]
  by_cases h : Good s
  · have e := spec_fCmp_eq (a := s) (b := ⟨10000, 1⟩) (by have := good_num h; simp; omega) (by have := good_den h; have := prod_bound (a := 10000) (A := 10000) (by decide) this; simp at this ⊢; omega)
    rw [e]
    simp only [Option.bind_some, cmp_int_le]
    exact and3 Iff.rfl
  · have : ¬ Sig s := fun hs => h hs.1
    simp [h, this]

theorem scale_step {s : impl_Frac} (h : Sig s) {t : Int} (h1 : 1 ≤ t) (h2 : t * t * s.Den ≤ s.Num) : t ≤ 100 := by
  obtain ⟨hg, _, h3⟩ := h
  have hd := hg.1
  rcases Int.lt_or_le 100 t with h4 | h4
  · exfalso
    have h5 : 101 * 101 ≤ t * t := Int.mul_le_mul (by omega) (by omega) (by omega) (by omega)
    have h6 : 101 * 101 * s.Den ≤ t * t * s.Den := Int.mul_le_mul_of_nonneg_right h5 (by omega)
    omega
  · exact h4

/-! a fraction divided by two times another one -/
theorem impl_quotient_eq {a b : impl_Frac} (ha : a.Num.natAbs ≤ 2000000000) (ha1 : 1 ≤ a.Den) (ha2 : a.Den ≤ 1000000000) (hb : Good b) (hb0 : 0 < b.Num) :
    impl_quotient a b = some (mk (a.Num * b.Den) (2 * a.Den * b.Num)) := by
  have hbn := good_num hb
  have hbd := good_den hb
  have hb1 := hb.1
  have g1 := gcd_pos (n := a.Num) (d := b.Num) (by omega)
  have g2 := gcd_pos (n := a.Den) (d := b.Den) (by omega)
  obtain ⟨p, hp⟩ : (Int.gcd a.Num b.Num : Int) ∣ a.Num := Int.gcd_dvd_left _ _
  obtain ⟨q, hq⟩ : (Int.gcd a.Num b.Num : Int) ∣ b.Num := Int.gcd_dvd_right _ _
  obtain ⟨u, hu⟩ : (Int.gcd a.Den b.Den : Int) ∣ a.Den := Int.gcd_dvd_left _ _
  obtain ⟨v, hv⟩ : (Int.gcd a.Den b.Den : Int) ∣ b.Den := Int.gcd_dvd_right _ _
  unfold impl_quotient
  rw [impl_gcdOf_eq (by omega) (by omega), impl_gcdOf_eq (by omega) (by omega)]
  simp only [Option.bind_some]
  generalize hG : (Int.gcd a.Num b.Num : Int) = G at *
  generalize hH : (Int.gcd a.Den b.Den : Int) = H at *
  have hG0 : 0 < G := by omega
  have hH0 : 0 < H := by omega
  rw [goQuo_ok (by omega) (by omega) (by omega), goQuo_ok (by omega) (by omega) (by omega), goQuo_ok (by omega) (by omega) (by omega), goQuo_ok (by omega) (by omega) (by omega)]
  simp only [Option.bind_some]
  have ep : a.Num.tdiv G = p := by rw [hp]; exact Int.mul_tdiv_cancel_left _ (by omega)
  have eq : b.Num.tdiv G = q := by rw [hq]; exact Int.mul_tdiv_cancel_left _ (by omega)
  have eu : a.Den.tdiv H = u := by rw [hu]; exact Int.mul_tdiv_cancel_left _ (by omega)
  have ev : b.Den.tdiv H = v := by rw [hv]; exact Int.mul_tdiv_cancel_left _ (by omega)
  have bp := natAbs_tdiv_le a.Num G
  have bq := natAbs_tdiv_le b.Num G
  have bu := natAbs_tdiv_le a.Den H
  have bv := natAbs_tdiv_le b.Den H
  rw [ep] at bp ⊢
  rw [eq] at bq ⊢
  rw [eu] at bu ⊢
  rw [ev] at bv ⊢
  have hqp : 0 < q := by
    rcases Int.lt_or_le 0 q with h | h
    · exact h
    · have := Int.mul_nonpos_of_nonneg_of_nonpos (Int.le_of_lt hG0) h
      omega
  have hup : 0 < u := by
    rcases Int.lt_or_le 0 u with h | h
    · exact h
    · have := Int.mul_nonpos_of_nonneg_of_nonpos (Int.le_of_lt hH0) h
      omega
  have b1 := prod_bound (a := p) (b := v) (A := 2000000000) (B := 1000000000) (by omega) (by omega)
  have b2 := prod_bound (a := 2 * u) (b := q) (A := 2000000000) (B := 1000000000) (by omega) (by omega)
  have hpos : 0 < 2 * u * q := Int.mul_pos (by omega) hqp
  rw [w64_in (n := p * v) (by omega) (by omega), w64_in (n := 2 * u) (by omega) (by omega), w64_in (n := 2 * u * q) (by omega) (by omega)]
  rw [impl_reduced_eq (by omega) (by omega) (by omega)]
  show some (mk (p * v) (2 * u * q)) = _
  have hGH : 0 < G * H := Int.mul_pos hG0 hH0
  have e1 : G * H * (p * v) = a.Num * b.Den := by
    rw [hp, hv]
    simp only [Int.mul_comm, Int.mul_left_comm, Int.mul_assoc]
  have e2 : G * H * (2 * u * q) = 2 * a.Den * b.Num := by
    rw [hu, hq]
    simp only [Int.mul_comm, Int.mul_left_comm, Int.mul_assoc]
  rw [← mk_scale hGH (by omega), e1, e2]

end Go.Gx.F
