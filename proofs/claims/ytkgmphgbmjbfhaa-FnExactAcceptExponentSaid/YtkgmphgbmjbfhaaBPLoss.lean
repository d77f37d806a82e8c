/- Losses and variances: what the functions of both sides return. -/
import Derived.Test.YtkgmphgbmjbfhaaBPFrac
namespace Go.Gx.F
open Go.Gx
set_option linter.all false

def GoodL (x : impl_Loss) : Prop := Good x.Ratio ∧ Good x.Rho ∧ x.Ratio.Den ≤ x.Ratio.Num ∧ 0 ≤ x.Rho.Num

instance (x : impl_Loss) : Decidable (GoodL x) := by unfold GoodL; infer_instance

theorem and4 {a b c d : Prop} [Decidable a] [Decidable b] [Decidable c] [Decidable d] {p : Prop} [Decidable p] (h : p ↔ (a ∧ b ∧ c ∧ d)) :
    ((cond (decide a) ((some (decide b)).bind fun t => cond t (cond (decide c) (some (decide d)) (some false)) (some false)) (some false) : Option Bool).bind fun t => some t) = some (decide p) := by
  by_cases ha : a <;> by_cases hb : b <;> by_cases hc : c <;> by_cases hd : d <;> simp [h, ha, hb, hc, hd]

theorem impl_IsLoss_eq (x : impl_Loss) : impl_IsLoss x = some (decide (GoodL x)) := by
  unfold impl_IsLoss
  rw [impl_IsFrac_eq, impl_IsFrac_eq]
  exact and4 Iff.rfl

theorem spec_pGood_eq (x : impl_Loss) : spec_pGood x = some (decide (GoodL x)) := by
  unfold spec_pGood
  rw [spec_fGood_eq, spec_fGood_eq]
  exact and4 Iff.rfl

theorem laws_toLoss_eq (x : laws_Loss) : laws_toLoss x = some ⟨⟨x.Ratio.Num, x.Ratio.Den⟩, ⟨x.Rho.Num, x.Rho.Den⟩⟩ := rfl

/-! within a budget -/

def within (b x : impl_Loss) : Bool := decide (cmp x.Ratio b.Ratio ≤ 0) && decide (cmp x.Rho b.Rho ≤ 0)

theorem impl_isWithin_eq {b x : impl_Loss} (hb : GoodL b) (hx : GoodL x) : impl_isWithin b x = some (within b x) := by
  unfold impl_isWithin within
  rw [impl_cmp_good hx.1 hb.1, impl_cmp_good hx.2.1 hb.2.1]
  by_cases h : cmp x.Ratio b.Ratio ≤ 0 <;> simp [h]

theorem spec_pWithin_eq {b x : impl_Loss} (hb : GoodL b) (hx : GoodL x) : spec_pWithin b x = some (within b x) := by
  unfold spec_pWithin within
  rw [spec_cmp_good hx.1 hb.1, spec_cmp_good hx.2.1 hb.2.1]
  by_cases h : cmp x.Ratio b.Ratio ≤ 0 <;> simp [h]

/-! variances -/

def Sig (s : impl_Frac) : Prop := Good s ∧ 0 < s.Num ∧ s.Num ≤ 10000 * s.Den

instance (s : impl_Frac) : Decidable (Sig s) := by unfold Sig; infer_instance

theorem and3 {a b c : Prop} [Decidable a] [Decidable b] [Decidable c] {p : Prop} [Decidable p] (h : p ↔ (a ∧ b ∧ c)) :
    ((cond (decide a) (cond (decide b) (some (decide c)) (some false)) (some false) : Option Bool).bind fun t => some t) = some (decide p) := by
  by_cases ha : a <;> by_cases hb : b <;> by_cases hc : c <;> simp [h, ha, hb, hc]

theorem impl_isSigma2_eq (s : impl_Frac) : impl_isSigma2 s = some (decide (Sig s)) := by
  unfold impl_isSigma2
  rw [impl_IsFrac_eq]
  simp only [Option.bind_some]
  by_cases h : Good s
  · rw [w64_in (by have := h.1; have := h.2.1; omega) (by have := h.1; have := h.2.1; omega)]
    exact and3 Iff.rfl
  · have : ¬ Sig s := fun hs => h hs.1
    simp [h, this]

theorem cmp_int_le {s : impl_Frac} {k : Int} : cmp s ⟨k, 1⟩ ≤ 0 ↔ s.Num ≤ k * s.Den := by
  unfold cmp
  simp only [Int.mul_one]
  split
  · constructor <;> intro <;> omega
  · split
    · constructor <;> intro <;> omega
    · constructor <;> intro <;> omega

theorem int_cmp_le {s : impl_Frac} {k : Int} : cmp ⟨k, 1⟩ s ≤ 0 ↔ k * s.Den ≤ s.Num := by
  unfold cmp
  simp only [Int.mul_one]
  split
  · constructor <;> intro <;> omega
  · split
    · constructor <;> intro <;> omega
    · constructor <;> intro <;> omega

theorem spec_ySigma_eq (s : impl_Frac) : spec_ySigma s = some (decide (Sig s)) := by
  unfold spec_ySigma spec_fInt
  rw [spec_fGood_eq]
  simp only [Option.bind_some]
  by_cases h : Good s
  · have e := spec_fCmp_eq (a := s) (b := ⟨10000, 1⟩) (by have := good_num h; simp; omega) (by have := good_den h; have := prod_bound (a := 10000) (A := 10000) (by decide) this; simp at this ⊢; omega)
    rw [e]
    simp only [Option.bind_some, cmp_int_le]
    exact and3 Iff.rfl
  · have : ¬ Sig s := fun hs => h hs.1
    simp [h, this]

theorem scale_step {s : impl_Frac} (h : Sig s) {t : Int} (h1 : 1 ≤ t) (h2 : t * t * s.Den ≤ s.Num) : t ≤ 100 := by
  obtain ⟨hg, _, h3⟩ := h
  have hd := hg.1
  rcases Int.lt_or_le 100 t with h4 | h4
  · exfalso
    have h5 : 101 * 101 ≤ t * t := Int.mul_le_mul (by omega) (by omega) (by omega) (by omega)
    have h6 : 101 * 101 * s.Den ≤ t * t * s.Den := Int.mul_le_mul_of_nonneg_right h5 (by omega)
    omega
  · exact h4

theorem scale_bodies {s : impl_Frac} (h : Sig s) {t : Int} (h1 : 1 ≤ t) (h2 : t ≤ 101) :
    impl_scaleFor_l1 s t = cond (decide (t * t * s.Den ≤ s.Num)) (some (.next (t + 1))) (some (.done t)) ∧
    spec_yScale_l1 s (t - 1) = cond (decide (t * t * s.Den ≤ s.Num)) (some (.next t)) (some (.done (t - 1))) := by
  have hd := h.1.1
  have hd2 := h.1.2.1
  have ht : t * t ≤ 101 * 101 := Int.mul_le_mul (by omega) (by omega) (by omega) (by omega)
  have ht0 : 0 ≤ t * t := Int.mul_nonneg (by omega) (by omega)
  have htd : t * t * s.Den ≤ 101 * 101 * s.Den := Int.mul_le_mul_of_nonneg_right ht (by omega)
  have htd0 : 0 ≤ t * t * s.Den := Int.mul_nonneg ht0 (by omega)
  constructor
  · unfold impl_scaleFor_l1
    rw [w64_in (n := t * t) (by omega) (by omega), w64_in (n := t * t * s.Den) (by omega) (by omega), w64_in (n := t + 1) (by omega) (by omega)]
  · unfold spec_yScale_l1 spec_fInt
    have e : w64 (t - 1 + 1) = t := by rw [w64_in (by omega) (by omega)]; omega
    rw [e, w64_in (n := t * t) (by omega) (by omega)]
    simp only [Option.bind_some]
    rw [spec_fCmp_eq (by simp only [Int.mul_one]; omega) (by have := good_num h.1; simp only [Int.mul_one]; omega)]
    simp only [Option.bind_some, int_cmp_le]

theorem scale_loop {s : impl_Frac} (h : Sig s) : ∀ (n : Nat) (t : Int), 1 ≤ t → t ≤ 101 → (101 - t).toNat ≤ n →
    ∃ r : Int, loopC (impl_scaleFor_l1 s) t = some r ∧ loopC (spec_yScale_l1 s) (t - 1) = some (r - 1) ∧ 1 ≤ r ∧ r ≤ 101 := by
  intro n
  induction n with
  | zero =>
    intro t h1 h2 hn
    have hno : ¬ t * t * s.Den ≤ s.Num := fun h5 => by have := scale_step h h1 h5; omega
    obtain ⟨e1, e2⟩ := scale_bodies h h1 h2
    rw [loopC_eq, loopC_eq, e1, e2, decide_eq_false hno]
    exact ⟨t, rfl, rfl, h1, h2⟩
  | succ n ih =>
    intro t h1 h2 hn
    obtain ⟨e1, e2⟩ := scale_bodies h h1 h2
    rw [loopC_eq, loopC_eq, e1, e2]
    by_cases hc : t * t * s.Den ≤ s.Num
    · have := scale_step h h1 hc
      obtain ⟨r, a, b, c, d⟩ := ih (t + 1) (by omega) (by omega) (by omega)
      rw [decide_eq_true hc]
      refine ⟨r, a, ?_, c, d⟩
      rw [show t + 1 - 1 = t by omega] at b
      exact b
    · rw [decide_eq_false hc]
      exact ⟨t, rfl, rfl, h1, h2⟩

theorem scales {s : impl_Frac} (h : Sig s) : ∃ r : Int, impl_scaleFor s = some r ∧ spec_yScale s = some r ∧ 1 ≤ r ∧ r ≤ 101 := by
  obtain ⟨r, a, b, c, d⟩ := scale_loop h _ 1 (by omega) (by omega) (Nat.le_refl _)
  refine ⟨r, ?_, ?_, c, d⟩
  · unfold impl_scaleFor
    rw [a]
    rfl
  · unfold spec_yScale
    rw [show (1 : Int) - 1 = 0 from rfl] at b
    rw [b]
    simp only [Option.bind_some]
    rw [w64_in (by omega) (by omega)]
    congr 1
    omega

/-! a fraction divided by two times another one -/

theorem impl_quotient_eq {a b : impl_Frac} (ha : a.Num.natAbs ≤ 2000000000) (ha1 : 1 ≤ a.Den) (ha2 : a.Den ≤ 1000000000) (hb : Good b) (hb0 : 0 < b.Num) :
    impl_quotient a b = some (mk (a.Num * b.Den) (2 * a.Den * b.Num)) := by
  have hbn := good_num hb
  have hbd := good_den hb
  have hb1 := hb.1
  have g1 := gcd_pos (n := a.Num) (d := b.Num) (by omega)
  have g2 := gcd_pos (n := a.Den) (d := b.Den) (by omega)
  obtain ⟨p, hp⟩ : (Int.gcd a.Num b.Num : Int) ∣ a.Num := Int.gcd_dvd_left _ _
  obtain ⟨q, hq⟩ : (Int.gcd a.Num b.Num : Int) ∣ b.Num := Int.gcd_dvd_right _ _
  obtain ⟨u, hu⟩ : (Int.gcd a.Den b.Den : Int) ∣ a.Den := Int.gcd_dvd_left _ _
  obtain ⟨v, hv⟩ : (Int.gcd a.Den b.Den : Int) ∣ b.Den := Int.gcd_dvd_right _ _
  unfold impl_quotient
  rw [impl_gcdOf_eq (by omega) (by omega), impl_gcdOf_eq (by omega) (by omega)]
  simp only [Option.bind_some]
  generalize hG : (Int.gcd a.Num b.Num : Int) = G at *
  generalize hH : (Int.gcd a.Den b.Den : Int) = H at *
  have hG0 : 0 < G := by omega
  have hH0 : 0 < H := by omega
  rw [goQuo_ok (by omega) (by omega) (by omega), goQuo_ok (by omega) (by omega) (by omega), goQuo_ok (by omega) (by omega) (by omega), goQuo_ok (by omega) (by omega) (by omega)]
  simp only [Option.bind_some]
  have ep : a.Num.tdiv G = p := by rw [hp]; exact Int.mul_tdiv_cancel_left _ (by omega)
  have eq : b.Num.tdiv G = q := by rw [hq]; exact Int.mul_tdiv_cancel_left _ (by omega)
  have eu : a.Den.tdiv H = u := by rw [hu]; exact Int.mul_tdiv_cancel_left _ (by omega)
  have ev : b.Den.tdiv H = v := by rw [hv]; exact Int.mul_tdiv_cancel_left _ (by omega)
  have bp := natAbs_tdiv_le a.Num G
  have bq := natAbs_tdiv_le b.Num G
  have bu := natAbs_tdiv_le a.Den H
  have bv := natAbs_tdiv_le b.Den H
  rw [ep] at bp ⊢
  rw [eq] at bq ⊢
  rw [eu] at bu ⊢
  rw [ev] at bv ⊢
  have hqp : 0 < q := by
    rcases Int.lt_or_le 0 q with h | h
    · exact h
    · have := Int.mul_nonpos_of_nonneg_of_nonpos (Int.le_of_lt hG0) h
      omega
  have hup : 0 < u := by
    rcases Int.lt_or_le 0 u with h | h
    · exact h
    · have := Int.mul_nonpos_of_nonneg_of_nonpos (Int.le_of_lt hH0) h
      omega
  have b1 := prod_bound (a := p) (b := v) (A := 2000000000) (B := 1000000000) (by omega) (by omega)
  have b2 := prod_bound (a := 2 * u) (b := q) (A := 2000000000) (B := 1000000000) (by omega) (by omega)
  have hpos : 0 < 2 * u * q := Int.mul_pos (by omega) hqp
  rw [w64_in (n := p * v) (by omega) (by omega), w64_in (n := 2 * u) (by omega) (by omega), w64_in (n := 2 * u * q) (by omega) (by omega)]
  rw [impl_reduced_eq (by omega) (by omega) (by omega)]
  show some (mk (p * v) (2 * u * q)) = _
  have hGH : 0 < G * H := Int.mul_pos hG0 hH0
  have e1 : G * H * (p * v) = a.Num * b.Den := by
    rw [hp, hv]
    simp only [Int.mul_comm, Int.mul_left_comm, Int.mul_assoc]
  have e2 : G * H * (2 * u * q) = 2 * a.Den * b.Num := by
    rw [hu, hq]
    simp only [Int.mul_comm, Int.mul_left_comm, Int.mul_assoc]
  rw [← mk_scale hGH (by omega), e1, e2]

end Go.Gx.F
