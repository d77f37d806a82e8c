/- Losses and variances: what the functions of both sides return. -/
import Derived.Test.YtdbgmkfniichdaaDPFrac
namespace Go.Gx.F
open Go.Gx
set_option linter.all false

def GoodL (x : impl_Loss) : Prop := Good x.Ratio ∧ Good x.Rho ∧ x.Ratio.Den ≤ x.Ratio.Num ∧ 0 ≤ x.Rho.Num

instance (x : impl_Loss) : Decidable (GoodL x) := by unfold GoodL; infer_instance

theorem and4 {a b c d : Prop} [Decidable a] [Decidable b] [Decidable c] [Decidable d] {p : Prop} [Decidable p] (h : p ↔ (a ∧ b ∧ c ∧ d)) :
    ((cond (decide a) ((some (decide b)).bind fun t => cond t (cond (decide c) (some (decide d)) (some false)) (some false)) (some false) : Option Bool).bind fun t => some t) = some (decide p) := by
  by_cases ha : a <;> by_cases hb : b <;> by_cases hc : c <;> by_cases hd : d <;> simp [h, ha, hb, hc, hd]

theorem impl_IsLoss_eq (x : impl_Loss) : impl_IsLoss x = some (decide (GoodL x)) := by
  unfold impl_IsLoss
  rw [impl_IsFrac_eq, impl_IsFrac_eq]
  exact and4 Iff.rfl

theorem spec_pGood_eq (x : impl_Loss) : spec_pGood x = some (decide (GoodL x)) := by
  unfold spec_pGood
  rw [spec_fGood_eq, spec_fGood_eq]
  exact and4 Iff.rfl

/-! within a budget -/

def within (b x : impl_Loss) : Bool := decide (cmp x.Ratio b.Ratio ≤ 0) && decide (cmp x.Rho b.Rho ≤ 0)

theorem impl_isWithin_eq {b x : impl_Loss} (hb : GoodL b) (hx : GoodL x) : impl_isWithin b x = some (within b x) := by
  unfold impl_isWithin within
  rw [impl_cmp_good hx.1 hb.1, impl_cmp_good hx.2.1 hb.2.1]
  by_cases h : cmp x.Ratio b.Ratio ≤ 0 <;> simp [h]

theorem spec_pWithin_eq {b x : impl_Loss} (hb : GoodL b) (hx : GoodL x) : spec_pWithin b x = some (within b x) := by
  unfold spec_pWithin within
  rw [spec_cmp_good hx.1 hb.1, spec_cmp_good hx.2.1 hb.2.1]
  by_cases h : cmp x.Ratio b.Ratio ≤ 0 <;> simp [h]

/-! variances -/

def Sig (s : impl_Frac) : Prop := Good s ∧ 0 < s.Num ∧ s.Num ≤ 10000 * s.Den

instance (s : impl_Frac) : Decidable (Sig s) := by unfold Sig; infer_instance

theorem and3 {a b c : Prop} [Decidable a] [Decidable b] [Decidable c] {p : Prop} [Decidable p] (h : p ↔ (a ∧ b ∧ c)) :
    ((cond (decide a) (cond (decide b) (some (decide c)) (some false)) (some false) : Option Bool).bind fun t => some t) = some (decide p) := by
  by_cases ha : a <;> by_cases hb : b <;> by_cases hc : c <;> simp [h, ha, hb, hc]

theorem cmp_int_le {s : impl_Frac} {k : Int} : cmp s ⟨k, 1⟩ ≤ 0 ↔ s.Num ≤ k * s.Den := by
  unfold cmp
  simp only [Int.mul_one]
  split
  · constructor <;> intro <;> omega
  · split
    · constructor <;> intro <;> omega
    · constructor <;> intro <;> omega

theorem int_cmp_le {s : impl_Frac} {k : Int} : cmp ⟨k, 1⟩ s ≤ 0 ↔ k * s.Den ≤ s.Num := by
  unfold cmp
  simp only [Int.mul_one]
  split
  · constructor <;> intro <;> omega
  · split
    · constructor <;> intro <;> omega
    · constructor <;> intro <;> omega

theorem scale_step {s : impl_Frac} (h : Sig s) {t : Int} (h1 : 1 ≤ t) (h2 : t * t * s.Den ≤ s.Num) : t ≤ 100 := by
  obtain ⟨hg, _, h3⟩ := h
  have hd := hg.1
  rcases Int.lt_or_le 100 t with h4 | h4
  · exfalso
    have h5 : 101 * 101 ≤ t * t := Int.mul_le_mul (by omega) (by omega) (by omega) (by omega)
    have h6 : 101 * 101 * s.Den ≤ t * t * s.Den := Int.mul_le_mul_of_nonneg_right h5 (by omega)
    omega
  · exact h4

/-! a fraction divided by two times another one -/

end Go.Gx.F
