/- Losses and variances: what the functions of both sides return. -/
import Derived.Test.YtdbgmkfniichdaaEPFrac
namespace Go.Gx.F
open Go.Gx
set_option linter.all false

theorem and4 {a b c d : Prop} [Decidable a] [Decidable b] [Decidable c] [Decidable d] {p : Prop} [Decidable p] (h : p ↔ (a ∧ b ∧ c ∧ d)) :
    ((cond (decide a) ((some (decide b)).bind fun t => cond t (cond (decide c) (some (decide d)) (some false)) (some false)) (some false) : Option Bool).bind fun t => some t) = some (decide p) := by
  by_cases ha : a <;> by_cases hb : b <;> by_cases hc : c <;> by_cases hd : d <;> simp [h, ha, hb, hc, hd]

/-! within a budget -/

/-! variances -/

def Sig (s : impl_Frac) : Prop := Good s ∧ 0 < s.Num ∧ s.Num ≤ 10000 * s.Den

instance (s : impl_Frac) : Decidable (Sig s) := by unfold Sig; infer_instance

theorem and3 {a b c : Prop} [Decidable a] [Decidable b] [Decidable c] {p : Prop} [Decidable p] (h : p ↔ (a ∧ b ∧ c)) :
    ((cond (decide a) (cond (decide b) (some (decide c)) (some false)) (some false) : Option Bool).bind fun t => some t) = some (decide p) := by
  by_cases ha : a <;> by_cases hb : b <;> by_cases hc : c <;> simp [h, ha, hb, hc]

theorem cmp_int_le {s : impl_Frac} {k : Int} : cmp s ⟨k, 1⟩ ≤ 0 ↔ s.Num ≤ k * s.Den := by
  unfold cmp
  simp only [Int.mul_one]
  split
  · constructor <;> intro <;> omega
  · split
    · constructor <;> intro <;> omega
    · constructor <;> intro <;> omega

theorem int_cmp_le {s : impl_Frac} {k : Int} : cmp ⟨k, 1⟩ s ≤ 0 ↔ k * s.Den ≤ s.Num := by
  unfold cmp
  simp only [Int.mul_one]
  split
  · constructor <;> intro <;> omega
  · split
    · constructor <;> intro <;> omega
    · constructor <;> intro <;> omega

theorem scale_step {s : impl_Frac} (h : Sig s) {t : Int} (h1 : 1 ≤ t) (h2 : t * t * s.Den ≤ s.Num) : t ≤ 100 := by
  obtain ⟨hg, _, h3⟩ := h
  have hd := hg.1
  rcases Int.lt_or_le 100 t with h4 | h4
  · exfalso
    have h5 : 101 * 101 ≤ t * t := Int.mul_le_mul (by omega) (by omega) (by omega) (by omega)
    have h6 : 101 * 101 * s.Den ≤ t * t * s.Den := Int.mul_le_mul_of_nonneg_right h5 (by omega)
    omega
  · exact h4

/-! a fraction divided by two times another one -/

end Go.Gx.F
