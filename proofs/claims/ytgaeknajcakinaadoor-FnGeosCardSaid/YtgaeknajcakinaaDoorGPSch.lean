/- Plain laws: schemas and values. -/
import Derived.Test.YtgaeknajcakinaaDoorGPLst
import Derived.Test.YtgaeknajcakinaaDoorGPDig
namespace Go.Gx.F
open Go.Gx
set_option linter.all false

/-! ## names -/
def Word (w : List UInt8) : Prop := 1 ≤ w.length ∧ w.length ≤ 8 ∧ ∀ c ∈ w, 97 ≤ c.toNat ∧ c.toNat ≤ 122

theorem strAt_ok {l : List UInt8} {k : Nat} {b : UInt8} (h : l[k]? = some b) : goStrAt l (k : Int) = some (b.toNat : Int) := by
  unfold goStrAt
  rw [show decide (0 ≤ (k : Int)) = true by simp]
  simp [h]

theorem letters {l : List UInt8} {k : Nat} {b : UInt8} (h : l[k]? = some b) : (((goStrAt l (k : Int)).bind fun t => (cond (decide (t < 97)) (some true) ((goStrAt l (k : Int)).bind fun t_4 => some (decide (122 < t_4))))) : Option Bool) = some (!decide (97 ≤ b.toNat ∧ b.toNat ≤ 122)) := by
  rw [strAt_ok h, Option.bind_some, Option.bind_some]
  by_cases h1 : (b.toNat : Int) < 97
  · rw [decide_eq_true h1, show decide (97 ≤ b.toNat ∧ b.toNat ≤ 122) = false by simp; omega]; rfl
  · rw [decide_eq_false h1, cond_false]
    congr 1
    by_cases h2 : (122 : Int) < b.toNat
    · rw [decide_eq_true h2, show decide (97 ≤ b.toNat ∧ b.toNat ≤ 122) = false by simp; omega]; rfl
    · rw [decide_eq_false h2, show decide (97 ≤ b.toNat ∧ b.toNat ≤ 122) = true by simp; omega]; rfl

theorem cnt_pow {S : List Nat} {b : Nat} (h : ∀ x ∈ S, x + 1 ≤ b) : cnt S ≤ b ^ S.length := by
  induction S with
  | nil => exact Nat.le_refl _
  | cons s S ih =>
    simp only [cnt, List.length_cons, Nat.pow_succ]
    rw [Nat.mul_comm (b ^ S.length)]
    exact Nat.mul_le_mul (h s (by simp)) (ih fun x hx => h x (by simp [hx]))

end Go.Gx.F
