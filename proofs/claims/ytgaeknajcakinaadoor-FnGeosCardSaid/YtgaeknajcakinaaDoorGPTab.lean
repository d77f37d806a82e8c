/- Plain laws: surveys and tables. -/
import Derived.Test.YtgaeknajcakinaaDoorGPSch
import Derived.Test.YtgaeknajcakinaaDoorGPAre
namespace Go.Gx.F
open Go.Gx
set_option linter.all false

/-! ## the parts of a table -/
def RiseV (n : Nat) (l : List Int) : Prop := ∀ (k : Nat) (v : Int), l[k]? = some v → (0 ≤ v ∧ v < n) ∧ (0 < k → ∀ u, l[k - 1]? = some u → u < v)

theorem RiseV.ge {n : Nat} {l : List Int} (h : RiseV n l) : ∀ (k : Nat) (v : Int), l[k]? = some v → (k : Int) ≤ v
  | 0, v, hv => (h 0 v hv).1.1
  | k + 1, v, hv => by
    have hlt := (List.getElem?_eq_some_iff.1 hv).1
    have hu : l[k]? = some (l[k]'(by omega)) := by simp [show k < l.length by omega]
    have h1 := h.ge k _ hu
    have h2 := (h (k + 1) v hv).2 (by omega) _ hu
    omega

theorem RiseV.len {n : Nat} {l : List Int} (h : RiseV n l) : l.length ≤ n := by
  by_cases h0 : l.length = 0
  · omega
  · have hu : l[l.length - 1]? = some (l[l.length - 1]'(by omega)) := by simp [show l.length - 1 < l.length by omega]
    have h1 := h.ge _ _ hu
    have h2 := (h _ _ hu).1.2
    omega

/-! conditions -/
theorem shl_eq {L : Int} (h0 : 0 ≤ L) (h : L ≤ 60) : goShl .i64 1 L = some ((2 ^ L.toNat : Nat) : Int) := by
  obtain ⟨n, rfl⟩ := Int.eq_ofNat_of_zero_le h0
  have hp : 2 ^ n ≤ 2 ^ 60 := Nat.pow_le_pow_right (by omega) (by omega)
  unfold goShl
  rw [decide_eq_false (show ¬ (n : Int) < 0 by omega), cond_false, show (n : Int).toNat = n by omega, Nat.min_eq_left (show n ≤ IntKind.bits .i64 from by show n ≤ 64; omega), Int.one_mul]
  congr 1
  rw [show ((2 : Int) ^ n) = ((2 ^ n : Nat) : Int) by simp]
  exact wnat (by omega)

end Go.Gx.F
