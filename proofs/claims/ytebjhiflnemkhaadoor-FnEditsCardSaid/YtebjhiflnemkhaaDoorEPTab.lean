/- Plain laws: surveys and tables. -/
import Derived.Test.YtebjhiflnemkhaaDoorEPSch
import Derived.Test.YtebjhiflnemkhaaDoorEPAre
namespace Go.Gx.F
open Go.Gx
set_option linter.all false

theorem OkS.lvl {s : List impl_Variable} (h : OkS s) : ∀ v ∈ s, -1000 ≤ v.Levels ∧ v.Levels ≤ 1000000 := fun v hv => by
  have := h.lv.b v hv
  omega

/-! ## the parts of a table -/
def RiseV (n : Nat) (l : List Int) : Prop := ∀ (k : Nat) (v : Int), l[k]? = some v → (0 ≤ v ∧ v < n) ∧ (0 < k → ∀ u, l[k - 1]? = some u → u < v)

theorem RiseV.ge {n : Nat} {l : List Int} (h : RiseV n l) : ∀ (k : Nat) (v : Int), l[k]? = some v → (k : Int) ≤ v
  | 0, v, hv => (h 0 v hv).1.1
  | k + 1, v, hv => by
    have hlt := (List.getElem?_eq_some_iff.1 hv).1
    have hu : l[k]? = some (l[k]'(by omega)) := by simp [show k < l.length by omega]
    have h1 := h.ge k _ hu
    have h2 := (h (k + 1) v hv).2 (by omega) _ hu
    omega

theorem RiseV.len {n : Nat} {l : List Int} (h : RiseV n l) : l.length ≤ n := by
  by_cases h0 : l.length = 0
  · omega
  · have hu : l[l.length - 1]? = some (l[l.length - 1]'(by omega)) := by simp [show l.length - 1 < l.length by omega]
    have h1 := h.ge _ _ hu
    have h2 := (h _ _ hu).1.2
    omega

/-! conditions -/
theorem shl_eq {L : Int} (h0 : 0 ≤ L) (h : L ≤ 60) : goShl .i64 1 L = some ((2 ^ L.toNat : Nat) : Int) := by
  obtain ⟨n, rfl⟩ := Int.eq_ofNat_of_zero_le h0
  have hp : 2 ^ n ≤ 2 ^ 60 := Nat.pow_le_pow_right (by omega) (by omega)
  unfold goShl
  rw [decide_eq_false (show ¬ (n : Int) < 0 by omega), cond_false, show (n : Int).toNat = n by omega, Nat.min_eq_left (show n ≤ IntKind.bits .i64 from by show n ≤ 64; omega), Int.one_mul]
  congr 1
  rw [show ((2 : Int) ^ n) = ((2 ^ n : Nat) : Int) by simp]
  exact wnat (by omega)

def full (v : impl_Variable) : Int := ((2 ^ v.Levels.toNat : Nat) : Int) - 1

theorem full_b {v : impl_Variable} (h : 0 ≤ v.Levels ∧ v.Levels ≤ 60) : 0 ≤ full v ∧ full v ≤ 1152921504606846975 := by
  have hp : 2 ^ v.Levels.toNat ≤ 2 ^ 60 := Nat.pow_le_pow_right (by omega) (by omega)
  have h1 : 1 ≤ 2 ^ v.Levels.toNat := Nat.one_le_two_pow
  unfold full
  omega

theorem fullSet_eq {v : impl_Variable} (h : 0 ≤ v.Levels ∧ v.Levels ≤ 60) : impl_fullSet v = some (full v) := by
  have := full_b h
  unfold impl_fullSet
  rw [shl_eq h.1 h.2, Option.bind_some, wid (by unfold full at this; omega) (by unfold full at this; omega)]
  rfl

def OkW (s : List impl_Variable) (W : List Int) : Prop := W.length = s.length ∧ ∀ (k : Nat) (v : impl_Variable) (e : Int), s[k]? = some v → W[k]? = some e → 0 ≤ e ∧ e ≤ full v

end Go.Gx.F
