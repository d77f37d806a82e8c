/- Plain laws: tables: when they are valid, their cells. -/
import Derived.Test.YtgaeknajcakinaaDoorGPTab
namespace Go.Gx.F
open Go.Gx
set_option linter.all false

theorem loop_push {α β : Type} {l : List α} (f : α → β) {body : List β × Int → Option (Stp (List β × Int) (List β))}
    (h1 : ∀ (out : List β) (k : Nat) (x : α), l[k]? = some x → out.length = k → body (out, (k : Int)) = some (.next (out ++ [f x], ((k + 1 : Nat) : Int))))
    (h2 : ∀ out : List β, body (out, (l.length : Int)) = some (.done out)) : loopC body ([], 0) = some (l.map f) := by
  suffices h : ∀ (j k : Nat), k + j = l.length → loopC body ((l.take k).map f, (k : Int)) = some (l.map f) from h l.length 0 (by omega)
  intro j
  induction j with
  | zero =>
    intro k hk
    obtain rfl : k = l.length := by omega
    rw [loopC_eq, h2, List.take_of_length_le (Nat.le_refl _)]
  | succ j ih =>
    intro k hk
    have hx : l[k]? = some (l[k]'(by omega)) := by simp [show k < l.length by omega]
    generalize l[k]'(by omega) = x at hx
    rw [loopC_eq, h1 _ k x hx (by simp; omega)]
    have := ih (k + 1) (by omega)
    rw [List.take_add_one, hx] at this
    simpa using this

theorem rise_at {α : Type} {s : List α} {V : List Int} (h : RiseV s.length V) {k : Nat} {v : Int} (hv : V[k]? = some v) : ∃ x, s[v.toNat]? = some x ∧ goAt s v = some x := by
  have hb := (h k v hv).1
  obtain ⟨n, rfl⟩ := Int.eq_ofNat_of_zero_le hb.1
  have hx : s[n]? = some (s[n]'(by omega)) := by simp [show n < s.length by omega]
  exact ⟨_, hx, at_ok hx⟩

/-! ## a record's cell -/
/-- the bit of a value is in a set -/
def bit (e x : Int) : Bool := !(goBits .and .i64 (e.fdiv (2 ^ min x.toNat (IntKind.bits .i64))) 1 == 0)

def meets (W V : List Int) : Prop := ∀ (k : Nat) (e : Int), W[k]? = some e → (e ≠ 0 → ∀ x, V[k]? = some x → bit e x = true)

theorem shr_eq {e x : Int} (hx : 0 ≤ x) : goShr .i64 e x = some (e.fdiv (2 ^ min x.toNat (IntKind.bits .i64))) := by
  unfold goShr
  rw [decide_eq_false (show ¬ x < 0 by omega), cond_false]

end Go.Gx.F
