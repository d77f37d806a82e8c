/- Plain laws: small functions over lists. -/
import Derived.Test.YtpjcfmpfiadkgaaFPDr

namespace Go.Gx.F

open Go.Gx

set_option linter.all false

theorem all_mem_iff {α : Type} {l : List α} {p : α → Prop} : (∀ (k : Nat) (x : α), l[k]? = some x → p x) ↔ ∀ x ∈ l, p x := by
  constructor
  · intro h x hx
    obtain ⟨k, hk⟩ := List.getElem?_of_mem hx
    exact h k x hk
  · intro h k x hx
    exact h x (List.mem_of_getElem? hx)

theorem lIn_eq (n lo hi : Int) : spec_l1In n lo hi = some (decide (lo ≤ n ∧ n ≤ hi)) := by
  unfold spec_l1In
  by_cases h1 : lo ≤ n <;> by_cases h2 : n ≤ hi <;> simp [h1, h2]

theorem lLeast_eq (a b : Int) : spec_l1Least a b = some (min a b) := by
  unfold spec_l1Least
  by_cases h : a < b
  · rw [decide_eq_true h, cond_true, Int.min_eq_left (by omega)]
  · rw [decide_eq_false h, cond_false, Int.min_eq_right (by omega)]

theorem lAll_bis {l : List Int} {lo hi : Int} (hl : l.length ≤ 9223372036854775807) : Bis (spec_l1All l lo hi) (∀ v ∈ l, lo ≤ v ∧ v ≤ hi) := by
  unfold spec_l1All
  refine bis_iff (bis_loop (l := l) (fun _ v => lo ≤ v ∧ v ≤ hi) (fun k x hx => ⟨decide (lo ≤ x ∧ x ≤ hi), by simp, ?_⟩) ?_) all_mem_iff
  · simp only [spec_l1All_l1, lt_ok hx, at_ok hx, cond_true, Option.bind_some, lIn_eq, nx_ok hx hl]
    by_cases h : lo ≤ x ∧ x ≤ hi <;> simp [h]
  · simp only [spec_l1All_l1, lt_end, cond_false]

theorem own_eq {l : List Int} (hl : l.length ≤ 1000000) : spec_l1Own l = some l := by
  unfold spec_l1Own
  rw [goApp_ok (by simp; omega)]; rfl

theorem clone_eq {l : List Int} (hl : l.length ≤ 1000000) : slices_Clone_int_int l = some l := by
  unfold slices_Clone_int_int
  rw [goApp_ok (by simp; omega)]; rfl

/-! sums -/

def sg (g : Nat → Int) : Nat → Int
  | 0 => 0
  | n + 1 => sg g n + g n

end Go.Gx.F
