/- Plain laws: the cell of a record. -/
import Derived.Test.YtnmimeojimfogaaBPTb2

namespace Go.Gx.F

open Go.Gx

set_option linter.all false

def pickV (l V : List Int) : List Int := V.map fun v => (l[v.toNat]?).getD 0

/-! ## the index of a cell -/

def CellOk (g : impl_Geo) (s : List impl_Variable) (t : impl_Table) (r : impl_Record) (c : Int × Int) : Prop :=
  c = (-1, 0) ∨ (∃ i : Nat, c.1 = (i : Int) ∧ i < num g s t) ∧ meets t.Where r.Values ∧ (t.Sum < 0 ∧ c.2 = 1 ∨ ∃ k : Nat, t.Sum = (k : Int) ∧ r.Values[k]? = some c.2)

theorem CellOk.cell {g : impl_Geo} {s : List impl_Variable} {t : impl_Table} {r : impl_Record} {c : Int × Int} (h : CellOk g s t r c) (h0 : 0 ≤ c.1) : ∃ i : Nat, c.1 = (i : Int) ∧ i < num g s t := by
  rcases h with rfl | ⟨h, _⟩
  · simp only at h0; omega
  · exact h

end Go.Gx.F
