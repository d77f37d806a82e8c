/- Plain laws: the cell of a record. -/
import Derived.Test.YtnmimeojimfogaaPTb2
namespace Go.Gx.F
open Go.Gx
set_option linter.all false

def pickV (l V : List Int) : List Int := V.map fun v => (l[v.toNat]?).getD 0

theorem pickV_ok {s : List impl_Variable} {l V : List Int} (h : RiseV s.length V) (hl : OkV s l) : OkV (part s V) (pickV l V) := by
  refine ⟨by simp [part, pickV], fun k v x hv hx => ?_⟩
  simp only [part, pickV, List.getElem?_map] at hv hx
  cases e : V[k]? with
  | none => rw [e] at hv; cases hv
  | some w =>
    rw [e] at hv hx
    obtain ⟨y, h1, _⟩ := rise_at h e
    obtain ⟨z, h2, _⟩ := rise_at (s := l) (by rw [hl.1]; exact h) e
    simp only [Option.map_some, Option.some.injEq, h1, h2, Option.getD_some] at hv hx
    subst hv hx
    exact hl.2 _ _ _ h1 h2

/-! ## the index of a cell -/
theorem cell_lt {g : impl_Geo} {s : List impl_Variable} {t : impl_Table} {i : Nat} {X : List Nat} (hi : i < (lev g.Parents t.Level).length) (hX : VX (tops (part s t.Vars)) X) : i * cnt (tops (part s t.Vars)) + ix (tops (part s t.Vars)) X < num g s t := by
  have h1 := ix_lt hX
  have h2 : (i + 1) * cnt (tops (part s t.Vars)) ≤ num g s t := Nat.mul_le_mul_right _ hi
  rw [Nat.add_mul] at h2
  omega

theorem cell_w {g : impl_Geo} {s : List impl_Variable} {t : impl_Table} (hT : OkT g s t) {i : Nat} {X : List Nat} (hi : i < (lev g.Parents t.Level).length) (hX : VX (tops (part s t.Vars)) X) :
    w64 (w64 ((i : Int) * ((cnt (tops (part s t.Vars)) : Nat) : Int)) + ((ix (tops (part s t.Vars)) X : Nat) : Int)) = ((i * cnt (tops (part s t.Vars)) + ix (tops (part s t.Vars)) X : Nat) : Int) := by
  have h1 := cell_lt hi hX
  have h2 := hT.top
  rw [← Int.natCast_mul, wnat (by omega), ← Int.natCast_add, wnat (by omega)]

/-- what is to be known of a record's cell -/
def CellOk (g : impl_Geo) (s : List impl_Variable) (t : impl_Table) (r : impl_Record) (c : Int × Int) : Prop :=
  c = (-1, 0) ∨ (∃ i : Nat, c.1 = (i : Int) ∧ i < num g s t) ∧ meets t.Where r.Values ∧ (t.Sum < 0 ∧ c.2 = 1 ∨ ∃ k : Nat, t.Sum = (k : Int) ∧ r.Values[k]? = some c.2)

/-- the amount is small -/
theorem CellOk.amount {g : impl_Geo} {s : List impl_Variable} {t : impl_Table} {r : impl_Record} {c : Int × Int} (hT : OkT g s t) (hr : OkR s r) (h : CellOk g s t r c) : 0 ≤ c.2 ∧ c.2 ≤ 8 := by
  rcases h with rfl | ⟨_, _, h⟩
  · exact ⟨by decide, by decide⟩
  · rcases h with ⟨_, h⟩ | ⟨k, hk, hx⟩
    · omega
    · have hkl := (List.getElem?_eq_some_iff.1 hx).1
      have hv : s[k]? = some (s[k]'(by rw [← hr.2.2.1]; exact hkl)) := by simp
      have h1 := hr.2.2.2 k _ _ hv hx
      have h2 := hT.sch.lv.get hv
      omega

theorem CellOk.cell {g : impl_Geo} {s : List impl_Variable} {t : impl_Table} {r : impl_Record} {c : Int × Int} (h : CellOk g s t r c) (h0 : 0 ≤ c.1) : ∃ i : Nat, c.1 = (i : Int) ∧ i < num g s t := by
  rcases h with rfl | ⟨h, _⟩
  · simp only at h0; omega
  · exact h

end Go.Gx.F
