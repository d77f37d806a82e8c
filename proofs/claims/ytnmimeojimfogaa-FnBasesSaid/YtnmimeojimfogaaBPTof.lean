/- Plain laws: the cells of a table, and the records in them. -/
import Derived.Test.YtnmimeojimfogaaBPCel

namespace Go.Gx.F

open Go.Gx

set_option linter.all false

/-! ## adding to cells -/

def addC (out : List Int) (c : Int × Int) : List Int := if 0 ≤ c.1 then out.set c.1.toNat (out.getD c.1.toNat 0 + c.2) else out

structure Inv (N k : Nat) (out : List Int) : Prop where
  l : out.length = N
  b : ∀ v ∈ out, 0 ≤ v ∧ v ≤ 8 * (k : Int)

theorem Inv.zero (N : Nat) : Inv N 0 (List.replicate N 0) := ⟨by simp, fun v hv => by have := (List.mem_replicate.1 hv).2; omega⟩

def Cnt (g : impl_Geo) (s : List impl_Variable) (l : List impl_Record) : Prop := ∀ r ∈ l, OkR s r ∧ r.Area ∈ leaves g.Parents

theorem OkU.cnt {g : impl_Geo} {s : List impl_Variable} {l : List impl_Record} (h : OkU g s l) : Cnt g s l := fun r hr => ⟨h.1.2 r hr, h.2 r hr⟩

end Go.Gx.F
