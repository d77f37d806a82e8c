/- Plain laws: the cell of a record. -/
import Derived.Test.YtebjhiflnemkhaaGreatDoorDPTb2
namespace Go.Gx.F
open Go.Gx
set_option linter.all false

def pickV (l V : List Int) : List Int := V.map fun v => (l[v.toNat]?).getD 0

theorem pickV_ok {s : List impl_Variable} {l V : List Int} (h : RiseV s.length V) (hl : OkV s l) : OkV (part s V) (pickV l V) := by
  refine ⟨by simp [part, pickV], fun k v x hv hx => ?_⟩
  simp only [part, pickV, List.getElem?_map] at hv hx
  cases e : V[k]? with
  | none => rw [e] at hv; cases hv
  | some w =>
    rw [e] at hv hx
    obtain ⟨y, h1, _⟩ := rise_at h e
    obtain ⟨z, h2, _⟩ := rise_at (s := l) (by rw [hl.1]; exact h) e
    simp only [Option.map_some, Option.some.injEq, h1, h2, Option.getD_some] at hv hx
    subst hv hx
    exact hl.2 _ _ _ h1 h2

end Go.Gx.F
