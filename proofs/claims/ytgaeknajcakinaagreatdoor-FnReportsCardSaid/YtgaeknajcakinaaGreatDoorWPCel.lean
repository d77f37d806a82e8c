/- Plain laws: the cell of a record. -/
import Derived.Test.YtgaeknajcakinaaGreatDoorWPTb2
namespace Go.Gx.F
open Go.Gx
set_option linter.all false

def pickV (l V : List Int) : List Int := V.map fun v => (l[v.toNat]?).getD 0

theorem sPick_eq {l V : List Int} (h : RiseV l.length V) (hl : V.length ≤ 1000) : spec_sPick l V = some (pickV l V) := by
  unfold spec_sPick pickV
  rw [loop_push (l := V) (fun v => (l[v.toNat]?).getD 0) (fun out k x hx ho => ?_) (fun out => by simp only [spec_sPick_l1, lt_end, cond_false])]
  · rfl
  · obtain ⟨y, h1, h2⟩ := rise_at h hx
    have hk := (List.getElem?_eq_some_iff.1 hx).1
    simp only [spec_sPick_l1, lt_ok hx, at_ok hx, cond_true, Option.bind_some, h2, h1, goApp_ok (show (out.length + [y].length) * 8 ≤ 140737488355328 by simp; omega), nx_ok hx (show V.length ≤ 9223372036854775807 by omega)]
    rfl

theorem pickV_ok {s : List impl_Variable} {l V : List Int} (h : RiseV s.length V) (hl : OkV s l) : OkV (part s V) (pickV l V) := by
  refine ⟨by simp [part, pickV], fun k v x hv hx => ?_⟩
  simp only [part, pickV, List.getElem?_map] at hv hx
  cases e : V[k]? with
  | none => rw [e] at hv; cases hv
  | some w =>
    rw [e] at hv hx
    obtain ⟨y, h1, _⟩ := rise_at h e
    obtain ⟨z, h2, _⟩ := rise_at (s := l) (by rw [hl.1]; exact h) e
    simp only [Option.map_some, Option.some.injEq, h1, h2, Option.getD_some] at hv hx
    subst hv hx
    exact hl.2 _ _ _ h1 h2

/-! ## the index of a cell -/
theorem cell_lt {g : impl_Geo} {s : List impl_Variable} {t : impl_Table} {i : Nat} {X : List Nat} (hi : i < (lev g.Parents t.Level).length) (hX : VX (tops (part s t.Vars)) X) : i * cnt (tops (part s t.Vars)) + ix (tops (part s t.Vars)) X < num g s t := by
  have h1 := ix_lt hX
  have h2 : (i + 1) * cnt (tops (part s t.Vars)) ≤ num g s t := Nat.mul_le_mul_right _ hi
  rw [Nat.add_mul] at h2
  omega

theorem cell_w {g : impl_Geo} {s : List impl_Variable} {t : impl_Table} (hT : OkT g s t) {i : Nat} {X : List Nat} (hi : i < (lev g.Parents t.Level).length) (hX : VX (tops (part s t.Vars)) X) :
    w64 (w64 ((i : Int) * ((cnt (tops (part s t.Vars)) : Nat) : Int)) + ((ix (tops (part s t.Vars)) X : Nat) : Int)) = ((i * cnt (tops (part s t.Vars)) + ix (tops (part s t.Vars)) X : Nat) : Int) := by
  have h1 := cell_lt hi hX
  have h2 := hT.top
  rw [← Int.natCast_mul, wnat (by omega), ← Int.natCast_add, wnat (by omega)]

/-- what is to be known of a record's cell -/
def CellOk (g : impl_Geo) (s : List impl_Variable) (t : impl_Table) (r : impl_Record) (c : Int × Int) : Prop :=
  c = (-1, 0) ∨ (∃ i : Nat, c.1 = (i : Int) ∧ i < num g s t) ∧ meets t.Where r.Values ∧ (t.Sum < 0 ∧ c.2 = 1 ∨ ∃ k : Nat, t.Sum = (k : Int) ∧ r.Values[k]? = some c.2)

noncomputable def cellF (g : impl_Geo) (s : List impl_Variable) (t : impl_Table) (r : impl_Record) : Int × Int := (spec_uCell g s t r).getD (-1, 0)

/-- the same of the reference alone -/
theorem cellS_ok {g : impl_Geo} {s : List impl_Variable} {t : impl_Table} {r : impl_Record} (hT : OkT g s t) (hr : OkR s r) (ha : r.Area ∈ leaves g.Parents) : spec_uCell g s t r = some (cellF g s t r) ∧ CellOk g s t r (cellF g s t r) := by
  suffices h : ∃ c, spec_uCell g s t r = some c ∧ CellOk g s t r c by
    obtain ⟨c, e, h⟩ := h
    have : cellF g s t r = c := by unfold cellF; rw [e]; rfl
    rw [this]; exact ⟨e, h⟩
  obtain ⟨n, hn, _, ea⟩ := mem_leaves.1 ha
  obtain ⟨b2, e2, h2⟩ := uMeets_bis hT.sch hT.whr hr.2.2
  have hVl := hT.vlen
  unfold spec_uCell
  rw [ea, gUp_eq hT.go hn]
  simp only [Option.bind_some]
  rcases anc_cases hT.go hn t.Level with e | ⟨m, k, hL, e, hm, _, hat⟩
  · rw [e]
    exact ⟨(-1, 0), rfl, .inl rfl⟩
  · have hlv := lev_at hat (show m < g.Parents.length by omega)
    rw [e, decide_eq_false (show ¬ (m : Int) < 0 by omega), cond_false, e2]
    cases hb : b2 with
    | false => exact ⟨(-1, 0), rfl, .inl rfl⟩
    | true =>
      simp only [Option.bind_some, Bool.not_true, cond_false]
      have hV := hr.2.2
      have hRl : RiseV r.Values.length t.Vars := by rw [hV.1]; exact hT.vars
      obtain ⟨X, hX, hVX⟩ := (pickV_ok hT.vars hV).vx hT.lv
      have hi := (List.getElem?_eq_some_iff.1 hlv).1
      have hsum := hT.sum
      rw [hT.cross', Option.bind_some, gLevel_eq hT.go, Option.bind_some, lFind_lev hT.go.l2 hlv, Option.bind_some, sCount_eq hT.lv, Option.bind_some, sPick_eq hRl (by omega), Option.bind_some, hX, sIndex_eq hT.lv hVX, Option.bind_some, cell_w hT hi hVX]
      have hcl := cell_lt hi hVX
      generalize pos (atL g.Parents t.Level) m * cnt (tops (part s t.Vars)) + ix (tops (part s t.Vars)) X = N at *
      by_cases h0 : t.Sum < 0
      · rw [decide_eq_true h0]
        exact ⟨((N : Int), 1), rfl, .inr ⟨⟨N, rfl, hcl⟩, h2.1 hb, .inl ⟨h0, rfl⟩⟩⟩
      · rw [decide_eq_false h0]
        obtain ⟨k, hk⟩ := Int.eq_ofNat_of_zero_le (show 0 ≤ t.Sum by omega)
        have hx : r.Values[k]? = some (r.Values[k]'(by rw [hV.1]; omega)) := by simp
        generalize r.Values[k]'(by rw [hV.1]; omega) = x at hx
        rw [hk, at_ok hx]
        exact ⟨((N : Int), x), rfl, .inr ⟨⟨N, rfl, hcl⟩, h2.1 hb, .inr ⟨k, hk, hx⟩⟩⟩

/-- the amount is small -/
theorem CellOk.amount {g : impl_Geo} {s : List impl_Variable} {t : impl_Table} {r : impl_Record} {c : Int × Int} (hT : OkT g s t) (hr : OkR s r) (h : CellOk g s t r c) : 0 ≤ c.2 ∧ c.2 ≤ 8 := by
  rcases h with rfl | ⟨_, _, h⟩
  · exact ⟨by decide, by decide⟩
  · rcases h with ⟨_, h⟩ | ⟨k, hk, hx⟩
    · omega
    · have hkl := (List.getElem?_eq_some_iff.1 hx).1
      have hv : s[k]? = some (s[k]'(by rw [← hr.2.2.1]; exact hkl)) := by simp
      have h1 := hr.2.2.2 k _ _ hv hx
      have h2 := hT.sch.lv.get hv
      omega

theorem CellOk.cell {g : impl_Geo} {s : List impl_Variable} {t : impl_Table} {r : impl_Record} {c : Int × Int} (h : CellOk g s t r c) (h0 : 0 ≤ c.1) : ∃ i : Nat, c.1 = (i : Int) ∧ i < num g s t := by
  rcases h with rfl | ⟨h, _⟩
  · simp only at h0; omega
  · exact h

end Go.Gx.F
