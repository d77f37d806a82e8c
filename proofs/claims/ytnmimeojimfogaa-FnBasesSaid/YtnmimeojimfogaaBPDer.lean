/- Plain laws: cells that are derived from those of another table. -/
import Derived.Test.YtnmimeojimfogaaBPFol

namespace Go.Gx.F

open Go.Gx

set_option linter.all false

/-! ## places in a rising list -/

theorem RiseV.lt {n : Nat} {l : List Int} (h : RiseV n l) : ∀ {i j : Nat} {a b : Int}, i < j → l[i]? = some a → l[j]? = some b → a < b := by
  intro i j
  induction j with
  | zero => intro a b hij; omega
  | succ j ih =>
    intro a b hij ha hb
    have hjl := (List.getElem?_eq_some_iff.1 hb).1
    have hc : l[j]? = some (l[j]'(by omega)) := by simp [show j < l.length by omega]
    have h1 := (h (j + 1) b hb).2 (by omega) _ (show l[j + 1 - 1]? = some _ by rw [Nat.add_sub_cancel]; exact hc)
    by_cases hij2 : i = j
    · subst hij2
      rw [hc] at ha
      obtain rfl := Option.some.inj ha
      exact h1
    · have := ih (by omega) ha hc
      omega

theorem RiseV.idx {n : Nat} {l : List Int} (h : RiseV n l) {k : Nat} {v : Int} (hk : l[k]? = some v) : l.idxOf v = k := by
  have hm : v ∈ l := List.mem_of_getElem? hk
  have hi := List.idxOf_lt_length_of_mem hm
  have hv : l[l.idxOf v]? = some v := by rw [List.getElem?_eq_getElem hi, List.getElem_idxOf hi]
  rcases Nat.lt_trichotomy (l.idxOf v) k with h1 | h1 | h1
  · have := h.lt h1 hv hk; omega
  · exact h1
  · have := h.lt h1 hk hv; omega

def ps (s : List impl_Variable) (t : impl_Table) : List Nat := tops (part s t.Vars)

/-! ## from one table's cell to the other's -/

def YF (t u : impl_Table) (X : List Nat) : List Nat := t.Vars.map fun v => X.getD (u.Vars.idxOf v) 0

def InT (s : List impl_Variable) (t u : impl_Table) (X : List Nat) (n : Nat) : Prop := ∀ (k : Nat) (v : Int) (x : Nat), k < n → u.Vars[k]? = some v → X[k]? = some x → Nat.testBit (cset s t v.toNat) x = true

def timesF (t u : impl_Table) (X : List Nat) (n : Nat) : Int := if t.Sum ≠ u.Sum ∧ u.Vars.idxOf t.Sum < n then ((X.getD (u.Vars.idxOf t.Sum) 0 : Nat) : Int) else 1

open Classical in
noncomputable def derF (g : impl_Geo) (s : List impl_Variable) (t u : impl_Table) (i : Nat) : Int × Int :=
  if InT s t u (dig (ps s u) (i % cnt (ps s u))) u.Vars.length then
    (((pos (atL g.Parents t.Level) (anc g.Parents (((lev g.Parents u.Level)[i / cnt (ps s u)]?).getD 0).toNat t.Level).toNat * cnt (ps s t) + ix (ps s t) (YF t u (dig (ps s u) (i % cnt (ps s u)))) : Nat) : Int), timesF t u (dig (ps s u) (i % cnt (ps s u))) u.Vars.length)
  else (-1, 0)

structure Base (g : impl_Geo) (s : List impl_Variable) (t u : impl_Table) (i n m : Nat) (X : List Nat) : Prop where
  at_ : (lev g.Parents u.Level)[i / cnt (ps s u)]? = some (n : Int)
  hn : n < g.Parents.length
  hm : m < g.Parents.length
  ua : anc g.Parents n t.Level = (m : Int)
  lv : atL g.Parents t.Level m = true
  vx : VX (ps s u) X
  dg : dig (ps s u) (i % cnt (ps s u)) = X

theorem lev_mem {p : List Int} {L : Int} {k : Nat} {a : Int} (h : (lev p L)[k]? = some a) : ∃ n : Nat, n < p.length ∧ a = (n : Int) ∧ atL p L n = true := by
  obtain ⟨n, h1, h2, h3⟩ := mem_picks.1 (List.mem_of_getElem? h)
  exact ⟨n, h1, h3.symm, h2⟩

theorem base {g : impl_Geo} {s : List impl_Variable} {t u : impl_Table} (ht : OkT g s t) (hu : OkT g s u) (hF : Fol g s t u) {i : Nat} (hi : i < num g s u) : ∃ n m, Base g s t u i n m (dig (ps s u) (i % cnt (ps s u))) := by
  have hc := cnt_pos (ps s u)
  have hlt : i / cnt (ps s u) < (lev g.Parents u.Level).length := by
    rw [Nat.div_lt_iff_lt_mul hc]
    exact hi
  have ha : (lev g.Parents u.Level)[i / cnt (ps s u)]? = some (lev g.Parents u.Level)[i / cnt (ps s u)] := by simp [hlt]
  generalize (lev g.Parents u.Level)[i / cnt (ps s u)] = a at ha
  obtain ⟨n, hn, rfl, hat⟩ := lev_mem ha
  have h0 := ht.lvl0
  have hle : t.Level ≤ u.Level := by rcases hF.lvl with h | h <;> omega
  have hd : (((gpath g.Parents n).length - 1 : Nat) : Int) = u.Level := eq_of_beq hat
  have h1 := (anc_dep ht.go hn h0).2 (by omega)
  rcases anc_cases ht.go hn t.Level with e | ⟨m, k, _, e, hm, _, hat2⟩
  · omega
  · exact ⟨n, m, ha, hn, by omega, e, hat2, dig_ok (Nat.mod_lt _ hc), rfl⟩

theorem InT.step {s : List impl_Variable} {t u : impl_Table} {X : List Nat} {k x : Nat} {v : Int} (hv : u.Vars[k]? = some v) (hx : X[k]? = some x) : InT s t u X (k + 1) ↔ InT s t u X k ∧ Nat.testBit (cset s t v.toNat) x = true := by
  constructor
  · intro h
    exact ⟨fun k' v' x' hk' => h k' v' x' (by omega), h k v x (by omega) hv hx⟩
  · rintro ⟨h1, h2⟩ k' v' x' hk' hv' hx'
    by_cases hkk : k' = k
    · subst hkk
      rw [hv] at hv'; rw [hx] at hx'
      obtain rfl := Option.some.inj hv'
      obtain rfl := Option.some.inj hx'
      exact h2
    · exact h1 k' v' x' (by omega) hv' hx'

theorem InT.mono {s : List impl_Variable} {t u : impl_Table} {X : List Nat} {n m : Nat} (h : InT s t u X n) (hm : m ≤ n) : InT s t u X m := fun k v x hk => h k v x (by omega)

/-! ## the cells -/

noncomputable def deriveF (g : impl_Geo) (s : List impl_Variable) (t u : impl_Table) (cells : List Int) : List Int := (List.range cells.length).foldl (fun out i => addC out ((derF g s t u i).1, cells.getD i 0 * (derF g s t u i).2)) (List.replicate (num g s t) 0)

structure Inv2 (N k : Nat) (out : List Int) : Prop where
  l : out.length = N
  b : ∀ v ∈ out, -(8000000 * (k : Int)) ≤ v ∧ v ≤ 8000000 * (k : Int)

/-! ## the same in the reference -/

end Go.Gx.F
