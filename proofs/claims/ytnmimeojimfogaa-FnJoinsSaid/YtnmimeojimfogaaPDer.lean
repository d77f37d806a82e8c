/- Plain laws: cells that are derived from those of another table. -/
import Derived.Test.YtnmimeojimfogaaPFol
namespace Go.Gx.F
open Go.Gx
set_option linter.all false

/-! ## places in a rising list -/
theorem RiseV.lt {n : Nat} {l : List Int} (h : RiseV n l) : ∀ {i j : Nat} {a b : Int}, i < j → l[i]? = some a → l[j]? = some b → a < b := by
  intro i j
  induction j with
  | zero => intro a b hij; omega
  | succ j ih =>
    intro a b hij ha hb
    have hjl := (List.getElem?_eq_some_iff.1 hb).1
    have hc : l[j]? = some (l[j]'(by omega)) := by simp [show j < l.length by omega]
    have h1 := (h (j + 1) b hb).2 (by omega) _ (show l[j + 1 - 1]? = some _ by rw [Nat.add_sub_cancel]; exact hc)
    by_cases hij2 : i = j
    · subst hij2
      rw [hc] at ha
      obtain rfl := Option.some.inj ha
      exact h1
    · have := ih (by omega) ha hc
      omega

theorem RiseV.idx {n : Nat} {l : List Int} (h : RiseV n l) {k : Nat} {v : Int} (hk : l[k]? = some v) : l.idxOf v = k := by
  have hm : v ∈ l := List.mem_of_getElem? hk
  have hi := List.idxOf_lt_length_of_mem hm
  have hv : l[l.idxOf v]? = some v := by rw [List.getElem?_eq_getElem hi, List.getElem_idxOf hi]
  rcases Nat.lt_trichotomy (l.idxOf v) k with h1 | h1 | h1
  · have := h.lt h1 hv hk; omega
  · exact h1
  · have := h.lt h1 hk hv; omega

theorem index_spec {l : List Int} {v : Int} (hl : l.length ≤ 1000000) : ∃ r : Int, slices_Index_int_int l v = some r ∧ ((r = -1 ∧ v ∉ l) ∨ ∃ k : Nat, r = (k : Int) ∧ l[k]? = some v) := by
  unfold slices_Index_int_int
  have key : ∀ (j k : Nat), k + j = l.length → (∀ i, i < k → l[i]? ≠ some v) → ∃ r : Int, ((loopC (slices_Index_int_int_l1 l v) (k : Int)).bind fun | .inl () => some (-1) | .inr o => some o) = some r ∧ ((r = -1 ∧ v ∉ l) ∨ ∃ k : Nat, r = (k : Int) ∧ l[k]? = some v) := by
    intro j
    induction j with
    | zero =>
      intro k hk hall
      obtain rfl : k = l.length := by omega
      rw [loopC_eq]
      simp only [slices_Index_int_int_l1, lt_end, cond_false]
      refine ⟨-1, rfl, .inl ⟨rfl, fun hm => ?_⟩⟩
      obtain ⟨i, hi⟩ := List.getElem?_of_mem hm
      exact hall i (List.getElem?_eq_some_iff.1 hi).1 hi
    | succ j ih =>
      intro k hk hall
      have hv : l[k]? = some (l[k]'(by omega)) := by simp [show k < l.length by omega]
      generalize l[k]'(by omega) = x at hv
      rw [loopC_eq]
      simp only [slices_Index_int_int_l1, lt_ok hv, at_ok hv, cond_true, Option.bind_some]
      by_cases hn : v = x
      · subst hn
        rw [beq_self_eq_true]
        exact ⟨(k : Int), rfl, .inr ⟨k, rfl, hv⟩⟩
      · rw [show (v == x) = false by simpa using hn]
        simp only [cond_false, nx_ok hv (show l.length ≤ 9223372036854775807 by omega)]
        refine ih (k + 1) (by omega) fun i hi hiv => ?_
        by_cases hik : i = k
        · subst hik
          rw [hv] at hiv
          exact hn (Option.some.inj hiv).symm
        · exact hall i (by omega) hiv
  obtain ⟨r, e, hr⟩ := key l.length 0 (by omega) fun i hi => by omega
  exact ⟨r, e, hr⟩

/-- the sizes of the part -/
def ps (s : List impl_Variable) (t : impl_Table) : List Nat := tops (part s t.Vars)

theorem ps_at {s : List impl_Variable} {t : impl_Table} (h : RiseV s.length t.Vars) {k : Nat} {v : Int} (hv : t.Vars[k]? = some v) : ∃ x, s[v.toNat]? = some x ∧ (ps s t)[k]? = some (x.Levels.toNat - 1) := by
  obtain ⟨x, _, h1, h2⟩ := part_at h hv
  exact ⟨x, h1, tops_get h2⟩

theorem ps_len (s : List impl_Variable) (t : impl_Table) : (ps s t).length = t.Vars.length := by unfold ps; rw [tops_len, part_len]

/-! ## from one table's cell to the other's -/
def YF (t u : impl_Table) (X : List Nat) : List Nat := t.Vars.map fun v => X.getD (u.Vars.idxOf v) 0

theorem YF_at {n : Nat} {t u : impl_Table} {X : List Nat} (hu : RiseV n u.Vars) {j k x : Nat} {v : Int} (hj : t.Vars[j]? = some v) (hk : u.Vars[k]? = some v) (hx : X[k]? = some x) : (YF t u X)[j]? = some x := by
  unfold YF
  rw [List.getElem?_map, hj, Option.map_some, hu.idx hk, List.getD_eq_getElem?_getD, hx]
  rfl

theorem YF_len (t u : impl_Table) (X : List Nat) : (YF t u X).length = t.Vars.length := by simp [YF]

theorem YF_vx {g : impl_Geo} {s : List impl_Variable} {t u : impl_Table} (ht : OkT g s t) (hu : OkT g s u) (hv : ∀ v ∈ t.Vars, v ∈ u.Vars) {X : List Nat} (hX : VX (ps s u) X) : VX (ps s t) (YF t u X) := by
  refine VX.of_get (by rw [YF_len, ps_len]) fun j a y ha hy => ?_
  have hjl := (List.getElem?_eq_some_iff.1 hy).1
  rw [YF_len] at hjl
  have hj : t.Vars[j]? = some t.Vars[j] := by simp [hjl]
  generalize t.Vars[j] = v at hj
  obtain ⟨k, hk⟩ := List.getElem?_of_mem (hv v (List.mem_of_getElem? hj))
  have hXl := hX.len
  rw [ps_len] at hXl
  have hkl := (List.getElem?_eq_some_iff.1 hk).1
  have hx : X[k]? = some (X[k]'(by omega)) := by simp [show k < X.length by omega]
  generalize X[k]'(by omega) = x at hx
  rw [YF_at hu.vars hj hk hx] at hy
  obtain rfl := Option.some.inj hy
  obtain ⟨w, h1, h2⟩ := ps_at ht.vars hj
  obtain ⟨w', h3, h4⟩ := ps_at hu.vars hk
  rw [h1] at h3
  obtain rfl := Option.some.inj h3
  rw [h2] at ha
  obtain rfl := Option.some.inj ha
  exact hX.get h4 hx

/-- the values meet the condition of t -/
def InT (s : List impl_Variable) (t u : impl_Table) (X : List Nat) (n : Nat) : Prop := ∀ (k : Nat) (v : Int) (x : Nat), k < n → u.Vars[k]? = some v → X[k]? = some x → Nat.testBit (cset s t v.toNat) x = true

def timesF (t u : impl_Table) (X : List Nat) (n : Nat) : Int := if t.Sum ≠ u.Sum ∧ u.Vars.idxOf t.Sum < n then ((X.getD (u.Vars.idxOf t.Sum) 0 : Nat) : Int) else 1

open Classical in
noncomputable def derF (g : impl_Geo) (s : List impl_Variable) (t u : impl_Table) (i : Nat) : Int × Int :=
  if InT s t u (dig (ps s u) (i % cnt (ps s u))) u.Vars.length then
    (((pos (atL g.Parents t.Level) (anc g.Parents (((lev g.Parents u.Level)[i / cnt (ps s u)]?).getD 0).toNat t.Level).toNat * cnt (ps s t) + ix (ps s t) (YF t u (dig (ps s u) (i % cnt (ps s u)))) : Nat) : Int), timesF t u (dig (ps s u) (i % cnt (ps s u))) u.Vars.length)
  else (-1, 0)

structure Base (g : impl_Geo) (s : List impl_Variable) (t u : impl_Table) (i n m : Nat) (X : List Nat) : Prop where
  at_ : (lev g.Parents u.Level)[i / cnt (ps s u)]? = some (n : Int)
  hn : n < g.Parents.length
  hm : m < g.Parents.length
  ua : anc g.Parents n t.Level = (m : Int)
  lv : atL g.Parents t.Level m = true
  vx : VX (ps s u) X
  dg : dig (ps s u) (i % cnt (ps s u)) = X

theorem lev_mem {p : List Int} {L : Int} {k : Nat} {a : Int} (h : (lev p L)[k]? = some a) : ∃ n : Nat, n < p.length ∧ a = (n : Int) ∧ atL p L n = true := by
  obtain ⟨n, h1, h2, h3⟩ := mem_picks.1 (List.mem_of_getElem? h)
  exact ⟨n, h1, h3.symm, h2⟩

theorem base {g : impl_Geo} {s : List impl_Variable} {t u : impl_Table} (ht : OkT g s t) (hu : OkT g s u) (hF : Fol g s t u) {i : Nat} (hi : i < num g s u) : ∃ n m, Base g s t u i n m (dig (ps s u) (i % cnt (ps s u))) := by
  have hc := cnt_pos (ps s u)
  have hlt : i / cnt (ps s u) < (lev g.Parents u.Level).length := by
    rw [Nat.div_lt_iff_lt_mul hc]
    exact hi
  have ha : (lev g.Parents u.Level)[i / cnt (ps s u)]? = some (lev g.Parents u.Level)[i / cnt (ps s u)] := by simp [hlt]
  generalize (lev g.Parents u.Level)[i / cnt (ps s u)] = a at ha
  obtain ⟨n, hn, rfl, hat⟩ := lev_mem ha
  have h0 := ht.lvl0
  have hle : t.Level ≤ u.Level := by rcases hF.lvl with h | h <;> omega
  have hd : (((gpath g.Parents n).length - 1 : Nat) : Int) = u.Level := eq_of_beq hat
  have h1 := (anc_dep ht.go hn h0).2 (by omega)
  rcases anc_cases ht.go hn t.Level with e | ⟨m, k, _, e, hm, _, hat2⟩
  · omega
  · exact ⟨n, m, ha, hn, by omega, e, hat2, dig_ok (Nat.mod_lt _ hc), rfl⟩

theorem derF_in {g : impl_Geo} {s : List impl_Variable} {t u : impl_Table} {i n m : Nat} {X : List Nat} (hB : Base g s t u i n m X) (h : InT s t u X u.Vars.length) : derF g s t u i = (((pos (atL g.Parents t.Level) m * cnt (ps s t) + ix (ps s t) (YF t u X) : Nat) : Int), timesF t u X u.Vars.length) := by
  unfold derF
  rw [hB.dg, if_pos h, hB.at_]
  simp only [Option.getD_some, Int.toNat_natCast, hB.ua]

theorem derF_out {g : impl_Geo} {s : List impl_Variable} {t u : impl_Table} {i n m : Nat} {X : List Nat} (hB : Base g s t u i n m X) (h : ¬ InT s t u X u.Vars.length) : derF g s t u i = (-1, 0) := by
  unfold derF
  rw [hB.dg, if_neg h]

theorem x_at {g : impl_Geo} {s : List impl_Variable} {u : impl_Table} (hu : OkT g s u) {X : List Nat} (hX : VX (ps s u) X) {k : Nat} {v : Int} (hk : u.Vars[k]? = some v) : ∃ x, X[k]? = some x ∧ x ≤ 7 ∧ v = (v.toNat : Int) ∧ v.toNat < s.length := by
  have hXl := hX.len
  rw [ps_len] at hXl
  have hkl := (List.getElem?_eq_some_iff.1 hk).1
  have hx : X[k]? = some (X[k]'(by omega)) := by simp [show k < X.length by omega]
  generalize X[k]'(by omega) = x at hx
  obtain ⟨w, h1, h2⟩ := ps_at hu.vars hk
  have hb := hu.sch.lv.get h1
  have := hX.get h2 hx
  have hv := (hu.vars k v hk).1
  exact ⟨x, hx, by omega, by omega, by omega⟩

theorem InT.step {s : List impl_Variable} {t u : impl_Table} {X : List Nat} {k x : Nat} {v : Int} (hv : u.Vars[k]? = some v) (hx : X[k]? = some x) : InT s t u X (k + 1) ↔ InT s t u X k ∧ Nat.testBit (cset s t v.toNat) x = true := by
  constructor
  · intro h
    exact ⟨fun k' v' x' hk' => h k' v' x' (by omega), h k v x (by omega) hv hx⟩
  · rintro ⟨h1, h2⟩ k' v' x' hk' hv' hx'
    by_cases hkk : k' = k
    · subst hkk
      rw [hv] at hv'; rw [hx] at hx'
      obtain rfl := Option.some.inj hv'
      obtain rfl := Option.some.inj hx'
      exact h2
    · exact h1 k' v' x' (by omega) hv' hx'

theorem InT.mono {s : List impl_Variable} {t u : impl_Table} {X : List Nat} {n m : Nat} (h : InT s t u X n) (hm : m ≤ n) : InT s t u X m := fun k v x hk => h k v x (by omega)

theorem times_step {g : impl_Geo} {s : List impl_Variable} {t u : impl_Table} (hu : OkT g s u) (hF : Fol g s t u) {X : List Nat} {k x : Nat} {v : Int} (hv : u.Vars[k]? = some v) (hx : X[k]? = some x) : (if t.Sum = v ∧ u.Sum = -1 then (x : Int) else timesF t u X k) = timesF t u X (k + 1) := by
  have hb := (hu.vars k v hv).1
  unfold timesF
  by_cases h1 : t.Sum = v
  · have hi : u.Vars.idxOf t.Sum = k := by rw [h1]; exact hu.vars.idx hv
    by_cases h2 : u.Sum = -1
    · rw [if_pos ⟨h1, h2⟩, if_pos ⟨by omega, by omega⟩, hi, List.getD_eq_getElem?_getD, hx]; rfl
    · rw [if_neg fun h => h2 h.2]
      have : t.Sum = u.Sum := by rcases hF.sum with h | h; exact h; exact absurd h.1 h2
      rw [if_neg fun h => h.1 this, if_neg fun h => h.1 this]
  · rw [if_neg fun h => h1 h.1]
    have hi : u.Vars.idxOf t.Sum ≠ k := by
      intro hi
      have hkl := (List.getElem?_eq_some_iff.1 hv).1
      have := List.getElem_idxOf (x := t.Sum) (xs := u.Vars) (by omega)
      simp only [hi] at this
      rw [List.getElem?_eq_getElem hkl, this] at hv
      exact h1 (Option.some.inj hv)
    by_cases h3 : t.Sum ≠ u.Sum ∧ u.Vars.idxOf t.Sum < k
    · rw [if_pos h3, if_pos ⟨h3.1, by omega⟩]
    · rw [if_neg h3, if_neg fun h => h3 ⟨h.1, by omega⟩]

theorem own_of {n : Nat} {t u : impl_Table} {X : List Nat} (hu : RiseV n u.Vars) (hXl : X.length = u.Vars.length) (hv : ∀ v ∈ t.Vars, v ∈ u.Vars) {own : List Int} (hl : own.length = t.Vars.length) (h : ∀ (k j x : Nat) (v : Int), u.Vars[k]? = some v → X[k]? = some x → t.Vars[j]? = some v → own[j]? = some (x : Int)) : own = up (YF t u X) := by
  apply List.ext_getElem?
  intro j
  by_cases hj : j < t.Vars.length
  · have hjv : t.Vars[j]? = some t.Vars[j] := by simp [hj]
    generalize t.Vars[j] = v at hjv
    obtain ⟨k, hk⟩ := List.getElem?_of_mem (hv v (List.mem_of_getElem? hjv))
    have hkl := (List.getElem?_eq_some_iff.1 hk).1
    have hx : X[k]? = some (X[k]'(by omega)) := by simp [show k < X.length by omega]
    rw [h k j _ v hk hx hjv, up_get (YF_at hu hjv hk hx)]
  · rw [List.getElem?_eq_none (by omega), List.getElem?_eq_none (by rw [up_len, YF_len]; omega)]

/-! ## the cells -/
noncomputable def deriveF (g : impl_Geo) (s : List impl_Variable) (t u : impl_Table) (cells : List Int) : List Int := (List.range cells.length).foldl (fun out i => addC out ((derF g s t u i).1, cells.getD i 0 * (derF g s t u i).2)) (List.replicate (num g s t) 0)

structure Inv2 (N k : Nat) (out : List Int) : Prop where
  l : out.length = N
  b : ∀ v ∈ out, -(8000000 * (k : Int)) ≤ v ∧ v ≤ 8000000 * (k : Int)

theorem derF_ok {g : impl_Geo} {s : List impl_Variable} {t u : impl_Table} (ht : OkT g s t) (hu : OkT g s u) (hF : Fol g s t u) {i n m : Nat} {X : List Nat} (hB : Base g s t u i n m X) : (derF g s t u i = (-1, 0) ∨ ∃ j : Nat, (derF g s t u i).1 = (j : Int) ∧ j < num g s t) ∧ 0 ≤ (derF g s t u i).2 ∧ (derF g s t u i).2 ≤ 8 := by
  by_cases h : InT s t u X u.Vars.length
  · rw [derF_in hB h]
    have hi := (List.getElem?_eq_some_iff.1 (lev_at hB.lv hB.hm)).1
    refine ⟨.inr ⟨_, rfl, cell_lt hi (YF_vx ht hu hF.vars hB.vx)⟩, ?_⟩
    simp only
    unfold timesF
    split
    · rename_i hc
      have hv : u.Vars[u.Vars.idxOf t.Sum]? = some u.Vars[u.Vars.idxOf t.Sum] := by simp [hc.2]
      obtain ⟨x, hx, hx7, _, _⟩ := x_at hu hB.vx hv
      rw [List.getD_eq_getElem?_getD, hx, Option.getD_some]
      omega
    · omega
  · rw [derF_out hB h]
    exact ⟨.inl rfl, by decide, by decide⟩

theorem addD_step {N k : Nat} {out : List Int} {d : Int × Int} {c : Int} (h : Inv2 N k out) (hc : 0 ≤ d.1 → ∃ i : Nat, d.1 = (i : Int) ∧ i < N) (ha : 0 ≤ d.2 ∧ d.2 ≤ 8) (hcc : -1000000 ≤ c ∧ c ≤ 1000000) (hk : k ≤ 1000000) :
    (cond (decide (0 ≤ d.1)) ((goAt out d.1).bind fun e => ((goAt out d.1).bind fun _ => some (goSet out d.1 (w64 (e + w64 (c * d.2)))))) (some out) : Option (List Int)) = some (addC out (d.1, c * d.2)) ∧ Inv2 N (k + 1) (addC out (d.1, c * d.2)) ∧ w64 (c * d.2) = c * d.2 := by
  have hm : -8000000 ≤ c * d.2 ∧ c * d.2 ≤ 8000000 := by
    have h1 : c * d.2 ≤ 1000000 * d.2 := Int.mul_le_mul_of_nonneg_right hcc.2 ha.1
    have h2 : -1000000 * d.2 ≤ c * d.2 := Int.mul_le_mul_of_nonneg_right hcc.1 ha.1
    omega
  by_cases h0 : 0 ≤ d.1
  · obtain ⟨i, hi, hl⟩ := hc h0
    have hx : out[i]? = some (out[i]'(by rw [h.l]; exact hl)) := by simp
    generalize out[i]'(by rw [h.l]; exact hl) = x at hx
    have hb := h.b x (List.mem_of_getElem? hx)
    have e : addC out (d.1, c * d.2) = out.set i (x + c * d.2) := by
      unfold addC
      simp only
      rw [if_pos h0, hi, show (i : Int).toNat = i by omega, List.getD_eq_getElem?_getD, hx]
      rfl
    rw [e, decide_eq_true h0, hi, at_ok hx]
    refine ⟨by simp only [cond_true, Option.bind_some]; rw [wid (n := c * d.2) (by omega) (by omega), wid (by omega) (by omega)]; rfl, ⟨by rw [List.length_set, h.l], fun v hv => ?_⟩, wid (by omega) (by omega)⟩
    rcases List.mem_or_eq_of_mem_set hv with hv | rfl
    · have := h.b v hv; omega
    · omega
  · have e : addC out (d.1, c * d.2) = out := by unfold addC; rw [if_neg h0]
    rw [e, decide_eq_false h0]
    exact ⟨rfl, ⟨h.l, fun v hv => by have := h.b v hv; omega⟩, wid (by omega) (by omega)⟩

theorem derive_loop {g : impl_Geo} {s : List impl_Variable} {t u : impl_Table} {cells : List Int} {ρ : Type} (ht : OkT g s t) (hu : OkT g s u) (hF : Fol g s t u) (hl : cells.length = num g s u) (hc : ∀ v ∈ cells, -1000000 ≤ v ∧ v ≤ 1000000) (fin : List Int → ρ) {body : List Int × Int → Option (Stp (List Int × Int) ρ)}
    (h1 : ∀ (out : List Int) (i n m : Nat) (X : List Nat) (c : Int), cells[i]? = some c → Inv2 (num g s t) i out → Base g s t u i n m X → -1000000 ≤ c ∧ c ≤ 1000000 → body (out, (i : Int)) = some (.next (addC out ((derF g s t u i).1, c * (derF g s t u i).2), ((i + 1 : Nat) : Int))))
    (h2 : ∀ out, body (out, (cells.length : Int)) = some (.done (fin out))) : loopC body (List.replicate (num g s t) 0, 0) = some (fin (deriveF g s t u cells)) ∧ (deriveF g s t u cells).length = num g s t := by
  have hn := hu.top
  have := loop_fold (l := List.range cells.length) (fun out i => addC out ((derF g s t u i).1, cells.getD i 0 * (derF g s t u i).2)) (Inv2 (num g s t)) fin (body := body) (fun out k x hx hI => ?_) (fun out _ => by rw [List.length_range]; exact h2 out) (s := List.replicate (num g s t) 0) ⟨by simp, fun v hv => by have := (List.mem_replicate.1 hv).2; omega⟩
  · exact ⟨this.1, this.2.l⟩
  · obtain ⟨rfl, hk⟩ := range_at hx
    have hcx : cells[x]? = some cells[x] := by simp [hk]
    have hcc := hc _ (List.mem_of_getElem? hcx)
    obtain ⟨n, m, hB⟩ := base ht hu hF (show x < num g s u by omega)
    have hd := derF_ok ht hu hF hB
    have e : cells.getD x 0 = cells[x] := by rw [List.getD_eq_getElem?_getD, hcx]; rfl
    rw [e]
    have hst := addD_step (c := cells[x]) hI (fun h0 => by rcases hd.1 with h | h; rw [h] at h0; simp at h0; exact h) hd.2 hcc (by omega)
    exact ⟨h1 out x n m _ _ hcx hI hB hcc, hst.2.1⟩

theorem quo_nat' {a b : Nat} (hb : 0 < b) (ha : a ≤ 9223372036854775807) : goQuo .i64 (a : Int) (b : Int) = some ((a / b : Nat) : Int) := by
  have hle : a / b ≤ a := Nat.div_le_self _ _
  unfold goQuo
  rw [show ((b : Int) == 0) = false by simp; omega, cond_false]
  congr 1
  rw [Int.tdiv_eq_ediv_of_nonneg (by omega), ← Int.natCast_ediv]
  exact wnat (by omega)

theorem rem_nat' {a b : Nat} (hb : 0 < b) : goRem (a : Int) (b : Int) = some ((a % b : Nat) : Int) := by
  unfold goRem
  rw [show ((b : Int) == 0) = false by simp; omega, cond_false]
  rfl

/-! ## the same in the reference -/
theorem all_pick {n : Nat} {t u : impl_Table} {X : List Nat} (hu : RiseV n u.Vars) (hXl : X.length = u.Vars.length) (hv : ∀ v ∈ t.Vars, v ∈ u.Vars) {all : List Int} (h : ∀ (k x : Nat) (v : Int), u.Vars[k]? = some v → X[k]? = some x → all[v.toNat]? = some (x : Int)) : pickV all t.Vars = up (YF t u X) := by
  refine own_of hu hXl hv (by simp [pickV]) fun k j x v hk hx hj => ?_
  unfold pickV
  rw [List.getElem?_map, hj, Option.map_some, h k x v hk hx]
  rfl

end Go.Gx.F
