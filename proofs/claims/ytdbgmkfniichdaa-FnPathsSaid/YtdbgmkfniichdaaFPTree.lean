/- Plain laws: trees that are given by the parents. -/
import Derived.Test.YtdbgmkfniichdaaFPCur
namespace Go.Gx.F
open Go.Gx
set_option linter.all false

/-- the parent of i -/
def par (p : List Int) (i : Nat) : Nat := (p.getD i 0).toNat

def okFrom : Nat → List Int → Bool
  | _, [] => true
  | k, x :: l => decide (0 ≤ x) && decide (x < (k : Int)) && okFrom (k + 1) l

theorem okFrom_at : ∀ {l : List Int} {k : Nat}, okFrom k l = true → ∀ (j : Nat) (x : Int), l[j]? = some x → 0 ≤ x ∧ x < ((k + j : Nat) : Int)
  | [], k, h, j, x, hj => by simp at hj
  | y :: l, k, h, j, x, hj => by
    simp only [okFrom, Bool.and_eq_true, decide_eq_true_eq] at h
    cases j with
    | zero => simp at hj; subst hj; exact ⟨h.1.1, by have := h.1.2; omega⟩
    | succ j =>
      have := okFrom_at h.2 j x (by simpa using hj)
      exact ⟨this.1, by have := this.2; omega⟩

/-- a good tree -/
def gok (p : List Int) : Bool := decide (1 ≤ p.length) && decide (p.length ≤ 30) && (p[0]? == some (-1)) && okFrom 1 (p.drop 1)

structure GeoOk (p : List Int) : Prop where
  l1 : 1 ≤ p.length
  l2 : p.length ≤ 30
  rt : p[0]? = some (-1)
  up : ∀ (k : Nat) (x : Int), p[k]? = some x → 0 < k → 0 ≤ x ∧ x < (k : Int)

theorem gok_ok {p : List Int} (h : gok p = true) : GeoOk p := by
  simp only [gok, Bool.and_eq_true, decide_eq_true_eq, beq_iff_eq] at h
  refine ⟨h.1.1.1, h.1.1.2, h.1.2, fun k x hk h0 => ?_⟩
  obtain ⟨j, rfl⟩ : ∃ j, k = 1 + j := ⟨k - 1, by omega⟩
  exact okFrom_at h.2 j x (by rw [List.getElem?_drop]; exact hk)

theorem par_at {p : List Int} (h : GeoOk p) {i : Nat} (hi : i < p.length) (h0 : 0 < i) : p[i]? = some (par p i : Int) ∧ par p i < i := by
  have e : p[i]? = some p[i] := by simp [hi]
  have hu := h.up i _ e h0
  have ep : (par p i : Int) = p[i] := by
    unfold par
    rw [List.getD_eq_getElem?_getD, e, Option.getD_some]
    exact Int.toNat_of_nonneg hu.1
  rw [e, ep]
  exact ⟨rfl, by omega⟩

/-- from the root to i -/
def gpath (p : List Int) (i : Nat) : List Int := if h : 0 < i ∧ par p i < i then gpath p (par p i) ++ [(i : Int)] else [(i : Int)]
termination_by i
decreasing_by exact h.2

theorem gpath_zero (p : List Int) : gpath p 0 = [0] := by rw [gpath]; rfl

theorem gpath_up {p : List Int} (h : GeoOk p) {i : Nat} (hi : i < p.length) (h0 : 0 < i) : gpath p i = gpath p (par p i) ++ [(i : Int)] := by
  rw [gpath, dif_pos ⟨h0, (par_at h hi h0).2⟩]

theorem gpath_len (p : List Int) (i : Nat) : 1 ≤ (gpath p i).length ∧ (gpath p i).length ≤ i + 1 := by
  induction i using Nat.strongRecOn with
  | _ i ih =>
    rw [gpath]
    split
    · rename_i h
      have := ih _ h.2
      simp
      omega
    · simp

theorem gpath_head {p : List Int} (i : Nat) (h : GeoOk p) (hi : i < p.length) : (gpath p i)[0]? = some 0 := by
  induction i using Nat.strongRecOn with
  | _ i ih =>
    by_cases h0 : 0 < i
    · rw [gpath_up h hi h0]
      have hp := (par_at h hi h0).2
      have hl := gpath_len p (par p i)
      rw [List.getElem?_append_left (by omega)]
      exact ih _ hp (by omega)
    · have : i = 0 := by omega
      subst this
      rw [gpath_zero]; rfl

theorem gpath_last (p : List Int) (i : Nat) : (gpath p i).getLast? = some (i : Int) := by
  rw [gpath]
  split <;> simp

/-- each element of the path stands for the first part of it -/
theorem gpath_at {p : List Int} (h : GeoOk p) (i : Nat) (hi : i < p.length) : ∀ (k : Nat) (a : Int), (gpath p i)[k]? = some a → ∃ n : Nat, n ≤ i ∧ a = (n : Int) ∧ gpath p n = (gpath p i).take (k + 1) ∧ (gpath p n).length = k + 1 := by
  induction i using Nat.strongRecOn with
  | _ i ih =>
    intro k a hk
    by_cases h0 : 0 < i
    · have hp := (par_at h hi h0).2
      have e := gpath_up h hi h0
      by_cases hlt : k < (gpath p (par p i)).length
      · rw [e, List.getElem?_append_left hlt] at hk
        obtain ⟨n, n1, n2, n3, n4⟩ := ih _ hp (by omega) k a hk
        exact ⟨n, by omega, n2, by rw [e, List.take_append_of_le_length (by omega)]; exact n3, n4⟩
      · have hl : k < (gpath p i).length := (List.getElem?_eq_some_iff.1 hk).1
        have hl2 : (gpath p i).length = (gpath p (par p i)).length + 1 := by rw [e]; simp
        have hke : k = (gpath p (par p i)).length := by omega
        rw [e, List.getElem?_append_right (by omega), hke] at hk
        simp at hk
        exact ⟨i, by omega, hk.symm, by rw [List.take_of_length_le (by omega)], by omega⟩
    · have : i = 0 := by omega
      subst this
      rw [gpath_zero] at hk ⊢
      cases k with
      | zero => simp at hk; exact ⟨0, by omega, by simp [← hk], by rw [gpath_zero]; rfl, by rw [gpath_zero]; rfl⟩
      | succ k => simp at hk

theorem gpath_le {p : List Int} (h : GeoOk p) {i : Nat} (hi : i < p.length) {a : Int} (ha : a ∈ gpath p i) : 0 ≤ a ∧ a ≤ (i : Int) := by
  obtain ⟨k, hk, e⟩ := List.getElem_of_mem ha
  obtain ⟨n, n1, n2, _, _⟩ := gpath_at h i hi k a (by rw [List.getElem?_eq_getElem hk, e])
  omega

/-! ## what is good -/

theorem impl_IsGeo_loop (g : impl_Geo) (hl : g.Parents.length ≤ 30) : ∀ (l : List Int) (k : Nat), g.Parents.drop k = l → k ≤ g.Parents.length → loopC (impl_IsGeo_l1 g) (k : Int) = some (if okFrom k l then .inl () else .inr false)
  | [], k, hd, hk => by
    have : k = g.Parents.length := by have := congrArg List.length hd; simp at this; omega
    subst this
    rw [loopC_eq]
    simp only [impl_IsGeo_l1, lt_end, cond_false, okFrom, if_true]
  | x :: l, k, hd, hk => by
    have hx : g.Parents[k]? = some x := by rw [← List.head?_drop, hd]; rfl
    have hlt := (List.getElem?_eq_some_iff.1 hx).1
    have ih := impl_IsGeo_loop g hl l (k + 1) (by rw [← List.drop_drop, hd]; rfl) (by omega)
    rw [loopC_eq]
    simp only [impl_IsGeo_l1, lt_ok hx, at_ok hx, cond_true, Option.bind_some, nx_ok hx (by omega)]
    by_cases h1 : x < 0
    · rw [decide_eq_true h1]
      simp only [cond_true, Option.bind_some, okFrom, decide_eq_false (show ¬ 0 ≤ x by omega), Bool.false_and]
      rfl
    · rw [decide_eq_false h1]
      by_cases h2 : (k : Int) ≤ x
      · rw [decide_eq_true h2]
        simp only [cond_true, cond_false, Option.bind_some, okFrom, decide_eq_false (show ¬ x < (k : Int) by omega), Bool.and_false, Bool.false_and]
        rfl
      · rw [decide_eq_false h2]
        simp only [cond_false, Option.bind_some, okFrom, decide_eq_true (show 0 ≤ x by omega), decide_eq_true (show x < (k : Int) by omega), Bool.true_and]
        exact ih

theorem impl_IsGeo_eq (g : impl_Geo) : impl_IsGeo g = some (gok g.Parents) := by
  unfold impl_IsGeo
  by_cases h1 : goLen g.Parents < 1
  · rw [decide_eq_true h1]
    simp only [goLen] at h1
    simp only [cond_true, Option.bind_some, gok, decide_eq_false (show ¬ 1 ≤ g.Parents.length by omega), Bool.false_and]
  · rw [decide_eq_false h1]
    simp only [goLen] at h1
    by_cases h2 : 30 < goLen g.Parents
    · rw [decide_eq_true h2]
      simp only [goLen] at h2
      simp only [cond_true, cond_false, Option.bind_some, gok, decide_eq_false (show ¬ g.Parents.length ≤ 30 by omega), Bool.false_and, Bool.and_false]
    · rw [decide_eq_false h2]
      simp only [goLen] at h2
      have e : g.Parents[0]? = some (g.Parents[0]'(by omega)) := List.getElem?_eq_getElem (by omega)
      have e2 : goAt g.Parents 0 = some (g.Parents[0]'(by omega)) := at_ok (k := 0) e
      rw [e2]
      simp only [cond_false, Option.bind_some, gok, e, decide_eq_true (show 1 ≤ g.Parents.length by omega), decide_eq_true (show g.Parents.length ≤ 30 by omega), Bool.true_and]
      generalize g.Parents[0]'(by omega) = x
      by_cases h3 : x = -1
      · subst h3
        simp only [bne_self_eq_false, cond_false]
        have := impl_IsGeo_loop g (by omega) _ 1 rfl (by omega)
        rw [show ((1 : Nat) : Int) = 1 from rfl] at this
        rw [this]
        cases okFrom 1 (g.Parents.drop 1) <;> rfl
      · have hb : (x != -1) = true := by simpa using h3
        have hb2 : (some x == some (-1)) = false := by simpa using h3
        simp only [hb, hb2, cond_true, Bool.false_and]

theorem spec_gGood_loop (g : impl_Geo) (hl : g.Parents.length ≤ 30) : ∀ (l : List Int) (k : Nat), 0 < k → g.Parents.drop k = l → k ≤ g.Parents.length → loopC (spec_gGood_l1 g) (k : Int) = some (if okFrom k l then .inl () else .inr false)
  | [], k, h0, hd, hk => by
    have : k = g.Parents.length := by have := congrArg List.length hd; simp at this; omega
    subst this
    rw [loopC_eq]
    simp only [spec_gGood_l1, lt_end, cond_false, okFrom, if_true]
  | x :: l, k, h0, hd, hk => by
    have hx : g.Parents[k]? = some x := by rw [← List.head?_drop, hd]; rfl
    have hlt := (List.getElem?_eq_some_iff.1 hx).1
    have ih := spec_gGood_loop g hl l (k + 1) (by omega) (by rw [← List.drop_drop, hd]; rfl) (by omega)
    rw [loopC_eq]
    have w : w64 ((k : Int) - 1) = (k : Int) - 1 := w64_in (by omega) (by omega)
    have e : (decide (x ≤ (k : Int) - 1)) = decide (x < (k : Int)) := by simp only [decide_eq_decide]; omega
    simp only [spec_gGood_l1, lt_ok hx, at_ok hx, cond_true, Option.bind_some, nx_ok hx (by omega), decide_eq_true (show 0 < (k : Int) by omega), spec_l1In_eq, w, Bool.decide_and, e]
    rw [show okFrom k (x :: l) = (decide (0 ≤ x) && decide (x < (k : Int)) && okFrom (k + 1) l) from rfl]
    generalize (decide (0 ≤ x) && decide (x < (k : Int))) = b
    cases b with
    | true => simp only [Bool.not_true, cond_false, Bool.true_and]; exact ih
    | false => rfl

theorem spec_gGood_eq (g : impl_Geo) : spec_gGood g = some (gok g.Parents) := by
  unfold spec_gGood
  rw [spec_l1In_eq, Option.bind_some, Bool.decide_and]
  have e1 : decide (1 ≤ goLen g.Parents) = decide (1 ≤ g.Parents.length) := by simp only [goLen, decide_eq_decide]; omega
  have e2 : decide (goLen g.Parents ≤ 30) = decide (g.Parents.length ≤ 30) := by simp only [goLen, decide_eq_decide]; omega
  rw [e1, e2]
  unfold gok
  cases hb : (decide (1 ≤ g.Parents.length) && decide (g.Parents.length ≤ 30)) with
  | false => rfl
  | true =>
    simp only [Bool.and_eq_true, decide_eq_true_eq] at hb
    have e : g.Parents[0]? = some (g.Parents[0]'(by omega)) := List.getElem?_eq_getElem (by omega)
    have ea : goAt g.Parents 0 = some (g.Parents[0]'(by omega)) := at_ok (k := 0) e
    rw [ea]
    simp only [Bool.not_true, cond_false, Option.bind_some, e, Bool.true_and]
    generalize hy : g.Parents[0]'(by omega) = x
    by_cases h3 : x = -1
    · subst h3
      simp only [bne_self_eq_false, cond_false]
      have hx : g.Parents[0]? = some (-1) := by rw [e, hy]
      have hl := spec_gGood_loop g hb.2 _ 1 (by omega) rfl (by omega)
      have h0 : loopC (spec_gGood_l1 g) 0 = loopC (spec_gGood_l1 g) ((1 : Nat) : Int) := by
        rw [loopC_eq]
        have a1 := lt_ok hx; have a2 := at_ok hx
        rw [show ((0 : Nat) : Int) = 0 from rfl] at a1 a2
        simp only [spec_gGood_l1, a1, a2, cond_true, Option.bind_some, Int.lt_irrefl, decide_false, cond_false, show w64 (0 + 1) = ((1 : Nat) : Int) from rfl]
      rw [h0, hl]
      cases okFrom 1 (g.Parents.drop 1) <;> rfl
    · have h4 : (x != -1) = true := by simpa using h3
      have h5 : (some x == some (-1)) = false := by simpa using h3
      simp only [h4, h5, cond_true, Bool.false_and]

theorem impl_isArea_eq (g : impl_Geo) (i : Int) : impl_isArea g i = some (decide (0 ≤ i) && decide (i < goLen g.Parents)) := by
  unfold impl_isArea
  by_cases h : 0 ≤ i
  · rw [decide_eq_true h]; rfl
  · rw [decide_eq_false h]; rfl

/-- is i an area of a good tree? -/
def area (p : List Int) (i : Int) : Bool := gok p && (decide (0 ≤ i) && decide (i < (p.length : Int)))

theorem area_ok {p : List Int} {i : Int} (h : area p i = true) : GeoOk p ∧ ∃ n : Nat, i = (n : Int) ∧ n < p.length := by
  simp only [area, Bool.and_eq_true, decide_eq_true_eq] at h
  obtain ⟨n, rfl⟩ := Int.eq_ofNat_of_zero_le h.2.1
  exact ⟨gok_ok h.1, n, rfl, by omega⟩

theorem spec_gArea_eq (g : impl_Geo) (i : Int) : spec_gArea g i = some (area g.Parents i) := by
  unfold spec_gArea
  rw [spec_gGood_eq, Option.bind_some]
  cases hg : gok g.Parents with
  | false => simp [area, hg]
  | true =>
    have hb := (gok_ok hg).l2
    have w : w64 (goLen g.Parents - 1) = goLen g.Parents - 1 := w64_in (by simp only [goLen]; omega) (by simp only [goLen]; omega)
    simp only [cond_true, spec_l1In_eq, w, Option.bind_some, area, hg, Bool.true_and, Bool.decide_and]
    have e : decide (i ≤ goLen g.Parents - 1) = decide (i < (g.Parents.length : Int)) := by simp only [goLen, decide_eq_decide]; omega
    rw [e]

theorem impl_area {g : impl_Geo} {i : Int} {α : Type} (f : Bool → Option α) : ((((impl_IsGeo g).bind fun t => (cond (!t) (some true) ((impl_isArea g i).bind fun u => some (!u)))) : Option Bool).bind f) = f (!area g.Parents i) := by
  rw [impl_IsGeo_eq, Option.bind_some, impl_isArea_eq]
  unfold area goLen
  cases gok g.Parents <;> simp

/-! ## walks on the tree -/

theorem impl_depthOf_eq {g : impl_Geo} (h : GeoOk g.Parents) {i : Nat} (hi : i < g.Parents.length) : impl_depthOf g (i : Int) = some (((gpath g.Parents i).length - 1 : Nat) : Int) := by
  unfold impl_depthOf
  obtain ⟨r, hr, hq⟩ := loopC_inv (f := impl_depthOf_l1 g) (fun s => ∃ k d : Nat, s = ((k : Int), (d : Int)) ∧ k < g.Parents.length ∧ d + (gpath g.Parents k).length = (gpath g.Parents i).length) (fun s => s.1.toNat) (fun r => r = ((gpath g.Parents i).length - 1 : Nat)) (by
    rintro s ⟨k, d, rfl, hk, hd⟩
    have hl := gpath_len g.Parents i; have hl2 := h.l2
    simp only [impl_depthOf_l1]
    by_cases h0 : 0 < k
    · right
      have hp := par_at h hk h0
      rw [decide_eq_true (show 0 < (k : Int) by omega), at_ok hp.1, show w64 ((d : Int) + 1) = ((d + 1 : Nat) : Int) from (w64_in (by omega) (by omega)).trans (by omega)]
      have e := gpath_up h hk h0
      exact ⟨_, rfl, ⟨par g.Parents k, d + 1, rfl, by omega, by rw [e] at hd; simp at hd; omega⟩, by simp; omega⟩
    · left
      have : k = 0 := by omega
      subst this
      rw [gpath_zero] at hd
      simp only [List.length_cons, List.length_nil] at hd
      refine ⟨(d : Int), rfl, ?_⟩
      omega) ((i : Int), 0) ⟨i, 0, rfl, hi, by omega⟩
  rw [hr, hq]
  rfl

theorem spec_gDepth_eq {g : impl_Geo} (h : GeoOk g.Parents) {i : Nat} (hi : i < g.Parents.length) : spec_gDepth g (i : Int) = some (((gpath g.Parents i).length - 1 : Nat) : Int) := by
  unfold spec_gDepth
  obtain ⟨r, hr, hq⟩ := loopC_inv (f := spec_gDepth_l1 g) (fun s => ∃ k d : Nat, s = ((k : Int), (d : Int)) ∧ k < g.Parents.length ∧ d + (gpath g.Parents k).length = (gpath g.Parents i).length) (fun s => s.1.toNat) (fun r => r = ((gpath g.Parents i).length - 1 : Nat)) (by
    rintro s ⟨k, d, rfl, hk, hd⟩
    have hl := gpath_len g.Parents i; have hl2 := h.l2
    simp only [spec_gDepth_l1]
    by_cases h0 : 0 < k
    · right
      have hp := par_at h hk h0
      simp only [at_ok hp.1, Option.bind_some, decide_eq_true (show 0 ≤ (par g.Parents k : Int) by omega), cond_true, show w64 ((d : Int) + 1) = ((d + 1 : Nat) : Int) from (w64_in (by omega) (by omega)).trans (by omega)]
      have e := gpath_up h hk h0
      exact ⟨_, rfl, ⟨par g.Parents k, d + 1, rfl, by omega, by rw [e] at hd; simp at hd; omega⟩, by simp; omega⟩
    · left
      have : k = 0 := by omega
      subst this
      rw [gpath_zero] at hd
      simp only [List.length_cons, List.length_nil] at hd
      rw [at_ok h.rt]
      refine ⟨(d : Int), rfl, ?_⟩
      omega) ((i : Int), 0) ⟨i, 0, rfl, hi, by omega⟩
  rw [hr, hq]
  rfl

theorem spec_gPath_eq {g : impl_Geo} (h : GeoOk g.Parents) {i : Nat} (hi : i < g.Parents.length) : spec_gPath g (i : Int) = some (gpath g.Parents i) := by
  unfold spec_gPath
  obtain ⟨r, hr, hq⟩ := loopC_inv (f := spec_gPath_l1 g) (fun s => (s = (-1, gpath g.Parents i)) ∨ ∃ (k : Nat) (o : List Int), s = ((k : Int), o) ∧ k < g.Parents.length ∧ gpath g.Parents k ++ o = gpath g.Parents i) (fun s => (s.1 + 1).toNat) (fun r => r = gpath g.Parents i) (by
    have hl := gpath_len g.Parents i; have hl2 := h.l2
    rintro s (rfl | ⟨k, o, rfl, hk, hd⟩)
    · left; exact ⟨_, rfl, rfl⟩
    · right
      have hlen := congrArg List.length hd
      simp only [List.length_append] at hlen
      simp only [spec_gPath_l1]
      rw [decide_eq_true (show 0 ≤ (k : Int) by omega), goApp_ok (by simp; omega)]
      by_cases h0 : 0 < k
      · have hp := par_at h hk h0
        have e := gpath_up h hk h0
        rw [at_ok hp.1]
        exact ⟨_, rfl, .inr ⟨par g.Parents k, _, rfl, by omega, by rw [e] at hd; simpa using hd⟩, by simp; omega⟩
      · have : k = 0 := by omega
        subst this
        rw [at_ok h.rt]
        rw [gpath_zero] at hd
        exact ⟨_, rfl, .inl (by rw [← hd]; rfl), by simp⟩) ((i : Int), []) (.inr ⟨i, [], rfl, hi, by simp⟩)
  rw [hr, hq]
  rfl

/-! ## slices.Reverse -/

theorem slices_Reverse_eq (l : List Int) (hl : l.length ≤ 9223372036854775807) : slices_Reverse_int_int l = some l.reverse := by
  unfold slices_Reverse_int_int
  by_cases h0 : l.length = 0
  · have : l = [] := List.length_eq_zero_iff.1 h0
    subst this
    rw [loopC_eq]
    rfl
  rw [show w64 (goLen l - 1) = ((l.length - 1 : Nat) : Int) from (w64_in (by simp only [goLen]; omega) (by simp only [goLen]; omega)).trans (by simp only [goLen]; omega)]
  obtain ⟨r, hr, hq⟩ := loopC_inv (f := slices_Reverse_int_int_l1) (fun s => ∃ (t : List Int) (i j : Nat), s = (t, (i : Int), (j : Int)) ∧ t.length = l.length ∧ i + j + 1 = l.length ∧ ∀ k < l.length, t[k]? = if k < i ∨ j < k then l[l.length - 1 - k]? else l[k]?) (fun s => (s.2.2 + 1 - s.2.1).toNat) (fun r => r = l.reverse) (by
    rintro s ⟨t, i, j, rfl, ht, hij, hk⟩
    simp only [slices_Reverse_int_int_l1]
    by_cases hlt : i < j
    · right
      have ei : t[i]? = some (t[i]'(by omega)) := by simp
      have ej : t[j]? = some (t[j]'(by omega)) := by simp
      have hki := hk i (by omega); have hkj := hk j (by omega)
      rw [if_neg (by omega)] at hki hkj
      generalize t[i]'(by omega) = x at ei
      generalize t[j]'(by omega) = y at ej
      have ej2 : (goSet t (i : Int) y)[j]? = some y := by
        show (t.set (i : Int).toNat y)[j]? = some y
        rw [List.getElem?_set_ne (by omega)]; exact ej
      simp only [decide_eq_true (show (i : Int) < (j : Int) by omega), cond_true, at_ok ei, at_ok ej, at_ok ej2, Option.bind_some]
      refine ⟨_, rfl, ⟨goSet (goSet t (i : Int) y) (j : Int) x, i + 1, j - 1, ?_, by rw [List.length_set, List.length_set]; exact ht, by omega, ?_⟩, ?_⟩
      · rw [show w64 ((i : Int) + 1) = ((i + 1 : Nat) : Int) from (w64_in (by omega) (by omega)).trans (by omega), show w64 ((j : Int) - 1) = ((j - 1 : Nat) : Int) from (w64_in (by omega) (by omega)).trans (by omega)]
      · intro k hkl
        show ((t.set (i : Int).toNat y).set (j : Int).toNat x)[k]? = _
        rw [Int.toNat_natCast, Int.toNat_natCast]
        by_cases k1 : k = j
        · subst k1
          rw [List.getElem?_set_self (by simp; omega), if_pos (by omega), show l.length - 1 - k = i by omega, ← hki, ei]
        · rw [List.getElem?_set_ne (by omega)]
          by_cases k2 : k = i
          · subst k2
            rw [List.getElem?_set_self (by omega), if_pos (by omega), show l.length - 1 - k = j by omega, ← hkj, ej]
          · rw [List.getElem?_set_ne (by omega), hk k hkl]
            by_cases k3 : k < i ∨ j < k
            · rw [if_pos k3, if_pos (by omega)]
            · rw [if_neg k3, if_neg (by omega)]
      · show (w64 ((j : Int) - 1) + 1 - w64 ((i : Int) + 1)).toNat < ((j : Int) + 1 - (i : Int)).toNat
        rw [show w64 ((i : Int) + 1) = (i : Int) + 1 from w64_in (by omega) (by omega), show w64 ((j : Int) - 1) = (j : Int) - 1 from w64_in (by omega) (by omega)]
        omega
    · left
      rw [decide_eq_false (show ¬ (i : Int) < (j : Int) by omega)]
      refine ⟨t, rfl, ?_⟩
      apply List.ext_getElem?
      intro k
      by_cases hkl : k < l.length
      · rw [List.getElem?_reverse hkl, hk k hkl]
        by_cases k3 : k < i ∨ j < k
        · rw [if_pos k3]
        · rw [if_neg k3, show l.length - 1 - k = k by omega]
      · rw [List.getElem?_eq_none (by omega), List.getElem?_eq_none (by simp; omega)]) (l, 0, ((l.length - 1 : Nat) : Int)) ⟨l, 0, l.length - 1, rfl, rfl, by omega, fun k hk => by rw [if_neg (by omega)]⟩
  rw [hr, hq]
  rfl

theorem impl_pathTo_eq {g : impl_Geo} (h : GeoOk g.Parents) {i : Nat} (hi : i < g.Parents.length) : impl_pathTo g (i : Int) = some (gpath g.Parents i) := by
  unfold impl_pathTo
  have hl := gpath_len g.Parents i; have hl2 := h.l2
  obtain ⟨r, hr, hq⟩ := loopC_inv (f := impl_pathTo_l1 g) (fun s => (s = (-1, (gpath g.Parents i).reverse)) ∨ ∃ (k : Nat) (o : List Int), s = ((k : Int), o) ∧ k < g.Parents.length ∧ gpath g.Parents k ++ o.reverse = gpath g.Parents i) (fun s => (s.1 + 1).toNat) (fun r => r = (gpath g.Parents i).reverse) (by
    rintro s (rfl | ⟨k, o, rfl, hk, hd⟩)
    · left; exact ⟨_, rfl, rfl⟩
    · right
      have hlen := congrArg List.length hd
      simp only [List.length_append, List.length_reverse] at hlen
      simp only [impl_pathTo_l1]
      rw [decide_eq_true (show 0 ≤ (k : Int) by omega), goApp_ok (by simp; omega)]
      by_cases h0 : 0 < k
      · have hp := par_at h hk h0
        have e := gpath_up h hk h0
        rw [at_ok hp.1]
        exact ⟨_, rfl, .inr ⟨par g.Parents k, _, rfl, by omega, by rw [e] at hd; simpa using hd⟩, by simp; omega⟩
      · have : k = 0 := by omega
        subst this
        rw [at_ok h.rt]
        rw [gpath_zero] at hd
        exact ⟨_, rfl, .inl (by rw [← hd]; simp), by simp⟩) ((i : Int), []) (.inr ⟨i, [], rfl, hi, by simp⟩)
  rw [hr, hq]
  simp only [Option.bind_some]
  rw [slices_Reverse_eq _ (by simp; omega), List.reverse_reverse]
  rfl

theorem impl_ancestorAt_eq {g : impl_Geo} (h : GeoOk g.Parents) {i : Nat} (hi : i < g.Parents.length) {k : Nat} {a : Int} (hk : (gpath g.Parents i)[k]? = some a) : impl_ancestorAt g (i : Int) (k : Int) = some a := by
  have hlt := (List.getElem?_eq_some_iff.1 hk).1
  have hl := gpath_len g.Parents i; have hl2 := h.l2
  unfold impl_ancestorAt
  rw [impl_depthOf_eq h hi, Option.bind_some, decide_eq_false (show ¬ (k : Int) < 0 by omega), decide_eq_false (show ¬ (((gpath g.Parents i).length - 1 : Nat) : Int) < (k : Int) by omega)]
  simp only [cond_false, Option.bind_some]
  obtain ⟨r, hr, hq⟩ := loopC_inv (f := impl_ancestorAt_l1 g (k : Int)) (fun s => ∃ n d : Nat, s = ((n : Int), (d : Int)) ∧ n < g.Parents.length ∧ k ≤ d ∧ (gpath g.Parents n).length = d + 1 ∧ gpath g.Parents n = (gpath g.Parents i).take (d + 1)) (fun s => s.2.toNat) (fun r => r = a) (by
    rintro s ⟨n, d, rfl, hn, hd, e1, e2⟩
    simp only [impl_ancestorAt_l1]
    by_cases hkd : k < d
    · right
      have h0 : 0 < n := by
        apply Nat.pos_of_ne_zero
        rintro rfl
        rw [gpath_zero] at e1
        simp at e1; omega
      have hp := par_at h hn h0
      have e := gpath_up h hn h0
      have hln := gpath_len g.Parents n
      have hpl : (gpath g.Parents (par g.Parents n)).length = d := by rw [e] at e1; simp at e1; exact e1
      rw [decide_eq_true (show (k : Int) < (d : Int) by omega), at_ok hp.1, show w64 ((d : Int) - 1) = ((d - 1 : Nat) : Int) from (w64_in (by omega) (by omega)).trans (by omega)]
      refine ⟨_, rfl, ⟨par g.Parents n, d - 1, rfl, by omega, by omega, by omega, ?_⟩, by show ((d - 1 : Nat) : Int).toNat < (d : Int).toNat; omega⟩
      have : gpath g.Parents (par g.Parents n) = (gpath g.Parents n).take d := by rw [e, ← hpl]; simp
      rw [this, e2, List.take_take, show min d (d + 1) = d - 1 + 1 by omega]
    · left
      have : d = k := by omega
      subst this
      rw [decide_eq_false (by omega)]
      refine ⟨(n : Int), rfl, ?_⟩
      have hlast := gpath_last g.Parents n
      rw [List.getLast?_eq_getElem?, e1, e2, List.getElem?_take, if_pos (by omega), show d + 1 - 1 = d by omega, hk] at hlast
      simpa using hlast.symm) ((i : Int), (((gpath g.Parents i).length - 1 : Nat) : Int)) ⟨i, _, rfl, hi, by omega, by omega, by rw [List.take_of_length_le (by omega)]⟩
  rw [hr, hq]
  rfl

/-! ## where two paths part -/

/-- the last that two lists have in common from the start -/
def meet : List Int → List Int → Int → Int
  | x :: a, y :: b, d => if x = y then meet a b x else d
  | _, _, d => d

theorem meet_comm : ∀ (a b : List Int) (d : Int), meet a b d = meet b a d
  | [], [], d => rfl
  | [], y :: b, d => rfl
  | x :: a, [], d => rfl
  | x :: a, y :: b, d => by
    simp only [meet]
    by_cases h : x = y
    · subst h; rw [if_pos rfl, if_pos rfl]; exact meet_comm a b x
    · rw [if_neg h, if_neg (fun e => h e.symm)]

theorem meet_app : ∀ (a b : List Int) (x d : Int), x ∉ b → meet (a ++ [x]) b d = meet a b d
  | [], [], x, d, h => rfl
  | [], y :: b, x, d, h => by
    simp only [List.mem_cons, not_or] at h
    simp only [List.nil_append, meet]
    rw [if_neg h.1]
  | z :: a, [], x, d, h => rfl
  | z :: a, y :: b, x, d, h => by
    simp only [List.mem_cons, not_or] at h
    simp only [List.cons_append, meet]
    by_cases e : z = y
    · rw [if_pos e, if_pos e]; exact meet_app a b x z h.2
    · rw [if_neg e, if_neg e]

theorem meet_self : ∀ (a : List Int) (d : Int), meet a a d = a.getLastD d
  | [], d => rfl
  | x :: a, d => by
    simp only [meet, if_true]
    rw [meet_self a x]
    cases a with
    | nil => rfl
    | cons y a => simp [List.getLastD, List.getLast_cons]

theorem impl_MeetOf_loop {g : impl_Geo} (h : GeoOk g.Parents) {i k : Nat} (hi : i < g.Parents.length) (hk : k < g.Parents.length) : loopC (impl_MeetOf_l1 g) ((i : Int), (k : Int)) = some (meet (gpath g.Parents i) (gpath g.Parents k) 0) := by
  obtain ⟨r, hr, hq⟩ := loopC_inv (f := impl_MeetOf_l1 g) (fun s => ∃ i' k' : Nat, s = ((i' : Int), (k' : Int)) ∧ i' < g.Parents.length ∧ k' < g.Parents.length ∧ meet (gpath g.Parents i') (gpath g.Parents k') 0 = meet (gpath g.Parents i) (gpath g.Parents k) 0) (fun s => s.1.toNat + s.2.toNat) (fun r => r = meet (gpath g.Parents i) (gpath g.Parents k) 0) (by
    rintro s ⟨a, b, rfl, ha, hb, e⟩
    simp only [impl_MeetOf_l1]
    by_cases hab : a = b
    · left
      subst hab
      rw [bne_self_eq_false]
      refine ⟨(a : Int), rfl, ?_⟩
      rw [← e, meet_self, List.getLastD_eq_getLast?, gpath_last]
      rfl
    · right
      rw [show ((a : Int) != (b : Int)) = true by simp; omega]
      by_cases hlt : b < a
      · have h0 : 0 < a := by omega
        have hp := par_at h ha h0
        simp only [decide_eq_true (show (b : Int) < (a : Int) by omega), at_ok hp.1, cond_true, Option.bind_some]
        refine ⟨_, rfl, ⟨par g.Parents a, b, rfl, by omega, hb, ?_⟩, by simp; omega⟩
        rw [← e, gpath_up h ha h0, meet_app]
        intro hm
        have := gpath_le h hb hm
        omega
      · have h0 : 0 < b := by omega
        have hp := par_at h hb h0
        simp only [decide_eq_false (show ¬ (b : Int) < (a : Int) by omega), at_ok hp.1, cond_true, cond_false, Option.bind_some]
        refine ⟨_, rfl, ⟨a, par g.Parents b, rfl, ha, by omega, ?_⟩, by simp; omega⟩
        rw [← e, gpath_up h hb h0, meet_comm, meet_comm _ (gpath g.Parents (par g.Parents b) ++ _), meet_app]
        intro hm
        have := gpath_le h ha hm
        omega) ((i : Int), (k : Int)) ⟨i, k, rfl, hi, hk, rfl⟩
  rw [hr, hq]

theorem spec_MeetOf_loop (a b : List Int) (hl : a.length ≤ 9223372036854775807) : loopC (spec_MeetOf_l1 a b) (0, 0) = some (meet a b 0) := by
  obtain ⟨r, hr, hq⟩ := loopC_inv (f := spec_MeetOf_l1 a b) (fun s => ∃ (d : Int) (n : Nat), s = (d, (n : Int)) ∧ meet (a.drop n) (b.drop n) d = meet a b 0) (fun s => a.length - s.2.toNat) (fun r => r = meet a b 0) (by
    rintro s ⟨d, n, rfl, e⟩
    simp only [spec_MeetOf_l1]
    by_cases h1 : n < a.length
    · have ea : a[n]? = some a[n] := by simp [h1]
      have da : a.drop n = a[n] :: a.drop (n + 1) := List.drop_eq_getElem_cons h1
      rw [lt_ok ea]
      by_cases h2 : n < b.length
      · have eb : b[n]? = some b[n] := by simp [h2]
        have db : b.drop n = b[n] :: b.drop (n + 1) := List.drop_eq_getElem_cons h2
        rw [lt_ok eb]
        simp only [cond_true, at_ok ea, at_ok eb, Option.bind_some]
        rw [da, db] at e
        simp only [meet] at e
        by_cases hxy : a[n] = b[n]
        · right
          rw [if_pos hxy] at e
          rw [show (a[n] == b[n]) = true by simpa using hxy]
          simp only [cond_true, nx_ok ea hl]
          exact ⟨_, rfl, ⟨_, n + 1, rfl, e⟩, by simp; omega⟩
        · left
          rw [if_neg hxy] at e
          rw [show (a[n] == b[n]) = false by simpa using hxy]
          exact ⟨d, rfl, e⟩
      · left
        rw [show decide ((n : Int) < goLen b) = false by simp; omega]
        rw [List.drop_of_length_le (show b.length ≤ n by omega), da] at e
        exact ⟨d, rfl, e⟩
    · left
      rw [show decide ((n : Int) < goLen a) = false by simp; omega]
      rw [List.drop_of_length_le (show a.length ≤ n by omega)] at e
      exact ⟨d, rfl, by simpa [meet] using e⟩) (0, 0) ⟨0, 0, rfl, rfl⟩
  rw [hr, hq]

end Go.Gx.F
