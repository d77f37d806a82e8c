/- Plain laws: trees that are given by the parents. -/
import Derived.Test.YtnmimeojimfogaaBPLst

namespace Go.Gx.F

open Go.Gx

set_option linter.all false

theorem w64_in {n : Int} (h1 : -9223372036854775808 ≤ n) (h2 : n ≤ 9223372036854775807) : w64 n = n := wid h1 h2

theorem spec_l1In_eq (n lo hi : Int) : spec_l1In n lo hi = some (decide (lo ≤ n ∧ n ≤ hi)) := lIn_eq n lo hi

def par (p : List Int) (i : Nat) : Nat := (p.getD i 0).toNat

def okFrom : Nat → List Int → Bool
  | _, [] => true
  | k, x :: l => decide (0 ≤ x) && decide (x < (k : Int)) && okFrom (k + 1) l

theorem okFrom_at : ∀ {l : List Int} {k : Nat}, okFrom k l = true → ∀ (j : Nat) (x : Int), l[j]? = some x → 0 ≤ x ∧ x < ((k + j : Nat) : Int)
  | [], k, h, j, x, hj => by simp at hj
  | y :: l, k, h, j, x, hj => by
    simp only [okFrom, Bool.and_eq_true, decide_eq_true_eq] at h
    cases j with
    | zero => simp at hj; subst hj; exact ⟨h.1.1, by have := h.1.2; omega⟩
    | succ j =>
      have := okFrom_at h.2 j x (by simpa using hj)
      exact ⟨this.1, by have := this.2; omega⟩

def gok (p : List Int) : Bool := decide (1 ≤ p.length) && decide (p.length ≤ 30) && (p[0]? == some (-1)) && okFrom 1 (p.drop 1)

structure GeoOk (p : List Int) : Prop where
  l1 : 1 ≤ p.length
  l2 : p.length ≤ 30
  rt : p[0]? = some (-1)
  up : ∀ (k : Nat) (x : Int), p[k]? = some x → 0 < k → 0 ≤ x ∧ x < (k : Int)

theorem gok_ok {p : List Int} (h : gok p = true) : GeoOk p := by
  simp only [gok, Bool.and_eq_true, decide_eq_true_eq, beq_iff_eq] at h
  refine ⟨h.1.1.1, h.1.1.2, h.1.2, fun k x hk h0 => ?_⟩
  obtain ⟨j, rfl⟩ : ∃ j, k = 1 + j := ⟨k - 1, by omega⟩
  exact okFrom_at h.2 j x (by rw [List.getElem?_drop]; exact hk)

theorem par_at {p : List Int} (h : GeoOk p) {i : Nat} (hi : i < p.length) (h0 : 0 < i) : p[i]? = some (par p i : Int) ∧ par p i < i := by
  have e : p[i]? = some p[i] := by simp [hi]
  have hu := h.up i _ e h0
  have ep : (par p i : Int) = p[i] := by
    unfold par
    rw [List.getD_eq_getElem?_getD, e, Option.getD_some]
    exact Int.toNat_of_nonneg hu.1
  rw [e, ep]
  exact ⟨rfl, by omega⟩

def gpath (p : List Int) (i : Nat) : List Int := if h : 0 < i ∧ par p i < i then gpath p (par p i) ++ [(i : Int)] else [(i : Int)]
termination_by i
decreasing_by exact h.2

theorem gpath_zero (p : List Int) : gpath p 0 = [0] := by rw [gpath]; rfl

theorem gpath_up {p : List Int} (h : GeoOk p) {i : Nat} (hi : i < p.length) (h0 : 0 < i) : gpath p i = gpath p (par p i) ++ [(i : Int)] := by
  rw [gpath, dif_pos ⟨h0, (par_at h hi h0).2⟩]

theorem gpath_len (p : List Int) (i : Nat) : 1 ≤ (gpath p i).length ∧ (gpath p i).length ≤ i + 1 := by
  induction i using Nat.strongRecOn with
  | _ i ih =>
    rw [gpath]
    split
    · rename_i h
      have := ih _ h.2
      simp
      omega
    · simp

theorem gpath_last (p : List Int) (i : Nat) : (gpath p i).getLast? = some (i : Int) := by
  rw [gpath]
  split <;> simp

theorem gpath_at {p : List Int} (h : GeoOk p) (i : Nat) (hi : i < p.length) : ∀ (k : Nat) (a : Int), (gpath p i)[k]? = some a → ∃ n : Nat, n ≤ i ∧ a = (n : Int) ∧ gpath p n = (gpath p i).take (k + 1) ∧ (gpath p n).length = k + 1 := by
  induction i using Nat.strongRecOn with
  | _ i ih =>
    intro k a hk
    by_cases h0 : 0 < i
    · have hp := (par_at h hi h0).2
      have e := gpath_up h hi h0
      by_cases hlt : k < (gpath p (par p i)).length
      · rw [e, List.getElem?_append_left hlt] at hk
        obtain ⟨n, n1, n2, n3, n4⟩ := ih _ hp (by omega) k a hk
        exact ⟨n, by omega, n2, by rw [e, List.take_append_of_le_length (by omega)]; exact n3, n4⟩
      · have hl : k < (gpath p i).length := (List.getElem?_eq_some_iff.1 hk).1
        have hl2 : (gpath p i).length = (gpath p (par p i)).length + 1 := by rw [e]; simp
        have hke : k = (gpath p (par p i)).length := by omega
        rw [e, List.getElem?_append_right (by omega), hke] at hk
        simp at hk
        exact ⟨i, by omega, hk.symm, by rw [List.take_of_length_le (by omega)], by omega⟩
    · have : i = 0 := by omega
      subst this
      rw [gpath_zero] at hk ⊢
      cases k with
      | zero => simp at hk; exact ⟨0, by omega, by simp [← hk], by rw [gpath_zero]; rfl, by rw [gpath_zero]; rfl⟩
      | succ k => simp at hk

theorem gpath_le {p : List Int} (h : GeoOk p) {i : Nat} (hi : i < p.length) {a : Int} (ha : a ∈ gpath p i) : 0 ≤ a ∧ a ≤ (i : Int) := by
  obtain ⟨k, hk, e⟩ := List.getElem_of_mem ha
  obtain ⟨n, n1, n2, _, _⟩ := gpath_at h i hi k a (by rw [List.getElem?_eq_getElem hk, e])
  omega

/-! ## what is good -/

theorem impl_IsGeo_loop (g : impl_Geo) (hl : g.Parents.length ≤ 30) : ∀ (l : List Int) (k : Nat), g.Parents.drop k = l → k ≤ g.Parents.length → loopC (impl_IsGeo_l1 g) (k : Int) = some (if okFrom k l then .inl () else .inr false)
  | [], k, hd, hk => by
    have : k = g.Parents.length := by have := congrArg List.length hd; simp at this; omega
    subst this
    rw [loopC_eq]
    simp only [impl_IsGeo_l1, lt_end, cond_false, okFrom, if_true]
  | x :: l, k, hd, hk => by
    have hx : g.Parents[k]? = some x := by rw [← List.head?_drop, hd]; rfl
    have hlt := (List.getElem?_eq_some_iff.1 hx).1
    have ih := impl_IsGeo_loop g hl l (k + 1) (by rw [← List.drop_drop, hd]; rfl) (by omega)
    rw [loopC_eq]
    simp only [impl_IsGeo_l1, lt_ok hx, at_ok hx, cond_true, Option.bind_some, nx_ok hx (by omega)]
    by_cases h1 : x < 0
    · rw [decide_eq_true h1]
      simp only [cond_true, Option.bind_some, okFrom, decide_eq_false (show ¬ 0 ≤ x by omega), Bool.false_and]
      rfl
    · rw [decide_eq_false h1]
      by_cases h2 : (k : Int) ≤ x
      · rw [decide_eq_true h2]
        simp only [cond_true, cond_false, Option.bind_some, okFrom, decide_eq_false (show ¬ x < (k : Int) by omega), Bool.and_false, Bool.false_and]
        rfl
      · rw [decide_eq_false h2]
        simp only [cond_false, Option.bind_some, okFrom, decide_eq_true (show 0 ≤ x by omega), decide_eq_true (show x < (k : Int) by omega), Bool.true_and]
        exact ih

theorem impl_IsGeo_eq (g : impl_Geo) : impl_IsGeo g = some (gok g.Parents) := by
  unfold impl_IsGeo
  by_cases h1 : goLen g.Parents < 1
  · rw [decide_eq_true h1]
    simp only [goLen] at h1
    simp only [cond_true, Option.bind_some, gok, decide_eq_false (show ¬ 1 ≤ g.Parents.length by omega), Bool.false_and]
  · rw [decide_eq_false h1]
    simp only [goLen] at h1
    by_cases h2 : 30 < goLen g.Parents
    · rw [decide_eq_true h2]
      simp only [goLen] at h2
      simp only [cond_true, cond_false, Option.bind_some, gok, decide_eq_false (show ¬ g.Parents.length ≤ 30 by omega), Bool.false_and, Bool.and_false]
    · rw [decide_eq_false h2]
      simp only [goLen] at h2
      have e : g.Parents[0]? = some (g.Parents[0]'(by omega)) := List.getElem?_eq_getElem (by omega)
      have e2 : goAt g.Parents 0 = some (g.Parents[0]'(by omega)) := at_ok (k := 0) e
      rw [e2]
      simp only [cond_false, Option.bind_some, gok, e, decide_eq_true (show 1 ≤ g.Parents.length by omega), decide_eq_true (show g.Parents.length ≤ 30 by omega), Bool.true_and]
      generalize g.Parents[0]'(by omega) = x
      by_cases h3 : x = -1
      · subst h3
        simp only [bne_self_eq_false, cond_false]
        have := impl_IsGeo_loop g (by omega) _ 1 rfl (by omega)
        rw [show ((1 : Nat) : Int) = 1 from rfl] at this
        rw [this]
        cases okFrom 1 (g.Parents.drop 1) <;> rfl
      · have hb : (x != -1) = true := by simpa using h3
        have hb2 : (some x == some (-1)) = false := by simpa using h3
        simp only [hb, hb2, cond_true, Bool.false_and]

theorem spec_gGood_loop (g : impl_Geo) (hl : g.Parents.length ≤ 30) : ∀ (l : List Int) (k : Nat), 0 < k → g.Parents.drop k = l → k ≤ g.Parents.length → loopC (spec_gGood_l1 g) (k : Int) = some (if okFrom k l then .inl () else .inr false)
  | [], k, h0, hd, hk => by
    have : k = g.Parents.length := by have := congrArg List.length hd; simp at this; omega
    subst this
    rw [loopC_eq]
    simp only [spec_gGood_l1, lt_end, cond_false, okFrom, if_true]
  | x :: l, k, h0, hd, hk => by
    have hx : g.Parents[k]? = some x := by rw [← List.head?_drop, hd]; rfl
    have hlt := (List.getElem?_eq_some_iff.1 hx).1
    have ih := spec_gGood_loop g hl l (k + 1) (by omega) (by rw [← List.drop_drop, hd]; rfl) (by omega)
    rw [loopC_eq]
    have w : w64 ((k : Int) - 1) = (k : Int) - 1 := w64_in (by omega) (by omega)
    have e : (decide (x ≤ (k : Int) - 1)) = decide (x < (k : Int)) := by simp only [decide_eq_decide]; omega
    simp only [spec_gGood_l1, lt_ok hx, at_ok hx, cond_true, Option.bind_some, nx_ok hx (by omega), decide_eq_true (show 0 < (k : Int) by omega), spec_l1In_eq, w, Bool.decide_and, e]
    rw [show okFrom k (x :: l) = (decide (0 ≤ x) && decide (x < (k : Int)) && okFrom (k + 1) l) from rfl]
    generalize (decide (0 ≤ x) && decide (x < (k : Int))) = b
    cases b with
    | true => simp only [Bool.not_true, cond_false, Bool.true_and]; exact ih
    | false => rfl

theorem spec_gGood_eq (g : impl_Geo) : spec_gGood g = some (gok g.Parents) := by
  unfold spec_gGood
  rw [spec_l1In_eq, Option.bind_some, Bool.decide_and]
  have e1 : decide (1 ≤ goLen g.Parents) = decide (1 ≤ g.Parents.length) := by simp only [goLen, decide_eq_decide]; omega
  have e2 : decide (goLen g.Parents ≤ 30) = decide (g.Parents.length ≤ 30) := by simp only [goLen, decide_eq_decide]; omega
  rw [e1, e2]
  unfold gok
  cases hb : (decide (1 ≤ g.Parents.length) && decide (g.Parents.length ≤ 30)) with
  | false => rfl
  | true =>
    simp only [Bool.and_eq_true, decide_eq_true_eq] at hb
    have e : g.Parents[0]? = some (g.Parents[0]'(by omega)) := List.getElem?_eq_getElem (by omega)
    have ea : goAt g.Parents 0 = some (g.Parents[0]'(by omega)) := at_ok (k := 0) e
    rw [ea]
    simp only [Bool.not_true, cond_false, Option.bind_some, e, Bool.true_and]
    generalize hy : g.Parents[0]'(by omega) = x
    by_cases h3 : x = -1
    · subst h3
      simp only [bne_self_eq_false, cond_false]
      have hx : g.Parents[0]? = some (-1) := by rw [e, hy]
      have hl := spec_gGood_loop g hb.2 _ 1 (by omega) rfl (by omega)
      have h0 : loopC (spec_gGood_l1 g) 0 = loopC (spec_gGood_l1 g) ((1 : Nat) : Int) := by
        rw [loopC_eq]
        have a1 := lt_ok hx; have a2 := at_ok hx
        rw [show ((0 : Nat) : Int) = 0 from rfl] at a1 a2
        simp only [spec_gGood_l1, a1, a2, cond_true, Option.bind_some, Int.lt_irrefl, decide_false, cond_false, show w64 (0 + 1) = ((1 : Nat) : Int) from rfl]
      rw [h0, hl]
      cases okFrom 1 (g.Parents.drop 1) <;> rfl
    · have h4 : (x != -1) = true := by simpa using h3
      have h5 : (some x == some (-1)) = false := by simpa using h3
      simp only [h4, h5, cond_true, Bool.false_and]

theorem impl_depthOf_eq {g : impl_Geo} (h : GeoOk g.Parents) {i : Nat} (hi : i < g.Parents.length) : impl_depthOf g (i : Int) = some (((gpath g.Parents i).length - 1 : Nat) : Int) := by
  unfold impl_depthOf
  obtain ⟨r, hr, hq⟩ := loopC_inv (f := impl_depthOf_l1 g) (fun s => ∃ k d : Nat, s = ((k : Int), (d : Int)) ∧ k < g.Parents.length ∧ d + (gpath g.Parents k).length = (gpath g.Parents i).length) (fun s => s.1.toNat) (fun r => r = ((gpath g.Parents i).length - 1 : Nat)) (by
    rintro s ⟨k, d, rfl, hk, hd⟩
    have hl := gpath_len g.Parents i; have hl2 := h.l2
    simp only [impl_depthOf_l1]
    by_cases h0 : 0 < k
    · right
      have hp := par_at h hk h0
      rw [decide_eq_true (show 0 < (k : Int) by omega), at_ok hp.1, show w64 ((d : Int) + 1) = ((d + 1 : Nat) : Int) from (w64_in (by omega) (by omega)).trans (by omega)]
      have e := gpath_up h hk h0
      exact ⟨_, rfl, ⟨par g.Parents k, d + 1, rfl, by omega, by rw [e] at hd; simp at hd; omega⟩, by simp; omega⟩
    · left
      have : k = 0 := by omega
      subst this
      rw [gpath_zero] at hd
      simp only [List.length_cons, List.length_nil] at hd
      refine ⟨(d : Int), rfl, ?_⟩
      omega) ((i : Int), 0) ⟨i, 0, rfl, hi, by omega⟩
  rw [hr, hq]
  rfl

theorem spec_gDepth_eq {g : impl_Geo} (h : GeoOk g.Parents) {i : Nat} (hi : i < g.Parents.length) : spec_gDepth g (i : Int) = some (((gpath g.Parents i).length - 1 : Nat) : Int) := by
  unfold spec_gDepth
  obtain ⟨r, hr, hq⟩ := loopC_inv (f := spec_gDepth_l1 g) (fun s => ∃ k d : Nat, s = ((k : Int), (d : Int)) ∧ k < g.Parents.length ∧ d + (gpath g.Parents k).length = (gpath g.Parents i).length) (fun s => s.1.toNat) (fun r => r = ((gpath g.Parents i).length - 1 : Nat)) (by
    rintro s ⟨k, d, rfl, hk, hd⟩
    have hl := gpath_len g.Parents i; have hl2 := h.l2
    simp only [spec_gDepth_l1]
    by_cases h0 : 0 < k
    · right
      have hp := par_at h hk h0
      simp only [at_ok hp.1, Option.bind_some, decide_eq_true (show 0 ≤ (par g.Parents k : Int) by omega), cond_true, show w64 ((d : Int) + 1) = ((d + 1 : Nat) : Int) from (w64_in (by omega) (by omega)).trans (by omega)]
      have e := gpath_up h hk h0
      exact ⟨_, rfl, ⟨par g.Parents k, d + 1, rfl, by omega, by rw [e] at hd; simp at hd; omega⟩, by simp; omega⟩
    · left
      have : k = 0 := by omega
      subst this
      rw [gpath_zero] at hd
      simp only [List.length_cons, List.length_nil] at hd
      rw [at_ok h.rt]
      refine ⟨(d : Int), rfl, ?_⟩
      omega) ((i : Int), 0) ⟨i, 0, rfl, hi, by omega⟩
  rw [hr, hq]
  rfl

end Go.Gx.F
