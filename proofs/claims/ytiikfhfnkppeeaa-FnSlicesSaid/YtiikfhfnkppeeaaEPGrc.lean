/- Plain laws: cubes with joined indices. -/
import Derived.Test.YtiikfhfnkppeeaaEPSlc
namespace Go.Gx.F
open Go.Gx
set_option linter.all false

/-! ## group numbers -/
/-- the groups are 0 to n-1 -/
def Grp (l : List Int) (n : Nat) : Prop := 0 < n ∧ ∀ x : Int, x ∈ l ↔ 0 ≤ x ∧ x < n

theorem Grp.uniq {l : List Int} {n m : Nat} (h : Grp l n) (h' : Grp l m) : n = m := by
  have h1 := (h.2 ((n : Int) - 1)).2 ⟨by have := h.1; omega, by omega⟩
  have h2 := (h'.2 _).1 h1
  have h3 := (h'.2 ((m : Int) - 1)).2 ⟨by have := h'.1; omega, by omega⟩
  have h4 := (h.2 _).1 h3
  omega

theorem pigeon : ∀ (n : Nat) (l : List Int), (∀ y : Nat, y < n → (y : Int) ∈ l) → n ≤ l.length
  | 0, _, _ => Nat.zero_le _
  | n + 1, l, h => by
    have hm := h n (by omega)
    have ih := pigeon n (l.erase (n : Int)) fun y hy => by
      rw [List.mem_erase_of_ne (by omega)]
      exact h y (by omega)
    rw [List.length_erase_of_mem hm] at ih
    have := List.length_pos_of_mem hm
    omega

theorem contains_eq {l : List Int} {v : Int} (hl : l.length ≤ 1000000) : slices_Contains_int_int l v = some (decide (v ∈ l)) := by
  unfold slices_Contains_int_int slices_Index_int_int
  have key : ∀ (j k : Nat), k + j = l.length → v ∉ l.take k → ∃ r : Int, ((loopC (slices_Index_int_int_l1 l v) (k : Int)).bind fun | .inl () => some (-1) | .inr o => some o) = some r ∧ (0 ≤ r ↔ v ∈ l) := by
    intro j
    induction j with
    | zero =>
      intro k hk hv
      obtain rfl : k = l.length := by omega
      rw [List.take_length] at hv
      rw [loopC_eq]
      simp only [slices_Index_int_int_l1, lt_end, cond_false]
      exact ⟨-1, rfl, by simp [hv]⟩
    | succ j ih =>
      intro k hk hv
      have hx : l[k]? = some (l[k]'(by omega)) := by simp [show k < l.length by omega]
      generalize l[k]'(by omega) = x at hx
      rw [loopC_eq]
      simp only [slices_Index_int_int_l1, lt_ok hx, at_ok hx, cond_true, Option.bind_some]
      by_cases hvx : v = x
      · subst hvx
        simp only [beq_self_eq_true, cond_true]
        exact ⟨(k : Int), rfl, by simp only [List.mem_of_getElem? hx, iff_true]; omega⟩
      · rw [show (v == x) = false by simpa using hvx]
        simp only [cond_false, nx_ok hx (show l.length ≤ 9223372036854775807 by omega)]
        refine ih (k + 1) (by omega) ?_
        rw [List.take_add_one, hx, List.mem_append]
        rintro (h | h)
        · exact hv h
        · simp at h; exact hvx h
  obtain ⟨r, e, hr⟩ := key l.length 0 (by omega) (by simp)
  have e3 : slices_Index_int_int l v = some r := by unfold slices_Index_int_int; exact e
  unfold slices_Index_int_int at e3
  rw [e3, Option.bind_some]
  congr 1
  rw [decide_eq_decide]
  exact hr

theorem groupNumbers_eq {l : List Int} (hl : l.length ≤ 1000000) : ∃ n : Nat, impl_groupNumbers l = some (n : Int) ∧ (n ≠ 0 → Grp l n) ∧ (∀ m, Grp l m → n = m) := by
  unfold impl_groupNumbers
  -- the greatest
  have key : ∀ (j k n : Nat), k + j = l.length → (∀ x ∈ l.take k, 0 ≤ x ∧ x < l.length ∧ x < n) → (n = 0 ∨ ((n : Int) - 1) ∈ l) → n ≤ l.length →
      (∃ m : Nat, loopC (impl_groupNumbers_l1 l) ((n : Int), (k : Int)) = some (.inl (m : Int)) ∧ (∀ x ∈ l, 0 ≤ x ∧ x < m) ∧ (m = 0 ∨ ((m : Int) - 1) ∈ l) ∧ m ≤ l.length) ∨
      (loopC (impl_groupNumbers_l1 l) ((n : Int), (k : Int)) = some (.inr 0) ∧ ∃ x ∈ l, ¬ (0 ≤ x ∧ x < l.length)) := by
    intro j
    induction j with
    | zero =>
      intro k n hk hall hn hnl
      obtain rfl : k = l.length := by omega
      rw [List.take_length] at hall
      rw [loopC_eq]
      simp only [impl_groupNumbers_l1, lt_end, cond_false]
      exact .inl ⟨n, rfl, fun x hx => ⟨(hall x hx).1, (hall x hx).2.2⟩, hn, hnl⟩
    | succ j ih =>
      intro k n hk hall hn hnl
      have hx : l[k]? = some (l[k]'(by omega)) := by simp [show k < l.length by omega]
      generalize l[k]'(by omega) = x at hx
      have hmem := List.mem_of_getElem? hx
      rw [loopC_eq]
      simp only [impl_groupNumbers_l1, lt_ok hx, at_ok hx, cond_true, Option.bind_some]
      by_cases hr : 0 ≤ x ∧ x < l.length
      · rw [show decide (x < 0) = false by simp; omega, show decide (goLen l ≤ x) = false by simp [goLen]; omega]
        simp only [cond_false, Option.bind_some, nx_ok hx (show l.length ≤ 9223372036854775807 by omega)]
        rw [wid (n := x + 1) (by omega) (by omega)]
        obtain ⟨y, rfl⟩ := Int.eq_ofNat_of_zero_le hr.1
        rw [show max (n : Int) ((y : Int) + 1) = ((max n (y + 1) : Nat) : Int) by omega]
        refine ih (k + 1) (max n (y + 1)) (by omega) (fun z hz => ?_) ?_ (by omega)
        · rw [List.take_add_one, hx] at hz
          rcases List.mem_append.1 hz with h | h
          · have := hall z h; omega
          · simp at h; omega
        · by_cases hm : n ≤ y + 1
          · right
            rw [Nat.max_eq_right hm]
            have : ((y + 1 : Nat) : Int) - 1 = (y : Int) := by omega
            rw [this]; exact hmem
          · rw [Nat.max_eq_left (by omega)]
            exact hn
      · have e : (cond (decide (x < 0)) (some true) (some (decide (goLen l ≤ x))) : Option Bool) = some true := by
          by_cases h1 : x < 0
          · simp [h1]
          · have : goLen l ≤ x := by simp only [goLen]; omega
            simp [h1, this]
        rw [e]
        exact .inr ⟨rfl, x, hmem, hr⟩
  have hk := key l.length 0 0 (by omega) (by simp) (.inl rfl) (by omega)
  rw [show ((0 : Nat) : Int) = 0 from rfl] at hk
  rcases hk with ⟨m, e, hall, hm, hml⟩ | ⟨e, x, hx, hbad⟩
  · rw [e, Option.bind_some]
    -- all of them are there
    have key2 : ∀ (j k : Nat), k + j = m → (∀ y : Nat, y < k → (y : Int) ∈ l) → ∃ n : Nat, ((loopC (impl_groupNumbers_l2 l (m : Int)) (k : Int)).bind fun | .inl () => some (m : Int) | .inr o => some o) = some (n : Int) ∧ (n ≠ 0 → n = m ∧ ∀ y : Nat, y < m → (y : Int) ∈ l) ∧ ((∀ y : Nat, y < m → (y : Int) ∈ l) → n = m) := by
      intro j
      induction j with
      | zero =>
        intro k hk hall2
        obtain rfl : k = m := by omega
        rw [loopC_eq]
        simp only [impl_groupNumbers_l2]
        rw [show decide ((k : Int) < (k : Int)) = false by simp]
        exact ⟨k, rfl, fun _ => ⟨rfl, hall2⟩, fun _ => rfl⟩
      | succ j ih =>
        intro k hk hall2
        rw [loopC_eq]
        simp only [impl_groupNumbers_l2]
        rw [show decide ((k : Int) < (m : Int)) = true by simp; omega]
        simp only [cond_true, contains_eq hl, Option.bind_some]
        by_cases hkm : (k : Int) ∈ l
        · rw [decide_eq_true hkm]
          simp only [Bool.not_true, cond_false]
          rw [wid (n := (k : Int) + 1) (by omega) (by omega)]
          exact ih (k + 1) (by omega) fun y hy => by
            by_cases hyk : y = k
            · subst hyk; exact hkm
            · exact hall2 y (by omega)
        · rw [decide_eq_false hkm]
          exact ⟨0, rfl, fun h => absurd rfl h, fun h => absurd (h k (by omega)) hkm⟩
    obtain ⟨n, e2, h1, h2⟩ := key2 m 0 (by omega) (fun y hy => by omega)
    rw [show ((0 : Nat) : Int) = 0 from rfl] at e2
    refine ⟨n, e2, fun hn => ?_, fun p hp => ?_⟩
    · obtain ⟨rfl, hcov⟩ := h1 hn
      refine ⟨by omega, fun x => ⟨fun hx => hall x hx, fun hx => ?_⟩⟩
      obtain ⟨y, rfl⟩ := Int.eq_ofNat_of_zero_le hx.1
      exact hcov y (by omega)
    · have hmp : m = p := by
        have h3 := (hp.2 ((p : Int) - 1)).2 ⟨by have := hp.1; omega, by omega⟩
        have h4 := hall _ h3
        rcases hm with rfl | hm
        · omega
        · have := (hp.2 _).1 hm
          omega
      subst hmp
      exact h2 fun y hy => (hp.2 _).2 ⟨by omega, by omega⟩
  · rw [e]
    refine ⟨0, rfl, fun h => absurd rfl h, fun p hp => ?_⟩
    exfalso
    have h1 := (hp.2 x).1 hx
    have h2 := pigeon p l fun y hy => (hp.2 _).2 ⟨by omega, by omega⟩
    exact hbad ⟨h1.1, by omega⟩

/-- strictly increasing -/
def Inc (l : List Int) : Prop := ∀ (i j : Nat) (x y : Int), i < j → l[i]? = some x → l[j]? = some y → x < y

theorem lPut_eq {l : List Int} {v : Int} (hl : l.length ≤ 1000000) (hi : Inc l) : ∃ r, spec_l1Put l v = some r ∧ Inc r ∧ (∀ x, x ∈ r ↔ x ∈ l ∨ x = v) ∧ r.length ≤ l.length + 1 := by
  unfold spec_l1Put
  have hk : Tot (loopC (spec_l1Put_l1 l v) 0) fun r => ∃ k : Nat, r = (k : Int) ∧ k ≤ l.length ∧ (∀ i x, i < k → l[i]? = some x → x < v) ∧ (∀ x, l[k]? = some x → v ≤ x) := by
    refine tot_loop (fun t => ∃ k : Nat, t = (k : Int) ∧ k ≤ l.length ∧ (∀ i x, i < k → l[i]? = some x → x < v)) (fun t => l.length - t.toNat) ⟨0, rfl, by omega, fun i x hi => by omega⟩ ?_
    rintro t ⟨k, rfl, hk, hlt⟩
    simp only [spec_l1Put_l1]
    by_cases hkl : k < l.length
    · have hx : l[k]? = some l[k] := by simp [hkl]
      generalize l[k] = x at hx
      simp only [lt_ok hx, at_ok hx, cond_true, Option.bind_some, nx_ok hx (show l.length ≤ 9223372036854775807 by omega)]
      refine tot_cond (fun hc => tot_some ⟨⟨k + 1, rfl, by omega, fun i y hi hy => ?_⟩, by omega⟩) fun hc => tot_some ⟨k, rfl, by omega, hlt, fun y hy => ?_⟩
      · by_cases hik : i = k
        · subst hik
          rw [hx] at hy
          obtain rfl := Option.some.inj hy
          simpa using hc
        · exact hlt i y (by omega) hy
      · rw [hx] at hy
        obtain rfl := Option.some.inj hy
        simpa using hc
    · obtain rfl : k = l.length := by omega
      rw [lt_end]
      simp only [cond_false, Option.bind_some]
      exact tot_some ⟨l.length, rfl, by omega, hlt, fun x hx => by simp at hx⟩
  obtain ⟨r, e, k, rfl, hkl, h1, h2⟩ := hk
  rw [e, Option.bind_some]
  have hins : ∀ hne : l[k]? ≠ some v, Inc (l.take k ++ [v] ++ l.drop k) ∧ ∀ x, x ∈ (l.take k ++ [v] ++ l.drop k) ↔ x ∈ l ∨ x = v := by
    intro hne
    have hget : ∀ i : Nat, (l.take k ++ [v] ++ l.drop k)[i]? = if i < k then l[i]? else if i = k then some v else l[i - 1]? := by
      intro i
      rw [List.append_assoc]
      by_cases h : i < k
      · rw [if_pos h, List.getElem?_append_left (by simp; omega), List.getElem?_take_of_lt h]
      · rw [if_neg h, List.getElem?_append_right (by simp; omega)]
        simp only [List.length_take, Nat.min_eq_left hkl]
        by_cases h3 : i = k
        · subst h3; simp
        · rw [if_neg h3]
          obtain ⟨m, hm⟩ : ∃ m, i = k + (m + 1) := ⟨i - k - 1, by omega⟩
          subst hm
          simp [List.getElem?_drop]
    constructor
    · intro i j x y hij hx hy
      rw [hget] at hx hy
      by_cases hi1 : i < k
      · rw [if_pos hi1] at hx
        by_cases hj1 : j < k
        · rw [if_pos hj1] at hy; exact hi i j x y hij hx hy
        · rw [if_neg hj1] at hy
          by_cases hj2 : j = k
          · rw [if_pos hj2] at hy
            obtain rfl := Option.some.inj hy
            exact h1 i x hi1 hx
          · rw [if_neg hj2] at hy
            exact hi i (j - 1) x y (by omega) hx hy
      · rw [if_neg hi1] at hx
        have hj1 : ¬ j < k := by omega
        have hj2 : ¬ j = k := by omega
        rw [if_neg hj1, if_neg hj2] at hy
        by_cases hi2 : i = k
        · rw [if_pos hi2] at hx
          obtain rfl := Option.some.inj hx
          have hjl := (List.getElem?_eq_some_iff.1 hy).1
          have hz : l[k]? = some (l[k]'(by omega)) := by simp [show k < l.length by omega]
          generalize l[k]'(by omega) = z at hz
          have h3 := h2 z hz
          have h4 : z ≠ v := fun hh => hne (by rw [hz, hh])
          by_cases hjk : j - 1 = k
          · rw [hjk, hz] at hy
            obtain rfl := Option.some.inj hy
            omega
          · have := hi k (j - 1) z y (by omega) hz hy
            omega
        · rw [if_neg hi2] at hx
          exact hi (i - 1) (j - 1) x y (by omega) hx hy
    · intro x
      rw [List.mem_append, List.mem_append]
      constructor
      · rintro ((h | h) | h)
        · exact .inl (List.mem_of_mem_take h)
        · simp at h; exact .inr h
        · exact .inl (List.mem_of_mem_drop h)
      · rintro (h | h)
        · rw [← List.take_append_drop k l, List.mem_append] at h
          exact h.elim (fun h => .inl (.inl h)) .inr
        · exact .inl (.inr (by simp [h]))
  by_cases hlt : k < l.length
  · have hx : l[k]? = some l[k] := by simp [hlt]
    generalize l[k] = z at hx
    simp only [lt_ok hx, at_ok hx, cond_true, Option.bind_some]
    by_cases hzv : z = v
    · subst hzv
      simp only [beq_self_eq_true, cond_true]
      refine ⟨l, rfl, hi, fun x => ⟨.inl, fun h => h.elim id fun h => by rw [h]; exact List.mem_of_getElem? hx⟩, by omega⟩
    · rw [show (z == v) = false by simpa using hzv]
      simp only [cond_false]
      obtain ⟨a1, a2⟩ := hins (by rw [hx]; exact fun h => hzv (Option.some.inj h))
      rw [goSub_take hx, Option.bind_some, goApp_ok (by simp; omega), Option.bind_some, goApp_ok (by simp; omega), Option.bind_some, goSub_drop (by omega), Option.bind_some, goApp_ok (by simp; omega)]
      exact ⟨_, rfl, by simpa using a1, by simpa using a2, by simp; omega⟩
  · obtain rfl : k = l.length := by omega
    rw [lt_end]
    simp only [cond_false, Option.bind_some]
    obtain ⟨a1, a2⟩ := hins (by simp)
    have hs : goSub l 0 (l.length : Int) = some l := by
      unfold goSub
      simp
    rw [hs, Option.bind_some, goApp_ok (by simp; omega), Option.bind_some, goApp_ok (by simp; omega), Option.bind_some, goSub_drop (by omega), Option.bind_some, goApp_ok (by simp; omega)]
    exact ⟨_, rfl, by simpa using a1, by simpa using a2, by simp⟩

theorem Inc.lo {l : List Int} (h : Inc l) (h0 : ∀ x ∈ l, 0 ≤ x) : ∀ (k : Nat) (x : Int), l[k]? = some x → (k : Int) ≤ x
  | 0, x, hx => h0 x (List.mem_of_getElem? hx)
  | k + 1, x, hx => by
    have hlt := (List.getElem?_eq_some_iff.1 hx).1
    have hy : l[k]? = some (l[k]'(by omega)) := by simp [show k < l.length by omega]
    have h1 := Inc.lo h h0 k _ hy
    have h2 := h k (k + 1) _ x (by omega) hy hx
    omega

theorem Inc.hi {l : List Int} (h : Inc l) {n : Nat} {z : Int} (hz : l[n]? = some z) : ∀ (j k : Nat) (x : Int), k + j = n → l[k]? = some x → x + j ≤ z
  | 0, k, x, hk, hx => by
    obtain rfl : k = n := by omega
    rw [hz] at hx
    obtain rfl := Option.some.inj hx
    omega
  | j + 1, k, x, hk, hx => by
    have hlt := (List.getElem?_eq_some_iff.1 hz).1
    have hy : l[k + 1]? = some (l[k + 1]'(by omega)) := by simp [show k + 1 < l.length by omega]
    have h1 := Inc.hi h hz j (k + 1) _ (by omega) hy
    have h2 := h k (k + 1) x _ (by omega) hx hy
    omega

theorem cbGroups_eq {l : List Int} (hl : l.length ≤ 1000) : ∃ n : Nat, spec_cbGroups l = some (n : Int) ∧ (n ≠ 0 → Grp l n) ∧ (∀ m, Grp l m → n = m) := by
  unfold spec_cbGroups
  have hk : Tot (loopC (spec_cbGroups_l1 l) ([], 0)) fun r => Inc r ∧ (∀ x, x ∈ r ↔ x ∈ l) ∧ r.length ≤ l.length := by
    refine tot_loop (fun t => ∃ k : Nat, t.2 = (k : Int) ∧ k ≤ l.length ∧ Inc t.1 ∧ (∀ x, x ∈ t.1 ↔ x ∈ l.take k) ∧ t.1.length ≤ k) (fun t => l.length - t.2.toNat) ⟨0, rfl, by omega, fun i j x y _ hx => by simp at hx, by simp, by simp⟩ ?_
    rintro ⟨met, t⟩ ⟨k, rfl, hk, hi, hm, hml⟩
    simp only at hi hm hml
    simp only [spec_cbGroups_l1]
    by_cases hkl : k < l.length
    · have hx : l[k]? = some l[k] := by simp [hkl]
      generalize l[k] = x at hx
      obtain ⟨r, e, h1, h2, h3⟩ := lPut_eq (l := met) (v := x) (by omega) hi
      simp only [lt_ok hx, at_ok hx, cond_true, Option.bind_some, nx_ok hx (show l.length ≤ 9223372036854775807 by omega), e]
      refine tot_some ⟨⟨k + 1, rfl, by omega, h1, fun y => ?_, by simp only; omega⟩, by simp only; omega⟩
      rw [h2, hm, List.take_add_one, hx, List.mem_append]
      simp
    · obtain rfl : k = l.length := by omega
      rw [lt_end, cond_false]
      rw [List.take_length] at hm
      exact tot_some ⟨hi, hm, hml⟩
  obtain ⟨met, e, hi, hm, hml⟩ := hk
  rw [e, Option.bind_some]
  by_cases h0 : met.length = 0
  · rw [show (goLen met == 0) = true by simp [goLen, h0]]
    refine ⟨0, rfl, fun h => absurd rfl h, fun m hg => ?_⟩
    exfalso
    have h1 := (hm 0).2 ((hg.2 0).2 ⟨by omega, by have := hg.1; omega⟩)
    have := List.length_pos_of_mem h1
    omega
  · rw [show (goLen met == 0) = false by simp [goLen]; intro h; exact h0 (by rw [h]; rfl)]
    have hx0 : met[0]? = some (met[0]'(by omega)) := by simp [show 0 < met.length by omega]
    have hxl : met[met.length - 1]? = some (met[met.length - 1]'(by omega)) := by simp [show met.length - 1 < met.length by omega]
    generalize met[0]'(by omega) = a at hx0
    generalize met[met.length - 1]'(by omega) = z at hxl
    have ea : goAt met 0 = some a := by have := at_ok hx0; simpa using this
    have ez : goAt met (w64 (goLen met - 1)) = some z := by
      simp only [goLen]
      rw [wid (by omega) (by omega), show (met.length : Int) - 1 = ((met.length - 1 : Nat) : Int) by omega]
      exact at_ok hxl
    simp only [cond_false, ea, ez, Option.bind_some]
    have hw : w64 (goLen met - 1) = (met.length : Int) - 1 := wid (by simp only [goLen]; omega) (by simp only [goLen]; omega)
    rw [hw]
    have hchain := Inc.hi hi hxl (met.length - 1) 0 a (by omega) hx0
    by_cases hg : a = 0 ∧ z = (met.length : Int) - 1
    · obtain ⟨rfl, rfl⟩ := hg
      simp only [bne_self_eq_false, cond_false, Option.bind_some]
      have hnn : ∀ x ∈ met, (0 : Int) ≤ x := by
        intro x hx
        obtain ⟨k, hk⟩ := List.getElem?_of_mem hx
        by_cases hk0 : k = 0
        · subst hk0; rw [hx0] at hk; obtain rfl := Option.some.inj hk; omega
        · have := hi 0 k 0 x (by omega) hx0 hk; omega
      have hG : Grp l met.length := by
        refine ⟨by omega, fun x => ?_⟩
        rw [← hm]
        constructor
        · intro hx
          obtain ⟨k, hk⟩ := List.getElem?_of_mem hx
          have hkl := (List.getElem?_eq_some_iff.1 hk).1
          have h1 := hnn x hx
          have h2 := Inc.hi hi hxl (met.length - 1 - k) k x (by omega) hk
          omega
        · rintro ⟨h1, h2⟩
          obtain ⟨k, rfl⟩ := Int.eq_ofNat_of_zero_le h1
          have hk : met[k]? = some (met[k]'(by omega)) := by simp [show k < met.length by omega]
          have h3 := Inc.lo hi hnn k _ hk
          have h4 := Inc.hi hi hxl (met.length - 1 - k) k _ (by omega) hk
          have h5 : met[k]'(by omega) = (k : Int) := by omega
          rw [← h5]
          exact List.getElem_mem _
      exact ⟨met.length, rfl, fun _ => hG, fun m hmm => hG.uniq hmm⟩
    · have e2 : (cond (a != 0) (some true) (some (z != (met.length : Int) - 1)) : Option Bool) = some true := by
        by_cases ha : a = 0
        · have hz : z ≠ (met.length : Int) - 1 := fun h => hg ⟨ha, h⟩
          rw [show (a != 0) = false by simpa using ha, show (z != (met.length : Int) - 1) = true by simpa using hz]
          rfl
        · rw [show (a != 0) = true by simpa using ha]
          rfl
      rw [e2]
      refine ⟨0, rfl, fun h => absurd rfl h, fun m hgm => ?_⟩
      exfalso
      apply hg
      have hnn : ∀ x ∈ met, (0 : Int) ≤ x := fun x hx => ((hgm.2 x).1 ((hm x).1 hx)).1
      have hp := pigeon m met fun y hy => (hm _).2 ((hgm.2 _).2 ⟨by omega, by omega⟩)
      have h1 := (hgm.2 z).1 ((hm z).1 (List.mem_of_getElem? hxl))
      have h2 := hnn a (List.mem_of_getElem? hx0)
      have h3 := Inc.lo hi hnn _ _ hxl
      omega

theorem groups_same {l : List Int} (hl : l.length ≤ 1000) : ∃ n : Nat, impl_groupNumbers l = some (n : Int) ∧ spec_cbGroups l = some (n : Int) ∧ (n ≠ 0 → Grp l n) ∧ n ≤ l.length := by
  obtain ⟨n, e1, h1, h2⟩ := groupNumbers_eq (l := l) (by omega)
  obtain ⟨m, e2, h3, h4⟩ := cbGroups_eq hl
  have hnm : n = m := by
    by_cases hn : n = 0
    · by_cases hm : m = 0
      · omega
      · exact h2 _ (h3 hm)
    · exact (h4 _ (h1 hn)).symm
  subst hnm
  refine ⟨n, e1, e2, h1, ?_⟩
  by_cases hn : n = 0
  · omega
  · exact pigeon n l fun y hy => ((h1 hn).2 _).2 ⟨by omega, by omega⟩

end Go.Gx.F
