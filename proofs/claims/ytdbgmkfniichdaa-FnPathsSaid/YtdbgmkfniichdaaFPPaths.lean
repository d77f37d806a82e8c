/- The law of paths. -/
import Derived.Test.YtdbgmkfniichdaaFPTree
import Derived.Test.YtdbgmkfniichdaaFPDraw
namespace Go.Gx.F
open Go.Gx
set_option linter.all false

theorem DrawDepthOf_ok {code : List (K .u8)} (ho : ∀ x ∈ code, Rng.ok x) : ∃ p, spec_DrawDepthOf code = some p := by
  obtain ⟨g, c1, e1, l1, k1⟩ := anyGeo_ok (n := 100) ((cur_start ho).le (by omega))
  obtain ⟨x, c2, e2, k2⟩ := anArea_ok (n := 10) (g := g) (k1.le (by omega)) (by omega)
  exact ⟨(g, x), by simp only [spec_DrawDepthOf, e1, e2, Option.bind_some]⟩

theorem DrawPathTo_ok {code : List (K .u8)} (ho : ∀ x ∈ code, Rng.ok x) : ∃ p, spec_DrawPathTo code = some p := by
  obtain ⟨p, e⟩ := DrawDepthOf_ok ho
  exact ⟨p, by simp only [spec_DrawPathTo, e, Option.bind_some]⟩

theorem DrawMeetOf_ok {code : List (K .u8)} (ho : ∀ x ∈ code, Rng.ok x) : ∃ p, spec_DrawMeetOf code = some p := by
  obtain ⟨g, c1, e1, l1, k1⟩ := anyGeo_ok (n := 100) ((cur_start ho).le (by omega))
  obtain ⟨x, c2, e2, k2⟩ := anArea_ok (n := 50) (g := g) (k1.le (by omega)) (by omega)
  obtain ⟨y, c3, e3, k3⟩ := anArea_ok (n := 10) (g := g) (k2.le (by omega)) (by omega)
  exact ⟨(g, x, y), by simp only [spec_DrawMeetOf, e1, e2, e3, Option.bind_some]⟩

/-- both paths -/
def pathOf (p : List Int) (i : Int) : List Int × Bool := if area p i then (gpath p i.toNat, true) else ([], false)

theorem impl_PathTo_eq (g : impl_Geo) (i : Int) : impl_PathTo g i = some (pathOf g.Parents i) := by
  unfold impl_PathTo
  rw [impl_area]
  unfold pathOf
  cases h : area g.Parents i with
  | false => rfl
  | true =>
    obtain ⟨ho, n, rfl, hn⟩ := area_ok h
    simp only [Bool.not_true, cond_false, impl_pathTo_eq ho hn, Option.bind_some, if_true]
    rfl

theorem spec_PathTo_eq (g : impl_Geo) (i : Int) : spec_PathTo g i = some (pathOf g.Parents i) := by
  unfold spec_PathTo
  rw [spec_gArea_eq, Option.bind_some]
  unfold pathOf
  cases h : area g.Parents i with
  | false => rfl
  | true =>
    obtain ⟨ho, n, rfl, hn⟩ := area_ok h
    simp only [Bool.not_true, cond_false, spec_gPath_eq ho hn, Option.bind_some, if_true]
    rfl

theorem laws_sameInts_self (l : List Int) (hl : l.length ≤ 9223372036854775807) : laws_sameInts l l = some true := by
  unfold laws_sameInts
  rw [bne_self_eq_false, cond_false]
  have h := loop_all (l := l) (fun _ => true) (laws_sameInts_l1 l l) (fun k x hx => by
    simp only [laws_sameInts_l1, lt_ok hx, at_ok hx, cond_true, Option.bind_some, bne_self_eq_false, cond_false, nx_ok hx hl, if_true]) (fun _ => by simp only [laws_sameInts_l1, lt_end, cond_false])
  rw [h]
  simp

/-- the meeting area -/
def meetOf (p : List Int) (i k : Int) : Int × Bool := if area p i && area p k then (meet (gpath p i.toNat) (gpath p k.toNat) 0, true) else (0, false)

theorem meetOf_comm (p : List Int) (i k : Int) : meetOf p i k = meetOf p k i := by
  unfold meetOf
  rw [Bool.and_comm, meet_comm]

theorem impl_MeetOf_eq (g : impl_Geo) (i k : Int) : impl_MeetOf g i k = some (meetOf g.Parents i k) := by
  unfold impl_MeetOf
  have e : (((impl_IsGeo g).bind fun t_3 => (cond (!t_3) (some true) ((impl_isArea g i).bind fun t_4 => (cond (!t_4) (some true) ((impl_isArea g k).bind fun t_5 => some (!t_5)))))) : Option (Bool)) = some (!(area g.Parents i && area g.Parents k)) := by
    rw [impl_IsGeo_eq, Option.bind_some, impl_isArea_eq, impl_isArea_eq]
    unfold area goLen
    cases gok g.Parents with
    | false => rfl
    | true =>
      generalize (decide (0 ≤ i) && decide (i < (g.Parents.length : Int))) = u
      generalize (decide (0 ≤ k) && decide (k < (g.Parents.length : Int))) = v
      cases u <;> cases v <;> rfl
  rw [e, Option.bind_some]
  unfold meetOf
  cases h1 : area g.Parents i with
  | false => rfl
  | true =>
    cases h2 : area g.Parents k with
    | false => rfl
    | true =>
      obtain ⟨ho, n, rfl, hn⟩ := area_ok h1
      obtain ⟨_, m, rfl, hm⟩ := area_ok h2
      simp only [Bool.and_self, Bool.not_true, cond_false, impl_MeetOf_loop ho hn hm, Option.bind_some, if_true]
      rfl

theorem spec_MeetOf_eq (g : impl_Geo) (i k : Int) : spec_MeetOf g i k = some (meetOf g.Parents i k) := by
  unfold spec_MeetOf
  rw [spec_gArea_eq, spec_gArea_eq, Option.bind_some]
  unfold meetOf
  cases h1 : area g.Parents i with
  | false => rfl
  | true =>
    cases h2 : area g.Parents k with
    | false => rfl
    | true =>
      obtain ⟨ho, n, rfl, hn⟩ := area_ok h1
      obtain ⟨_, m, rfl, hm⟩ := area_ok h2
      have := gpath_len g.Parents n; have hl2 := ho.l2
      simp only [Bool.and_self, Bool.not_true, cond_false, spec_gPath_eq ho hn, spec_gPath_eq ho hm, Option.bind_some, spec_MeetOf_loop _ _ (show (gpath g.Parents n).length ≤ 9223372036854775807 by omega), if_true]
      rfl

/-! ## leaves -/

theorem slices_Contains_eq (l : List Int) (v : Int) (hl : l.length ≤ 9223372036854775807) : slices_Contains_int_int l v = some (decide (v ∈ l)) := by
  unfold slices_Contains_int_int slices_Index_int_int
  obtain ⟨r, hr, hq⟩ := loopC_inv (f := slices_Index_int_int_l1 l v) (fun t => ∃ k : Nat, t = (k : Int) ∧ k ≤ l.length ∧ v ∉ l.take k) (fun t => l.length - t.toNat) (fun r => (r = .inl () ∧ v ∉ l) ∨ ∃ k : Nat, r = .inr (k : Int) ∧ v ∈ l) (by
    rintro t ⟨k, rfl, hk, hv⟩
    simp only [slices_Index_int_int_l1]
    by_cases hlt : k < l.length
    · have e : l[k]? = some l[k] := by simp [hlt]
      simp only [lt_ok e, at_ok e, cond_true, Option.bind_some, nx_ok e hl]
      by_cases hx : v = l[k]
      · left
        rw [show (v == l[k]) = true by simpa using hx]
        exact ⟨_, rfl, .inr ⟨k, rfl, by rw [hx]; exact List.getElem_mem hlt⟩⟩
      · right
        rw [show (v == l[k]) = false by simpa using hx]
        refine ⟨_, rfl, ⟨k + 1, rfl, by omega, ?_⟩, by simp; omega⟩
        rw [List.take_add_one, e, List.mem_append]
        rintro (h | h)
        · exact hv h
        · exact hx (by simpa using h)
    · left
      have : k = l.length := by omega
      subst this
      rw [lt_end]
      exact ⟨_, rfl, .inl ⟨rfl, by simpa using hv⟩⟩) 0 ⟨0, rfl, by omega, by simp⟩
  rw [hr]
  rcases hq with ⟨rfl, h⟩ | ⟨k, rfl, h⟩
  · rw [decide_eq_false h]; rfl
  · rw [decide_eq_true h]
    simp only [Option.bind_some]
    rw [decide_eq_true (by omega)]

theorem spec_gChildren_eq (g : impl_Geo) (v : Int) (hl : g.Parents.length ≤ 1000) : ∃ r, spec_gChildren g v = some r ∧ (goLen r == 0) = !decide (v ∈ g.Parents) := by
  unfold spec_gChildren
  obtain ⟨r, hr, hq⟩ := loopC_inv (f := spec_gChildren_l1 g v) (fun s => ∃ (o : List Int) (k : Nat), s = (o, (k : Int)) ∧ k ≤ g.Parents.length ∧ o.length ≤ k ∧ (o = [] ↔ v ∉ g.Parents.take k)) (fun s => g.Parents.length - s.2.toNat) (fun r => r = [] ↔ v ∉ g.Parents) (by
    rintro s ⟨o, k, rfl, hk, hok, hv⟩
    simp only [spec_gChildren_l1]
    by_cases hlt : k < g.Parents.length
    · have e : g.Parents[k]? = some g.Parents[k] := by simp [hlt]
      right
      simp only [lt_ok e, at_ok e, cond_true, Option.bind_some, nx_ok e (by omega)]
      by_cases hx : g.Parents[k] = v
      · rw [show (g.Parents[k] == v) = true by simpa using hx]
        simp only [cond_true, goApp_ok (show (o.length + [(k : Int)].length) * 8 ≤ 140737488355328 by simp; omega), Option.bind_some]
        refine ⟨_, rfl, ⟨_, k + 1, rfl, by omega, by simp; omega, ?_⟩, by simp; omega⟩
        rw [List.take_add_one, e, hx]
        simp
      · rw [show (g.Parents[k] == v) = false by simpa using hx]
        refine ⟨_, rfl, ⟨o, k + 1, rfl, by omega, by omega, ?_⟩, by simp; omega⟩
        rw [List.take_add_one, e, hv, List.mem_append]
        exact ⟨fun a h => h.elim a fun h => hx (by simp at h; exact h.symm), fun a h => a (.inl h)⟩
    · left
      have : k = g.Parents.length := by omega
      subst this
      rw [lt_end]
      exact ⟨_, rfl, by simpa using hv⟩) ([], 0) ⟨[], 0, rfl, by omega, by simp, by simp⟩
  refine ⟨r, by rw [hr]; rfl, ?_⟩
  by_cases h : v ∈ g.Parents
  · have : r ≠ [] := fun e => (hq.1 e) h
    rw [decide_eq_true h]
    have : r.length ≠ 0 := fun e => this (List.length_eq_zero_iff.1 e)
    simp [goLen, this]
  · have := hq.2 h
    subst this
    rw [decide_eq_false h]
    rfl

theorem leaves_eq (g : impl_Geo) (hl : g.Parents.length ≤ 1000) : impl_leavesOf g = spec_gLeaves g := by
  unfold impl_leavesOf spec_gLeaves
  have : impl_leavesOf_l1 g = spec_gLeaves_l1 g := by
    funext ⟨o, t⟩
    obtain ⟨r, h1, h2⟩ := spec_gChildren_eq g t hl
    simp only [impl_leavesOf_l1, spec_gLeaves_l1, impl_isLeaf, slices_Contains_eq _ _ (show g.Parents.length ≤ 9223372036854775807 by omega), h1, h2, Option.bind_some]
  rw [this]

theorem leaves_ok (g : impl_Geo) (hl : g.Parents.length ≤ 1000) : ∃ L, impl_leavesOf g = some L ∧ L.length ≤ 1000 ∧ ∀ x ∈ L, ∃ n : Nat, x = (n : Int) ∧ n < g.Parents.length := by
  unfold impl_leavesOf
  obtain ⟨r, hr, hq⟩ := loopC_inv (f := impl_leavesOf_l1 g) (fun s => ∃ (o : List Int) (k : Nat), s = (o, (k : Int)) ∧ k ≤ g.Parents.length ∧ o.length ≤ k ∧ ∀ x ∈ o, ∃ n : Nat, x = (n : Int) ∧ n < g.Parents.length) (fun s => g.Parents.length - s.2.toNat) (fun L => L.length ≤ 1000 ∧ ∀ x ∈ L, ∃ n : Nat, x = (n : Int) ∧ n < g.Parents.length) (by
    rintro s ⟨o, k, rfl, hk, hok, hv⟩
    simp only [impl_leavesOf_l1]
    by_cases hlt : k < g.Parents.length
    · have e : g.Parents[k]? = some g.Parents[k] := by simp [hlt]
      right
      simp only [lt_ok e, cond_true, impl_isLeaf, slices_Contains_eq _ _ (show g.Parents.length ≤ 9223372036854775807 by omega), Option.bind_some, nx_ok e (by omega)]
      cases (!decide ((k : Int) ∈ g.Parents)) with
      | true =>
        simp only [cond_true, goApp_ok (show (o.length + [(k : Int)].length) * 8 ≤ 140737488355328 by simp; omega), Option.bind_some]
        refine ⟨_, rfl, ⟨_, k + 1, rfl, by omega, by simp; omega, ?_⟩, by simp; omega⟩
        intro x hx
        rcases List.mem_append.1 hx with hx | hx
        · exact hv x hx
        · exact ⟨k, by simpa using hx, hlt⟩
      | false => exact ⟨_, rfl, ⟨o, k + 1, rfl, by omega, by omega, hv⟩, by simp; omega⟩
    · left
      have : k = g.Parents.length := by omega
      subst this
      rw [lt_end]
      exact ⟨_, rfl, by omega, hv⟩) ([], 0) ⟨[], 0, rfl, by omega, by simp, by simp⟩
  exact ⟨r, by rw [hr]; rfl, hq⟩

theorem uniform (g : impl_Geo) : ∃ u, impl_IsUniform g = some u ∧ spec_IsUniform g = some u := by
  unfold impl_IsUniform spec_IsUniform
  rw [impl_IsGeo_eq, spec_gGood_eq]
  cases hg : gok g.Parents with
  | false => exact ⟨_, rfl, rfl⟩
  | true =>
    have ho := gok_ok hg
    have hl2 := ho.l2
    obtain ⟨L, e1, l1, l2⟩ := leaves_ok g (by omega)
    have e2 := e1
    rw [leaves_eq g (by omega)] at e2
    unfold spec_gUniform
    simp only [Option.bind_some, Bool.not_true, cond_false, e1, e2]
    obtain ⟨r, r', h1, h2, hq⟩ := loopC_sim (f := impl_IsUniform_l1 g L) (g := spec_gUniform_l1 g L) (fun s t => s = t ∧ ∃ k : Nat, s = (k : Int) ∧ k ≤ L.length) (fun s => L.length - s.toNat) (fun r r' => (r = .inl () ∧ r' = .inl ()) ∨ (r = .inr (false, true) ∧ r' = .inr false)) (by
      rintro s t ⟨rfl, k, rfl, hk⟩
      simp only [impl_IsUniform_l1, spec_gUniform_l1]
      by_cases hlt : k < L.length
      · have e : L[k]? = some L[k] := by simp [hlt]
        have e0 : L[0]? = some (L[0]'(by omega)) := List.getElem?_eq_getElem (by omega)
        obtain ⟨n, n1, n2⟩ := l2 _ (List.mem_of_getElem? e)
        obtain ⟨m, m1, m2⟩ := l2 _ (List.mem_of_getElem? e0)
        rw [n1] at e; rw [m1] at e0
        have a0 : goAt L 0 = some (m : Int) := at_ok (k := 0) e0
        simp only [lt_ok e, at_ok e, a0, cond_true, Option.bind_some, impl_depthOf_eq ho n2, impl_depthOf_eq ho m2, spec_gDepth_eq ho n2, spec_gDepth_eq ho m2, nx_ok e (by omega)]
        cases ((((gpath g.Parents n).length - 1 : Nat) : Int) != (((gpath g.Parents m).length - 1 : Nat) : Int)) with
        | true => exact .inl ⟨_, _, rfl, rfl, .inr ⟨rfl, rfl⟩⟩
        | false => exact .inr ⟨_, _, rfl, rfl, ⟨rfl, k + 1, rfl, by omega⟩, by simp; omega⟩
      · have : k = L.length := by omega
        subst this
        rw [lt_end]
        exact .inl ⟨_, _, rfl, rfl, .inl ⟨rfl, rfl⟩⟩) 0 0 ⟨rfl, 0, rfl, by omega⟩
    rw [h1, h2]
    rcases hq with ⟨rfl, rfl⟩ | ⟨rfl, rfl⟩
    · exact ⟨_, rfl, rfl⟩
    · exact ⟨_, rfl, rfl⟩

/-! ## the law -/

theorem path_loop (g : impl_Geo) (i : Int) : loopC (laws_FnPaths_l1 (g, i) (pathOf g.Parents i)) 0 = some (.inl ()) := by
  have hlen : (pathOf g.Parents i).1.length ≤ 9223372036854775807 := by
    unfold pathOf
    cases h : area g.Parents i with
    | false => simp
    | true =>
      obtain ⟨ho, n, rfl, hn⟩ := area_ok h
      have := gpath_len g.Parents n; have hl2 := ho.l2
      simp; omega
  have h := loop_all (l := (pathOf g.Parents i).1) (fun _ => true) (laws_FnPaths_l1 (g, i) (pathOf g.Parents i)) (fun k x hx => by
    simp only [laws_FnPaths_l1, lt_ok hx, at_ok hx, cond_true, Option.bind_some, nx_ok hx hlen]
    unfold impl_AncestorAt impl_DepthOf
    rw [impl_area, impl_area]
    unfold pathOf at hx
    cases h : area g.Parents i with
    | false => rw [h] at hx; simp at hx
    | true =>
      obtain ⟨ho, n, rfl, hn⟩ := area_ok h
      rw [h] at hx
      simp only [if_true, Int.toNat_natCast] at hx
      obtain ⟨m, m1, rfl, m3, m4⟩ := gpath_at ho n hn k x hx
      have ha : area g.Parents (m : Int) = true := by
        simp only [area, Bool.and_eq_true, decide_eq_true_eq] at h ⊢
        exact ⟨h.1, by omega, by omega⟩
      rw [ha, impl_ancestorAt_eq ho hn hx, impl_depthOf_eq ho (show m < g.Parents.length by omega), m4]
      simp only [Bool.not_true, cond_false, Option.bind_some, decide_eq_false (show ¬ (m : Int) < 0 by omega), bne_self_eq_false, Nat.add_sub_cancel, if_true]) (fun _ => by simp only [laws_FnPaths_l1, lt_end, cond_false])
  rw [h]
  simp

theorem laws_FnPaths_true (code more : List (K .u8)) (o1 : Rng.ok code) (o2 : Rng.ok more) : laws_FnPaths code more = some true := by
  unfold laws_FnPaths
  obtain ⟨b, hb⟩ : ∃ b, laws_big code more = some b := by
    unfold laws_big
    cases decide (1048576 < goLen code) <;> exact ⟨_, rfl⟩
  rw [hb, Option.bind_some]
  cases b with
  | true => rfl
  | false =>
    obtain ⟨⟨g, i⟩, d1⟩ := DrawPathTo_ok o1.2
    obtain ⟨⟨h, j, k⟩, d2⟩ := DrawMeetOf_ok o2.2
    obtain ⟨u, u1, u2⟩ := uniform h
    have hlen : (pathOf g.Parents i).1.length ≤ 9223372036854775807 := by
      unfold pathOf
      cases h : area g.Parents i with
      | false => simp
      | true =>
        obtain ⟨ho, n, rfl, hn⟩ := area_ok h
        have := gpath_len g.Parents n; have hl2 := ho.l2
        simp; omega
    simp only [cond_false, d1, d2, Option.bind_some, impl_PathTo_eq, spec_PathTo_eq, bne_self_eq_false, laws_sameInts_self _ hlen, Bool.not_true, path_loop, impl_MeetOf_eq, spec_MeetOf_eq, meetOf_comm h.Parents k j, u1, u2, beq_self_eq_true, cond_true]

end Go.Gx.F
