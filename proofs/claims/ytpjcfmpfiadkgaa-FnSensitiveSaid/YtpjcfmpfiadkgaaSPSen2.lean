/- Plain laws: sensitive cells: two-way tables, thresholds, patterns joined. -/
import Derived.Test.YtpjcfmpfiadkgaaSPSen1
namespace Go.Gx.F
open Go.Gx
set_option linter.all false

theorem bis_cnot {z x : Option Bool} {P Q : Prop} (h1 : Bis z Q) (h : ¬ Q → Bis x P) : Bis (z.bind fun t => cond t (some false) x) (¬ Q ∧ P) := by
  obtain ⟨b, rfl, hb⟩ := h1
  cases b with
  | true => exact ⟨false, rfl, by simp; intro hq; exact absurd (hb.1 rfl) hq⟩
  | false =>
    have hq : ¬ Q := fun hq => by have := hb.2 hq; cases this
    obtain ⟨c, e, hc⟩ := h hq
    exact ⟨c, e, by rw [hc]; simp [hq]⟩

def wdt (x : List (List Int)) : Nat := (x.headD []).length

theorem head_ok {x : List (List Int)} (h : 1 ≤ x.length) : goAt x 0 = some (x.headD []) := by
  cases x with
  | nil => simp at h
  | cons a x => rfl

theorem head_mem {x : List (List Int)} (h : 1 ≤ x.length) : x.headD [] ∈ x := by
  cases x with
  | nil => simp at h
  | cons a x => simp

def Grid (m : Int) (x : List (List Int)) : Prop := 1 ≤ x.length ∧ x.length ≤ 8 ∧ 1 ≤ wdt x ∧ wdt x ≤ 8 ∧ (∀ r ∈ x, r.length = wdt x) ∧ ∀ r ∈ x, ∀ v ∈ r, 0 ≤ v ∧ v ≤ m

theorem shape_bis {x : List (List Int)} {n w : Int} (hx : x.length ≤ 1000) : Bis (impl_hasShape x n w) ((x.length : Int) = n ∧ ∀ r ∈ x, (r.length : Int) = w) := by
  unfold impl_hasShape
  by_cases h : (x.length : Int) = n
  · have e : ((goLen x) != n) = false := by simp [goLen, h]
    rw [e, cond_false]
    refine bis_iff (bis_loop (l := x) (fun _ r => (r.length : Int) = w) (fun k r hr => ⟨decide ((r.length : Int) = w), by simp, ?_⟩) ?_) ?_
    · simp only [impl_hasShape_l1, lt_ok hr, at_ok hr, cond_true, Option.bind_some, nx_ok hr (show x.length ≤ 9223372036854775807 by omega), goLen]
      by_cases h : (r.length : Int) = w
      · simp [h]
      · rw [show ((r.length : Int) != w) = true by simpa using h, decide_eq_false h]; rfl
    · simp only [impl_hasShape_l1, lt_end, cond_false]
    · rw [all_mem_iff]; simp [h]
  · have e : ((goLen x) != n) = true := by simp [goLen, h]
    rw [e, cond_true]
    exact bis_some (by simp [h])

theorem grid_bis {x : List (List Int)} {m : Int} (hx : Sz x) : Bis (impl_isGrid x m) (Grid m x) := by
  unfold impl_isGrid
  obtain ⟨s1, s2⟩ := hx
  have main : Bis ((cond (decide ((goLen x) < 1)) (some true) (cond (decide (8 < (goLen x))) (some true) ((goAt x 0).bind fun e_2 => (cond (decide ((goLen e_2) < 1)) (some true) ((goAt x 0).bind fun e_5 => (cond (decide (8 < (goLen e_5))) (some true) ((goAt x 0).bind fun e_8 => ((impl_hasShape x (goLen x) (goLen e_8)).bind fun t_11 => some (!t_11))))))))) : Option Bool)
      (¬ (1 ≤ x.length ∧ x.length ≤ 8 ∧ 1 ≤ wdt x ∧ wdt x ≤ 8 ∧ ∀ r ∈ x, r.length = wdt x)) := by
    by_cases h1 : 1 ≤ x.length
    · rw [decide_eq_false (show ¬ goLen x < 1 by simp only [goLen]; omega), cond_false]
      by_cases h2 : x.length ≤ 8
      · rw [decide_eq_false (show ¬ 8 < goLen x by simp only [goLen]; omega), cond_false, head_ok h1]
        simp only [Option.bind_some]
        by_cases h3 : 1 ≤ wdt x
        · have h3' : 1 ≤ (x.headD []).length := h3
          rw [decide_eq_false (show ¬ goLen (x.headD []) < 1 by simp only [goLen]; omega), cond_false]
          by_cases h4 : wdt x ≤ 8
          · have h4' : (x.headD []).length ≤ 8 := h4
            rw [decide_eq_false (show ¬ 8 < goLen (x.headD []) by simp only [goLen]; omega), cond_false]
            refine bis_iff (bis_not (shape_bis (by omega))) ?_
            simp only [h1, h2, h3, h4, true_and, goLen]
            refine not_congr ⟨fun h r hr => ?_, fun h r hr => ?_⟩
            · have := h r hr; unfold wdt; omega
            · have := h r hr; unfold wdt at this; omega
          · have h4' : ¬ (x.headD []).length ≤ 8 := h4
            rw [decide_eq_true (show 8 < goLen (x.headD []) by simp only [goLen]; omega), cond_true]
            exact bis_some (by simp [h4])
        · have h3' : ¬ 1 ≤ (x.headD []).length := h3
          rw [decide_eq_true (show goLen (x.headD []) < 1 by simp only [goLen]; omega), cond_true]
          exact bis_some (by simp only [true_iff]; rintro ⟨_, _, h, _⟩; exact h3 h)
      · rw [decide_eq_true (show 8 < goLen x by simp only [goLen]; omega), cond_true]
        exact bis_some (by simp [h2])
    · rw [decide_eq_true (show goLen x < 1 by simp only [goLen]; omega), cond_true]
      exact bis_some (by simp only [true_iff]; rintro ⟨h, _⟩; exact h1 h)
  refine bis_iff (bis_cnot main fun hq => bis_loop (l := x) (fun _ r => ∀ v ∈ r, 0 ≤ v ∧ v ≤ m) (fun k r hr => ?_) ?_) ?_
  · have hrl : r.length ≤ 10 := s2 r (List.mem_of_getElem? hr)
    obtain ⟨b, hb, e⟩ := loop_find (l := r) (fun _ v => v < 0 ∨ m < v) (.done (.inr false) : Stp Int (Unit ⊕ Bool)) (body := impl_isGrid_l2 m r) (fun j v hv => ⟨decide (v < 0) || decide (m < v), by simp, by
      simp only [impl_isGrid_l2, lt_ok hv, at_ok hv, cond_true, Option.bind_some, nx_ok hv (show r.length ≤ 9223372036854775807 by omega)]
      by_cases h1 : v < 0 <;> by_cases h2 : m < v <;> simp [h1, h2]⟩) (by simp only [impl_isGrid_l2, lt_end, cond_false])
    refine ⟨!b, ?_, ?_⟩
    · rw [Bool.not_eq_true', ← Bool.not_eq_true, hb]
      constructor
      · intro h v hv
        obtain ⟨j, hj⟩ := List.getElem?_of_mem hv
        have : ¬ (v < 0 ∨ m < v) := fun hc => h ⟨j, v, hj, hc⟩
        omega
      · rintro h ⟨j, v, hj, hc⟩
        have := h v (List.mem_of_getElem? hj)
        omega
    · simp only [impl_isGrid_l1, lt_ok hr, at_ok hr, cond_true, Option.bind_some, nx_ok hr (show x.length ≤ 9223372036854775807 by omega), e]
      cases b <;> rfl
  · simp only [impl_isGrid_l1, lt_end, cond_false]
  · rw [all_mem_iff]
    unfold Grid
    constructor
    · rintro ⟨h1, h2⟩
      have h3 := Classical.not_not.1 h1
      exact ⟨h3.1, h3.2.1, h3.2.2.1, h3.2.2.2.1, h3.2.2.2.2, h2⟩
    · rintro ⟨a, b, c, d, e, f⟩
      exact ⟨fun h => h ⟨a, b, c, d, e⟩, f⟩

theorem form_bis {x : List (List Int)} {m : Int} (hx : Sz x) : Bis (spec_qForm x m) (Grid m x) := by
  unfold spec_qForm
  obtain ⟨s1, s2⟩ := hx
  have main : Bis (((spec_l1In (goLen x) 1 8).bind fun t_2 => (cond (!t_2) (some true) ((goAt x 0).bind fun e_3 => ((spec_l1In (goLen e_3) 1 8).bind fun t_6 => some (!t_6))))) : Option Bool)
      (¬ (1 ≤ x.length ∧ x.length ≤ 8 ∧ 1 ≤ wdt x ∧ wdt x ≤ 8)) := by
    rw [lIn_eq, Option.bind_some]
    by_cases h1 : 1 ≤ x.length ∧ x.length ≤ 8
    · rw [decide_eq_true (show 1 ≤ goLen x ∧ goLen x ≤ 8 by simp only [goLen]; omega), Bool.not_true, cond_false, head_ok h1.1, Option.bind_some, lIn_eq, Option.bind_some]
      refine bis_some ?_
      simp only [Bool.not_eq_true', decide_eq_false_iff_not, goLen]
      unfold wdt
      constructor
      · rintro h ⟨_, _, h3, h4⟩; exact h ⟨by omega, by omega⟩
      · rintro h ⟨h3, h4⟩; exact h ⟨h1.1, h1.2, by omega, by omega⟩
    · rw [decide_eq_false (show ¬ (1 ≤ goLen x ∧ goLen x ≤ 8) by simp only [goLen]; omega), Bool.not_false, cond_true]
      exact bis_some (by simp only [true_iff]; rintro ⟨h, h', _⟩; exact h1 ⟨h, h'⟩)
  refine bis_iff (bis_cnot main fun hq => bis_loop (l := x) (fun _ r => r.length = wdt x ∧ ∀ v ∈ r, 0 ≤ v ∧ v ≤ m) (fun k r hr => ?_) ?_) ?_
  · have hrl : r.length ≤ 10 := s2 r (List.mem_of_getElem? hr)
    have hq' := Classical.not_not.1 hq
    simp only [spec_qForm_l1, lt_ok hr, at_ok hr, cond_true, Option.bind_some, head_ok hq'.1, nx_ok hr (show x.length ≤ 9223372036854775807 by omega)]
    by_cases h1 : r.length = wdt x
    · have h1' : r.length = (x.headD []).length := h1
      have e : ((goLen r) != (goLen (x.headD []))) = false := by simp only [goLen, h1', bne_self_eq_false]
      obtain ⟨b, e2, hb⟩ := lAll_bis (l := r) (lo := 0) (hi := m) (by omega)
      rw [e, cond_false, e2]
      refine ⟨b, by rw [hb]; simp [h1], ?_⟩
      cases b <;> rfl
    · have h1' : ¬ r.length = (x.headD []).length := h1
      have e : ((goLen r) != (goLen (x.headD []))) = true := by simp only [goLen, bne_iff_ne, ne_eq]; omega
      rw [e, cond_true]
      exact ⟨false, by simp [h1], rfl⟩
  · simp only [spec_qForm_l1, lt_end, cond_false]
  · rw [all_mem_iff]
    unfold Grid
    constructor
    · rintro ⟨h1, h2⟩
      have h3 := Classical.not_not.1 h1
      exact ⟨h3.1, h3.2.1, h3.2.2.1, h3.2.2.2, fun r hr => (h2 r hr).1, fun r hr => (h2 r hr).2⟩
    · rintro ⟨a, b, c, d, e, f⟩
      exact ⟨fun h => h ⟨a, b, c, d⟩, fun r hr => ⟨e r hr, f r hr⟩⟩

/-! a list that is turned from the front on -/
section
variable {α : Type} {new old : List α} {k : Nat} {y : α}
def mx (k : Nat) (new old : List α) : List α := new.take k ++ old.drop k
theorem mx0 : mx 0 new old = old := by simp [mx]
theorem mx_end (h : old.length = new.length) : mx new.length new old = new := by
  unfold mx
  rw [List.take_length, List.drop_eq_nil_of_le (by omega), List.append_nil]
theorem mx_len (h : old.length = new.length) (hk : k ≤ new.length) : (mx k new old).length = new.length := by simp [mx]; omega
theorem mx_at (h : old.length = new.length) (hk : k ≤ new.length) : (mx k new old)[k]? = old[k]? := by
  unfold mx
  rw [List.getElem?_append_right (by simp; omega), List.getElem?_drop, List.length_take, Nat.min_eq_left hk]
  congr 1; omega
theorem mx_set (h : old.length = new.length) (hy : new[k]? = some y) : (mx k new old).set k y = mx (k + 1) new old := by
  obtain ⟨hk, e⟩ := List.getElem?_eq_some_iff.1 hy
  apply List.ext_getElem?
  intro j
  unfold mx
  by_cases hj : j = k
  · subst hj
    rw [List.getElem?_set_self (by simp; omega), List.getElem?_append_left (by simp; omega), List.getElem?_take_of_lt (by omega), hy]
  · rw [List.getElem?_set_ne (by omega)]
    by_cases h2 : j < k
    · rw [List.getElem?_append_left (by simp; omega), List.getElem?_append_left (by simp; omega), List.getElem?_take_of_lt h2, List.getElem?_take_of_lt (by omega)]
    · rw [List.getElem?_append_right (by simp; omega), List.getElem?_append_right (by simp; omega), List.getElem?_drop, List.getElem?_drop, List.length_take, List.length_take, Nat.min_eq_left (by omega), Nat.min_eq_left (by omega)]
      congr 1; omega
end

theorem copy_eq {x : List (List Int)} (hx : Sz x) : impl_copyMatrix x = some x := by
  unfold impl_copyMatrix
  obtain ⟨s1, s2⟩ := hx
  rw [show goLen x = ((x.length : Nat) : Int) from rfl, goMake_ok (by omega) (by omega), Option.bind_some]
  have h := loop_map (l := x) id ([] : List Int) (impl_copyMatrix_l1 x) (fun k r out hr hl => by
    have h2 := s2 r (List.mem_of_getElem? hr)
    have hk := (List.getElem?_eq_some_iff.1 hr).1
    have e : goAt out (k : Int) = some out[k] := at_ok (by simp [hl, hk])
    simp only [impl_copyMatrix_l1, lt_ok hr, at_ok hr, cond_true, Option.bind_some, clone_eq (show r.length ≤ 1000000 by omega), e, nx_ok hr (show x.length ≤ 9223372036854775807 by omega), goSet, Int.toNat_natCast, id]) (fun out => by simp only [impl_copyMatrix_l1, lt_end, cond_false])
  rw [h]
  simp

/-! thresholds -/
def thr (t v : Int) : Int := if 0 < v ∧ v < t then 1 else 0
def thrs (t : Int) (x : List (List Int)) : List (List Int) := x.map fun r => r.map (thr t)

theorem thr_t24 (t v : Int) : ((cond (decide (0 < v)) (some (decide (v < t))) (some false)) : Option Bool) = some (decide (0 < v ∧ v < t)) := by
  by_cases h1 : 0 < v <;> simp [h1]

theorem map_at {α β : Type} {f : α → β} {l : List α} {k : Nat} {x : α} (h : l[k]? = some x) : (l.map f)[k]? = some (f x) := by simp [h]

theorem thrI_row {t : Int} {p : List (List Int)} {i : Nat} {r : List Int} (hr : p[i]? = some r) (hl : r.length ≤ 10) :
    loopC (impl_ThresholdCells_l2 t i r) (p, 0, r, r) = some (p.set i (r.map (thr t))) := by
  have hi := (List.getElem?_eq_some_iff.1 hr).1
  have hM : (r.map (thr t)).length = r.length := by simp
  have key := tot_loop (body := impl_ThresholdCells_l2 t i r) (s := (p, 0, r, r)) (Q := fun q => q = p.set i (r.map (thr t))) (fun s => ∃ k : Nat, k ≤ r.length ∧ s = (p.set i (mx k (r.map (thr t)) r), (k : Int), mx k (r.map (thr t)) r, mx k (r.map (thr t)) r)) (fun s => r.length - s.2.1.toNat) ⟨0, by omega, by
    rw [mx0]
    have : p.set i r = p := by
      apply List.ext_getElem?
      intro j
      by_cases hj : j = i
      · subst hj; rw [List.getElem?_set_self hi, hr]
      · rw [List.getElem?_set_ne (by omega)]
    rw [this]; rfl⟩ (by
    rintro s ⟨k, hk, rfl⟩
    by_cases hlt : k < r.length
    · have hv : r[k]? = some r[k] := by simp [hlt]
      have hl1 : (mx k (r.map (thr t)) r).length = r.length := by rw [mx_len hM.symm (by omega), hM]
      have ha : goAt (mx k (r.map (thr t)) r) (k : Int) = some r[k] := at_ok (by rw [mx_at hM.symm (by omega), hv])
      have hset : (mx k (r.map (thr t)) r).set k (thr t r[k]) = mx (k + 1) (r.map (thr t)) r := mx_set hM.symm (map_at hv)
      have ha2 : goAt ((mx k (r.map (thr t)) r).set k 0) (k : Int) = some 0 := at_ok (by rw [List.getElem?_set_self (by omega)])
      simp only [impl_ThresholdCells_l2, lt_ok hv, cond_true, ha, Option.bind_some, thr_t24, goSet, Int.toNat_natCast, ha2, nx_ok hv (show r.length ≤ 9223372036854775807 by omega), List.set_set]
      by_cases hc : 0 < r[k] ∧ r[k] < t
      · rw [decide_eq_true hc]
        have e1 : thr t r[k] = 1 := if_pos hc
        rw [e1] at hset
        simp only [cond_true, Option.bind_some, hset]
        exact tot_some ⟨⟨k + 1, by omega, rfl⟩, by simp only; omega⟩
      · rw [decide_eq_false hc]
        have e1 : thr t r[k] = 0 := if_neg hc
        rw [e1] at hset
        simp only [cond_false, Option.bind_some, hset]
        exact tot_some ⟨⟨k + 1, by omega, rfl⟩, by simp only; omega⟩
    · obtain rfl : k = r.length := by omega
      simp only [impl_ThresholdCells_l2, lt_end, cond_false]
      refine tot_some ?_
      simp only
      have := mx_end hM.symm
      rw [hM] at this
      rw [this])
  exact tot_eq key

theorem thrI_eq {x : List (List Int)} {t : Int} (hx : Sz x) : loopC (impl_ThresholdCells_l1 t x) (x, 0) = some (thrs t x) := by
  obtain ⟨s1, s2⟩ := hx
  have hM : (thrs t x).length = x.length := by simp [thrs]
  refine tot_eq (tot_loop (fun s => ∃ k : Nat, k ≤ x.length ∧ s = (mx k (thrs t x) x, (k : Int))) (fun s => x.length - s.2.toNat) ⟨0, by omega, by rw [mx0]; rfl⟩ ?_)
  rintro s ⟨k, hk, rfl⟩
  by_cases hlt : k < x.length
  · have hv : x[k]? = some x[k] := by simp [hlt]
    have ha' : (mx k (thrs t x) x)[k]? = some x[k] := by rw [mx_at hM.symm (by omega), hv]
    have ha : goAt (mx k (thrs t x) x) (k : Int) = some x[k] := at_ok ha'
    have hset : (mx k (thrs t x) x).set k (x[k].map (thr t)) = mx (k + 1) (thrs t x) x := mx_set hM.symm (by simp [thrs, hv])
    simp only [impl_ThresholdCells_l1, lt_ok hv, cond_true, ha, Option.bind_some, thrI_row ha' (s2 _ (List.getElem_mem hlt)), nx_ok hv (show x.length ≤ 9223372036854775807 by omega), hset]
    exact tot_some ⟨⟨k + 1, by omega, rfl⟩, by simp only; omega⟩
  · obtain rfl : k = x.length := by omega
    simp only [impl_ThresholdCells_l1, lt_end, cond_false]
    refine tot_some ?_
    simp only
    have := mx_end hM.symm
    rw [hM] at this
    rw [this]

/-- rows one by one behind each other -/
theorem app_loop {α β τ : Type} (l : List α) (f : α → β) (body : List β × Int → Option (Stp (List β × Int) (List β)))
    (h1 : ∀ (k : Nat) (x : α) (out : List β), l[k]? = some x → out.length = k → body (out, (k : Int)) = some (.next (out ++ [f x], ((k + 1 : Nat) : Int)))) (h2 : ∀ out, body (out, (l.length : Int)) = some (.done out)) :
    loopC body ([], 0) = some (l.map f) := by
  refine tot_eq (tot_loop (fun s => ∃ k : Nat, k ≤ l.length ∧ s = ((l.take k).map f, (k : Int))) (fun s => l.length - s.2.toNat) ⟨0, by omega, by simp⟩ ?_)
  rintro s ⟨k, hk, rfl⟩
  by_cases hlt : k < l.length
  · rw [h1 k l[k] _ (by simp [hlt]) (by simp; omega)]
    refine tot_some ⟨⟨k + 1, by omega, ?_⟩, by simp only; omega⟩
    rw [List.take_succ, List.map_append, List.getElem?_eq_getElem hlt]; rfl
  · obtain rfl : k = l.length := by omega
    rw [h2]
    exact tot_some (by simp)

theorem thrS_eq {x : List (List Int)} {t : Int} (hx : Sz x) : loopC (spec_ThresholdCells_l1 x t) (([] : List (List Int)), 0) = some (thrs t x) := by
  obtain ⟨s1, s2⟩ := hx
  refine app_loop (τ := Unit) x (fun r => r.map (thr t)) _ (fun k r out hr ho => ?_) fun out => by simp only [spec_ThresholdCells_l1, lt_end, cond_false]
  have hrl := s2 r (List.mem_of_getElem? hr)
  have hk := (List.getElem?_eq_some_iff.1 hr).1
  have hin : loopC (spec_ThresholdCells_l2 t r) (([] : List Int), 0) = some (r.map (thr t)) := app_loop (τ := Unit) r (thr t) _ (fun j v o hv ho' => by
    have hj := (List.getElem?_eq_some_iff.1 hv).1
    simp only [spec_ThresholdCells_l2, lt_ok hv, at_ok hv, cond_true, Option.bind_some, thr_t24, nx_ok hv (show r.length ≤ 9223372036854775807 by omega)]
    rw [goApp_ok (by simp; omega), goApp_ok (by simp; omega)]
    by_cases hc : 0 < v ∧ v < t
    · rw [decide_eq_true hc, show thr t v = 1 from if_pos hc]; rfl
    · rw [decide_eq_false hc, show thr t v = 0 from if_neg hc]; rfl) fun o => by simp only [spec_ThresholdCells_l2, lt_end, cond_false]
  simp only [spec_ThresholdCells_l1, lt_ok hr, at_ok hr, cond_true, Option.bind_some, hin, nx_ok hr (show x.length ≤ 9223372036854775807 by omega)]
  rw [goApp_ok (by simp; omega), Option.bind_some]

/-- thresholds: what both say -/
theorem thr_same {x : List (List Int)} (t : Int) (hx : Sz x) : ∃ b : Bool, (b = true ↔ Grid 1000 x ∧ 0 ≤ t ∧ t ≤ 1001) ∧
    impl_ThresholdCells x t = some (cond b (thrs t x) [], b) ∧ spec_ThresholdCells x t = some (cond b (thrs t x) [], b) := by
  obtain ⟨b1, e1, h1⟩ := grid_bis (m := 1000) hx
  obtain ⟨b2, e2, h2⟩ := form_bis (m := 1000) hx
  obtain rfl : b1 = b2 := by
    cases b1 <;> cases b2 <;> simp_all
  refine ⟨b1 && decide (0 ≤ t ∧ t ≤ 1001), by rw [Bool.and_eq_true, h1, decide_eq_true_iff], ?_, ?_⟩
  · unfold impl_ThresholdCells impl_IsTwoWay
    rw [e1]
    simp only [Option.bind_some, copy_eq hx, thrI_eq hx]
    cases b1 with
    | false => rfl
    | true =>
      simp only [Bool.not_true, cond_false, Bool.true_and]
      by_cases ha : t < 0
      · rw [decide_eq_true ha, decide_eq_false (show ¬ (0 ≤ t ∧ t ≤ 1001) by omega)]; rfl
      · rw [decide_eq_false ha]
        by_cases hb : 1001 < t
        · rw [decide_eq_true hb, decide_eq_false (show ¬ (0 ≤ t ∧ t ≤ 1001) by omega)]; rfl
        · rw [decide_eq_false hb, decide_eq_true (show (0 ≤ t ∧ t ≤ 1001) by omega)]; rfl
  · unfold spec_ThresholdCells spec_qTable
    rw [e2]
    simp only [Option.bind_some, thrS_eq hx, lIn_eq]
    cases b1 with
    | false => rfl
    | true =>
      simp only [Bool.not_true, cond_false, Bool.true_and]
      by_cases ha : 0 ≤ t ∧ t ≤ 1001
      · rw [decide_eq_true ha]; rfl
      · rw [decide_eq_false ha]; rfl

/-! patterns joined -/
def jn (a b : List Int) : List Int := List.zipWith max a b
def jns (a b : List (List Int)) : List (List Int) := List.zipWith jn a b

theorem or01 {u v : Int} (hu : 0 ≤ u ∧ u ≤ 1) (hv : 0 ≤ v ∧ v ≤ 1) : goBits .or .i64 u v = max u v := by
  have h1 : u = 0 ∨ u = 1 := by omega
  have h2 : v = 0 ∨ v = 1 := by omega
  rcases h1 with rfl | rfl <;> rcases h2 with rfl | rfl <;> decide

theorem zip_at {α β γ : Type} {f : α → β → γ} {l : List α} {r : List β} {k : Nat} {x : α} {y : β} (h1 : l[k]? = some x) (h2 : r[k]? = some y) : (List.zipWith f l r)[k]? = some (f x y) := by
  simp [List.getElem?_zipWith, h1, h2]

structure Pair (a b : List (List Int)) : Prop where
  sza : Sz a
  szb : Sz b
  len : b.length = a.length
  row : ∀ (i : Nat) (r q : List Int), a[i]? = some r → b[i]? = some q → q.length = r.length
  va : ∀ r ∈ a, ∀ v ∈ r, 0 ≤ v ∧ v ≤ 1
  vb : ∀ r ∈ b, ∀ v ∈ r, 0 ≤ v ∧ v ≤ 1

theorem joinI_row {p : List (List Int)} {i : Nat} {r q : List Int} (hr : p[i]? = some r) (hl : q.length ≤ 10) (hq : q.length = r.length) (h1 : ∀ v ∈ r, 0 ≤ v ∧ v ≤ 1) (h2 : ∀ v ∈ q, 0 ≤ v ∧ v ≤ 1) :
    loopC (impl_joinPatterns_l2 i q) (p, 0) = some (p.set i (jn r q)) := by
  have hi := (List.getElem?_eq_some_iff.1 hr).1
  have hM : (jn r q).length = r.length := by simp [jn, hq]
  refine tot_eq (tot_loop (fun s => ∃ k : Nat, k ≤ r.length ∧ s = (p.set i (mx k (jn r q) r), (k : Int))) (fun s => r.length - s.2.toNat) ⟨0, by omega, by
    rw [mx0]
    have : p.set i r = p := by
      apply List.ext_getElem?
      intro j
      by_cases hj : j = i
      · subst hj; rw [List.getElem?_set_self hi, hr]
      · rw [List.getElem?_set_ne (by omega)]
    rw [this]; rfl⟩ ?_)
  rintro s ⟨k, hk, rfl⟩
  by_cases hlt : k < r.length
  · have hv : r[k]? = some r[k] := by simp [hlt]
    have hw : q[k]? = some q[k] := by simp [hq, hlt]
    have hrow : goAt (p.set i (mx k (jn r q) r)) (i : Int) = some (mx k (jn r q) r) := at_ok (by rw [List.getElem?_set_self hi])
    have ha : goAt (mx k (jn r q) r) (k : Int) = some r[k] := at_ok (by rw [mx_at hM.symm (by omega), hv])
    have hset : (mx k (jn r q) r).set k (max r[k] q[k]) = mx (k + 1) (jn r q) r := mx_set hM.symm (zip_at hv hw)
    simp only [impl_joinPatterns_l2, lt_ok hw, at_ok hw, cond_true, hrow, ha, Option.bind_some, goSet, Int.toNat_natCast, nx_ok hw (show q.length ≤ 9223372036854775807 by omega), List.set_set,
      or01 (h1 _ (List.getElem_mem hlt)) (h2 _ (List.getElem_mem (hq ▸ hlt))), hset]
    exact tot_some ⟨⟨k + 1, by omega, rfl⟩, by simp only; omega⟩
  · obtain rfl : k = r.length := by omega
    rw [← hq]
    simp only [impl_joinPatterns_l2, lt_end, cond_false]
    refine tot_some ?_
    simp only
    have := mx_end hM.symm
    rw [hM] at this
    rw [hq, this]

theorem joinI_eq {a b : List (List Int)} (h : Pair a b) : impl_joinPatterns a b = some (jns a b) := by
  unfold impl_joinPatterns
  rw [copy_eq h.sza, Option.bind_some]
  have hM : (jns a b).length = a.length := by simp [jns, h.len]
  have s1 := h.sza.1
  have key : loopC (impl_joinPatterns_l1 b) (a, 0) = some (jns a b) := by
    refine tot_eq (tot_loop (fun s => ∃ k : Nat, k ≤ a.length ∧ s = (mx k (jns a b) a, (k : Int))) (fun s => a.length - s.2.toNat) ⟨0, by omega, by rw [mx0]; rfl⟩ ?_)
    rintro s ⟨k, hk, rfl⟩
    by_cases hlt : k < a.length
    · have hv : a[k]? = some a[k] := by simp [hlt]
      have hlt2 : k < b.length := by rw [h.len]; exact hlt
      have hw : b[k]? = some b[k] := by simp [hlt2]
      have ha' : (mx k (jns a b) a)[k]? = some a[k] := by rw [mx_at hM.symm (by omega), hv]
      have hset : (mx k (jns a b) a).set k (jn a[k] b[k]) = mx (k + 1) (jns a b) a := mx_set hM.symm (zip_at hv hw)
      simp only [impl_joinPatterns_l1, lt_ok hw, at_ok hw, cond_true, Option.bind_some, joinI_row ha' (h.szb.2 _ (List.getElem_mem hlt2)) (h.row k _ _ hv hw) (h.va _ (List.getElem_mem hlt)) (h.vb _ (List.getElem_mem hlt2)), nx_ok hw (show b.length ≤ 9223372036854775807 by rw [h.len]; omega), hset]
      exact tot_some ⟨⟨k + 1, by omega, rfl⟩, by simp only; omega⟩
    · obtain rfl : k = a.length := by omega
      rw [← h.len]
      simp only [impl_joinPatterns_l1, lt_end, cond_false]
      refine tot_some ?_
      simp only
      have := mx_end hM.symm
      rw [hM] at this
      rw [h.len, this]
  rw [key, Option.bind_some]

theorem joinS_eq {a b : List (List Int)} (h : Pair a b) : loopC (spec_JoinPatterns_l1 a b) (([] : List (List Int)), 0) = some (jns a b) := by
  have s1 := h.sza.1
  have hM : (jns a b).length = a.length := by simp [jns, h.len]
  refine tot_eq (tot_loop (fun s => ∃ k : Nat, k ≤ a.length ∧ s = ((jns a b).take k, (k : Int))) (fun s => a.length - s.2.toNat) ⟨0, by omega, by simp⟩ ?_)
  rintro s ⟨k, hk, rfl⟩
  by_cases hlt : k < a.length
  · have hv : a[k]? = some a[k] := by simp [hlt]
    have hlt2 : k < b.length := by rw [h.len]; exact hlt
    have hw : b[k]? = some b[k] := by simp [hlt2]
    have hql := h.row k _ _ hv hw
    have hrl := h.sza.2 _ (List.getElem_mem hlt)
    have hN : (jn a[k] b[k]).length = (a[k]).length := by simp [jn, hql]
    have hin : loopC (spec_JoinPatterns_l2 b k a[k]) (([] : List Int), 0) = some (jn a[k] b[k]) := by
      refine tot_eq (tot_loop (fun s => ∃ j : Nat, j ≤ (a[k]).length ∧ s = ((jn a[k] b[k]).take j, (j : Int))) (fun s => (a[k]).length - s.2.toNat) ⟨0, by omega, by simp⟩ ?_)
      rintro s ⟨j, hj, rfl⟩
      by_cases hjl : j < (a[k]).length
      · have hx : (a[k])[j]? = some (a[k])[j] := by simp [hjl]
        have hy : (b[k])[j]? = some ((b[k])[j]'(by omega)) := by simp [hql, hjl]
        simp only [spec_JoinPatterns_l2, lt_ok hx, at_ok hx, at_ok hw, at_ok hy, cond_true, Option.bind_some, lMost_eq, nx_ok hx (show (a[k]).length ≤ 9223372036854775807 by omega)]
        rw [goApp_ok (by simp; omega), Option.bind_some]
        refine tot_some ⟨⟨j + 1, by omega, ?_⟩, by simp only; omega⟩
        have hz : (jn a[k] b[k])[j]? = some _ := zip_at hx hy
        rw [List.take_succ, hz]; rfl
      · obtain rfl : j = (a[k]).length := by omega
        simp only [spec_JoinPatterns_l2, lt_end, cond_false]
        exact tot_some (by simp only; rw [← hN, List.take_length])
    simp only [spec_JoinPatterns_l1, lt_ok hv, at_ok hv, cond_true, Option.bind_some, hin, nx_ok hv (show a.length ≤ 9223372036854775807 by omega)]
    rw [goApp_ok (by simp; omega), Option.bind_some]
    refine tot_some ⟨⟨k + 1, by omega, ?_⟩, by simp only; omega⟩
    have hz : (jns a b)[k]? = some _ := zip_at hv hw
    rw [List.take_succ, hz]; rfl
  · obtain rfl : k = a.length := by omega
    simp only [spec_JoinPatterns_l1, lt_end, cond_false]
    exact tot_some (by simp only; rw [← hM, List.take_length])

theorem pair_of {a b : List (List Int)} (ha : Sz a) (hb : Sz b) (g1 : Grid 1 a) (g2 : Grid 1 b) (hl : b.length = a.length) (hw : wdt b = wdt a) : Pair a b :=
  ⟨ha, hb, hl, fun i r q hr hq => by rw [g1.2.2.2.2.1 r (List.mem_of_getElem? hr), g2.2.2.2.2.1 q (List.mem_of_getElem? hq), hw], g1.2.2.2.2.2, g2.2.2.2.2.2⟩

theorem join_same {a b : List (List Int)} (ha : Sz a) (hb : Sz b) : ∃ c : Bool, (c = true ↔ Grid 1 a ∧ Grid 1 b ∧ b.length = a.length ∧ wdt b = wdt a) ∧
    impl_JoinPatterns a b = some (cond c (jns a b) [], c) ∧ spec_JoinPatterns a b = some (cond c (jns a b) [], c) := by
  obtain ⟨a1, e1, h1⟩ := grid_bis (m := 1) ha
  obtain ⟨a2, e2, h2⟩ := form_bis (m := 1) ha
  obtain ⟨b1, e3, h3⟩ := grid_bis (m := 1) hb
  obtain ⟨b2, e4, h4⟩ := form_bis (m := 1) hb
  obtain rfl : a1 = a2 := by cases a1 <;> cases a2 <;> simp_all
  obtain rfl : b1 = b2 := by cases b1 <;> cases b2 <;> simp_all
  have aux : Grid 1 a → Grid 1 b → (((b.length : Int) = (a.length : Int) ∧ ∀ r ∈ b, (r.length : Int) = ((a.headD []).length : Int)) ↔ b.length = a.length ∧ wdt b = wdt a) := fun ga gb => by
    constructor
    · rintro ⟨p, q⟩
      have := q _ (head_mem gb.1)
      exact ⟨by omega, by unfold wdt; omega⟩
    · rintro ⟨p, q⟩
      refine ⟨by omega, fun r hr => ?_⟩
      have := gb.2.2.2.2.1 r hr
      rw [this, q]; rfl
  refine ⟨a1 && (b1 && decide (b.length = a.length ∧ wdt b = wdt a)), by rw [Bool.and_eq_true, Bool.and_eq_true, h1, h3, decide_eq_true_iff], ?_, ?_⟩
  · unfold impl_JoinPatterns
    rw [e1, e3]
    simp only [Option.bind_some]
    cases a1 with
    | false => rfl
    | true =>
      cases b1 with
      | false => rfl
      | true =>
        have ga := h1.1 rfl
        have gb := h3.1 rfl
        simp only [Bool.not_true, cond_false, Bool.true_and, head_ok ga.1, Option.bind_some]
        obtain ⟨s, e5, h5⟩ := shape_bis (x := b) (n := goLen a) (w := goLen (a.headD [])) (by have := hb.1; omega)
        rw [e5]
        simp only [Option.bind_some]
        have h6 := h5.trans (aux ga gb)
        by_cases hc : b.length = a.length ∧ wdt b = wdt a
        · obtain rfl : s = true := h6.2 hc
          rw [decide_eq_true hc, Bool.not_true, cond_false, joinI_eq (pair_of ha hb ga gb hc.1 hc.2)]; rfl
        · obtain rfl : s = false := by cases s with | false => rfl | true => exact absurd (h6.1 rfl) hc
          rw [decide_eq_false hc]; rfl
  · unfold spec_JoinPatterns
    rw [e2, e4]
    simp only [Option.bind_some]
    cases a1 with
    | false => rfl
    | true =>
      cases b1 with
      | false => rfl
      | true =>
        have ga := h1.1 rfl
        have gb := h3.1 rfl
        simp only [Bool.not_true, cond_false, Bool.true_and, head_ok ga.1, head_ok gb.1, Option.bind_some, goLen]
        by_cases hc1 : b.length = a.length
        · rw [show (((a.length : Nat) : Int) != ((b.length : Nat) : Int)) = false by simp [hc1], cond_false]
          by_cases hc2 : wdt b = wdt a
          · have hc2' : (b.headD []).length = (a.headD []).length := hc2
            rw [decide_eq_true (⟨hc1, hc2⟩ : b.length = a.length ∧ wdt b = wdt a), hc2', bne_self_eq_false, Option.bind_some, cond_false, joinS_eq (pair_of ha hb ga gb hc1 hc2)]; rfl
          · have hc2' : ¬ (b.headD []).length = (a.headD []).length := hc2
            rw [decide_eq_false (show ¬ (b.length = a.length ∧ wdt b = wdt a) from fun h => hc2 h.2), show ((((a.headD []).length : Nat) : Int) != (((b.headD []).length : Nat) : Int)) = true by simp only [bne_iff_ne, ne_eq]; omega]; rfl
        · rw [show (((a.length : Nat) : Int) != ((b.length : Nat) : Int)) = true by simp only [bne_iff_ne, ne_eq]; omega, cond_true, decide_eq_false (show ¬ (b.length = a.length ∧ wdt b = wdt a) from fun h => hc1 h.1)]; rfl

end Go.Gx.F
