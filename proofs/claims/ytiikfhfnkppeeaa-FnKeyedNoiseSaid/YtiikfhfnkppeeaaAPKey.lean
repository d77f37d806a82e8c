/- Plain laws: tables of noise. -/
import Derived.Test.YtiikfhfnkppeeaaAPFrac
import Derived.Test.YtiikfhfnkppeeaaAPDr
namespace Go.Gx.F
open Go.Gx
set_option linter.all false

/-! ## the uniform table -/
def urow (c : Nat) : List Int := (List.range 16).map fun k => if k < 16 / (2 * c + 1) * (2 * c + 1) then ((k % (2 * c + 1) : Nat) : Int) - c else 0
def utab (d : Nat) : impl_NoiseTable := ⟨(List.range (d + 1)).map urow⟩

theorem urow_len (c : Nat) : (urow c).length = 16 := by simp [urow]
theorem small6 {c : Nat} (h : c ≤ 5) : c = 0 ∨ c = 1 ∨ c = 2 ∨ c = 3 ∨ c = 4 ∨ c = 5 := by omega

theorem yrow {c : Nat} (hc : c ≤ 5) : loopC (spec_yUniform_l2 (c : Int)) (List.replicate 16 0, 0) = some (urow c) := by
  rcases small6 hc with rfl | rfl | rfl | rfl | rfl | rfl <;> exact loopC_of (n := 20) (by kernel_rfl)

theorem range_succ_map {γ : Type} (f : Nat → γ) (n : Nat) : (List.range (n + 1)).map f = (List.range n).map f ++ [f n] := by
  rw [List.range_succ, List.map_append]; rfl

theorem spec_yUniform_eq {d : Nat} (hd : d ≤ 5) : spec_yUniform (d : Int) = some (utab d) := by
  refine tot_eq ?_
  unfold spec_yUniform
  refine tot_bind (Q := fun t => t = utab d) ?_ fun t ht => tot_some ht
  refine tot_loop (fun s => ∃ k : Nat, s = ((k : Int), ⟨(List.range k).map urow⟩) ∧ k ≤ d + 1) (fun s => (d + 1 : Int).toNat - s.1.toNat) ⟨0, rfl, by omega⟩ ?_
  rintro s ⟨k, rfl, hk⟩
  simp only [spec_yUniform_l1]
  refine tot_cond (fun hc => ?_) fun hc => tot_some ?_
  · have hc' : k ≤ d := by simpa using hc
    refine tot_bind (tot_make (n := 16) (Q := fun l => l = List.replicate 16 0) rfl (by omega) (by omega) rfl) fun l hl => ?_
    subst hl
    rw [yrow (by omega), Option.bind_some]
    refine tot_bind (tot_app (Q := fun l => l = (List.range (k + 1)).map urow) (by simp; omega) (range_succ_map urow k).symm) fun l hl => tot_some ?_
    subst hl
    rw [wid (by omega) (by omega)]
    exact ⟨⟨k + 1, rfl, by omega⟩, by simp only; omega⟩
  · have hc' : ¬ k ≤ d := by simpa using hc
    obtain rfl : k = d + 1 := by omega
    rfl

theorem irow {c : Nat} (hc : c ≤ 5) {R : List (List Int)} (hR : R[c]? = some (List.replicate 16 0)) :
    loopC (impl_UniformTable_l2 (c : Int) ((16 : Int).tdiv (2 * c + 1))) (0, ⟨R⟩) = some ⟨R.set c (urow c)⟩ := by
  -- each round turns one cell of row c
  have hlt := (List.getElem?_eq_some_iff.1 hR).1
  refine tot_eq ?_
  have hq : (16 : Int).tdiv (2 * c + 1) * (2 * c + 1) = ((16 / (2 * c + 1) * (2 * c + 1) : Nat) : Int) := by
    rcases small6 hc with rfl | rfl | rfl | rfl | rfl | rfl <;> rfl
  have hq16 : 16 / (2 * c + 1) * (2 * c + 1) ≤ 16 := Nat.div_mul_le_self _ _
  refine tot_loop (fun s => ∃ k : Nat, s = ((k : Int), ⟨R.set c ((List.range 16).map fun j => if j < k then ((j % (2 * c + 1) : Nat) : Int) - c else 0)⟩) ∧ k ≤ 16 / (2 * c + 1) * (2 * c + 1)) (fun s => 17 - s.1.toNat) ⟨0, by
    have : ((List.range 16).map fun j => if j < 0 then ((j % (2 * c + 1) : Nat) : Int) - c else 0) = List.replicate 16 0 := by simp; rfl
    rw [this]
    congr 1
    rw [← List.getElem?_eq_some_iff.1 hR |>.2]
    simp, by omega⟩ ?_
  rintro s ⟨k, rfl, hk⟩
  simp only [impl_UniformTable_l2]
  rw [wid (n := 2 * (c : Int)) (by omega) (by omega), wid (n := 2 * (c : Int) + 1) (by omega) (by omega), hq, wid (n := ((16 / (2 * c + 1) * (2 * c + 1) : Nat) : Int)) (by omega) (by omega)]
  refine tot_cond (fun hk2 => ?_) fun hk2 => tot_some ?_
  · have hk' : k < 16 / (2 * c + 1) * (2 * c + 1) := Int.ofNat_lt.1 (of_decide_eq_true hk2)
    refine tot_bind (tot_at (Q := fun e => e = ((List.range 16).map fun j => if j < k then ((j % (2 * c + 1) : Nat) : Int) - c else 0)) (by omega) (by simp; exact hlt) fun e he _ => by
      simp [hlt] at he; exact he.symm) fun e he => ?_
    subst he
    refine tot_bind (tot_rem (Q := fun z => z = ((k % (2 * c + 1) : Nat) : Int)) (by omega) (by rw [Int.tmod_eq_emod_of_nonneg (by omega)]; simp)) fun z hz => ?_
    subst hz
    refine tot_bind (tot_at (Q := fun _ => True) (by omega) (by simp; omega) fun _ _ _ => trivial) fun _ _ => tot_some ?_
    have hm : k % (2 * c + 1) < 2 * c + 1 := Nat.mod_lt _ (by omega)
    rw [wid (n := (k : Int) + 1) (by omega) (by omega), wid (n := ((k % (2 * c + 1) : Nat) : Int) - c) (by omega) (by omega)]
    refine ⟨⟨k + 1, ?_, by omega⟩, by simp only; omega⟩
    simp only [goSet, Int.toNat_natCast, List.set_set]
    congr 3
    apply List.ext_getElem?
    intro j
    rw [List.getElem?_set]
    simp only [List.length_map, List.length_range, List.getElem?_map]
    by_cases hj : k = j
    · subst hj
      have : k < 16 := by omega
      simp [this]
    · rw [if_neg hj]
      by_cases hj2 : j < 16
      · simp [hj2]
        have : (j < k) ↔ (j < k + 1) := by omega
        simp [this]
      · simp [hj2]
  · have hk' : ¬ k < 16 / (2 * c + 1) * (2 * c + 1) := fun h => of_decide_eq_false hk2 (Int.ofNat_lt.2 h)
    obtain rfl : k = 16 / (2 * c + 1) * (2 * c + 1) := by omega
    rfl

theorem impl_UniformTable_ok {d : Nat} (hd : d ≤ 5) : impl_UniformTable (d : Int) = some (utab d, true) := by
  unfold impl_UniformTable
  rw [show decide ((d : Int) < 0) = false by simp, show decide (5 < (d : Int)) = false by simp; omega]
  simp only [cond_false, Option.bind_some]
  rw [wid (by omega) (by omega), show ((d : Int) + 1) = ((d + 1 : Nat) : Int) by omega, goMake_ok (by omega) (by omega), Option.bind_some]
  refine tot_eq ?_
  refine tot_bind (Q := fun t => t = utab d) ?_ fun t ht => tot_some (by rw [ht])
  refine tot_loop (fun s => ∃ (k : Nat) (R : List (List Int)), s = ((k : Int), ⟨R⟩) ∧ k ≤ d + 1 ∧ R.length = d + 1 ∧ R.take k = (List.range k).map urow) (fun s => (d + 1 : Int).toNat - s.1.toNat) ⟨0, _, rfl, by omega, by simp, by simp⟩ ?_
  rintro s ⟨k, R, rfl, hk, hR, hT⟩
  simp only [impl_UniformTable_l1]
  refine tot_cond (fun hc => ?_) fun hc => tot_some ?_
  · have hc' : k < d + 1 := by simp [goLen] at hc; omega
    refine tot_bind (tot_make (n := 16) (Q := fun l => l = List.replicate 16 0) rfl (by omega) (by omega) rfl) fun l hl => ?_
    subst hl
    refine tot_bind (tot_at (Q := fun _ => True) (by omega) (by simp; omega) fun _ _ _ => trivial) fun _ _ => ?_
    rw [wid (n := 2 * (k : Int)) (by omega) (by omega), wid (n := 2 * (k : Int) + 1) (by omega) (by omega), goQuo_ok (by omega) (by omega) (by omega), Option.bind_some]
    simp only [goSet, Int.toNat_natCast]
    rw [irow (R := R.set k (List.replicate 16 0)) (by omega) (by rw [List.getElem?_set_self (by omega)]), Option.bind_some]
    refine tot_some ?_
    rw [wid (by omega) (by omega), List.set_set]
    refine ⟨⟨k + 1, _, rfl, by omega, by simp [hR], ?_⟩, by simp only; omega⟩
    rw [range_succ_map, ← hT, List.take_add_one, List.take_set_of_le (Nat.le_refl _)]
    simp [hR, hc']
  · have hc' : ¬ k < d + 1 := by simp [goLen] at hc; omega
    obtain rfl : k = d + 1 := by omega
    rw [List.take_of_length_le (by omega)] at hT
    rw [hT]
    rfl

theorem spec_UniformTable_ok {d : Nat} (hd : d ≤ 5) : spec_UniformTable (d : Int) = some (utab d, true) := by
  unfold spec_UniformTable
  rw [spec_l1In_eq, Option.bind_some, show decide (0 ≤ (d : Int) ∧ (d : Int) ≤ 5) = true by simp; omega, spec_yUniform_eq hd]
  rfl

theorem impl_UniformTable_bad {d : Int} (h : ¬ (0 ≤ d ∧ d ≤ 5)) : impl_UniformTable d = some (⟨[]⟩, false) := by
  unfold impl_UniformTable
  by_cases h0 : d < 0
  · rw [decide_eq_true h0]; rfl
  · rw [decide_eq_false h0, show decide (5 < d) = true by simp; omega]; rfl

theorem spec_UniformTable_bad {d : Int} (h : ¬ (0 ≤ d ∧ d ≤ 5)) : spec_UniformTable d = some (⟨[]⟩, false) := by
  unfold spec_UniformTable
  rw [spec_l1In_eq, decide_eq_false h]
  rfl

/-! ## valid tables -/
def OkRow (c : Nat) (r : List Int) : Prop := r.length = 16 ∧ ∀ v ∈ r, -5 ≤ v ∧ v ≤ 5 ∧ -(c : Int) ≤ v ∧ (c = 0 → v = 0)
def OkTab (t : impl_NoiseTable) : Prop := 1 ≤ t.Rows.length ∧ t.Rows.length ≤ 20 ∧ ∀ k r, t.Rows[k]? = some r → OkRow k r

theorem forall_mem_iff {α : Type} {l : List α} {p : α → Prop} : (∀ (k : Nat) (x : α), l[k]? = some x → p x) ↔ ∀ x ∈ l, p x := by
  constructor
  · intro h x hx
    obtain ⟨k, hk⟩ := List.getElem?_of_mem hx
    exact h k x hk
  · intro h k x hx
    exact h x (List.mem_of_getElem? hx)

theorem spec_l1All_bis {l : List Int} {lo hi : Int} (hl : l.length ≤ 9223372036854775807) : Bis (spec_l1All l lo hi) (∀ v ∈ l, lo ≤ v ∧ v ≤ hi) := by
  unfold spec_l1All
  refine bis_iff (bis_loop (l := l) (fun _ v => lo ≤ v ∧ v ≤ hi) (fun k x hx => ⟨decide (lo ≤ x ∧ x ≤ hi), by simp, ?_⟩) ?_) forall_mem_iff
  · simp only [spec_l1All_l1, lt_ok hx, at_ok hx, cond_true, Option.bind_some, spec_l1In_eq, nx_ok hx hl]
    by_cases h : lo ≤ x ∧ x ≤ hi <;> simp [h]
  · simp only [spec_l1All_l1, lt_end, cond_false]

theorem impl_IsNoiseTable_bis (t : impl_NoiseTable) : Bis (impl_IsNoiseTable t) (OkTab t) := by
  unfold impl_IsNoiseTable OkTab
  by_cases h : 1 ≤ t.Rows.length ∧ t.Rows.length ≤ 20
  · rw [show decide (goLen t.Rows < 1) = false by simp [goLen]; omega, show decide (20 < goLen t.Rows) = false by simp [goLen]; omega]
    simp only [cond_false, Option.bind_some]
    refine bis_iff (bis_loop (l := t.Rows) (fun k r => OkRow k r) (fun k r hr => ?_) ?_) (by simp [h])
    · have hk := (List.getElem?_eq_some_iff.1 hr).1
      simp only [impl_IsNoiseTable_l1, lt_ok hr, at_ok hr, cond_true, Option.bind_some]
      by_cases hl : r.length = 16
      · rw [show (goLen r != 16) = false by simp [goLen, hl]]
        simp only [cond_false]
        -- the elements of a row
        have hb : ∃ b : Bool, (b = true ↔ OkRow k r) ∧ loopC (impl_IsNoiseTable_l2 (k : Int) r) 0 = some (if b then .inl () else .inr (.done (.inr false))) := by
          have key : ∀ (j i : Nat), i + j = r.length → (∀ v ∈ r.take i, -5 ≤ v ∧ v ≤ 5 ∧ -(k : Int) ≤ v ∧ (k = 0 → v = 0)) → ∃ b : Bool, (b = true ↔ OkRow k r) ∧ loopC (impl_IsNoiseTable_l2 (k : Int) r) (i : Int) = some (if b then .inl () else .inr (.done (.inr false))) := by
            intro j
            induction j with
            | zero =>
              intro i hi hall
              rw [List.take_of_length_le (by omega)] at hall
              obtain rfl : i = r.length := by omega
              refine ⟨true, by simp only [true_iff]; exact ⟨hl, hall⟩, ?_⟩
              rw [loopC_eq]
              simp only [impl_IsNoiseTable_l2, lt_end, cond_false]
              rfl
            | succ j ih =>
              intro i hi hall
              have hlt : i < r.length := by omega
              have hx : r[i]? = some r[i] := by simp [hlt]
              rw [loopC_eq]
              simp only [impl_IsNoiseTable_l2, lt_ok hx, at_ok hx, cond_true, Option.bind_some, nx_ok hx (by omega), wid (n := -(k : Int)) (by omega) (by omega)]
              by_cases hv : -5 ≤ r[i] ∧ r[i] ≤ 5 ∧ -(k : Int) ≤ r[i] ∧ (k = 0 → r[i] = 0)
              · have e : (cond (decide (r[i] < (-5))) (some true) (cond (decide (5 < r[i])) (some true) (cond (decide (r[i] < -(k : Int))) (some true) (cond ((k : Int) == 0) (some (r[i] != 0)) (some false)))) : Option Bool) = some false := by
                  rw [show decide (r[i] < (-5)) = false by simp; omega, show decide (5 < r[i]) = false by simp; omega, show decide (r[i] < -(k : Int)) = false by simp; omega]
                  by_cases hk0 : k = 0
                  · subst hk0; simp [hv.2.2.2 rfl]
                  · rw [show ((k : Int) == 0) = false by simp; omega]; rfl
                rw [e]
                simp only [Option.bind_some, cond_false]
                refine ih (i + 1) (by omega) fun v hv2 => ?_
                rw [List.take_add_one, hx] at hv2
                rcases List.mem_append.1 hv2 with h1 | h1
                · exact hall v h1
                · simp at h1; subst h1; exact hv
              · have e : (cond (decide (r[i] < (-5))) (some true) (cond (decide (5 < r[i])) (some true) (cond (decide (r[i] < -(k : Int))) (some true) (cond ((k : Int) == 0) (some (r[i] != 0)) (some false)))) : Option Bool) = some true := by
                  by_cases h1 : r[i] < -5
                  · simp [h1]
                  · by_cases h2 : 5 < r[i]
                    · simp [h1, h2]
                    · by_cases h3 : r[i] < -(k : Int)
                      · simp [h1, h2, h3]
                      · by_cases h4 : k = 0
                        · subst h4
                          have : r[i] ≠ 0 := fun h5 => hv ⟨by omega, by omega, by omega, fun _ => h5⟩
                          rw [decide_eq_false h1, decide_eq_false h2, decide_eq_false h3]
                          show some (r[i] != 0) = some true
                          simp [this]
                        · exact absurd ⟨by omega, by omega, by omega, fun h => absurd h h4⟩ hv
                rw [e]
                refine ⟨false, ?_, rfl⟩
                simp only [Bool.false_eq_true, false_iff]
                exact fun h2 => hv (h2.2 _ (List.getElem_mem hlt))
          exact key r.length 0 (by omega) (by simp)
        obtain ⟨b, hb1, hb2⟩ := hb
        refine ⟨b, hb1, ?_⟩
        rw [hb2]
        cases b
        · rfl
        · simp only [if_true, Option.bind_some, cond_true, nx_ok hr (by omega)]
      · rw [show (goLen r != 16) = true by simp [goLen]; omega]
        refine ⟨false, ?_, rfl⟩
        simp only [Bool.false_eq_true, false_iff]
        exact fun h2 => hl h2.1
    · simp only [impl_IsNoiseTable_l1, lt_end, cond_false]
  · have e : (cond (decide (goLen t.Rows < 1)) (some true) (some (decide (20 < goLen t.Rows))) : Option Bool) = some true := by
      by_cases h1 : goLen t.Rows < 1
      · rw [decide_eq_true h1]; rfl
      · rw [decide_eq_false h1]; simp [goLen] at h1 ⊢; omega
    rw [e]
    refine ⟨false, rfl, ?_⟩
    simp only [Bool.false_eq_true, false_iff]
    exact fun h2 => h ⟨h2.1, h2.2.1⟩

theorem spec_yGood_bis (t : impl_NoiseTable) : Bis (spec_yGood t) (OkTab t) := by
  unfold spec_yGood OkTab
  rw [spec_l1In_eq, Option.bind_some]
  refine bis_iff (bis_nand (Q := 1 ≤ t.Rows.length ∧ t.Rows.length ≤ 20) (P := ∀ k r, t.Rows[k]? = some r → OkRow k r) (by simp [goLen]; omega) fun hb => ?_) (by rw [and_assoc])
  have hb' : 1 ≤ t.Rows.length ∧ t.Rows.length ≤ 20 := by simp [goLen] at hb; omega
  refine bis_loop (l := t.Rows) (fun k r => OkRow k r) (fun k r hr => ?_) ?_
  · have hk := (List.getElem?_eq_some_iff.1 hr).1
    simp only [spec_yGood_l1, lt_ok hr, at_ok hr, cond_true, Option.bind_some]
    have hbis : Bis (cond (goLen r != 16) (some true) ((spec_l1Most (w64 (-(k : Int))) (-5)).bind fun t_8 => ((spec_l1All r t_8 5).bind fun t_9 => (cond (!t_9) (some true) (cond ((k : Int) == 0) ((spec_l1All r 0 0).bind fun t_10 => some (!t_10)) (some false)))))) (¬ OkRow k r) := by
      by_cases hl : r.length = 16
      · rw [show (goLen r != 16) = false by simp [goLen, hl], cond_false, wid (n := -(k : Int)) (by omega) (by omega)]
        have hm : spec_l1Most (-(k : Int)) (-5) = some (max (-(k : Int)) (-5)) := by
          unfold spec_l1Most
          by_cases h : (-5 : Int) < -(k : Int)
          · rw [decide_eq_true h, cond_true, Int.max_eq_left (by omega)]
          · rw [decide_eq_false h, cond_false, Int.max_eq_right (by omega)]
        rw [hm, Option.bind_some]
        by_cases hk0 : k = 0
        · subst hk0
          rw [show (((0 : Nat) : Int) == 0) = true from rfl]
          simp only [cond_true]
          refine bis_iff (bis_bind_nor (spec_l1All_bis (by omega)) fun _ => bis_not (spec_l1All_bis (by omega))) ?_
          rw [← Classical.not_and_iff_not_or_not]
          refine not_congr ?_
          unfold OkRow
          constructor
          · rintro ⟨h1, h2⟩
            exact ⟨hl, fun v hv => ⟨by have := h2 v hv; omega, by have := h2 v hv; omega, by have := h2 v hv; omega, fun _ => by have := h2 v hv; omega⟩⟩
          · rintro ⟨_, h2⟩
            exact ⟨fun v hv => by have := h2 v hv; omega, fun v hv => by have := (h2 v hv).2.2.2 rfl; omega⟩
        · rw [show ((k : Int) == 0) = false by simp; omega]
          simp only [cond_false]
          refine bis_iff (bis_bind_nor (P := False) (spec_l1All_bis (by omega)) fun _ => ⟨false, rfl, by simp⟩) ?_
          rw [or_false]
          refine not_congr ?_
          unfold OkRow
          constructor
          · exact fun h => ⟨hl, fun v hv => ⟨by have := h v hv; omega, by have := h v hv; omega, by have := h v hv; omega, fun h0 => absurd h0 hk0⟩⟩
          · exact fun h v hv => by have := h.2 v hv; omega
      · rw [show (goLen r != 16) = true by simp [goLen]; omega]
        exact ⟨true, rfl, by simp only [true_iff]; exact fun h => hl h.1⟩
    obtain ⟨b, e, hb2⟩ := hbis
    rw [e]
    refine ⟨!b, ?_, ?_⟩
    · rw [Bool.not_eq_true', ← Bool.not_eq_true, hb2, Classical.not_not]
    · cases b
      · simp only [Option.bind_some, cond_false, nx_ok hr (by omega), Bool.not_false, cond_true]
      · rfl
  · simp only [spec_yGood_l1, lt_end, cond_false]

theorem tables_same (t : impl_NoiseTable) : ∃ b : Bool, impl_IsNoiseTable t = some b ∧ spec_yGood t = some b ∧ (b = true ↔ OkTab t) := bis_same (impl_IsNoiseTable_bis t) (spec_yGood_bis t)

/-! ## the element for a count and a key -/
theorem spec_l1Least_eq (a b : Int) : spec_l1Least a b = some (min a b) := by
  unfold spec_l1Least
  by_cases h : a < b
  · rw [decide_eq_true h, cond_true, Int.min_eq_left (by omega)]
  · rw [decide_eq_false h, cond_false, Int.min_eq_right (by omega)]

theorem rows {t : impl_NoiseTable} (h : OkTab t) {count : Int} (hc : 0 ≤ count) : ∃ (r : List Int) (c : Nat), impl_rowFor t count = some r ∧ spec_yRow t count = some r ∧ OkRow c r ∧ (c : Int) ≤ count := by
  obtain ⟨h1, h2, h3⟩ := h
  have hm : 0 ≤ min count ((t.Rows.length : Int) - 1) ∧ min count ((t.Rows.length : Int) - 1) < t.Rows.length := by omega
  obtain ⟨c, hcm⟩ := Int.eq_ofNat_of_zero_le hm.1
  have hlt : c < t.Rows.length := by omega
  have hr : t.Rows[c]? = some t.Rows[c] := by simp [hlt]
  refine ⟨t.Rows[c], c, ?_, ?_, h3 c _ hr, by omega⟩
  · unfold impl_rowFor
    simp only [goLen]
    rw [wid (by omega) (by omega), hcm, at_ok hr]; rfl
  · unfold spec_yRow
    simp only [goLen]
    rw [wid (by omega) (by omega), spec_l1Least_eq, Option.bind_some, hcm, at_ok hr]; rfl

theorem noises {t : impl_NoiseTable} (h : OkTab t) {count key : Int} (hc : 0 ≤ count) (hk : 0 ≤ key ∧ key < 65536) : ∃ n : Int, impl_noiseOf t count key = some n ∧ spec_yNoise t count key = some n ∧ -count ≤ n ∧ n ≤ 5 := by
  obtain ⟨r, c, e1, e2, ho, hcc⟩ := rows h hc
  have hq : 0 ≤ key.tdiv 4096 ∧ key.tdiv 4096 < 16 := by
    rw [Int.tdiv_eq_ediv_of_nonneg hk.1]; omega
  obtain ⟨q, hqe⟩ := Int.eq_ofNat_of_zero_le hq.1
  have hlt : q < r.length := by rw [ho.1]; omega
  have hr : r[q]? = some r[q] := by simp [hlt]
  have hv := ho.2 _ (List.mem_of_getElem? hr)
  refine ⟨r[q], ?_, ?_, by omega, hv.2.1⟩
  · unfold impl_noiseOf
    rw [e1, Option.bind_some, goQuo_ok (by omega) (by omega) (by omega), Option.bind_some, hqe, at_ok hr]; rfl
  · unfold spec_yNoise
    rw [e2, Option.bind_some, goQuo_ok (by omega) (by omega) (by omega), Option.bind_some, hqe, at_ok hr]; rfl

theorem NoiseOf_same (t : impl_NoiseTable) (count key : Int) : ∃ p : Int × Bool, impl_NoiseOf t count key = some p ∧ spec_NoiseOf t count key = some p ∧ (p.2 = true → OkTab t ∧ 0 ≤ count ∧ -count ≤ p.1 ∧ p.1 ≤ 5) := by
  obtain ⟨b, e1, e2, hb⟩ := tables_same t
  unfold impl_NoiseOf spec_NoiseOf
  rw [e1, e2]
  simp only [Option.bind_some, spec_l1In_eq]
  by_cases h : b = true ∧ 0 ≤ count ∧ 0 ≤ key ∧ key ≤ 65535
  · obtain ⟨h0, h1, h2, h3⟩ := h
    obtain ⟨n, n1, n2, n3, n4⟩ := noises (hb.1 h0) h1 ⟨h2, by omega⟩
    refine ⟨(n, true), ?_, ?_, fun _ => ⟨hb.1 h0, h1, n3, n4⟩⟩
    · rw [h0, show decide (count < 0) = false by simp; omega, show decide (key < 0) = false by simp; omega, show decide (65536 ≤ key) = false by simp; omega]
      simp only [Bool.not_true, cond_false, Option.bind_some, n1]
    · rw [h0, show decide (count < 0) = false by simp; omega, show decide (0 ≤ key ∧ key ≤ 65535) = true by simp; omega]
      simp only [Bool.not_true, cond_false, Option.bind_some, n2]
  · refine ⟨(0, false), ?_, ?_, fun h => by cases h⟩
    · have e : (cond (!b) (some true) (cond (decide (count < 0)) (some true) (cond (decide (key < 0)) (some true) (some (decide (65536 ≤ key))))) : Option Bool) = some true := by
        cases b with
        | false => rfl
        | true =>
          by_cases h1 : count < 0
          · simp [h1]
          · by_cases h2 : key < 0
            · simp [h1, h2]
            · have : 65536 ≤ key := by
                rcases Int.lt_or_le key 65536 with h3 | h3
                · exact absurd ⟨rfl, by omega, by omega, by omega⟩ h
                · exact h3
              simp [h1, h2, this]
      rw [e]; rfl
    · have e : (cond (!b) (some true) (cond (decide (count < 0)) (some true) (some (!decide (0 ≤ key ∧ key ≤ 65535)))) : Option Bool) = some true := by
        cases b with
        | false => rfl
        | true =>
          by_cases h1 : count < 0
          · simp [h1]
          · have : ¬ (0 ≤ key ∧ key ≤ 65535) := fun h2 => h ⟨rfl, by omega, h2.1, h2.2⟩
            simp [h1, this]
      rw [e]; rfl

/-! ## sums -/
theorem foldl_add (l : List Int) (a : Int) : l.foldl (· + ·) a = a + l.sum := by
  induction l generalizing a with
  | nil => simp
  | cons x l ih => simp only [List.foldl_cons, List.sum_cons, ih]; omega

theorem sum_bound {l : List Int} {B : Int} (hB : 0 ≤ B) (h : ∀ x ∈ l, -B ≤ x ∧ x ≤ B) : -(B * l.length) ≤ l.sum ∧ l.sum ≤ B * l.length := by
  induction l with
  | nil => simp
  | cons x l ih =>
    have h1 := h x (by simp)
    have h2 := ih fun y hy => h y (by simp [hy])
    simp only [List.sum_cons, List.length_cons, Int.natCast_add, Int.mul_add]
    omega

theorem sum_take {l : List Int} {k : Nat} {x : Int} (hx : l[k]? = some x) : (l.take (k + 1)).sum = (l.take k).sum + x := by
  rw [List.take_add_one, hx]
  simp

theorem impl_total_eq {l : List Int} {B : Int} (hB : 0 ≤ B) (hB2 : B ≤ 1000000) (hl : l.length ≤ 1000000) (h : ∀ x ∈ l, -B ≤ x ∧ x ≤ B) : impl_total l = some l.sum := by
  refine tot_eq ?_
  unfold impl_total
  refine tot_bind (Q := fun t => t = l.sum) ?_ fun t ht => tot_some ht
  refine tot_loop (fun s => ∃ k : Nat, s = ((l.take k).sum, (k : Int)) ∧ k ≤ l.length) (fun s => l.length - s.2.toNat) ⟨0, by simp, by omega⟩ ?_
  rintro s ⟨k, rfl, hk⟩
  simp only [impl_total_l1]
  refine tot_cond (fun hc => ?_) fun hc => tot_some ?_
  · have hlt : k < l.length := by simp [goLen] at hc; omega
    have hx : l[k]? = some l[k] := by simp [hlt]
    rw [at_ok hx, Option.bind_some, nx_ok hx (by omega)]
    have hb := sum_bound (l := l.take (k + 1)) hB fun x hx => h x (List.mem_of_mem_take hx)
    have hl2 : (l.take (k + 1)).length ≤ 1000000 := by simp; omega
    have hm : B * ((l.take (k + 1)).length : Int) ≤ 1000000 * 1000000 := Int.mul_le_mul hB2 (by omega) (by omega) (by omega)
    have he := sum_take hx
    rw [wid (by omega) (by omega), ← he]
    exact tot_some ⟨⟨k + 1, rfl, by omega⟩, by simp only; omega⟩
  · have hlt : ¬ k < l.length := by simp [goLen] at hc; omega
    rw [List.take_of_length_le (by omega)]

def sq (l : List Int) : Int := (l.map fun x => x * x).sum

theorem sq_nonneg (l : List Int) : 0 ≤ sq l := by
  unfold sq
  induction l with
  | nil => simp
  | cons x l ih =>
    have : 0 ≤ x * x := by rcases Int.le_total 0 x with h | h; exact Int.mul_nonneg h h; exact Int.mul_nonneg_of_nonpos_of_nonpos h h
    simp only [List.map_cons, List.sum_cons]; omega

theorem sq_bound {l : List Int} (h : ∀ x ∈ l, -5 ≤ x ∧ x ≤ 5) : sq l ≤ 25 * l.length := by
  unfold sq
  induction l with
  | nil => simp
  | cons x l ih =>
    have h1 := h x (by simp)
    have h2 := ih fun y hy => h y (by simp [hy])
    have : x * x ≤ 25 := by
      have : x.natAbs * x.natAbs ≤ 5 * 5 := Nat.mul_le_mul (by omega) (by omega)
      have e : ((x.natAbs * x.natAbs : Nat) : Int) = x * x := by rw [Int.natCast_mul]; exact Int.natAbs_mul_self' x
      omega
    simp only [List.map_cons, List.sum_cons, List.length_cons, Int.natCast_add]; omega

theorem sq_take {l : List Int} {k : Nat} {x : Int} (hx : l[k]? = some x) : sq (l.take (k + 1)) = sq (l.take k) + x * x := by
  unfold sq
  rw [List.take_add_one, hx]
  simp

theorem spec_yMoments_eq {l : List Int} (hl : l.length ≤ 16) (h : ∀ x ∈ l, -5 ≤ x ∧ x ≤ 5) : spec_yMoments l = some (l.sum, sq l) := by
  refine tot_eq ?_
  unfold spec_yMoments
  refine tot_bind (Q := fun t => t = (l.sum, sq l)) ?_ fun t ht => by subst ht; exact tot_some rfl
  refine tot_loop (fun s => ∃ k : Nat, s = ((l.take k).sum, sq (l.take k), (k : Int)) ∧ k ≤ l.length) (fun s => l.length - s.2.2.toNat) ⟨0, by simp [sq], by omega⟩ ?_
  rintro s ⟨k, rfl, hk⟩
  simp only [spec_yMoments_l1]
  refine tot_cond (fun hc => ?_) fun hc => tot_some ?_
  · have hlt : k < l.length := by simp [goLen] at hc; omega
    have hx : l[k]? = some l[k] := by simp [hlt]
    rw [at_ok hx, Option.bind_some, nx_ok hx (by omega)]
    have hb := sum_bound (l := l.take (k + 1)) (B := 5) (by omega) fun x hx => h x (List.mem_of_mem_take hx)
    have hl2 : (l.take (k + 1)).length ≤ 16 := by simp; omega
    have hb2 := sq_bound (l := l.take (k + 1)) fun x hx => h x (List.mem_of_mem_take hx)
    have hb3 := sq_nonneg (l.take (k + 1))
    have hb4 := sq_nonneg (l.take k)
    have he := sum_take hx
    have he2 := sq_take hx
    have hvv : 0 ≤ l[k] * l[k] := by rcases Int.le_total 0 l[k] with h | h; exact Int.mul_nonneg h h; exact Int.mul_nonneg_of_nonpos_of_nonpos h h
    rw [wid (n := (l.take k).sum + l[k]) (by omega) (by omega), ← he, wid (n := l[k] * l[k]) (by omega) (by omega), wid (n := sq (l.take k) + l[k] * l[k]) (by omega) (by omega), ← he2]
    exact tot_some ⟨⟨k + 1, rfl, by omega⟩, by simp only; omega⟩
  · have hlt : ¬ k < l.length := by simp [goLen] at hc; omega
    rw [List.take_of_length_le (by omega)]

theorem mk_ok {n d : Int} (hd : 0 < d) (h1 : n.natAbs ≤ 1000000000) (h2 : d ≤ 1000000000) : (mk n d).2 = true := by
  have hg := gcd_pos (n := n) (d := d) (by omega)
  have a1 := natAbs_tdiv_le n (Int.gcd n d)
  have a2 := natAbs_tdiv_le d (Int.gcd n d)
  unfold mk
  simp only
  rw [if_neg (by omega : ¬ d < 0), if_pos (by dsimp only; omega)]

theorem mean_same {t : impl_NoiseTable} (h : OkTab t) {count : Int} (hc : 0 ≤ count) : ∃ f : impl_Frac, impl_NoiseMean t count = some (f, true) ∧ spec_NoiseMean t count = some (f, true) := by
  obtain ⟨r, c, e1, e2, ho, hcc⟩ := rows h hc
  obtain ⟨b, b1, b2, hb⟩ := tables_same t
  have hbt := hb.2 h
  subst hbt
  have hs := sum_bound (l := r) (B := 5) (by omega) fun x hx => ⟨(ho.2 x hx).1, (ho.2 x hx).2.1⟩
  rw [ho.1] at hs
  have hm := mk_ok (n := r.sum) (d := 16) (by omega) (by omega) (by omega)
  refine ⟨(mk r.sum 16).1, ?_, ?_⟩
  · unfold impl_NoiseMean
    rw [b1]
    simp only [Option.bind_some, Bool.not_true, cond_false, show decide (count < 0) = false by simp; omega, e1]
    rw [impl_total_eq (B := 5) (by omega) (by omega) (by rw [ho.1]; omega) fun x hx => ⟨(ho.2 x hx).1, (ho.2 x hx).2.1⟩, Option.bind_some, impl_reduced_eq (by omega) (by omega) (by omega), Option.bind_some, hm]
  · unfold spec_NoiseMean
    rw [b2]
    simp only [Option.bind_some, Bool.not_true, cond_false, show decide (count < 0) = false by simp; omega, e2]
    rw [spec_yMoments_eq (by rw [ho.1]; omega) fun x hx => ⟨(ho.2 x hx).1, (ho.2 x hx).2.1⟩, Option.bind_some]
    simp only
    rw [spec_fMake_eq (by omega) (by omega) (by omega), Option.bind_some, hm]

/-! ## the uniform table is valid and even -/
theorem utab_ok {d : Nat} (hd : d ≤ 5) : OkTab (utab d) := by
  refine ⟨by simp [utab], by simp [utab]; omega, fun k r hr => ?_⟩
  have hk : k < d + 1 := by
    have := (List.getElem?_eq_some_iff.1 hr).1
    simpa [utab] using this
  have : r = urow k := by
    simp [utab, hk] at hr
    exact hr.symm
  subst this
  rcases small6 (show k ≤ 5 by omega) with rfl | rfl | rfl | rfl | rfl | rfl <;> (unfold OkRow; decide)

theorem utab_row {d : Nat} (hd : d ≤ 5) : impl_rowFor (utab d) (d : Int) = some (urow d) := by
  unfold impl_rowFor
  simp only [goLen, utab, List.length_map, List.length_range]
  rw [wid (by omega) (by omega), show min (d : Int) (((d + 1 : Nat) : Int) - 1) = (d : Int) by omega, at_ok (x := urow d) (by simp)]
  rfl

theorem impl_sq_loop {l : List Int} (hl : l.length ≤ 16) (h : ∀ x ∈ l, -5 ≤ x ∧ x ≤ 5) : loopC (impl_NoiseVariance_l1 l) (0, 0) = some (sq l) := by
  refine tot_eq ?_
  refine tot_loop (fun s => ∃ k : Nat, s = (sq (l.take k), (k : Int)) ∧ k ≤ l.length) (fun s => l.length - s.2.toNat) ⟨0, by simp [sq], by omega⟩ ?_
  rintro s ⟨k, rfl, hk⟩
  simp only [impl_NoiseVariance_l1]
  refine tot_cond (fun hc => ?_) fun hc => tot_some ?_
  · have hlt : k < l.length := by simp [goLen] at hc; omega
    have hx : l[k]? = some l[k] := by simp [hlt]
    rw [at_ok hx, Option.bind_some, nx_ok hx (by omega)]
    have hl2 : (l.take (k + 1)).length ≤ 16 := by simp; omega
    have hb2 := sq_bound (l := l.take (k + 1)) fun x hx => h x (List.mem_of_mem_take hx)
    have hb3 := sq_nonneg (l.take (k + 1))
    have hb4 := sq_nonneg (l.take k)
    have he2 := sq_take hx
    have hv := h _ (List.mem_of_getElem? hx)
    have hvv : 0 ≤ l[k] * l[k] := by rcases Int.le_total 0 l[k] with h | h; exact Int.mul_nonneg h h; exact Int.mul_nonneg_of_nonpos_of_nonpos h h
    rw [wid (n := l[k] * l[k]) (by omega) (by omega), wid (n := sq (l.take k) + l[k] * l[k]) (by omega) (by omega), ← he2]
    exact tot_some ⟨⟨k + 1, rfl, by omega⟩, by simp only; omega⟩
  · have hlt : ¬ k < l.length := by simp [goLen] at hc; omega
    rw [List.take_of_length_le (by omega)]

theorem even_row {d : Nat} (hd : d ≤ 5) : (urow d).sum = 0 ∧ (∀ x ∈ urow d, -5 ≤ x ∧ x ≤ 5) := by
  rcases small6 hd with rfl | rfl | rfl | rfl | rfl | rfl <;> decide

theorem uniform_mean {d : Nat} (hd : d ≤ 5) : ∃ f : impl_Frac, impl_NoiseMean (utab d) (d : Int) = some (f, true) ∧ f.Num = 0 := by
  obtain ⟨b, b1, b2, hb⟩ := tables_same (utab d)
  have hbt := hb.2 (utab_ok hd)
  subst hbt
  obtain ⟨h0, hr⟩ := even_row hd
  have hm := mk_ok (n := 0) (d := 16) (by omega) (by omega) (by omega)
  refine ⟨(mk 0 16).1, ?_, by decide⟩
  unfold impl_NoiseMean
  rw [b1]
  simp only [Option.bind_some, Bool.not_true, cond_false, show decide ((d : Int) < 0) = false by simp, utab_row hd]
  rw [impl_total_eq (B := 5) (by omega) (by omega) (by rw [urow_len]; omega) hr, h0, Option.bind_some, impl_reduced_eq (by omega) (by omega) (by omega), Option.bind_some, hm]

theorem uniform_var {d : Nat} (hd : d ≤ 5) : ∃ f : impl_Frac, impl_NoiseVariance (utab d) (d : Int) = some (f, true) ∧ 0 ≤ f.Num := by
  obtain ⟨b, b1, b2, hb⟩ := tables_same (utab d)
  have hbt := hb.2 (utab_ok hd)
  subst hbt
  obtain ⟨h0, hr⟩ := even_row hd
  have hs := sq_bound hr
  have hs0 := sq_nonneg (urow d)
  rw [urow_len] at hs
  have hm := mk_ok (n := sq (urow d) * 16) (d := 256) (by omega) (by omega) (by omega)
  refine ⟨(mk (sq (urow d) * 16) 256).1, ?_, ?_⟩
  · unfold impl_NoiseVariance
    rw [b1]
    simp only [Option.bind_some, Bool.not_true, cond_false, show decide ((d : Int) < 0) = false by simp, utab_row hd]
    rw [impl_total_eq (B := 5) (by omega) (by omega) (by rw [urow_len]; omega) hr, h0, Option.bind_some, impl_sq_loop (by rw [urow_len]; omega) hr, Option.bind_some, wid (n := sq (urow d) * 16) (by omega) (by omega), show w64 ((0 : Int) * 0) = 0 from rfl, Int.sub_zero, wid (by omega) (by omega), impl_reduced_eq (by omega) (by omega) (by omega), Option.bind_some, hm]
  · unfold mk
    simp only
    have hg := gcd_pos (n := sq (urow d) * 16) (d := 256) (by omega)
    have := Int.tdiv_nonneg (a := sq (urow d) * 16) (b := (Int.gcd (sq (urow d) * 16) 256 : Nat)) (by omega) (by omega)
    rw [if_neg (by omega : ¬ (256 : Int) < 0)]
    split
    · exact this
    · simp

/-! ## keys of cells -/
theorem impl_areKeys_bis {l : List Int} (hl : l.length ≤ 9223372036854775807) : Bis (impl_areKeys l) (∀ v ∈ l, 0 ≤ v ∧ v ≤ 65535) := by
  unfold impl_areKeys
  refine bis_iff (bis_loop (l := l) (fun _ v => 0 ≤ v ∧ v ≤ 65535) (fun k x hx => ⟨decide (0 ≤ x ∧ x ≤ 65535), by simp, ?_⟩) ?_) forall_mem_iff
  · simp only [impl_areKeys_l1, lt_ok hx, at_ok hx, cond_true, Option.bind_some, nx_ok hx hl]
    by_cases h : x < 0
    · have : ¬ (0 ≤ x ∧ x ≤ 65535) := by omega
      simp [h, this]
    · by_cases h2 : 65536 ≤ x
      · have : ¬ (0 ≤ x ∧ x ≤ 65535) := by omega
        simp [h, h2, this]
      · have : 0 ≤ x ∧ x ≤ 65535 := by omega
        simp [h, h2, this]
  · simp only [impl_areKeys_l1, lt_end, cond_false]

theorem keys_mod {l : List Int} (hl : l.length ≤ 40) (h : ∀ v ∈ l, 0 ≤ v ∧ v ≤ 65535) : loopC (spec_CellKey_l1 l) (0, 0) = some (l.sum % 65536) := by
  refine tot_eq ?_
  refine tot_loop (fun s => ∃ k : Nat, s = ((l.take k).sum % 65536, (k : Int)) ∧ k ≤ l.length) (fun s => l.length - s.2.toNat) ⟨0, by simp, by omega⟩ ?_
  rintro s ⟨k, rfl, hk⟩
  simp only [spec_CellKey_l1]
  refine tot_cond (fun hc => ?_) fun hc => tot_some ?_
  · have hlt : k < l.length := by simp [goLen] at hc; omega
    have hx : l[k]? = some l[k] := by simp [hlt]
    have hv := h _ (List.mem_of_getElem? hx)
    have he := sum_take hx
    rw [at_ok hx, Option.bind_some, nx_ok hx (by omega), wid (by omega) (by omega), goRem_ok (by omega), Option.bind_some]
    refine tot_some ⟨⟨k + 1, ?_, by omega⟩, by simp only; omega⟩
    rw [Int.tmod_eq_emod_of_nonneg (by omega), he]
    congr 1
    omega
  · have hlt : ¬ k < l.length := by simp [goLen] at hc; omega
    rw [List.take_of_length_le (by omega)]

theorem sum_nonneg' {l : List Int} (h : ∀ x ∈ l, 0 ≤ x) : 0 ≤ l.sum := by
  induction l with
  | nil => simp
  | cons x l ih =>
    have h1 := h x (by simp)
    have h2 := ih fun y hy => h y (by simp [hy])
    simp only [List.sum_cons]; omega

theorem CellKey_same (l : List Int) : ∃ p : Int × Bool, impl_CellKey l = some p ∧ spec_CellKey l = some p := by
  unfold impl_CellKey spec_CellKey
  by_cases hl : 40 < l.length
  · rw [show decide (40 < goLen l) = true by simp [goLen]; omega]
    exact ⟨_, rfl, rfl⟩
  · rw [show decide (40 < goLen l) = false by simp [goLen]; omega]
    obtain ⟨b, e1, hb⟩ := impl_areKeys_bis (l := l) (by omega)
    obtain ⟨c, e2, hc⟩ := spec_l1All_bis (l := l) (lo := 0) (hi := 65535) (by omega)
    have : b = c := by rw [Bool.eq_iff_iff, hb, hc]
    subst this
    simp only [cond_false, spec_yKeys, e1, e2, Option.bind_some]
    cases b with
    | false => exact ⟨_, rfl, rfl⟩
    | true =>
      have hk := hb.1 rfl
      simp only [Bool.not_true, cond_false]
      rw [impl_total_eq (B := 65535) (by omega) (by omega) (by omega) fun x hx => ⟨by have := hk x hx; omega, (hk x hx).2⟩, keys_mod (by omega) hk, Option.bind_some, goRem_ok (by omega), Option.bind_some, Option.bind_some]
      refine ⟨_, rfl, ?_⟩
      rw [Int.tmod_eq_emod_of_nonneg (sum_nonneg' fun x hx => (hk x hx).1)]

/-! ## what is drawn -/
def Wide (t : impl_NoiseTable) : Prop := 1 ≤ t.Rows.length ∧ t.Rows.length ≤ 6 ∧ ∀ r ∈ t.Rows, r.length = 16

theorem utab_wide {d : Nat} (hd : d ≤ 5) : Wide (utab d) := by
  refine ⟨by simp [utab], by simp [utab]; omega, fun r hr => ?_⟩
  simp only [utab, List.mem_map] at hr
  obtain ⟨k, _, rfl⟩ := hr
  exact urow_len k

theorem wide_set {t : impl_NoiseTable} (h : Wide t) {i j : Int} {r : List Int} {v : Int} (hr : r ∈ t.Rows) : Wide ⟨goSet t.Rows i (goSet r j v)⟩ := by
  obtain ⟨h1, h2, h3⟩ := h
  refine ⟨by simpa using h1, by simpa using h2, fun x hx => ?_⟩
  rcases List.mem_or_eq_of_mem_set hx with hx | rfl
  · exact h3 x hx
  · simpa using h3 r hr

theorem tnoise {B : Nat} {c : spec_l1Cur} (h : Cur B c) (hB : B ≤ 1000000000) : Tot (spec_l1Cur_noiseTable c) fun r => Cur (B + 1000) r.2 := by
  unfold spec_l1Cur_noiseTable
  refine tot_bind (tpick h (by omega)) fun ⟨d, c1⟩ ⟨d0, d1, _, k1⟩ => ?_
  simp only at d0 d1
  obtain ⟨d, rfl⟩ := Int.eq_ofNat_of_zero_le d0
  have hd : d ≤ 3 := by have := d1 (by omega); omega
  rw [spec_yUniform_eq (by omega), Option.bind_some]
  have hw := utab_wide (d := d) (by omega)
  generalize utab d = t0 at hw ⊢
  have w1 : w64 (goLen t0.Rows - 1) = (t0.Rows.length : Int) - 1 := wid (by simp only [goLen]; have := hw.2.1; omega) (by simp only [goLen]; have := hw.2.1; omega)
  refine tot_bind (Q := fun r => (r.1 = true → 1 < t0.Rows.length) ∧ Cur (B + 4) r.2) ?_ fun ⟨b, c2⟩ ⟨hb, k2⟩ => ?_
  · refine tot_bind (tone k1) fun ⟨x, c2⟩ k2 => tot_cond (fun _ => tot_some ⟨fun h => by simp [goLen] at h; omega, k2⟩) fun _ => tot_some ⟨nofun, k2⟩
  refine tot_bind (Q := fun r => Wide r.2 ∧ Cur (B + 20) r.1) (tot_cond (fun hb1 => ?_) fun _ => tot_some ⟨hw, k2.le (by omega)⟩) fun ⟨c3, t1⟩ ⟨hw1, k3⟩ => ?_
  · have hb' := hb hb1
    rw [w1]
    have := hw.2.1
    refine tot_bind (tpick k2 (by omega) (by omega)) fun ⟨k, c3⟩ ⟨x0, x1, _, k3⟩ => ?_
    have hx := x1 (by omega)
    simp only at x0 hx
    rw [wid (n := 1 + k) (by omega) (by omega)]
    refine tot_bind (tot_at (Q := fun e => e ∈ t0.Rows) (by omega) (by omega) fun e _ he => he) fun e he => ?_
    refine tot_bind (tpick k3) fun ⟨j, c4⟩ ⟨y0, y1, _, k4⟩ => ?_
    refine tot_bind (tpick k4) fun ⟨v, c5⟩ ⟨_, _, _, k5⟩ => ?_
    have hy := y1 (by omega)
    simp only at y0 hy
    refine tot_bind (tot_at (Q := fun _ => True) y0 (by rw [hw.2.2 e he]; exact hy) fun _ _ _ => trivial) fun _ _ => tot_some ⟨wide_set hw he, k5.le (by omega)⟩
  replace hw1 : Wide t1 := hw1
  have w2 : w64 (goLen t1.Rows - 1) = (t1.Rows.length : Int) - 1 := wid (by simp only [goLen]; have := hw1.2.1; omega) (by simp only [goLen]; have := hw1.2.1; omega)
  have a1 := hw1.1
  have a2 := hw1.2.1
  refine tot_bind (tpick k3) fun ⟨s, c4⟩ ⟨_, _, _, k4⟩ => ?_
  refine tot_bind (Q := fun r => match r with | .inl x => Cur (B + 1000) x.1 | .inr x => Cur (B + 1000) x.2) ?_ fun r hr => ?_
  · refine tot_cond (fun _ => ?_) fun _ => ?_
    · refine tot_bind (Q := fun x => Cur (B + 1000) x.1) ?_ fun ⟨x, y⟩ hx => tot_some hx
      refine tot_bind (tot_at (Q := fun e => e.length = 16) (by omega) (by omega) fun e _ he => hw1.2.2 e he) fun e he => ?_
      refine tot_bind (tamong k4) fun ⟨v, c5⟩ ⟨_, k5⟩ => ?_
      exact tot_bind (tot_at (Q := fun _ => True) (by omega) (by omega) fun _ _ _ => trivial) fun _ _ => tot_some (k5.le (by omega))
    · refine tot_bind (Q := fun r => match r with | .inl x => Cur (B + 1000) x.1 | .inr (.inl x) => Cur (B + 1000) x.1 | .inr (.inr x) => Cur (B + 1000) x.2) ?_ fun r hr => ?_
      · refine tot_cond (fun _ => ?_) fun _ => tot_cond (fun _ => tot_some (k4.le (by omega))) fun _ => ?_
        · exact tot_bind (tot_app (Q := fun _ => True) (by simp; omega) trivial) fun _ _ => tot_some (k4.le (by omega))
        · refine tot_bind (Q := fun x => Cur (B + 1000) x.1) (tot_cond (fun _ => ?_) fun _ => ?_) fun ⟨x, y⟩ hx => tot_some hx
          · refine tot_bind (Q := fun x => Cur (B + 1000) x.1) ?_ fun ⟨x, y⟩ hx => tot_some hx
            refine tot_loop (fun s => Cur (B + 22 + 2 * s.2.Rows.length) s.1 ∧ s.2.Rows.length ≤ 21) (fun s => 30 - s.2.Rows.length) ⟨k4.le (by omega), by simp only; omega⟩ ?_
            rintro ⟨c5, t5⟩ ⟨k5, hl⟩
            simp only at k5 hl
            simp only [spec_l1Cur_noiseTable_l1]
            refine tot_bind (tpick k5) fun ⟨z, c6⟩ ⟨z0, z1, _, k6⟩ => ?_
            have hz := z1 (by omega)
            simp only at z0 hz
            rw [wid (n := 20 + z) (by omega) (by omega)]
            refine tot_cond (fun hc => ?_) fun _ => tot_some (k6.le (by omega))
            have hc' : (t5.Rows.length : Int) < 20 + z := by simpa [goLen] using hc
            refine tot_bind (tot_make (n := 16) (Q := fun _ => True) rfl (by omega) (by omega) trivial) fun l _ => ?_
            refine tot_bind (tot_app (Q := fun r => r.length = t5.Rows.length + 1) (by simp; omega) (by simp)) fun r hr => tot_some ?_
            simp only
            rw [hr]
            exact ⟨⟨k6.le (by omega), by omega⟩, by omega⟩
          · refine tot_bind (Q := fun x => Cur (B + 1000) x.1) (tot_cond (fun _ => ?_) fun _ => tot_some (k4.le (by omega))) fun ⟨x, y⟩ hx => tot_some hx
            refine tot_bind (Q := fun x => Cur (B + 1000) x.1) ?_ fun ⟨x, y⟩ hx => tot_some hx
            rw [w2]
            refine tot_bind (tot_at (Q := fun e => e.length = 16) (by omega) (by omega) fun e _ he => hw1.2.2 e he) fun e he => ?_
            refine tot_bind (tamong k4) fun ⟨v, c5⟩ ⟨_, k5⟩ => ?_
            exact tot_bind (tot_at (Q := fun _ => True) (by omega) (by omega) fun _ _ _ => trivial) fun _ _ => tot_some (k5.le (by omega))
      · rcases r with ⟨x, y⟩ | ⟨x, y⟩ | ⟨x, y⟩ <;> exact tot_some hr
  · rcases r with ⟨x, y⟩ | ⟨x, y⟩ <;> exact tot_some hr

theorem DrawNoiseOf_ok {code : List (K .u8)} (ho : ∀ x ∈ code, Rng.ok x) : Tot (spec_DrawNoiseOf code) fun r => r.2.1 ≤ 50 := by
  unfold spec_DrawNoiseOf
  refine tot_bind (tnoise (cur0 ho) (by omega)) fun ⟨t, c1⟩ k1 => ?_
  refine tot_bind (tamong k1) fun ⟨x, c2⟩ ⟨hx, k2⟩ => ?_
  refine tot_bind (tpick k2) fun ⟨y, c3⟩ ⟨_, _, _, k3⟩ => ?_
  refine tot_bind (tamong k3) fun _ _ => tot_some ?_
  simp at hx ⊢
  omega

theorem DrawCellKey_ok {code : List (K .u8)} (ho : ∀ x ∈ code, Rng.ok x) : Tot (spec_DrawCellKey code) fun _ => True := by
  unfold spec_DrawCellKey
  refine tot_bind (tpick (cur0 ho)) fun ⟨n, c1⟩ ⟨n0, n1, _, k1⟩ => ?_
  have hn := n1 (by omega)
  simp only at n0 hn
  refine tot_bind (Q := fun r => r.1.length ≤ 6 ∧ Cur 100 r.2) ?_ fun ⟨l, c2⟩ ⟨hl, k2⟩ => ?_
  · refine tot_loop (fun s => (s.1.length : Int) + s.2.1 ≤ 6 ∧ 0 ≤ s.2.1 ∧ Cur (2 + 2 * s.1.length) s.2.2) (fun s => s.2.1.toNat) ⟨by simp; omega, n0, k1.le (by simp)⟩ ?_
    rintro ⟨l, k, c2⟩ ⟨h1, h2, k2⟩
    simp only at h1 h2 k2
    simp only [spec_DrawCellKey_l1]
    refine tot_cond (fun hc => ?_) fun _ => tot_some ⟨by simp only; omega, k2.le (by omega)⟩
    have hc' : 0 < k := by simpa using hc
    refine tot_bind (tpick k2) fun ⟨x, c3⟩ ⟨_, _, _, k3⟩ => ?_
    refine tot_bind (tot_app (Q := fun r => r.length = l.length + 1) (by simp; omega) (by simp)) fun r hr => tot_some ?_
    rw [wid (by omega) (by omega)]
    simp only
    rw [hr]
    exact ⟨⟨by omega, by omega, k3.le (by omega)⟩, by omega⟩
  simp only at hl
  refine tot_bind (tpick k2) fun ⟨x, c3⟩ ⟨_, _, _, k3⟩ => ?_
  refine tot_bind (Q := fun _ => True) (tot_cond (fun _ => ?_) fun _ => ?_) fun _ _ => tot_some trivial
  · refine tot_bind (tamong k3) fun _ _ => ?_
    exact tot_bind (tot_app (Q := fun _ => True) (by simp; omega) trivial) fun _ _ => tot_some trivial
  · refine tot_bind (Q := fun _ => True) (tot_cond (fun _ => ?_) fun _ => tot_some trivial) fun _ _ => tot_some trivial
    refine tot_bind (Q := fun _ => True) ?_ fun _ _ => tot_some trivial
    refine tot_loop (fun s => Cur (200 + 2 * s.1.length) s.2 ∧ s.1.length ≤ 41) (fun s => 50 - s.1.length) ⟨k3.le (by omega), by simp only; omega⟩ ?_
    rintro ⟨l, c4⟩ ⟨k4, hl⟩
    simp only at k4 hl
    simp only [spec_DrawCellKey_l2]
    refine tot_bind (tpick k4) fun ⟨z, c5⟩ ⟨z0, z1, _, k5⟩ => ?_
    have hz := z1 (by omega)
    simp only at z0 hz
    rw [wid (n := 40 + z) (by omega) (by omega)]
    refine tot_cond (fun hc => ?_) fun _ => tot_some trivial
    have hc' : (l.length : Int) < 40 + z := by simpa [goLen] using hc
    refine tot_bind (tot_app (Q := fun r => r.length = l.length + 1) (by simp; omega) (by simp)) fun r hr => tot_some ?_
    simp only
    rw [hr]
    exact ⟨⟨k5.le (by omega), by omega⟩, by omega⟩

theorem qInts_self {l : List Int} (h : l.length ≤ 1048576) : laws_qInts l l = some true := by
  unfold laws_qInts
  rw [bne_self_eq_false, cond_false]
  have h := loop_all (l := l) (fun _ => true) (laws_qInts_l1 l l) (fun k x hx => by
    simp only [laws_qInts_l1, lt_ok hx, cond_true, at_ok hx, Option.bind_some, bne_self_eq_false, cond_false, nx_ok hx (by omega), if_true]) (fun _ => by simp only [laws_qInts_l1, lt_end, cond_false])
  rw [h]; simp

theorem qLists_self {l : List (List Int)} (h : l.length ≤ 1048576) (h2 : ∀ x ∈ l, x.length ≤ 1048576) : laws_qLists l l = some true := by
  unfold laws_qLists
  rw [bne_self_eq_false, cond_false]
  have h := loop_all (l := l) (fun _ => true) (laws_qLists_l1 l l) (fun k x hx => by
    simp only [laws_qLists_l1, lt_ok hx, cond_true, at_ok hx, Option.bind_some, qInts_self (h2 x (List.mem_of_getElem? hx)), Bool.not_true, cond_false, nx_ok hx (by omega), if_true]) (fun _ => by simp only [laws_qLists_l1, lt_end, cond_false])
  rw [h]; simp

theorem laws_FnKeyedNoise_true (a b : List (K .u8)) (o1 : Rng.ok a) (o2 : Rng.ok b) : laws_FnKeyedNoise a b = some true := by
  refine tot_eq ?_
  unfold laws_FnKeyedNoise
  refine tot_cond (fun _ => tot_some rfl) fun _ => ?_
  refine tot_bind (DrawNoiseOf_ok o1.2) fun ⟨t, count, key⟩ hcount => ?_
  simp only at hcount
  obtain ⟨⟨n, ok⟩, e1, e2, hok⟩ := NoiseOf_same t count key
  simp only [e1, e2, Option.bind_some]
  have hd : Tot (spec_DrawUniformTable b) fun d => -1 ≤ d ∧ d ≤ 6 := by
    unfold spec_DrawUniformTable
    refine tot_bind (tpick (cur0 o2.2)) fun ⟨x, c1⟩ ⟨x0, x1, _, _⟩ => tot_some ?_
    have := x1 (by omega)
    simp only at x0 this ⊢
    rw [wid (by omega) (by omega)]
    omega
  refine tot_bind hd fun d hd => ?_
  have hu : ∃ (u : impl_NoiseTable) (f : Bool), impl_UniformTable d = some (u, f) ∧ spec_UniformTable d = some (u, f) ∧ laws_qLists u.Rows u.Rows = some true ∧ (f = true → ∃ k : Nat, d = (k : Int) ∧ k ≤ 5 ∧ u = utab k) := by
    by_cases h : 0 ≤ d ∧ d ≤ 5
    · obtain ⟨k, rfl⟩ := Int.eq_ofNat_of_zero_le h.1
      have hk : k ≤ 5 := by omega
      refine ⟨utab k, true, impl_UniformTable_ok hk, spec_UniformTable_ok hk, qLists_self (by have := (utab_wide hk).2.1; omega) (fun x hx => by have := (utab_wide hk).2.2 x hx; omega), fun _ => ⟨k, rfl, hk, rfl⟩⟩
    · exact ⟨⟨[]⟩, false, impl_UniformTable_bad h, spec_UniformTable_bad h, qLists_self (by simp) (by simp), nofun⟩
  obtain ⟨u, f, u1, u2, u3, hf⟩ := hu
  simp only [u1, u2, Option.bind_some]
  refine tot_bind (DrawCellKey_ok o2.2) fun l _ => ?_
  obtain ⟨p, p1, p2⟩ := CellKey_same l
  simp only [p1, p2, u3, Option.bind_some, bne_self_eq_false, Bool.not_true, cond_false]
  refine tot_bind (Q := fun r => r = .inl ()) (tot_cond (fun hft => ?_) fun _ => tot_some rfl) fun r hr => ?_
  · obtain ⟨k, rfl, hk, rfl⟩ := hf hft
    obtain ⟨f1, m1, m2⟩ := uniform_mean hk
    obtain ⟨f2, v1, v2⟩ := uniform_var hk
    obtain ⟨b', b1, b2, hb⟩ := tables_same (utab k)
    have hbt := hb.2 (utab_ok hk)
    subst hbt
    simp only [m1, v1, b1, Option.bind_some, Bool.not_true, cond_false, m2, bne_self_eq_false, show decide (f2.Num < 0) = false by simp; omega]
    exact tot_some rfl
  · subst hr
    simp only
    refine tot_cond (fun _ => tot_some rfl) fun hok2 => ?_
    have hok' : ok = true := by simpa using hok2
    obtain ⟨h1, h2, h3, h4⟩ := hok hok'
    obtain ⟨f3, m1, m2⟩ := mean_same h1 h2
    simp only [m1, m2, Option.bind_some, cond_true, beq_self_eq_true, Bool.and_self]
    simp only at h3 h4
    have hw : 0 ≤ w64 (count + n) := by
      rw [wid (by omega) (by omega)]; omega
    rw [decide_eq_true hw]
    exact tot_some rfl

end Go.Gx.F
