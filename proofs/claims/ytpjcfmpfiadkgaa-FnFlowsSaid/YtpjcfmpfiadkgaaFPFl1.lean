/- Plain laws: which networks are valid, on both sides. -/
import Derived.Test.YtpjcfmpfiadkgaaFPWi1
import Derived.Test.YtpjcfmpfiadkgaaFPWi2

namespace Go.Gx.F

open Go.Gx

set_option linter.all false

set_option maxRecDepth 10000

theorem sums_bis {l : List Int} (hl : l.length ≤ 1000) : Bis (impl_areSums l) (1 ≤ l.length ∧ l.length ≤ 8 ∧ ∀ i, i < l.length → 0 ≤ vc l i ∧ vc l i ≤ 100000) := by
  have hloop : loopC (impl_areSums_l1 l) 0 = some (cond (anyN (fun k => decide (vc l k < 0) || decide (100000 < vc l k)) l.length) (.inr false) (.inl ())) := by
    refine scanN (by omega) ?_ ?_
    · intro k hk
      have hx := vc_at hk
      simp only [impl_areSums_l1, lt_ok hx, cond_true, at_ok hx, Option.bind_some]
      cases decide (vc l k < 0) <;> cases decide (100000 < vc l k) <;> rfl
    · simp only [impl_areSums_l1, lt_end, cond_false]
  unfold impl_areSums
  by_cases h : 1 ≤ l.length ∧ l.length ≤ 8
  · rw [decide_eq_false (show ¬ goLen l < 1 by simp only [goLen]; omega), decide_eq_false (show ¬ 8 < goLen l by simp only [goLen]; omega)]
    simp only [cond_false, Option.bind_some]
    rw [hloop]
    refine ⟨!anyN (fun k => decide (vc l k < 0) || decide (100000 < vc l k)) l.length, ?_, ?_⟩
    · cases anyN (fun k => decide (vc l k < 0) || decide (100000 < vc l k)) l.length <;> rfl
    · rw [Bool.not_eq_true', ← Bool.not_eq_true, anyN_iff]
      constructor
      · intro hn
        refine ⟨h.1, h.2, fun i hi => ?_⟩
        by_cases hc : 0 ≤ vc l i ∧ vc l i ≤ 100000
        · exact hc
        · refine absurd ⟨i, hi, ?_⟩ hn
          rw [Bool.or_eq_true, decide_eq_true_iff, decide_eq_true_iff]
          omega
      · rintro ⟨_, _, hb⟩ ⟨i, hi, hc⟩
        have := hb i hi
        rw [Bool.or_eq_true, decide_eq_true_iff, decide_eq_true_iff] at hc
        omega
  · refine ⟨false, ?_, ⟨fun h => (by cases h), fun h' => absurd ⟨h'.1, h'.2.1⟩ h⟩⟩
    by_cases h1 : goLen l < 1
    · rw [decide_eq_true h1]; rfl
    · rw [decide_eq_false h1, decide_eq_true (show 8 < goLen l by simp only [goLen] at h1 ⊢; omega)]; rfl

theorem size_bis {t : impl_Transport} {x : List (List Int)} (hx : x.length ≤ 1000) : Bis (spec_tSize t x) (x.length = t.Rows.length ∧ ∀ r ∈ x, r.length = t.Cols.length) := by
  have hloop : loopC (spec_tSize_l1 t x) 0 = some (cond (anyN (fun k => goLen (x.getD k []) != goLen t.Cols) x.length) (.inr false) (.inl ())) := by
    refine scanN (by omega) ?_ ?_
    · intro k hk
      have hy : x[k]? = some (x.getD k []) := by simp [hk]
      simp only [spec_tSize_l1, lt_ok hy, cond_true, at_ok hy, Option.bind_some]
      cases (goLen (x.getD k []) != goLen t.Cols) <;> rfl
    · simp only [spec_tSize_l1, lt_end, cond_false]
  unfold spec_tSize
  by_cases h : x.length = t.Rows.length
  · rw [show (goLen x != goLen t.Rows) = false by simp only [goLen]; rw [h, bne_self_eq_false], cond_false, hloop]
    refine ⟨!anyN (fun k => goLen (x.getD k []) != goLen t.Cols) x.length, ?_, ?_⟩
    · cases anyN (fun k => goLen (x.getD k []) != goLen t.Cols) x.length <;> rfl
    · rw [Bool.not_eq_true', ← Bool.not_eq_true, anyN_iff]
      constructor
      · intro hn
        refine ⟨h, fun r hr => ?_⟩
        obtain ⟨k, hk⟩ := List.mem_iff_getElem?.1 hr
        obtain ⟨hk1, _⟩ := List.getElem?_eq_some_iff.1 hk
        by_cases hc : r.length = t.Cols.length
        · exact hc
        · refine absurd ⟨k, hk1, ?_⟩ hn
          rw [List.getD_eq_getElem?_getD, hk, bne_iff_ne]
          simp only [goLen, Option.getD_some]
          omega
      · rintro ⟨_, hb⟩ ⟨k, hk, hc⟩
        have hm := hb (x.getD k []) (by rw [List.getD_eq_getElem?_getD, List.getElem?_eq_getElem hk]; exact List.getElem_mem hk)
        rw [bne_iff_ne] at hc
        simp only [goLen] at hc
        omega
  · rw [show (goLen x != goLen t.Rows) = true by rw [bne_iff_ne]; simp only [goLen]; omega, cond_true]
    exact ⟨false, rfl, ⟨fun h => (by cases h), fun h' => absurd h'.1 h⟩⟩

def bad (t : impl_Transport) : Nat → Nat → Bool := fun i j => decide (mt t.Lo i j < 0) || decide (mt t.Hi i j < mt t.Lo i j) || decide (100000 < mt t.Hi i j)

theorem badI {n m : Nat} {t : impl_Transport} (h1 : Shp n m t.Lo) (h2 : Shp n m t.Hi) (hn : n ≤ 8) (hm : m ≤ 8) : loopC (impl_IsTransport_l1 t) 0 = some (cond (anyN (fun i => anyN (bad t i) m) n) (.inr false) (.inl ())) := by
  have hl := h1.len
  refine scanN (by omega) ?_ ?_
  · intro i hi
    obtain ⟨row, hrow, _, hrl, _, _⟩ := h1.get hi
    obtain ⟨hrw, hhr, _, _, _, _⟩ := h2.get hi
    simp only [impl_IsTransport_l1, lt_ok hrow, cond_true, at_ok hrow, Option.bind_some]
    rw [scanN (v := .done (.inr false)) (N := m) (g := bad t i) (by omega) ?_ ?_]
    · cases anyN (bad t i) m <;> rfl
    · intro j hj
      have hy := h1.el hrow hj
      simp only [impl_IsTransport_l2, lt_ok hy, cond_true, at_ok hy, at_ok hhr, at_ok (h2.el hhr hj), Option.bind_some, bad]
      cases decide (mt t.Lo i j < 0) <;> cases decide (mt t.Hi i j < mt t.Lo i j) <;> cases decide (100000 < mt t.Hi i j) <;> rfl
    · have e3 : decide ((m : Int) < goLen row) = false := decide_eq_false (by simp only [goLen]; omega)
      simp only [impl_IsTransport_l2, e3, cond_false]
  · have e3 : decide ((n : Int) < goLen t.Lo) = false := decide_eq_false (by simp only [goLen]; omega)
    simp only [impl_IsTransport_l1, e3, cond_false]

theorem badS {n m : Nat} {t : impl_Transport} (h1 : Shp n m t.Lo) (h2 : Shp n m t.Hi) (hn : n ≤ 8) (hm : m ≤ 8) : loopC (spec_tGood_l1 t) 0 = some (cond (anyN (fun i => anyN (bad t i) m) n) (.inr false) (.inl ())) := by
  have hl := h1.len
  refine scanN (by omega) ?_ ?_
  · intro i hi
    obtain ⟨row, hrow, _, hrl, _, _⟩ := h1.get hi
    obtain ⟨hrw, hhr, _, _, _, _⟩ := h2.get hi
    simp only [spec_tGood_l1, lt_ok hrow, cond_true, at_ok hrow, Option.bind_some]
    rw [scanN (v := .done (.inr false)) (N := m) (g := bad t i) (by omega) ?_ ?_]
    · cases anyN (bad t i) m <;> rfl
    · intro j hj
      have hy := h1.el hrow hj
      have e0 : decide ((j : Int) < goLen row) = true := decide_eq_true (by simp only [goLen]; omega)
      simp only [spec_tGood_l2, e0, cond_true, at_ok hhr, at_ok (h2.el hhr hj), at_ok hrow, at_ok hy, Option.bind_some, spec_l1In]
      unfold bad
      by_cases c1 : mt t.Lo i j < 0
      · rw [decide_eq_true c1, decide_eq_false (show ¬ 0 ≤ mt t.Lo i j by omega)]
        cases decide (0 ≤ mt t.Hi i j) <;> cases decide (mt t.Hi i j ≤ 100000) <;> rfl
      · rw [decide_eq_false c1, decide_eq_true (show 0 ≤ mt t.Lo i j by omega)]
        by_cases c2 : mt t.Hi i j < mt t.Lo i j
        · rw [decide_eq_true c2, decide_eq_false (show ¬ mt t.Lo i j ≤ mt t.Hi i j by omega)]
          cases decide (0 ≤ mt t.Hi i j) <;> cases decide (mt t.Hi i j ≤ 100000) <;> rfl
        · rw [decide_eq_false c2, decide_eq_true (show mt t.Lo i j ≤ mt t.Hi i j by omega), decide_eq_true (show 0 ≤ mt t.Hi i j by omega)]
          by_cases c3 : 100000 < mt t.Hi i j
          · rw [decide_eq_true c3, decide_eq_false (show ¬ mt t.Hi i j ≤ 100000 by omega)]; rfl
          · rw [decide_eq_false c3, decide_eq_true (show mt t.Hi i j ≤ 100000 by omega)]; rfl
    · have e3 : decide ((m : Int) < goLen row) = false := decide_eq_false (by simp only [goLen]; omega)
      simp only [spec_tGood_l2, e3, cond_false]
  · have e3 : decide ((n : Int) < goLen t.Lo) = false := decide_eq_false (by simp only [goLen]; omega)
    simp only [spec_tGood_l1, e3, cond_false]

theorem in_eq (a l h : Int) : spec_l1In a l h = some (decide (l ≤ a) && decide (a ≤ h)) := by
  unfold spec_l1In
  cases decide (l ≤ a) <;> rfl

theorem all_vc2 {l : List Int} {lo hi : Int} : (∀ v ∈ l, lo ≤ v ∧ v ≤ hi) ↔ ∀ i, i < l.length → lo ≤ vc l i ∧ vc l i ≤ hi :=
  all_vc (P := fun v => lo ≤ v ∧ v ≤ hi)

theorem good_ok {t : impl_Transport} (hr : t.Rows.length ≤ 1000) (hc : t.Cols.length ≤ 1000) (hl : t.Lo.length ≤ 1000) (hh : t.Hi.length ≤ 1000) : ∃ b, impl_IsTransport t = some b ∧ spec_tGood t = some b ∧ (b = true → ∃ n m, Tr n m t) := by
  obtain ⟨b1, e1, h1⟩ := sums_bis hr
  obtain ⟨b2, e2, h2⟩ := sums_bis hc
  obtain ⟨b3, e3, h3⟩ := shape_bis (x := t.Lo) (n := goLen t.Rows) (w := goLen t.Cols) hl
  obtain ⟨b4, e4, h4⟩ := shape_bis (x := t.Hi) (n := goLen t.Rows) (w := goLen t.Cols) hh
  obtain ⟨c1, f1, k1⟩ := lAll_bis (l := t.Rows) (lo := 0) (hi := 100000) (by omega)
  obtain ⟨c2, f2, k2⟩ := lAll_bis (l := t.Cols) (lo := 0) (hi := 100000) (by omega)
  obtain ⟨c3, f3, k3⟩ := size_bis (t := t) hl
  obtain ⟨c4, f4, k4⟩ := size_bis (t := t) hh
  rw [all_vc2] at k1 k2
  have x3 : b3 = c3 := by
    rw [Bool.eq_iff_iff, h3, k3]
    simp only [goLen]
    exact ⟨fun h => ⟨by omega, fun r hr => by have := h.2 r hr; omega⟩, fun h => ⟨by omega, fun r hr => by have := h.2 r hr; omega⟩⟩
  have x4 : b4 = c4 := by
    rw [Bool.eq_iff_iff, h4, k4]
    simp only [goLen]
    exact ⟨fun h => ⟨by omega, fun r hr => by have := h.2 r hr; omega⟩, fun h => ⟨by omega, fun r hr => by have := h.2 r hr; omega⟩⟩
  have x1 : b1 = ((decide (1 ≤ goLen t.Rows) && decide (goLen t.Rows ≤ 8)) && c1) := by
    rw [Bool.eq_iff_iff, h1, Bool.and_eq_true, Bool.and_eq_true, decide_eq_true_iff, decide_eq_true_iff, k1]
    simp only [goLen]
    exact ⟨fun h => ⟨⟨by omega, by omega⟩, h.2.2⟩, fun h => ⟨by omega, by omega, h.2⟩⟩
  have x2 : b2 = ((decide (1 ≤ goLen t.Cols) && decide (goLen t.Cols ≤ 8)) && c2) := by
    rw [Bool.eq_iff_iff, h2, Bool.and_eq_true, Bool.and_eq_true, decide_eq_true_iff, decide_eq_true_iff, k2]
    simp only [goLen]
    exact ⟨fun h => ⟨⟨by omega, by omega⟩, h.2.2⟩, fun h => ⟨by omega, by omega, h.2⟩⟩
  have hI : impl_IsTransport t = cond (b1 && b2 && b3 && b4) ((loopC (impl_IsTransport_l1 t) 0).bind fun | .inl () => some true | .inr o => some o) (some false) := by
    unfold impl_IsTransport
    rw [e1, e2, e3, e4]
    cases b1 <;> cases b2 <;> cases b3 <;> cases b4 <;> rfl
  have hS : spec_tGood t = cond (b1 && b2 && b3 && b4) ((loopC (spec_tGood_l1 t) 0).bind fun | .inl () => some true | .inr o => some o) (some false) := by
    unfold spec_tGood
    rw [in_eq, in_eq, f1, f2, f3, f4, x1, x2, x3, x4]
    cases (decide (1 ≤ goLen t.Rows) && decide (goLen t.Rows ≤ 8)) <;> cases (decide (1 ≤ goLen t.Cols) && decide (goLen t.Cols ≤ 8)) <;> cases c1 <;> cases c2 <;> cases c3 <;> cases c4 <;> rfl
  rw [hI, hS]
  cases hb : (b1 && b2 && b3 && b4) with
  | false => exact ⟨false, rfl, rfl, fun h => (by cases h)⟩
  | true =>
    rw [Bool.and_eq_true, Bool.and_eq_true, Bool.and_eq_true] at hb
    obtain ⟨⟨⟨g1, g2⟩, g3⟩, g4⟩ := hb
    have p1 := h1.1 g1; have p2 := h2.1 g2
    have p3 := k3.1 (by rw [← x3]; exact g3); have p4 := k4.1 (by rw [← x4]; exact g4)
    have s1 : Shp t.Rows.length t.Cols.length t.Lo := ⟨p3.1, p3.2⟩
    have s2 : Shp t.Rows.length t.Cols.length t.Hi := ⟨p4.1, p4.2⟩
    rw [cond_true, cond_true, badI s1 s2 p1.2.1 p2.2.1, badS s1 s2 p1.2.1 p2.2.1]
    cases hz : anyN (fun i => anyN (bad t i) t.Cols.length) t.Rows.length with
    | true => exact ⟨false, rfl, rfl, fun h => (by cases h)⟩
    | false =>
      refine ⟨true, rfl, rfl, fun _ => ⟨t.Rows.length, t.Cols.length, rfl, rfl, p1.1, p1.2.1, p2.1, p2.2.1, s1, s2, p1.2.2, p2.2.2, fun i j hi hj => ?_⟩⟩
      by_cases hc : 0 ≤ mt t.Lo i j ∧ mt t.Lo i j ≤ mt t.Hi i j ∧ mt t.Hi i j ≤ 100000
      · exact hc
      · have : anyN (fun i => anyN (bad t i) t.Cols.length) t.Rows.length = true := anyN_iff.2 ⟨i, hi, anyN_iff.2 ⟨j, hj, by
          unfold bad
          rw [Bool.or_eq_true, Bool.or_eq_true, decide_eq_true_iff, decide_eq_true_iff, decide_eq_true_iff]
          omega⟩⟩
        rw [hz] at this
        cases this

end Go.Gx.F
