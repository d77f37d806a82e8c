/- Plain laws: trees that are drawn. -/
import Derived.Test.YtdbgmkfniichdaaFPCur
namespace Go.Gx.F
open Go.Gx
set_option linter.all false

theorem spec_l1Own_eq {l : List Int} (h : l.length ≤ 1000) : spec_l1Own l = some l := by
  unfold spec_l1Own
  rw [goApp_ok (by simp; omega)]
  rfl

theorem geo_loop : ∀ (k n : Nat) (c : spec_l1Cur) (g : impl_Geo), CurOk (n + 2 * k) c → k ≤ 3 → 1 ≤ g.Parents.length → g.Parents.length + k ≤ 11 → ∃ c' g', loopC spec_l1Cur_geo_l1 ((k : Int), c, g) = some (c', g') ∧ 1 ≤ g'.Parents.length ∧ g'.Parents.length ≤ 11 ∧ CurOk n c'
  | 0, n, c, g, h, hk, h1, h2 => ⟨c, g, by rw [loopC_eq]; rfl, h1, by omega, h⟩
  | k + 1, n, c, g, h, hk, h1, h2 => by
    obtain ⟨x, c1, e1, x0, x1, _, k1⟩ := pick_ok (n := n + 2 * k) (h.le (by omega)) (goLen g.Parents) (by simp only [goLen]; omega)
    obtain ⟨c', g', e2, l1, l2, k2⟩ := geo_loop k n c1 ⟨g.Parents ++ [x]⟩ k1 (by omega) (by simp) (by simp; omega)
    refine ⟨c', g', ?_, l1, l2, k2⟩
    rw [loopC_eq]
    simp only [spec_l1Cur_geo_l1, decide_eq_true (show 0 < ((k + 1 : Nat) : Int) by omega), cond_true, e1, Option.bind_some, goApp_ok (show (g.Parents.length + [x].length) * 8 ≤ 140737488355328 by simp; omega), show w64 (((k + 1 : Nat) : Int) - 1) = (k : Int) from (w64_in (by omega) (by omega)).trans (by omega)]
    exact e2

theorem geo_ok {n : Nat} {c : spec_l1Cur} (h : CurOk (n + 10) c) : ∃ g c', spec_l1Cur_geo c = some (g, c') ∧ 1 ≤ g.Parents.length ∧ g.Parents.length ≤ 11 ∧ CurOk n c' := by
  unfold spec_l1Cur_geo
  generalize hL : ([([-1, 0, 0] : List Int), ([-1, 0, 0, 1, 1, 2, 2] : List Int), ([-1, 0, 0, 0, 1, 1, 2, 3] : List Int), ([-1, 0, 0, 1, 1] : List Int), ([-1] : List Int), ([-1, 0, 1, 2] : List Int)] : List (List Int)) = L
  have h6 : L.length = 6 := by rw [← hL]; rfl
  have hm : ∀ l ∈ L, 1 ≤ l.length ∧ l.length ≤ 8 := by rw [← hL]; decide
  obtain ⟨x, c1, e1, x0, x1, _, k1⟩ := pick_ok (n := n + 8) h (goLen L) (by simp only [goLen]; omega)
  have hx := x1 (by simp only [goLen]; omega)
  obtain ⟨j, rfl⟩ := Int.eq_ofNat_of_zero_le x0
  have hlt : j < L.length := by simp only [goLen] at hx; omega
  have hg : L[j]? = some L[j] := by simp [hlt]
  have hb := hm _ (List.getElem_mem hlt)
  obtain ⟨y, c2, e2, y0, y1, _, k2⟩ := pick_ok (n := n + 6) k1 4 (by omega)
  have hy := y1 (by omega)
  obtain ⟨i, rfl⟩ := Int.eq_ofNat_of_zero_le y0
  obtain ⟨c', g', e3, l1, l2, k3⟩ := geo_loop i n c2 ⟨L[j]⟩ (k2.le (by omega)) (by omega) hb.1 (by simp only; omega)
  refine ⟨g', c', ?_, l1, l2, k3⟩
  simp only [e1, at_ok hg, spec_l1Own_eq (show L[j].length ≤ 1000 by omega), e2, e3, Option.bind_some]

theorem anyGeo_ok {n : Nat} {c : spec_l1Cur} (h : CurOk (n + 14) c) : ∃ g c', spec_l1Cur_anyGeo c = some (g, c') ∧ g.Parents.length ≤ 31 ∧ CurOk n c' := by
  obtain ⟨⟨p⟩, c1, e1, l1, l2, k1⟩ := geo_ok (n := n + 4) h
  simp only at l1 l2
  obtain ⟨x, c2, e2, x0, x1, _, k2⟩ := pick_ok (n := n + 2) k1 24 (by omega)
  unfold spec_l1Cur_anyGeo
  simp only [e1, e2, Option.bind_some]
  cases h0 : (x == 0) with
  | true =>
    have e : p[0]? = some (p[0]'(by omega)) := List.getElem?_eq_getElem (by omega)
    have e2 : goAt p 0 = some (p[0]'(by omega)) := at_ok (k := 0) e
    exact ⟨⟨goSet p 0 0⟩, c2, by simp only [cond_true, e2, Option.bind_some], by simp [goSet]; omega, k2.le (by omega)⟩
  | false =>
    simp only [cond_false]
    cases h1 : (x == 1) with
    | true =>
      obtain ⟨y, c3, e3, _, k3⟩ := among_ok (n := n) k2 [-1, goLen p, 0] (by simp) (by simp)
      exact ⟨⟨p ++ [y]⟩, c3, by simp only [cond_true, e3, Option.bind_some, goApp_ok (show (p.length + [y].length) * 8 ≤ 140737488355328 by simp; omega)], by simp; omega, k3⟩
    | false =>
      simp only [cond_false]
      cases h2 : (x == 2) with
      | true => exact ⟨⟨[]⟩, c2, by simp only [cond_true, Option.bind_some], by simp, k2.le (by omega)⟩
      | false =>
        simp only [cond_false]
        cases h3 : (x == 3) with
        | true =>
          obtain ⟨y, c3, e3, y0, y1, _, k3⟩ := pick_ok (n := n) k2 2 (by omega)
          have hy := y1 (by omega)
          have w1 : w64 (30 - goLen p) = 30 - goLen p := w64_small (by simp only [goLen]; omega) (by simp only [goLen]; omega)
          have w2 : w64 (30 - goLen p + y) = 30 - goLen p + y := w64_small (by simp only [goLen]; omega) (by simp only [goLen]; omega)
          have ea : goAppZ 8 p (30 - goLen p + y) (0 : Int) = some (p ++ List.replicate (30 - goLen p + y).toNat 0) := by
            unfold goAppZ
            rw [decide_eq_true (by simp only [goLen]; omega), decide_eq_true (by simp only [goLen]; omega)]
            rfl
          refine ⟨⟨p ++ List.replicate (30 - goLen p + y).toNat 0⟩, c3, by simp only [cond_true, e3, Option.bind_some, w1, w2, ea], ?_, k3⟩
          simp only [List.length_append, List.length_replicate, goLen]
          omega
        | false => exact ⟨⟨p⟩, c2, by simp only [cond_false, Option.bind_some], by simp only; omega, k2.le (by omega)⟩

theorem anArea_ok {n : Nat} {c : spec_l1Cur} {g : impl_Geo} (h : CurOk (n + 4) c) (hg : g.Parents.length ≤ 100) : ∃ x c', spec_l1Cur_anArea c g = some (x, c') ∧ CurOk n c' := by
  have w1 : w64 (goLen g.Parents + 1) = goLen g.Parents + 1 := w64_small (by simp only [goLen]; omega) (by simp only [goLen]; omega)
  obtain ⟨x, c1, e1, _, _, _, k1⟩ := pick_ok (n := n + 2) h (goLen g.Parents + 1) (by simp only [goLen]; omega)
  obtain ⟨y, c2, e2, _, _, _, k2⟩ := pick_ok (n := n) k1 20 (by omega)
  unfold spec_l1Cur_anArea
  rw [w1, e1, Option.bind_some, e2, Option.bind_some, show goQuo .i64 y 19 = some (IntKind.wrap .i64 (y.tdiv 19)) from rfl]
  exact ⟨_, c2, rfl, k2⟩

end Go.Gx.F
