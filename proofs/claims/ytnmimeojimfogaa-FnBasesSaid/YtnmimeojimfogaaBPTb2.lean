/- Plain laws: tables: when they are valid, their cells. -/
import Derived.Test.YtnmimeojimfogaaBPTab

namespace Go.Gx.F

open Go.Gx

set_option linter.all false

theorem loop_push {α β : Type} {l : List α} (f : α → β) {body : List β × Int → Option (Stp (List β × Int) (List β))}
    (h1 : ∀ (out : List β) (k : Nat) (x : α), l[k]? = some x → out.length = k → body (out, (k : Int)) = some (.next (out ++ [f x], ((k + 1 : Nat) : Int))))
    (h2 : ∀ out : List β, body (out, (l.length : Int)) = some (.done out)) : loopC body ([], 0) = some (l.map f) := by
  suffices h : ∀ (j k : Nat), k + j = l.length → loopC body ((l.take k).map f, (k : Int)) = some (l.map f) from h l.length 0 (by omega)
  intro j
  induction j with
  | zero =>
    intro k hk
    obtain rfl : k = l.length := by omega
    rw [loopC_eq, h2, List.take_of_length_le (Nat.le_refl _)]
  | succ j ih =>
    intro k hk
    have hx : l[k]? = some (l[k]'(by omega)) := by simp [show k < l.length by omega]
    generalize l[k]'(by omega) = x at hx
    rw [loopC_eq, h1 _ k x hx (by simp; omega)]
    have := ih (k + 1) (by omega)
    rw [List.take_add_one, hx] at this
    simpa using this

/-! ## the variables of a table -/

def part (s : List impl_Variable) (V : List Int) : List impl_Variable := V.map fun v => (s[v.toNat]?).getD ⟨[], 0⟩

theorem part_len (s : List impl_Variable) (V : List Int) : (part s V).length = V.length := by simp [part]

theorem rise_at {α : Type} {s : List α} {V : List Int} (h : RiseV s.length V) {k : Nat} {v : Int} (hv : V[k]? = some v) : ∃ x, s[v.toNat]? = some x ∧ goAt s v = some x := by
  have hb := (h k v hv).1
  obtain ⟨n, rfl⟩ := Int.eq_ofNat_of_zero_le hb.1
  have hx : s[n]? = some (s[n]'(by omega)) := by simp [show n < s.length by omega]
  exact ⟨_, hx, at_ok hx⟩

theorem part_lv {s : List impl_Variable} {V : List Int} (hs : OkS s) (h : RiseV s.length V) : LvS (part s V) := by
  refine ⟨by rw [part_len]; have := h.len; have := hs.2.1; omega, fun v hv => ?_⟩
  simp only [part, List.mem_map] at hv
  obtain ⟨w, hw, rfl⟩ := hv
  obtain ⟨k, hk⟩ := List.getElem?_of_mem hw
  obtain ⟨x, h1, _⟩ := rise_at h hk
  rw [h1]
  exact hs.lv.get h1

theorem sPart_eq {s : List impl_Variable} {V : List Int} (h : RiseV s.length V) (hl : V.length ≤ 1000) : spec_sPart s V = some (part s V) := by
  unfold spec_sPart part
  rw [loop_push (l := V) (fun v => (s[v.toNat]?).getD ⟨[], 0⟩) (fun out k x hx ho => ?_) (fun out => by simp only [spec_sPart_l1, lt_end, cond_false])]
  · rfl
  · obtain ⟨y, h1, h2⟩ := rise_at h hx
    have hk := (List.getElem?_eq_some_iff.1 hx).1
    simp only [spec_sPart_l1, lt_ok hx, at_ok hx, cond_true, Option.bind_some, h2, h1, goApp_ok (show (out.length + [y].length) * 24 ≤ 140737488355328 by simp; omega), nx_ok hx (show V.length ≤ 9223372036854775807 by omega)]
    rfl

theorem crossed_eq {s : List impl_Variable} {t : impl_Table} (h : RiseV s.length t.Vars) (hl : t.Vars.length ≤ 1000) : impl_crossed s t = some (part s t.Vars) := by
  unfold impl_crossed part
  simp only [goLen]
  rw [goMake_ok (by omega) (by omega), Option.bind_some, loop_map (l := t.Vars) (fun v => (s[v.toNat]?).getD ⟨[], 0⟩) ⟨[], 0⟩ (impl_crossed_l1 s t) (fun k x out hx ho => ?_) (fun out => by simp only [impl_crossed_l1, lt_end, cond_false])]
  · rfl
  · obtain ⟨y, h1, h2⟩ := rise_at h hx
    have hk := (List.getElem?_eq_some_iff.1 hx).1
    have hz : out[k]? = some (out[k]'(by omega)) := by simp [show k < out.length by omega]
    simp only [impl_crossed_l1, lt_ok hx, at_ok hx, cond_true, Option.bind_some, h2, h1, at_ok hz, nx_ok hx (show t.Vars.length ≤ 9223372036854775807 by omega)]
    rfl

/-! ## valid tables -/

def num (g : impl_Geo) (s : List impl_Variable) (t : impl_Table) : Nat := (lev g.Parents t.Level).length * cnt (tops (part s t.Vars))

theorem num_le {g : impl_Geo} {s : List impl_Variable} {t : impl_Table} (hg : GeoOk g.Parents) (hs : OkS s) (h : RiseV s.length t.Vars) : num g s t ≤ 7864320 := by
  have h1 := lev_len g.Parents t.Level
  have h2 := hg.l2
  have h3 := (part_lv hs h).cnt_le 0
  simp only [List.drop_zero] at h3
  exact Nat.le_trans (Nat.mul_le_mul (show (lev g.Parents t.Level).length ≤ 30 by omega) h3) (by decide)

theorem uCount_eq {g : impl_Geo} {s : List impl_Variable} {t : impl_Table} (hg : GeoOk g.Parents) (hs : OkS s) (h : RiseV s.length t.Vars) : spec_uCount g s t = some (num g s t : Int) := by
  have hn := num_le hg hs h
  have hl := h.len; have hl2 := hs.2.1
  unfold spec_uCount
  rw [gLevel_eq hg, Option.bind_some, sPart_eq h (by omega), Option.bind_some, sCount_eq (part_lv hs h), Option.bind_some]
  simp only [goLen]
  rw [← Int.natCast_mul]
  congr 1
  exact wnat (by unfold num at hn; omega)

theorem cellCount_eq {g : impl_Geo} {s : List impl_Variable} {t : impl_Table} (hg : GeoOk g.Parents) (hs : OkS s) (h : RiseV s.length t.Vars) : impl_cellCount g s t = some (num g s t : Int) := by
  have hn := num_le hg hs h
  have hl := h.len; have hl2 := hs.2.1
  unfold impl_cellCount
  rw [areasAt_eq hg, Option.bind_some, crossed_eq h (by omega), Option.bind_some, combinations_eq (part_lv hs h), Option.bind_some]
  simp only [goLen]
  rw [← Int.natCast_mul]
  congr 1
  exact wnat (by unfold num at hn; omega)

structure OkT (g : impl_Geo) (s : List impl_Variable) (t : impl_Table) : Prop where
  geo : gok g.Parents = true
  sch : OkS s
  vars : RiseV s.length t.Vars
  whr : OkW s t.Where
  sum : -1 ≤ t.Sum ∧ t.Sum < s.length
  pos : 0 < num g s t
  top : num g s t ≤ 600

theorem areTabled_bis {g : impl_Geo} {s : List impl_Variable} {t : impl_Table} (hs : TameS s) (hV : t.Vars.length ≤ 1000000) : Bis (impl_areTabled g s t) (OkT g s t) := by
  unfold impl_areTabled impl_isTable
  rw [impl_IsGeo_eq, Option.bind_some]
  cases hg : gok g.Parents with
  | false => exact ⟨false, rfl, by simp only [Bool.false_eq_true, false_iff]; intro h; have := h.geo; rw [hg] at this; cases this⟩
  | true =>
    obtain ⟨b1, e1, h1⟩ := IsSchema_bis hs
    rw [cond_true, e1, Option.bind_some]
    cases b1 with
    | false => exact ⟨false, rfl, by simp only [Bool.false_eq_true, false_iff]; intro h; have := h1.2 h.sch; cases this⟩
    | true =>
      have hsch := h1.1 rfl
      obtain ⟨b2, e2, h2⟩ := areVars_bis (s := s) hV
      rw [cond_true, e2, Option.bind_some]
      cases b2 with
      | false => exact ⟨false, rfl, by simp only [Bool.false_eq_true, false_iff]; intro h; have := h2.2 h.vars; cases this⟩
      | true =>
        have hvar := h2.1 rfl
        obtain ⟨b3, e3, h3⟩ := isWhere_bis (W := t.Where) hsch
        rw [Bool.not_true, cond_false, e3, Option.bind_some]
        cases b3 with
        | false => exact ⟨false, rfl, by simp only [Bool.false_eq_true, false_iff]; intro h; have := h3.2 h.whr; cases this⟩
        | true =>
          rw [Bool.not_true, cond_false, cellCount_eq (gok_ok hg) hsch hvar]
          simp only [goLen]
          by_cases h4 : t.Sum < -1
          · rw [decide_eq_true h4]
            exact ⟨false, rfl, by simp only [Bool.false_eq_true, false_iff]; intro h; have := h.sum; omega⟩
          · by_cases h5 : (s.length : Int) ≤ t.Sum
            · rw [decide_eq_false h4, decide_eq_true h5]
              exact ⟨false, rfl, by simp only [Bool.false_eq_true, false_iff]; intro h; have := h.sum; omega⟩
            · rw [decide_eq_false h4, decide_eq_false h5]
              simp only [cond_false, Option.bind_some]
              by_cases h6 : 0 < num g s t
              · rw [decide_eq_true (show 0 < (num g s t : Int) by omega)]
                refine ⟨decide ((num g s t : Int) ≤ 600), rfl, ?_⟩
                rw [decide_eq_true_eq]
                exact ⟨fun h7 => ⟨hg, hsch, hvar, h3.1 rfl, by omega, h6, by omega⟩, fun h => by have := h.top; omega⟩
              · rw [decide_eq_false (show ¬ 0 < (num g s t : Int) by omega)]
                exact ⟨false, rfl, by simp only [Bool.false_eq_true, false_iff]; intro h; exact h6 h.pos⟩

theorem uGood_bis {g : impl_Geo} {s : List impl_Variable} {t : impl_Table} (hs : TameS s) (hV : t.Vars.length ≤ 1000000) : Bis (spec_uGood g s t) (OkT g s t) := by
  unfold spec_uGood
  rw [spec_gGood_eq, Option.bind_some]
  cases hg : gok g.Parents with
  | false => exact ⟨false, rfl, by simp only [Bool.false_eq_true, false_iff]; intro h; have := h.geo; rw [hg] at this; cases this⟩
  | true =>
    obtain ⟨b1, e1, h1⟩ := sGood_bis hs
    have hgo := gok_ok hg
    rw [Bool.not_true, cond_false, e1, Option.bind_some]
    cases b1 with
    | false => exact ⟨false, rfl, by simp only [Bool.false_eq_true, false_iff]; intro h; have := h1.2 h.sch; cases this⟩
    | true =>
      have hsch := h1.1 rfl
      rw [Bool.not_true, cond_false, gLevel_eq hgo, Option.bind_some]
      by_cases h0 : (lev g.Parents t.Level).length = 0
      · rw [show (goLen (lev g.Parents t.Level) == 0) = true by simp [goLen, h0]]
        exact ⟨false, rfl, by simp only [Bool.false_eq_true, false_iff]; intro h; have := h.pos; unfold num at this; rw [h0] at this; simp at this⟩
      · rw [show (goLen (lev g.Parents t.Level) == 0) = false by simp [goLen]; intro e; exact h0 (by rw [e]; rfl), cond_false]
        obtain ⟨b2, e2, h2⟩ := risingV_bis (n := s.length) (l := t.Vars) (by have := hs.1; omega) hV
        simp only [goLen]
        rw [e2, Option.bind_some]
        cases b2 with
        | false => exact ⟨false, rfl, by simp only [Bool.false_eq_true, false_iff]; intro h; have := h2.2 h.vars; cases this⟩
        | true =>
          have hvar := h2.1 rfl
          obtain ⟨b3, e3, h3⟩ := uWhere_bis (W := t.Where) hsch
          rw [Bool.not_true, cond_false, e3, Option.bind_some]
          cases b3 with
          | false => exact ⟨false, rfl, by simp only [Bool.false_eq_true, false_iff]; intro h; have := h3.2 h.whr; cases this⟩
          | true =>
            have hl := hs.1
            rw [Bool.not_true, cond_false, uCount_eq hgo hsch hvar, lIn_eq, Option.bind_some, wid (by omega) (by omega)]
            by_cases h4 : -1 ≤ t.Sum ∧ t.Sum ≤ (s.length : Int) - 1
            · rw [decide_eq_true h4]
              refine ⟨decide ((num g s t : Int) ≤ 600), rfl, ?_⟩
              rw [decide_eq_true_eq]
              have hp : 0 < num g s t := Nat.mul_pos (by omega) (cnt_pos _)
              exact ⟨fun h7 => ⟨hg, hsch, hvar, h3.1 rfl, by omega, hp, by omega⟩, fun h => by have := h.top; omega⟩
            · rw [decide_eq_false h4]
              exact ⟨false, rfl, by simp only [Bool.false_eq_true, false_iff]; intro h; have := h.sum; omega⟩

theorem tables {g : impl_Geo} {s : List impl_Variable} {t : impl_Table} (hs : TameS s) (hV : t.Vars.length ≤ 1000000) : ∃ b : Bool, impl_areTabled g s t = some b ∧ spec_uGood g s t = some b ∧ (b = true ↔ OkT g s t) := bis_same (areTabled_bis hs hV) (uGood_bis hs hV)

theorem OkT.go {g : impl_Geo} {s : List impl_Variable} {t : impl_Table} (h : OkT g s t) : GeoOk g.Parents := gok_ok h.geo

theorem OkT.count {g : impl_Geo} {s : List impl_Variable} {t : impl_Table} (h : OkT g s t) : impl_cellCount g s t = some (num g s t : Int) := cellCount_eq h.go h.sch h.vars

theorem OkT.count' {g : impl_Geo} {s : List impl_Variable} {t : impl_Table} (h : OkT g s t) : spec_uCount g s t = some (num g s t : Int) := uCount_eq h.go h.sch h.vars

theorem OkT.lv {g : impl_Geo} {s : List impl_Variable} {t : impl_Table} (h : OkT g s t) : LvS (part s t.Vars) := part_lv h.sch h.vars

theorem OkT.vlen {g : impl_Geo} {s : List impl_Variable} {t : impl_Table} (h : OkT g s t) : t.Vars.length ≤ 6 := by have := h.vars.len; have := h.sch.2.1; omega

/-! ## a record's cell -/

def bit (e x : Int) : Bool := !(goBits .and .i64 (e.fdiv (2 ^ min x.toNat (IntKind.bits .i64))) 1 == 0)

def meets (W V : List Int) : Prop := ∀ (k : Nat) (e : Int), W[k]? = some e → (e ≠ 0 → ∀ x, V[k]? = some x → bit e x = true)

end Go.Gx.F
