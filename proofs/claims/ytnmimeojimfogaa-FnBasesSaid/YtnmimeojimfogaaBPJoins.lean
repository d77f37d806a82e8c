/- Plain laws: plans, and the law of joins. -/
import Derived.Test.YtnmimeojimfogaaBPJoin

namespace Go.Gx.F

open Go.Gx

set_option linter.all false

/-! ## plans -/

structure OkP (g : impl_Geo) (s : List impl_Variable) (l : List impl_Table) : Prop where
  geo : gok g.Parents = true
  sch : OkS s
  n : l.length ≤ 20
  tab : ∀ t ∈ l, OkT g s t

theorem isTab_bis {g : impl_Geo} {s : List impl_Variable} {t : impl_Table} (hs : TameS s) (hg : gok g.Parents = true) (hsc : OkS s) (hV : t.Vars.length ≤ 1000000) : Bis (impl_isTable g s t) (OkT g s t) := by
  have e : impl_isTable g s t = impl_areTabled g s t := by
    unfold impl_areTabled
    obtain ⟨b, e, h⟩ := IsSchema_bis hs
    rw [impl_IsGeo_eq, hg, Option.bind_some, cond_true, e, h.2 hsc, Option.bind_some, cond_true]
    cases impl_isTable g s t <;> rfl
  rw [e]
  exact areTabled_bis hs hV

def TameP (l : List impl_Table) : Prop := l.length ≤ 1000000 ∧ ∀ t ∈ l, t.Vars.length ≤ 1000000

theorem isPlan_bis {g : impl_Geo} {s : List impl_Variable} {l : List impl_Table} (hs : TameS s) (hl : TameP l) : Bis (impl_isPlan g s l) (OkP g s l) := by
  have hll := hl.1
  unfold impl_isPlan
  rw [impl_IsGeo_eq]
  obtain ⟨b1, e1, h1⟩ := IsSchema_bis hs
  rw [e1]
  cases hg : gok g.Parents with
  | false => exact ⟨false, rfl, by simp only [Bool.false_eq_true, false_iff]; intro h; have := h.geo; rw [hg] at this; cases this⟩
  | true =>
    cases b1 with
    | false => exact ⟨false, rfl, by simp only [Bool.false_eq_true, false_iff]; intro h; have := h1.2 h.sch; cases this⟩
    | true =>
      have hsc := h1.1 rfl
      simp only [Option.bind_some, Bool.not_true, cond_false, goLen]
      by_cases h : 20 < (l.length : Int)
      · rw [decide_eq_true h]
        exact ⟨false, rfl, by simp only [Bool.false_eq_true, false_iff]; intro h'; have := h'.n; omega⟩
      · rw [decide_eq_false h]
        simp only [cond_false]
        refine bis_iff (bis_loop (l := l) (fun _ t => OkT g s t) (fun k t ht => ?_) (by simp only [impl_isPlan_l1, lt_end, cond_false])) ?_
        · obtain ⟨b, e, hb⟩ := isTab_bis hs hg hsc (hl.2 t (List.mem_of_getElem? ht))
          refine ⟨b, hb, ?_⟩
          simp only [impl_isPlan_l1, lt_ok ht, at_ok ht, cond_true, Option.bind_some, e, nx_ok ht (show l.length ≤ 9223372036854775807 by omega)]
          cases b <;> rfl
        · rw [all_mem_iff]
          exact ⟨fun h2 => ⟨hg, hsc, by omega, h2⟩, fun h2 => h2.tab⟩

theorem nPlan_bis {g : impl_Geo} {s : List impl_Variable} {l : List impl_Table} (hs : TameS s) (hl : TameP l) : Bis (spec_nPlan g s l) (OkP g s l) := by
  have hll := hl.1
  unfold spec_nPlan spec_nInput
  rw [spec_gGood_eq]
  obtain ⟨b1, e1, h1⟩ := sGood_bis hs
  rw [e1]
  cases hg : gok g.Parents with
  | false => exact ⟨false, rfl, by simp only [Bool.false_eq_true, false_iff]; intro h; have := h.geo; rw [hg] at this; cases this⟩
  | true =>
    cases b1 with
    | false => exact ⟨false, rfl, by simp only [Bool.false_eq_true, false_iff]; intro h; have := h1.2 h.sch; cases this⟩
    | true =>
      have hsc := h1.1 rfl
      simp only [Option.bind_some, Bool.not_true, cond_false, cond_true, goLen]
      by_cases h : 20 < (l.length : Int)
      · rw [decide_eq_true h]
        exact ⟨false, rfl, by simp only [Bool.false_eq_true, false_iff]; intro h'; have := h'.n; omega⟩
      · rw [decide_eq_false h]
        simp only [cond_false]
        refine bis_iff (bis_loop (l := l) (fun _ t => OkT g s t) (fun k t ht => ?_) (by simp only [spec_nPlan_l1, lt_end, cond_false])) ?_
        · obtain ⟨b, e, hb⟩ := uGood_bis (g := g) hs (hl.2 t (List.mem_of_getElem? ht))
          refine ⟨b, hb, ?_⟩
          simp only [spec_nPlan_l1, lt_ok ht, at_ok ht, cond_true, Option.bind_some, e, nx_ok ht (show l.length ≤ 9223372036854775807 by omega)]
          cases b <;> rfl
        · rw [all_mem_iff]
          exact ⟨fun h2 => ⟨hg, hsc, by omega, h2⟩, fun h2 => h2.tab⟩

theorem plans {g : impl_Geo} {s : List impl_Variable} {l : List impl_Table} (hs : TameS s) (hl : TameP l) : ∃ b : Bool, impl_isPlan g s l = some b ∧ spec_nPlan g s l = some b ∧ (b = true ↔ OkP g s l) := bis_same (isPlan_bis hs hl) (nPlan_bis hs hl)

theorem anyFol_impl {g : impl_Geo} {s : List impl_Variable} {l : List impl_Table} {t : impl_Table} (hl : OkP g s l) (ht : OkT g s t) : Bis (slices_ContainsFunc_impl_Table_impl_Table_of_impl_CoversPlan_1 l g s t) (∃ u ∈ l, Fol g s t u) := by
  have hn := hl.n
  unfold slices_ContainsFunc_impl_Table_impl_Table_of_impl_CoversPlan_1 slices_IndexFunc_impl_Table_impl_Table_of_impl_CoversPlan_1
  have key : ∀ (j k : Nat), k + j = l.length → (∀ i u, i < k → l[i]? = some u → ¬ Fol g s t u) → (loopC (slices_IndexFunc_impl_Table_impl_Table_of_impl_CoversPlan_1_l1 l g s t) (k : Int) = some (.inl ()) ∧ ¬ ∃ u ∈ l, Fol g s t u) ∨ ∃ r : Nat, loopC (slices_IndexFunc_impl_Table_impl_Table_of_impl_CoversPlan_1_l1 l g s t) (k : Int) = some (.inr (r : Int)) ∧ ∃ u ∈ l, Fol g s t u := by
    intro j
    induction j with
    | zero =>
      intro k hk hall
      obtain rfl : k = l.length := by omega
      rw [loopC_eq]
      simp only [slices_IndexFunc_impl_Table_impl_Table_of_impl_CoversPlan_1_l1, lt_end, cond_false]
      refine .inl ⟨trivial, ?_⟩
      rintro ⟨u, hu, hF⟩
      obtain ⟨i, hi⟩ := List.getElem?_of_mem hu
      exact hall i u (List.getElem?_eq_some_iff.1 hi).1 hi hF
    | succ j ih =>
      intro k hk hall
      have hv : l[k]? = some (l[k]'(by omega)) := by simp [show k < l.length by omega]
      generalize l[k]'(by omega) = u at hv
      have hu := hl.tab u (List.mem_of_getElem? hv)
      obtain ⟨b, e, hb⟩ := followsFrom_bis ht hu
      rw [loopC_eq]
      simp only [slices_IndexFunc_impl_Table_impl_Table_of_impl_CoversPlan_1_l1, impl_CoversPlan_1, lt_ok hv, at_ok hv, cond_true, Option.bind_some, e]
      cases b with
      | true => exact .inr ⟨k, rfl, u, List.mem_of_getElem? hv, hb.1 rfl⟩
      | false =>
        simp only [cond_false, nx_ok hv (show l.length ≤ 9223372036854775807 by omega)]
        refine ih (k + 1) (by omega) fun i w hi hw => ?_
        by_cases hik : i = k
        · subst hik
          rw [hv] at hw
          obtain rfl := Option.some.inj hw
          exact fun h => by have := hb.2 h; cases this
        · exact hall i w (by omega) hw
  have h := key l.length 0 (by omega) fun i w hi => by omega
  rw [show ((0 : Nat) : Int) = 0 from rfl] at h
  rcases h with ⟨e, h⟩ | ⟨r, e, h⟩
  · rw [e]
    exact ⟨false, rfl, by simp only [Bool.false_eq_true, false_iff]; exact h⟩
  · rw [e]
    exact ⟨decide (0 ≤ (r : Int)), rfl, by rw [decide_eq_true_eq]; exact ⟨fun _ => h, fun _ => by omega⟩⟩

def Cov (g : impl_Geo) (s : List impl_Variable) (l m : List impl_Table) : Prop := ∀ t ∈ m, ∃ u ∈ l, Fol g s t u

/-! ## plans that are drawn -/

def SmallP (n : Nat) (l : List impl_Table) : Prop := l.length ≤ n ∧ ∀ t ∈ l, SmallT 9 t

theorem SmallP.tame {n : Nat} {l : List impl_Table} (h : SmallP n l) (hn : n ≤ 1000000 := by omega) : TameP l := ⟨by have := h.1; omega, fun t ht => by have := (h.2 t ht).1; omega⟩

theorem SmallP.push {n m : Nat} {l : List impl_Table} {t : impl_Table} (h : SmallP n l) (ht : SmallT 9 t) (hm : l.length + 1 ≤ m) : SmallP m (l ++ [t]) := ⟨by simp; omega, fun u hu => by
  rcases List.mem_append.1 hu with hu | hu
  · exact h.2 u hu
  · obtain rfl := List.mem_singleton.1 hu; exact ht⟩

theorem SmallT.le9 {t : impl_Table} (h : SmallT 8 t) : SmallT 9 t := ⟨by have := h.1; omega, by have := h.2; omega⟩

theorem ttables {B : Nat} {c : spec_l1Cur} {g : impl_Geo} {s : List impl_Variable} (h : Cur B c) (hs : SmallS 8 s) (hB : B ≤ 90000 := by omega) : Tot (spec_l1Cur_tables c g s) fun r => SmallP 30 r.1 ∧ Cur (B + 2000) r.2 := by
  unfold spec_l1Cur_tables
  refine tot_bind (tpick h) fun ⟨k, c1⟩ ⟨k0, k1, _, hc1⟩ => ?_
  have hk := k1 (by omega)
  simp only at k0 hk hc1
  obtain ⟨n, rfl⟩ := Int.eq_ofNat_of_zero_le k0
  refine tot_bind (Q := fun r => SmallP 5 r.1 ∧ Cur (B + 400) r.2) (tot_loop (fun z => ∃ j : Nat, z.2.1 = (j : Int) ∧ j ≤ 4 ∧ SmallP (4 - j) z.1 ∧ Cur (B + 2 + 60 * (4 - j)) z.2.2) (fun z => z.2.1.toNat) ⟨n, rfl, by omega, ⟨by simp, fun t ht => by simp at ht⟩, hc1.le (by omega)⟩ ?_) fun ⟨l, c2⟩ ⟨hl, hc2⟩ => ?_
  · rintro ⟨l, _, c2⟩ ⟨j, rfl, hj, hl, hc2⟩
    simp only at hl hc2
    have hll := hl.1
    simp only [spec_l1Cur_tables_l1]
    refine tot_cond (fun hc => ?_) fun hc => tot_some ⟨⟨by simp only; omega, hl.2⟩, hc2.le (by omega)⟩
    have hc' : 0 < (j : Int) := by simpa using hc
    refine tot_bind (ttable hc2 hs) fun ⟨t, c3⟩ ⟨ht, hc3⟩ => ?_
    simp only at ht hc3
    rw [goApp_ok (by simp; omega), Option.bind_some]
    exact tot_some ⟨⟨j - 1, by simp only; rw [wid (by omega) (by omega)]; omega, by omega, hl.push ht.le9 (by omega), hc3.le (by omega)⟩, by simp only; rw [wid (by omega) (by omega)]; omega⟩
  · simp only at hl hc2
    dsimp only
    have hll := hl.1
    refine tot_bind (tpick hc2) fun ⟨x, c3⟩ ⟨_, _, _, hc3⟩ => ?_
    simp only at hc3
    have ret : ∀ {x : Option (List impl_Table × spec_l1Cur)}, Tot x (fun r => SmallP 30 r.1 ∧ Cur (B + 2000) r.2) → Tot (x.bind fun (p, t) => some (p, t)) (fun r => SmallP 30 r.1 ∧ Cur (B + 2000) r.2) := fun hx => tot_bind hx fun z hz => tot_some hz
    refine ret (tot_cond (fun _ => ret ?_) fun _ => ret (tot_cond (fun _ => ?_) fun _ => tot_some ⟨⟨by simp only; omega, hl.2⟩, hc3.le (by omega)⟩))
    · refine tot_loop (fun z => SmallP 22 z.1 ∧ ∃ j : Nat, j ≤ 22 ∧ z.1.length = l.length + j ∧ Cur (B + 402 + 62 * j) z.2) (fun z => 30 - z.1.length) ⟨⟨by simp only; omega, hl.2⟩, 0, by omega, rfl, hc3.le (by omega)⟩ ?_
      rintro ⟨l2, c4⟩ ⟨hl2, j, hj, hlj, hc4⟩
      simp only at hl2 hlj hc4
      have hll2 := hl2.1
      simp only [spec_l1Cur_tables_l2]
      refine tot_bind (tpick hc4) fun ⟨y, c5⟩ ⟨y0, y1, _, hc5⟩ => ?_
      have hy := y1 (by omega)
      simp only at y0 hy hc5
      simp only [goLen]
      rw [wid (by omega) (by omega)]
      refine tot_cond (fun hc => ?_) fun hc => tot_some ⟨⟨by simp only; omega, hl2.2⟩, hc5.le (by omega)⟩
      have hc' : (l2.length : Int) < 20 + y := by simpa using hc
      refine tot_bind (ttable hc5 hs) fun ⟨t, c6⟩ ⟨ht, hc6⟩ => ?_
      simp only at ht hc6
      rw [goApp_ok (by simp; omega), Option.bind_some]
      exact tot_some ⟨⟨hl2.push ht.le9 (by omega), j + 1, by omega, by simp; omega, hc6.le (by omega)⟩, by simp; omega⟩
    · refine tot_bind (tanyTable hc3 hs) fun ⟨t, c4⟩ ⟨ht, hc4⟩ => ?_
      simp only at ht hc4
      rw [goApp_ok (by simp; omega), Option.bind_some]
      exact tot_some ⟨hl.push ht (by omega), hc4.le (by omega)⟩

theorem tDrawPlanText {code : List (K .u8)} (ho : ∀ x ∈ code, Rng.ok x) : Tot (spec_DrawPlanText code) fun r => SmallS 8 r.2.1 ∧ SmallP 30 r.2.2 := by
  unfold spec_DrawPlanText
  refine tot_bind (tanySurvey (cur0 ho)) fun ⟨g, s, l, c1⟩ ⟨hs, _, k1⟩ => ?_
  exact tot_bind (ttables k1 hs) fun ⟨l, c2⟩ ⟨hl, _⟩ => tot_some ⟨hs, hl⟩

theorem tDrawSourcesIn {code : List (K .u8)} (ho : ∀ x ∈ code, Rng.ok x) : Tot (spec_DrawSourcesIn code) fun r => SmallS 8 r.2.1 ∧ SmallP 31 r.2.2 := by
  unfold spec_DrawSourcesIn
  refine tot_bind (tDrawPlanText ho) fun ⟨g, s, l⟩ ⟨hs, hl⟩ => ?_
  simp only at hs hl
  have hll := hl.1
  refine tot_bind (Q := fun r => (r.1 = true → 0 < l.length) ∧ Cur 2 r.2) (tot_cond (fun h1 => tot_bind (tone (cur0 ho)) fun ⟨y, c4⟩ k4 => tot_some ⟨fun _ => by simpa [goLen] using h1, k4⟩) fun _ => tot_some ⟨fun h => by simp at h, (cur0 ho).le (by omega)⟩) fun ⟨y, c4⟩ ⟨h4, k4⟩ => ?_
  simp only at h4 k4
  refine tot_bind (Q := fun r => SmallP 31 r) (tot_cond (fun hy => ?_) fun _ => tot_some ⟨by simp only; omega, hl.2⟩) fun l2 h2 => tot_some ⟨hs, h2⟩
  refine tot_bind (tot_at (Q := fun t => SmallT 9 t) (by omega) (by have := h4 hy; show (0 : Int) < (l.length : Int); omega) fun e _ he => hl.2 e he) fun u hu => ?_
  refine tot_bind (tbelow k4 hs hu) fun ⟨t, c5⟩ ⟨ht, _⟩ => ?_
  simp only at ht ⊢
  rw [goApp_ok (by simp; omega), Option.bind_some]
  exact tot_some (hl.push ht (by omega))

theorem Follows_ok {g : impl_Geo} {s : List impl_Variable} {t u : impl_Table} (hs : TameS s) (ht : OkT g s t) (hu : OkT g s u) (hF : Fol g s t u) : impl_FollowsFrom g s t u = some (true, true) := by
  obtain ⟨b1, f1, g1⟩ := areTabled_bis (g := g) (s := s) (t := t) hs (by have := ht.vlen; omega)
  obtain ⟨b2, f2, g2⟩ := areTabled_bis (g := g) (s := s) (t := u) hs (by have := hu.vlen; omega)
  obtain ⟨b3, f3, g3⟩ := followsFrom_bis ht hu
  unfold impl_FollowsFrom
  rw [f1, g1.2 ht, Option.bind_some, isTable_eq (u := u) hs ht, f2, g2.2 hu]
  simp only [Option.bind_some, Bool.not_true, cond_false]
  rw [f3, g3.2 hF]
  rfl

end Go.Gx.F
