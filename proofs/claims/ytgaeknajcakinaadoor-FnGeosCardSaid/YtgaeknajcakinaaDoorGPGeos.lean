/- Plain laws: geographies: their texts, leaves, levels and sums; the law. -/
import Derived.Test.YtgaeknajcakinaaDoorGPGt3
namespace Go.Gx.F
open Go.Gx
set_option linter.all false

theorem sameInts_same {l : List Int} (h : l.length ≤ 1048576) : laws_sameInts l l = some true := by
  unfold laws_sameInts
  rw [bne_self_eq_false, cond_false]
  have h := loop_all (l := l) (fun _ => true) (laws_sameInts_l1 l l) (fun k x hx => by
    simp only [laws_sameInts_l1, lt_ok hx, cond_true, at_ok hx, Option.bind_some, bne_self_eq_false, cond_false, nx_ok hx (by omega), if_true]) (fun _ => by simp only [laws_sameInts_l1, lt_end, cond_false])
  rw [h]; simp

section
variable {g : impl_Geo} {p : List Int}

theorem leavesOf_eq (hl : g.Parents.length ≤ 1000) : impl_leavesOf g = some (leaves g.Parents) := by
  unfold impl_leavesOf
  rw [loop_sel (n := g.Parents.length) (leaf g.Parents) (fun k => (k : Int)) (fun out k hk ho => ?_) (fun out => by simp only [impl_leavesOf_l1, lt_end, cond_false])]
  · rfl
  · have hx : g.Parents[k]? = some g.Parents[k] := by simp [hk]
    obtain ⟨b, e, hb⟩ := contains_bis (l := g.Parents) (x := (k : Int)) (by omega)
    have hlf : leaf g.Parents k = !b := by
      unfold leaf
      rw [List.contains_eq_mem]
      cases b with
      | true => simp [hb.1 rfl]
      | false =>
        have : ¬ (k : Int) ∈ g.Parents := fun h => by have := hb.2 h; cases this
        simp [this]
    simp only [impl_leavesOf_l1, impl_isLeaf, lt_ok hx, cond_true, e, Option.bind_some, hlf, nx_ok hx (show g.Parents.length ≤ 9223372036854775807 by omega)]
    cases b
    · simp only [Bool.not_false, cond_true]
      rw [goApp_ok (by simp; omega)]; rfl
    · rfl

/-! ## the levels -/
theorem pos_succ (sel : Nat → Bool) (n : Nat) : pos sel (n + 1) = pos sel n + cond (sel n) 1 0 := by
  unfold pos
  rw [picks]
  cases sel n <;> simp

theorem pos_all {sel : Nat → Bool} : ∀ {n : Nat}, (∀ k, k < n → sel k = true) → pos sel n = n
  | 0, _ => rfl
  | n + 1, h => by rw [pos_succ, pos_all fun k hk => h k (by omega), h n (by omega)]; rfl

theorem pos_none {sel : Nat → Bool} : ∀ {n : Nat}, (∀ k, k < n → sel k = false) → pos sel n = 0
  | 0, _ => rfl
  | n + 1, h => by rw [pos_succ, pos_none fun k hk => h k (by omega), h n (by omega)]; rfl

theorem pos_level (p : List Int) (m : Nat) : ∀ n, pos (fun k => decide (dep p k < m)) n + pos (atL p (m : Int)) n = pos (fun k => decide (dep p k < m + 1)) n
  | 0 => rfl
  | n + 1 => by
    have ih := pos_level p m n
    rw [pos_succ, pos_succ, pos_succ, ← ih]
    have : (cond (decide (dep p n < m)) 1 0 : Nat) + cond (atL p (m : Int) n) 1 0 = cond (decide (dep p n < m + 1)) 1 0 := by
      unfold atL
      by_cases h1 : dep p n < m
      · rw [decide_eq_true h1, decide_eq_true (show dep p n < m + 1 by omega), show (((dep p n : Nat) : Int) == (m : Int)) = false by rw [beq_eq_false_iff_ne]; omega]; rfl
      · by_cases h2 : dep p n = m
        · rw [decide_eq_false h1, decide_eq_true (show dep p n < m + 1 by omega), show (((dep p n : Nat) : Int) == (m : Int)) = true by rw [beq_iff_eq]; omega]; rfl
        · rw [decide_eq_false h1, decide_eq_false (show ¬ dep p n < m + 1 by omega), show (((dep p n : Nat) : Int) == (m : Int)) = false by rw [beq_eq_false_iff_ne]; omega]; rfl
    omega

theorem lev_pos (p : List Int) (L : Int) : (lev p L).length = pos (atL p L) p.length := picks_len_eq _

theorem LevelOf_ok (h : gok g.Parents = true) (L : Int) : impl_LevelOf g L = some (lev g.Parents L, decide (0 < goLen (lev g.Parents L))) ∧ spec_LevelOf g L = some (lev g.Parents L, decide (0 < goLen (lev g.Parents L))) := by
  have hg := gok_ok h
  unfold impl_LevelOf spec_LevelOf
  rw [impl_IsGeo_eq, spec_gGood_eq, h, Option.bind_some, Option.bind_some, areasAt_eq hg, gLevel_eq hg]
  exact ⟨rfl, rfl⟩

theorem levels_run (h : gok g.Parents = true) : ∀ (j m : Nat), m + j = g.Parents.length → loopC (laws_FnGeos_l1 g) (((pos (fun k => decide (dep g.Parents k < m)) g.Parents.length : Nat) : Int), (m : Int)) = some (.inl (g.Parents.length : Int))
  | 0, m, hm => by
    have hg := gok_ok h
    obtain rfl : m = g.Parents.length := by omega
    refine loopC_dn ?_
    simp only [laws_FnGeos_l1, lt_end, cond_false]
    rw [pos_all fun k hk => decide_eq_true (by have := gpath_len g.Parents k; unfold dep; omega)]
  | j + 1, m, hm => by
    have hg := gok_ok h
    have hl := hg.l2
    obtain ⟨e1, e2⟩ := LevelOf_ok (g := g) h (m : Int)
    have hll := lev_len g.Parents (m : Int)
    have hp := pos_level g.Parents m g.Parents.length
    have hx : g.Parents[m]? = some (g.Parents[m]'(by omega)) := by simp [show m < g.Parents.length by omega]
    have hlp := lev_pos g.Parents (m : Int)
    have hpl := picks_len (sel := fun k => decide (dep g.Parents k < m)) (f := fun k => k) g.Parents.length
    rw [picks_len_eq] at hpl
    rw [loopC_nx (y := (((pos (fun k => decide (dep g.Parents k < m + 1)) g.Parents.length : Nat) : Int), ((m + 1 : Nat) : Int)))]
    · exact levels_run h j (m + 1) (by omega)
    · simp only [laws_FnGeos_l1, lt_ok hx, cond_true, e1, e2, Option.bind_some, bne_self_eq_false, cond_false, sameInts_same (show (lev g.Parents (m : Int)).length ≤ 1048576 by omega), Bool.not_true, nx_ok hx (show g.Parents.length ≤ 9223372036854775807 by omega)]
      rw [wid (by simp only [goLen]; omega) (by simp only [goLen]; omega)]
      simp only [goLen]
      congr 3
      omega

/-! ## the sums -/
def Sml (l : List Int) : Prop := ∀ v ∈ l, -1000000 ≤ v ∧ v ≤ 1000000
def ab (v : Int) : Int := (v.natAbs : Int)

theorem set_sum : ∀ {l : List Int} {q : Nat} {x : Int} (v : Int), l[q]? = some x → (l.set q v).sum = l.sum - x + v
  | [], q, x, v, h => by simp at h
  | a :: l, 0, x, v, h => by
    obtain rfl : a = x := by simpa using h
    simp only [List.set_cons_zero, List.sum_cons]; omega
  | a :: l, q + 1, x, v, h => by
    have ih := set_sum (l := l) (q := q) v (by simpa using h)
    simp only [List.set_cons_succ, List.sum_cons]; omega

theorem ab_pos : ∀ l : List Int, 0 ≤ (l.map ab).sum
  | [] => by simp
  | a :: l => by
    have := ab_pos l
    simp only [List.map_cons, List.sum_cons, ab] at *
    omega

theorem ab_le : ∀ {l : List Int} {q : Nat} {x : Int}, l[q]? = some x → ab x ≤ (l.map ab).sum
  | [], q, x, h => by simp at h
  | a :: l, 0, x, h => by
    obtain rfl : a = x := by simpa using h
    have := ab_pos l
    simp only [List.map_cons, List.sum_cons]; omega
  | a :: l, q + 1, x, h => by
    have ih := ab_le (l := l) (q := q) (by simpa using h)
    have : 0 ≤ ab a := by unfold ab; omega
    simp only [List.map_cons, List.sum_cons]; omega

theorem take_sum {l : List Int} {k : Nat} {x : Int} (h : l[k]? = some x) : (l.take (k + 1)).sum = (l.take k).sum + x := by
  rw [List.take_add_one, h]; simp

theorem take_ab {l : List Int} {k : Nat} {x : Int} (h : l[k]? = some x) : ((l.take (k + 1)).map ab).sum = ((l.take k).map ab).sum + ab x := by
  rw [List.take_add_one, h]; simp

theorem sums_run (h : GeoOk g.Parents) : ∀ (i : Nat) (out : List Int), i < g.Parents.length → out.length = g.Parents.length → ((out.take (i + 1)).map ab).sum ≤ 30000000 →
    ∃ L : List Int, loopC (spec_gSums_l1 g) (out, (i : Int)) = some L ∧ L.length = g.Parents.length ∧ L[0]? = some (out.take (i + 1)).sum
  | 0, out, hi, ho, hs => by
    refine ⟨out, loopC_dn (by simp only [spec_gSums_l1]; rfl), ho, ?_⟩
    have h0 : out[0]? = some (out[0]'(by omega)) := by simp [show 0 < out.length by omega]
    rw [take_sum h0, h0]; simp
  | i + 1, out, hi, ho, hs => by
    have hl := h.l2
    obtain ⟨e, hq⟩ := par_at h hi (by omega)
    have hx : out[par g.Parents (i + 1)]? = some (out[par g.Parents (i + 1)]'(by omega)) := by simp [show par g.Parents (i + 1) < out.length by omega]
    have hy : out[i + 1]? = some (out[i + 1]'(by omega)) := by simp [show i + 1 < out.length by omega]
    generalize out[par g.Parents (i + 1)]'(by omega) = x at hx
    generalize out[i + 1]'(by omega) = y at hy
    have hxt : (out.take (i + 1))[par g.Parents (i + 1)]? = some x := by rw [List.getElem?_take_of_lt (by omega)]; exact hx
    have hab := take_ab hy
    have hxa := ab_le hxt
    have hya : 0 ≤ ab y := by unfold ab; omega
    have hsum := take_sum hy
    have ax : ab x = (x.natAbs : Int) := rfl
    have ay : ab y = (y.natAbs : Int) := rfl
    have axy : ab (x + y) = ((x + y).natAbs : Int) := rfl
    have hpos := ab_pos (out.take (i + 1))
    have hbx : -30000000 ≤ x ∧ x ≤ 30000000 := by omega
    have hby : -30000000 ≤ y ∧ y ≤ 30000000 := by omega
    have hset : (out.set (par g.Parents (i + 1)) (x + y)).take (i + 1) = (out.take (i + 1)).set (par g.Parents (i + 1)) (x + y) := by rw [List.take_set]
    obtain ⟨L, r1, r2, r3⟩ := sums_run h i (out.set (par g.Parents (i + 1)) (x + y)) (by omega) (by rw [List.length_set]; exact ho) (by
      rw [hset, List.map_set, set_sum (x := ab x) _ (by rw [List.getElem?_map, hxt]; rfl)]
      omega)
    refine ⟨L, ?_, r2, ?_⟩
    · rw [loopC_nx (y := (out.set (par g.Parents (i + 1)) (x + y), (i : Int))), r1]
      simp only [spec_gSums_l1]
      rw [decide_eq_true (show (0 : Int) < ((i + 1 : Nat) : Int) by omega), cond_true, at_ok e, Option.bind_some, at_ok hx, Option.bind_some, at_ok hy, Option.bind_some, Option.bind_some, wid (n := x + y) (by omega) (by omega), wid (n := ((i + 1 : Nat) : Int) - 1) (by omega) (by omega)]
      rw [show ((i + 1 : Nat) : Int) - 1 = (i : Int) by omega]
      rfl
    · rw [r3, hset, set_sum _ hxt, hsum]
      congr 1; omega

theorem pSum_ok {l : List Int} (hl : l.length ≤ 1000) (h : Sml l) : laws_pSum l = some l.sum := by
  unfold laws_pSum
  have key : ∀ (j k : Nat) (s : Int), k + j = l.length → s = (l.take k).sum → -1000000 * (k : Int) ≤ s ∧ s ≤ 1000000 * (k : Int) → loopC (laws_pSum_l1 l) (s, (k : Int)) = some l.sum := by
    intro j
    induction j with
    | zero =>
      intro k s hk hs _
      obtain rfl : k = l.length := by omega
      refine loopC_dn ?_
      simp only [laws_pSum_l1, lt_end, cond_false]
      rw [hs, List.take_length]
    | succ j ih =>
      intro k s hk hs hb
      have hx : l[k]? = some (l[k]'(by omega)) := by simp [show k < l.length by omega]
      generalize l[k]'(by omega) = x at hx
      have hxb := h x (List.mem_of_getElem? hx)
      rw [loopC_nx (y := (s + x, ((k + 1 : Nat) : Int)))]
      · exact ih (k + 1) (s + x) (by omega) (by rw [take_sum hx, hs]) (by omega)
      · simp only [laws_pSum_l1, lt_ok hx, at_ok hx, cond_true, Option.bind_some, nx_ok hx (show l.length ≤ 9223372036854775807 by omega)]
        rw [wid (by omega) (by omega)]
  have := key l.length 0 0 (by omega) (by simp) (by omega)
  rw [show (((0 : Nat)) : Int) = 0 from rfl] at this
  rw [this]; rfl

theorem sml_ab : ∀ {l : List Int}, Sml l → (l.map ab).sum ≤ 1000000 * (l.length : Int)
  | [], _ => by simp
  | a :: l, h => by
    have ih := sml_ab (l := l) fun v hv => h v (List.mem_cons_of_mem _ hv)
    have ha := h a List.mem_cons_self
    simp only [List.map_cons, List.sum_cons, List.length_cons, ab] at *
    omega

theorem areSml_bis {l : List Int} {n : Int} (hl : l.length ≤ 1000000) : Bis (impl_areSmallIntegers l n) ((l.length : Int) = n ∧ Sml l) := by
  unfold impl_areSmallIntegers
  by_cases h : (l.length : Int) = n
  · rw [show (goLen l != n) = false by simp [goLen, h], cond_false]
    refine bis_iff (bis_loop (l := l) (fun _ v => -1000000 ≤ v ∧ v ≤ 1000000) (fun k x hx => ⟨decide (-1000000 ≤ x ∧ x ≤ 1000000), by simp, ?_⟩) (by simp only [impl_areSmallIntegers_l1, lt_end, cond_false])) (by rw [all_mem_iff]; simp [h, Sml])
    simp only [impl_areSmallIntegers_l1, lt_ok hx, at_ok hx, cond_true, Option.bind_some, nx_ok hx (show l.length ≤ 9223372036854775807 by omega)]
    by_cases h1 : x < -1000000
    · rw [decide_eq_true h1, decide_eq_false (show ¬ (-1000000 ≤ x ∧ x ≤ 1000000) by omega)]; rfl
    · by_cases h2 : 1000000 < x
      · rw [decide_eq_false h1, decide_eq_true h2, decide_eq_false (show ¬ (-1000000 ≤ x ∧ x ≤ 1000000) by omega)]; rfl
      · rw [decide_eq_false h1, decide_eq_false h2, decide_eq_true (show (-1000000 ≤ x ∧ x ≤ 1000000) by omega)]; rfl
  · rw [show (goLen l != n) = true by simp [goLen, h]]
    exact ⟨false, rfl, by simp [h]⟩

theorem sums_body : impl_SumsUp_l1 g = spec_gSums_l1 g := rfl

theorem SumsUp_same {values : List Int} (hv : values.length ≤ 1000000) :
    (impl_SumsUp g values = some ([], false) ∧ spec_SumsUp g values = some ([], false)) ∨
    (∃ L : List Int, impl_SumsUp g values = some (L, true) ∧ spec_SumsUp g values = some (L, true) ∧ L.length ≤ 30 ∧ L[0]? = some values.sum ∧ laws_pSum values = some values.sum) := by
  unfold impl_SumsUp spec_SumsUp
  rw [impl_IsGeo_eq, spec_gGood_eq]
  cases hg : gok g.Parents with
  | false => exact .inl ⟨rfl, rfl⟩
  | true =>
    have h := gok_ok hg
    have hl := h.l2
    have hl1 := h.l1
    obtain ⟨b, e, hb⟩ := areSml_bis (l := values) (n := goLen g.Parents) hv
    obtain ⟨c, ec, hc⟩ := lAll_bis (l := values) (lo := -1000000) (hi := 1000000) (by omega)
    simp only [Option.bind_some, Bool.not_true, cond_false]
    rw [e, ec]
    by_cases hlen : values.length = g.Parents.length
    · rw [show (goLen values != goLen g.Parents) = false by simp [goLen, hlen], cond_false]
      simp only [Option.bind_some]
      cases b with
      | false =>
        cases c with
        | false => exact .inl ⟨rfl, rfl⟩
        | true =>
          have := hb.2 ⟨by simp only [goLen]; omega, hc.1 rfl⟩
          cases this
      | true =>
        obtain ⟨_, hs⟩ := hb.1 rfl
        obtain rfl : c = true := hc.2 hs
        simp only [Bool.not_true, cond_false]
        obtain ⟨L, r1, r2, r3⟩ := sums_run h (g.Parents.length - 1) values (by omega) hlen (by
          rw [List.take_of_length_le (by omega)]
          have := sml_ab hs
          omega)
        rw [List.take_of_length_le (by omega)] at r3
        right
        refine ⟨L, ?_, ?_, by omega, r3, pSum_ok (by omega) hs⟩
        · rw [clone_eq (by omega), Option.bind_some, wid (by simp only [goLen]; omega) (by simp only [goLen]; omega), show goLen values - 1 = ((g.Parents.length - 1 : Nat) : Int) by simp only [goLen]; omega, sums_body, r1]
          rfl
        · unfold spec_gSums
          rw [own_eq (by omega), Option.bind_some, wid (by simp only [goLen]; omega) (by simp only [goLen]; omega), show goLen values - 1 = ((g.Parents.length - 1 : Nat) : Int) by simp only [goLen]; omega, r1]
          rfl
    · rw [show (goLen values != goLen g.Parents) = true by simp only [goLen, bne_iff_ne]; omega]
      have : b = false := by
        cases b with
        | false => rfl
        | true => exact absurd (hb.1 rfl).1 (by simp only [goLen]; omega)
      subst this
      exact .inl ⟨rfl, rfl⟩

theorem GeoText_ok : impl_GeoText g = some (cond (gok g.Parents) (T g.Parents 0) [], gok g.Parents) ∧ spec_GeoText g = some (cond (gok g.Parents) (T g.Parents 0) [], gok g.Parents) := by
  unfold impl_GeoText spec_GeoText
  rw [impl_IsGeo_eq, spec_gGood_eq]
  cases hg : gok g.Parents with
  | false => exact ⟨rfl, rfl⟩
  | true =>
    have h := gok_ok hg
    simp only [Option.bind_some, Bool.not_true, cond_false, cond_true]
    rw [areaText_ok h, gText_ok h]
    exact ⟨rfl, rfl⟩

theorem LeavesOf_ok (hg : gok g.Parents = true) : impl_LeavesOf g = some (leaves g.Parents, true) ∧ spec_LeavesOf g = some (leaves g.Parents, true) := by
  have hl := (gok_ok hg).l2
  unfold impl_LeavesOf spec_LeavesOf
  rw [impl_IsGeo_eq, spec_gGood_eq, hg]
  simp only [Option.bind_some, Bool.not_true, cond_false]
  rw [leavesOf_eq (by omega), gLeaves_eq (by omega)]
  exact ⟨rfl, rfl⟩
end

/-! ## what is drawn -/
theorem tanyG {B : Nat} {c : spec_l1Cur} (h : Cur B c) (hB : B ≤ 100000 := by omega) : Tot (spec_l1Cur_anyGeo c) fun r => r.1.Parents.length ≤ 60 ∧ Cur (B + 14) r.2 := by
  unfold spec_l1Cur_anyGeo
  refine tot_bind (tgeo h) fun ⟨g, c1⟩ ⟨hg, hgl, k1⟩ => ?_
  simp only at hg hgl k1
  have hg1 := hg.l1
  refine tot_bind (tpick k1) fun ⟨x, c2⟩ ⟨_, _, _, k2⟩ => ?_
  simp only at k2
  refine tot_bind (Q := fun r => match r with | .inl z => z.2.Parents.length ≤ 60 ∧ Cur (B + 14) z.1 | .inr z => z.1.Parents.length ≤ 60 ∧ Cur (B + 14) z.2) (tot_cond (fun _ => ?_) fun _ => ?_) fun r hr => ?_
  · refine tot_bind (tot_at (Q := fun _ => True) (by omega) (by simp only; omega) fun _ _ _ => trivial) fun _ _ => tot_some ⟨by show (g.Parents.set _ _).length ≤ 60; rw [List.length_set]; omega, k2.le (by omega)⟩
  · refine tot_bind (Q := fun r => match r with | .inl z => z.2.Parents.length ≤ 60 ∧ Cur (B + 14) z.1 | .inr (.inl z) => z.2.Parents.length ≤ 60 ∧ Cur (B + 14) z.1 | .inr (.inr z) => z.1.Parents.length ≤ 60 ∧ Cur (B + 14) z.2) (tot_cond (fun _ => ?_) fun _ => tot_cond (fun _ => tot_some ⟨by simp, k2.le (by omega)⟩) fun _ => ?_) fun r hr => ?_
    · refine tot_bind (Q := fun z => z.2.Parents.length ≤ 60 ∧ Cur (B + 14) z.1) (tot_bind (tamong k2) fun ⟨y, c3⟩ ⟨_, k3⟩ => ?_) fun z hz => tot_some hz
      rw [goApp_ok (by simp; omega), Option.bind_some]
      exact tot_some ⟨by simp; omega, k3.le (by omega)⟩
    · refine tot_bind (Q := fun z => z.2.Parents.length ≤ 60 ∧ Cur (B + 14) z.1) (tot_cond (fun _ => tot_bind (tpick k2) fun ⟨y, c3⟩ ⟨y0, y1, _, k3⟩ => ?_) fun _ => tot_some ⟨by simp only; omega, k2.le (by omega)⟩) fun z hz => tot_some hz
      have hy := y1 (by omega)
      simp only at y0 hy
      simp only [goLen]
      rw [wid (n := 30 - (g.Parents.length : Int)) (by omega) (by omega), wid (n := 30 - (g.Parents.length : Int) + y) (by omega) (by omega)]
      unfold goAppZ
      rw [decide_eq_true (show 0 ≤ 30 - (g.Parents.length : Int) + y by omega), decide_eq_true (by omega)]
      exact tot_some ⟨by simp; omega, k3.le (by omega)⟩
    · rcases r with z | z | z
      · exact tot_some hr
      · exact tot_some hr
      · exact tot_some hr
  · rcases r with z | z
    · exact tot_some hr
    · exact tot_some hr

theorem tDrawGeoText {code : List (K .u8)} (ho : ∀ x ∈ code, Rng.ok x) : Tot (spec_DrawGeoText code) fun r => r.Parents.length ≤ 60 := by
  unfold spec_DrawGeoText spec_DrawIsGeo
  refine tot_bind (Q := fun r => r.Parents.length ≤ 60) (tot_bind (tanyG (cur0 ho)) fun ⟨g, c⟩ ⟨h, _⟩ => tot_some h) fun g h => tot_some h

theorem tDrawSumsUp {code : List (K .u8)} (ho : ∀ x ∈ code, Rng.ok x) : Tot (spec_DrawSumsUp code) fun r => r.2.length ≤ 61 := by
  unfold spec_DrawSumsUp
  refine tot_bind (tanyG (cur0 ho)) fun ⟨g, c⟩ ⟨hg, k1⟩ => ?_
  simp only at hg k1
  refine tot_bind (Q := fun r => r.1.length ≤ 60 ∧ Cur 300 r.2) (tot_loop (fun t => ∃ k : Nat, t.2.1 = (k : Int) ∧ k ≤ g.Parents.length ∧ t.1.length = k ∧ Cur (14 + 2 * k) t.2.2) (fun t => g.Parents.length - t.2.1.toNat) ⟨0, rfl, by omega, rfl, k1.le (by omega)⟩ ?_) fun ⟨l, c2⟩ ⟨hl, k2⟩ => ?_
  · rintro ⟨l, _, c2⟩ ⟨k, rfl, hk, hl, k2⟩
    simp only at hl k2
    simp only [spec_DrawSumsUp_l1]
    refine tot_cond (fun hlt => ?_) fun _ => tot_some ⟨by simp only; omega, k2.le (by omega)⟩
    have hlt : (k : Int) < goLen g.Parents := of_decide_eq_true hlt
    simp only [goLen] at hlt
    refine tot_bind (tpick k2) fun ⟨x, c3⟩ ⟨_, _, _, k3⟩ => ?_
    simp only at k3
    rw [goApp_ok (by simp; omega), Option.bind_some, wid (n := (k : Int) + 1) (by omega) (by omega)]
    exact tot_some ⟨⟨k + 1, by simp only; omega, by omega, by simp [hl], k3.le (by omega)⟩, by simp only; omega⟩
  · simp only at hl k2
    refine tot_bind (tpick k2) fun ⟨x, c3⟩ ⟨_, _, _, k3⟩ => ?_
    simp only at k3
    refine tot_bind (Q := fun r => r.length ≤ 61) (tot_cond (fun _ => ?_) fun _ => tot_bind (Q := fun r => r.length ≤ 61) (tot_cond (fun _ => tot_bind (Q := fun r => r.length ≤ 61) (tot_cond (fun h0 => ?_) fun _ => tot_some (by omega)) fun _ h => tot_some h) fun _ => tot_some (by omega)) fun _ h => tot_some h) fun r hr => tot_some hr
    · rw [goApp_ok (by simp; omega), Option.bind_some]
      exact tot_some (by simp; omega)
    · have h0 : 0 < goLen l := of_decide_eq_true h0
      simp only [goLen] at h0
      refine tot_bind (tamong k3) fun ⟨z, c5⟩ _ => ?_
      refine tot_bind (tot_at (Q := fun _ => True) (by omega) (by omega) fun _ _ _ => trivial) fun _ _ => tot_some ?_
      show (l.set _ _).length ≤ 61
      rw [List.length_set]; omega

theorem tspoilt {B : Nat} {c : spec_l1Cur} {x w : List UInt8} (h : Cur B c) (hx : x.length ≤ 100000) (hw : 1 ≤ w.length ∧ w.length ≤ 1000) (hB : B ≤ 100000 := by omega) : Tot (spec_l1Cur_spoilt c x w) fun r => r.1.length ≤ x.length + 2 ∧ Cur (B + 20) r.2 := by
  unfold spec_l1Cur_spoilt
  refine tot_bind (tpick h) fun ⟨n, c1⟩ ⟨n0, n1, _, k1⟩ => ?_
  have n1 := n1 (by omega)
  simp only at n0 n1 k1 ⊢
  rw [wid (by omega) (by omega)]
  refine tot_bind (Q := fun r => r.1.length ≤ x.length + 2 ∧ Cur (B + 20) r.2) (tot_loop (fun q => ∃ m : Nat, q.2.1 = (m : Int) ∧ m ≤ 2 ∧ q.1.length + m ≤ x.length + 2 ∧ Cur (B + 2 + 6 * (2 - m)) q.2.2) (fun q => q.2.1.toNat) ⟨(1 + n).toNat, by simp only; omega, by omega, by simp only; omega, k1.le (by omega)⟩ ?_) fun r hr => tot_some hr
  rintro ⟨y, _, c3⟩ ⟨m, rfl, hm, hy, kc⟩
  simp only at hy kc
  simp only [spec_l1Cur_spoilt_l1]
  have hz : ((cond (decide (0 < (m : Int))) (some (decide (0 < goLen y))) (some false)) : Option Bool) = some (decide (0 < m ∧ 0 < y.length)) := by
    by_cases h1 : 0 < m
    · rw [decide_eq_true (by omega), cond_true]
      by_cases h2 : 0 < y.length
      · rw [decide_eq_true (by simp only [goLen]; omega), decide_eq_true ⟨h1, h2⟩]
      · rw [decide_eq_false (by simp only [goLen]; omega), decide_eq_false (show ¬ (0 < m ∧ 0 < y.length) from fun h => h2 h.2)]
    · rw [decide_eq_false (show ¬ (0 < (m : Int)) by omega), decide_eq_false (show ¬ (0 < m ∧ 0 < y.length) from fun h => h1 h.1)]; rfl
  rw [hz, Option.bind_some]
  refine tot_cond (fun hc => ?_) fun _ => tot_some ⟨by simp only; omega, kc.le (by omega)⟩
  have hc' : 0 < m ∧ 0 < y.length := by simpa using hc
  refine tot_bind (tpick kc (hk := by simp only [goLen]; omega)) fun ⟨i, c4⟩ ⟨i0, i1, _, k4⟩ => ?_
  have i1 := i1 (by simp only [goLen]; omega)
  simp only [goLen] at i0 i1 k4 ⊢
  refine tot_bind (tpick k4 (hk := by omega)) fun ⟨j, c5⟩ ⟨j0, j1, _, k5⟩ => ?_
  have j1 := j1 (by omega)
  simp only at j0 j1 k5 ⊢
  obtain ⟨jn, rfl⟩ := Int.eq_ofNat_of_zero_le j0
  have hwj : w[jn]? = some (w[jn]'(by omega)) := by simp [show jn < w.length by omega]
  rw [strAt_k hwj, Option.bind_some]
  refine tot_bind (tpick k5) fun ⟨z, c6⟩ ⟨_, _, _, k6⟩ => ?_
  simp only at k6 ⊢
  have hg1 : ∀ v : Int, (goBytes ([(⟨v⟩ : K .u8)] : List (K .u8))).length = 1 := fun v => rfl
  have s1 : ∀ {a b : Int}, 0 ≤ a → a ≤ b → b ≤ y.length → ∃ l, goSub y a b = some l ∧ l.length = (b - a).toNat := by
    intro a b h1 h2 h3
    obtain ⟨l, e, hl⟩ := tot_sub (l := y) (Q := fun l => l.length = (b - a).toNat) h1 h2 h3 (by simp; omega)
    exact ⟨l, e, hl⟩
  obtain ⟨l1, e1, q1⟩ := s1 (a := 0) (b := i) (by omega) (by omega) (by omega)
  obtain ⟨l2, e2, q2⟩ := s1 (a := i) (b := (y.length : Int)) (by omega) (by omega) (by omega)
  obtain ⟨l3, e3, q3⟩ := s1 (a := i + 1) (b := (y.length : Int)) (by omega) (by omega) (by omega)
  have hw1 : w64 (i + 1) = i + 1 := wid (by omega) (by omega)
  refine tot_bind (Q := fun r => r.length ≤ y.length + 1) ?_ fun r hr => ?_
  · refine tot_cond (fun _ => ?_) fun _ => tot_bind (Q := fun r => r.length ≤ y.length + 1) (tot_cond (fun _ => ?_) fun _ => ?_) fun r hr => tot_some hr
    · rw [e1, Option.bind_some, cat_ok (by rw [hg1]; omega), Option.bind_some, e2, Option.bind_some, cat_ok (by rw [List.length_append, hg1]; omega), Option.bind_some]
      exact tot_some (by simp only [List.length_append, hg1]; omega)
    · rw [e1, Option.bind_some, cat_ok (by rw [hg1]; omega), Option.bind_some, hw1, e3, Option.bind_some, cat_ok (by rw [List.length_append, hg1]; omega), Option.bind_some]
      exact tot_some (by simp only [List.length_append, hg1]; omega)
    · rw [e1, Option.bind_some, hw1, e3, Option.bind_some, cat_ok (by omega), Option.bind_some]
      exact tot_some (by simp only [List.length_append]; omega)
  · refine tot_some ⟨⟨m - 1, ?_, by omega, by simp only; omega, k6.le (by omega)⟩, ?_⟩
    · simp only; rw [wid (by omega) (by omega)]; omega
    · simp only; rw [wid (by omega) (by omega)]; omega

theorem big_tot (a b : List (K .u8)) : ∃ t, laws_big a b = some t := by
  unfold laws_big
  cases decide (1048576 < goLen a) <;> exact ⟨_, rfl⟩

theorem tDrawParseGeo {code : List (K .u8)} (ho : ∀ x ∈ code, Rng.ok x) : Tot (spec_DrawParseGeo code) fun r => r.length ≤ 1000 := by
  unfold spec_DrawParseGeo
  refine tot_bind (tgeo (cur0 ho)) fun ⟨g, c⟩ ⟨hg, hgl, k1⟩ => ?_
  simp only at hg hgl k1
  have hl1 := hg.l1
  have hT := T_len hg (i := 0) (by omega)
  rw [gText_ok hg, Option.bind_some]
  refine tot_bind (tone k1) fun ⟨y, c2⟩ k2 => ?_
  simp only at k2 ⊢
  refine tot_cond (fun _ => tot_bind (tspoilt k2 (by omega) (by simp)) fun ⟨x, c3⟩ ⟨hx, _⟩ => tot_some (by simp only at hx ⊢; omega)) fun _ => tot_some (by omega)

theorem laws_FnGeos_true (a b : List (K .u8)) (o1 : Rng.ok a) (o2 : Rng.ok b) : laws_FnGeos a b = some true := by
  refine tot_eq ?_
  unfold laws_FnGeos
  obtain ⟨z, ez⟩ := big_tot a b
  rw [ez, Option.bind_some]
  refine tot_cond (fun _ => tot_some rfl) fun _ => ?_
  obtain ⟨g, q1, hgl⟩ := tDrawGeoText o1.2
  obtain ⟨s, q2, hs⟩ := tDrawParseGeo o2.2
  obtain ⟨⟨h, values⟩, q3, hv⟩ := tDrawSumsUp o2.2
  simp only at hv
  obtain ⟨r, w1, w2, wl⟩ := ParseGeo_same hs
  obtain ⟨t1, t2⟩ := GeoText_ok (g := g)
  have htail : ∀ F : Option Bool, F = ((spec_DrawParseGeo b).bind fun t_47 => ((impl_ParseGeo t_47).bind fun t_48 => ((spec_ParseGeo t_47).bind fun t_52 => (((cond (t_48.2 != t_52.2) (some true) ((laws_sameInts t_48.1.Parents t_52.1.Parents).bind fun t_56 => some (!t_56))) : Option (Bool)).bind fun t_58 => (cond t_58 (some false) ((spec_DrawSumsUp b).bind fun t_59 => ((impl_SumsUp t_59.1 t_59.2).bind fun t_64 => ((spec_SumsUp t_59.1 t_59.2).bind fun t_68 => (((cond (t_64.2 == t_68.2) ((laws_sameInts t_64.1 t_68.1).bind fun t_72 => (cond t_72 (cond (!t_64.2) (some true) ((goAt t_64.1 0).bind fun e_74 => ((laws_pSum t_59.2).bind fun t_76 => some (e_74 == t_76)))) (some false))) (some false)) : Option (Bool)).bind fun t_78 => some t_78))))))))) → Tot F (fun z => z = true) := by
    rintro F rfl
    rw [q2]
    simp only [Option.bind_some]
    rw [w1, w2]
    simp only [Option.bind_some, bne_self_eq_false, cond_false]
    rw [sameInts_same (by omega)]
    simp only [Option.bind_some, Bool.not_true, cond_false]
    rw [q3]
    simp only [Option.bind_some]
    rcases SumsUp_same (g := h) (values := values) (by omega) with ⟨e1, e2⟩ | ⟨L, e1, e2, hL, h0, hp⟩
    · rw [e1, e2]
      simp only [Option.bind_some, beq_self_eq_true, cond_true]
      rw [sameInts_same (by simp)]
      exact tot_some rfl
    · rw [e1, e2]
      simp only [Option.bind_some, beq_self_eq_true, cond_true]
      rw [sameInts_same (by omega)]
      simp only [Option.bind_some, cond_true, Bool.not_true, cond_false]
      rw [show (0 : Int) = ((0 : Nat) : Int) from rfl, at_ok h0, Option.bind_some, hp]
      simp only [Option.bind_some, beq_self_eq_true]
      exact tot_some rfl
  rw [q1]
  simp only [Option.bind_some]
  rw [t1, t2]
  simp only [Option.bind_some, bne_self_eq_false, cond_false]
  rw [impl_IsGeo_eq]
  simp only [Option.bind_some, bne_self_eq_false, cond_false]
  cases hg : gok g.Parents with
  | false =>
    simp only [cond_false, Option.bind_some]
    exact htail _ rfl
  | true =>
    have hl := (gok_ok hg).l2
    have hll := leaves_len g.Parents
    obtain ⟨l1, l2⟩ := LeavesOf_ok (g := g) hg
    have run := levels_run (g := g) hg g.Parents.length 0 (by omega)
    rw [pos_none (fun k _ => by simp), show (((0 : Nat)) : Int) = 0 from rfl] at run
    simp only [cond_true]
    rw [parse_tree hg]
    simp only [Option.bind_some, Bool.not_true, cond_false]
    rw [sameInts_same (by omega)]
    simp only [Option.bind_some, Bool.not_true, cond_false]
    rw [l1, l2]
    simp only [Option.bind_some, Bool.not_true, cond_false]
    rw [sameInts_same (by omega)]
    simp only [Option.bind_some, Bool.not_true, cond_false]
    rw [run]
    simp only [Option.bind_some, goLen, bne_self_eq_false, cond_false]
    exact htail _ rfl

end Go.Gx.F
