/- Plain laws: the cheapest source, and the law of base tables. -/
import Derived.Test.YtnmimeojimfogaaBPBs2
namespace Go.Gx.F
open Go.Gx
set_option linter.all false

section
variable {g : impl_Geo} {s : List impl_Variable} {l : List impl_Table} {t : impl_Table}

/-- the cells of the table b of a plan -/
def nAt (g : impl_Geo) (s : List impl_Variable) (l : List impl_Table) (b : Int) : Int := match l[b.toNat]? with
  | some u => (num g s u : Int)
  | none => 0

noncomputable def fbB (g : impl_Geo) (s : List impl_Variable) (t u : impl_Table) : Bool := @decide (Fol g s t u) (Classical.propDecidable _)

theorem fbB_iff {t u : impl_Table} : fbB g s t u = true ↔ Fol g s t u := @decide_eq_true_iff _ (Classical.propDecidable _)

theorem fbB_ok (ht : OkT g s t) {u : impl_Table} (hu : OkT g s u) : impl_followsFrom g s t u = some (fbB g s t u) ∧ spec_lFollows g s t u = some (fbB g s t u) := by
  obtain ⟨b, e1, e2, h⟩ := follows ht hu
  have : b = fbB g s t u := by rw [Bool.eq_iff_iff, h, fbB_iff]
  rw [← this]
  exact ⟨e1, e2⟩

/-- whether k is better than b -/
noncomputable def btr (g : impl_Geo) (s : List impl_Variable) (l : List impl_Table) (t : impl_Table) (k : Nat) (b : Int) : Bool := match l[k]? with
  | some u => fbB g s t u && (decide (b < 0) || decide ((num g s u : Int) < nAt g s l b))
  | none => false

noncomputable def chp (g : impl_Geo) (s : List impl_Variable) (l : List impl_Table) (t : impl_Table) : Nat → Int
  | 0 => -1
  | k + 1 => cond (btr g s l t k (chp g s l t k)) (k : Int) (chp g s l t k)

theorem chp_in : ∀ k : Nat, k ≤ l.length → chp g s l t k = -1 ∨ ∃ (i : Nat) (u : impl_Table), i < k ∧ chp g s l t k = (i : Int) ∧ l[i]? = some u ∧ Fol g s t u
  | 0, _ => .inl rfl
  | k + 1, hk => by
    unfold chp
    cases hb : btr g s l t k (chp g s l t k) with
    | false =>
      rw [cond_false]
      rcases chp_in k (by omega) with h | ⟨i, u, h1, h2, h3, h4⟩
      · exact .inl h
      · exact .inr ⟨i, u, by omega, h2, h3, h4⟩
    | true =>
      rw [cond_true]
      obtain ⟨u, hu⟩ := get_of (l := l) (k := k) (by omega)
      refine .inr ⟨k, u, by omega, rfl, hu, ?_⟩
      unfold btr at hb
      rw [hu] at hb
      simp only [Bool.and_eq_true] at hb
      exact fbB_iff.1 hb.1

theorem cheap_step (hl : OkP g s l) (ht : OkT g s t) {k : Nat} {u : impl_Table} (hu : l[k]? = some u) :
    ((impl_followsFrom g s t u).bind fun t_18 => (cond t_18 (cond (decide (chp g s l t k < 0)) (some true) ((goAt l (chp g s l t k)).bind fun e_24 => ((impl_cellCount g s u).bind fun t_29 => ((impl_cellCount g s e_24).bind fun t_30 => some (decide (t_29 < t_30)))))) (some false))) = some (btr g s l t k (chp g s l t k)) ∧
    ((spec_lFollows g s t u).bind fun t_18 => (cond t_18 (cond (decide (chp g s l t k < 0)) (some true) ((goAt l (chp g s l t k)).bind fun e_24 => ((spec_uCount g s u).bind fun t_29 => ((spec_uCount g s e_24).bind fun t_30 => some (decide (t_29 < t_30)))))) (some false))) = some (btr g s l t k (chp g s l t k)) := by
  have hU := hl.tab u (List.mem_of_getElem? hu)
  obtain ⟨e1, e2⟩ := fbB_ok ht hU
  have hk := (List.getElem?_eq_some_iff.1 hu).1
  rw [e1, e2, Option.bind_some, Option.bind_some]
  unfold btr
  rw [hu]
  simp only
  cases fbB g s t u with
  | false => exact ⟨rfl, rfl⟩
  | true =>
    simp only [cond_true, Bool.true_and]
    rcases chp_in (g := g) (s := s) (l := l) (t := t) k (by omega) with h | ⟨i, w, h1, h2, h3, _⟩
    · rw [h]; exact ⟨rfl, rfl⟩
    · have hW := hl.tab w (List.mem_of_getElem? h3)
      rw [h2, decide_eq_false (show ¬ ((i : Int) < 0) by omega), cond_false, cond_false, at_ok h3, Option.bind_some, Option.bind_some, hU.count, hU.count', hW.count, hW.count']
      simp only [Option.bind_some, Bool.false_or]
      unfold nAt
      rw [show ((i : Nat) : Int).toNat = i by omega, h3]
      exact ⟨rfl, rfl⟩

theorem cheap_loops (hl : OkP g s l) (ht : OkT g s t) : loopC (impl_CheapestSource_l1 g s l t) (-1, 0) = some (chp g s l t l.length) ∧ loopC (spec_CheapestSource_l1 g s l t) (-1, 0) = some (chp g s l t l.length) := by
  have hn := hl.n
  have hc : ∀ (b : Bool) (x y : Int), ((cond b (some x) (some y)) : Option Int) = some (cond b x y) := by intro b x y; cases b <;> rfl
  constructor
  · exact loop_F (fun k (b : Int) => (b, k)) l.length (fun k => chp g s l t k) (fun k hk => by
      obtain ⟨u, hu⟩ := get_of hk
      simp only [impl_CheapestSource_l1, lt_ok hu, at_ok hu, cond_true, Option.bind_some, nx_ok hu (show l.length ≤ 9223372036854775807 by omega)]
      rw [(cheap_step hl ht hu).1, Option.bind_some, hc, Option.bind_some]
      rfl) (by simp only [impl_CheapestSource_l1, lt_end, cond_false])
  · exact loop_F (fun k (b : Int) => (b, k)) l.length (fun k => chp g s l t k) (fun k hk => by
      obtain ⟨u, hu⟩ := get_of hk
      simp only [spec_CheapestSource_l1, lt_ok hu, at_ok hu, cond_true, Option.bind_some, nx_ok hu (show l.length ≤ 9223372036854775807 by omega)]
      rw [(cheap_step hl ht hu).2, Option.bind_some, hc, Option.bind_some]
      rfl) (by simp only [spec_CheapestSource_l1, lt_end, cond_false])

theorem Cheap_same (hs : TameS s) (hl : TameP l) (hV : t.Vars.length ≤ 1000000) : (impl_CheapestSource g s l t = some (0, false) ∧ spec_CheapestSource g s l t = some (0, false)) ∨
    ∃ (k : Nat) (u : impl_Table), l[k]? = some u ∧ OkT g s t ∧ OkT g s u ∧ Fol g s t u ∧ impl_CheapestSource g s l t = some ((k : Int), true) ∧ spec_CheapestSource g s l t = some ((k : Int), true) := by
  obtain ⟨b, e1, e2, hb⟩ := plans (g := g) hs hl
  unfold impl_CheapestSource spec_CheapestSource
  rw [e1, e2]
  cases b with
  | false => exact .inl ⟨rfl, rfl⟩
  | true =>
    have hP := hb.1 rfl
    obtain ⟨b1, f1, h1⟩ := isTab_bis (t := t) hs hP.geo hP.sch hV
    obtain ⟨b2, f2, h2⟩ := uGood_bis (g := g) (t := t) hs hV
    have : b1 = b2 := by rw [Bool.eq_iff_iff, h1, h2]
    subst this
    rw [f1, f2]
    cases b1 with
    | false => exact .inl ⟨rfl, rfl⟩
    | true =>
      have hT := h1.1 rfl
      obtain ⟨c1, c2⟩ := cheap_loops hP hT
      simp only [Option.bind_some, Bool.not_true, cond_false]
      rw [c1, c2]
      simp only [Option.bind_some]
      rcases chp_in (g := g) (s := s) (l := l) (t := t) l.length (Nat.le_refl _) with h | ⟨i, u, h3, h4, h5, h6⟩
      · rw [h]; exact .inl ⟨rfl, rfl⟩
      · rw [h4, decide_eq_false (show ¬ ((i : Int) < 0) by omega)]
        exact .inr ⟨i, u, h5, hT, hP.tab u (List.mem_of_getElem? h5), h6, rfl, rfl⟩

/-! ## the base tables cover the plan -/
noncomputable def bts (g : impl_Geo) (s : List impl_Variable) (l : List impl_Table) : List impl_Table := (bss g s l).filterMap fun i => l[i]?

theorem bts_loop (hl : OkP g s l) {w : (List Int) × Bool} (hw : w.1 = (bss g s l).map Int.ofNat) : loopC (laws_FnBases_l1 (g, s, l) w) (([] : List impl_Table), 0) = some (bts g s l) := by
  have hn := hl.n
  have hb : (bss g s l).length ≤ l.length := by
    have := List.length_filter_le (bse g s l) (List.range l.length)
    simpa [bss] using this
  have hlen : w.1.length = (bss g s l).length := by rw [hw]; simp
  have hall : ∀ i ∈ bss g s l, i < l.length := fun i hi => (bss_mem.1 hi).1
  have h := loop_F (fun k (o : List impl_Table) => (o, k)) w.1.length (fun k => ((bss g s l).take k).filterMap fun i => l[i]?) (body := laws_FnBases_l1 (g, s, l) w) (r := bts g s l) (fun k hk => by
    obtain ⟨i, hi⟩ := get_of (l := bss g s l) (k := k) (by omega)
    obtain ⟨u, hu⟩ := get_of (hall i (List.mem_of_getElem? hi))
    have hat : w.1[k]? = some (i : Int) := by rw [hw, List.getElem?_map, hi]; rfl
    have hlk : (((bss g s l).take k).filterMap fun i => l[i]?).length ≤ k := by
      refine Nat.le_trans (List.length_filterMap_le _ _) ?_
      simp; omega
    simp only [laws_FnBases_l1, lt_ok hat, at_ok hat, at_ok hu, cond_true, Option.bind_some, nx_ok hat (show w.1.length ≤ 9223372036854775807 by omega)]
    rw [goApp_ok (by simp; omega), Option.bind_some, List.take_add_one, hi, List.filterMap_append]
    simp [hu]) (by
      simp only [laws_FnBases_l1, lt_end, cond_false]
      rw [hlen, List.take_length]; rfl)
  simpa using h

theorem bts_ok (hl : OkP g s l) : OkP g s (bts g s l) := by
  have hn := hl.n
  have hb : (bss g s l).length ≤ l.length := by
    have := List.length_filter_le (bse g s l) (List.range l.length)
    simpa [bss] using this
  refine ⟨hl.geo, hl.sch, ?_, fun t ht => ?_⟩
  · have := List.length_filterMap_le (fun i => l[i]?) (bss g s l)
    unfold bts; omega
  · unfold bts at ht
    obtain ⟨i, _, hi⟩ := List.mem_filterMap.1 ht
    exact hl.tab t (List.mem_of_getElem? hi)

theorem bts_cov (hl : OkP g s l) : ∀ t ∈ l, ∃ u ∈ bts g s l, Fol g s t u := by
  intro t ht
  obtain ⟨i, hi⟩ := List.getElem?_of_mem ht
  obtain ⟨j, hj, hf⟩ := bss_over (g := g) (s := s) i (List.getElem?_eq_some_iff.1 hi).1
  obtain ⟨t', u, h1, h2, h3⟩ := fk_iff.1 hf
  rw [hi] at h1
  obtain rfl := Option.some.inj h1
  exact ⟨u, List.mem_filterMap.2 ⟨j, hj, h2⟩, h3⟩

theorem Covers_bts (hs : TameS s) (ht : TameP l) (hl : OkP g s l) : impl_CoversPlan g s (bts g s l) l = some (true, true) := by
  have hB := bts_ok hl
  have hn := hl.n
  have hTB : TameP (bts g s l) := ⟨by have := hB.n; omega, fun t h => by have := (hB.tab t h).vlen; omega⟩
  obtain ⟨b1, f1, _, h1⟩ := plans (g := g) hs hTB
  obtain ⟨b2, f2, _, h2⟩ := plans (g := g) hs ht
  unfold impl_CoversPlan
  rw [f1, f2, h1.2 hB, h2.2 hl]
  simp only [Option.bind_some, Bool.not_true, cond_false]
  obtain ⟨c1, h3, e3⟩ := loop_find (l := l) (body := impl_CoversPlan_l1 g s (bts g s l) l) (fun _ t => ¬ ∃ u ∈ bts g s l, Fol g s t u) (false, true) (fun k t ht => by
    obtain ⟨b, e, hb⟩ := anyFol_impl hB (hl.tab t (List.mem_of_getElem? ht))
    refine ⟨!b, by rw [← hb]; simp, ?_⟩
    simp only [impl_CoversPlan_l1, lt_ok ht, at_ok ht, cond_true, Option.bind_some, e, nx_ok ht (show l.length ≤ 9223372036854775807 by omega)]
    cases b <;> rfl) (by simp only [impl_CoversPlan_l1, lt_end, cond_false])
  rw [e3]
  cases c1 with
  | false => rfl
  | true =>
    obtain ⟨k, t, hk, hno⟩ := h3.1 rfl
    exact absurd (bts_cov hl t (List.mem_of_getElem? hk)) hno

/-! ## lists of lists -/
theorem sameLists_same {y : List (List Int)} (h : y.length ≤ 1000000) (h2 : ∀ t ∈ y, t.length ≤ 1000000) : laws_sameLists y y = some true := by
  unfold laws_sameLists
  rw [bne_self_eq_false, cond_false]
  have hl := loop_F (fun k (_ : Unit) => k) y.length (fun _ => ()) (body := laws_sameLists_l1 y y) (r := (.inl () : Unit ⊕ Bool)) (fun k hk => by
    obtain ⟨x, hx⟩ := get_of hk
    simp only [laws_sameLists_l1, lt_ok hx, at_ok hx, cond_true, Option.bind_some, nx_ok hx (show y.length ≤ 9223372036854775807 by omega)]
    rw [sameInts_same (by have := h2 x (List.mem_of_getElem? hx); omega)]
    rfl) (by simp only [laws_sameLists_l1, lt_end, cond_false])
  rw [show loopC (laws_sameLists_l1 y y) 0 = _ from hl]
  rfl

theorem tDrawCheapestSource {code : List (K .u8)} (ho : ∀ x ∈ code, Rng.ok x) : Tot (spec_DrawCheapestSource code) fun r => SmallS 8 r.2.1 ∧ SmallP 31 r.2.2.1 ∧ SmallT 9 r.2.2.2 := by
  unfold spec_DrawCheapestSource
  refine tot_bind (tDrawSourcesIn ho) fun ⟨g, s, l⟩ ⟨hs, hl⟩ => ?_
  simp only at hs hl
  have hll := hl.1
  refine tot_bind (Q := fun r => (r.1 = true → 0 < l.length) ∧ Cur 2 r.2) (tot_cond (fun h1 => tot_bind (tone (cur0 ho)) fun ⟨y, c4⟩ k4 => tot_some ⟨fun _ => by simpa [goLen] using h1, k4⟩) fun _ => tot_some ⟨fun h => by simp at h, (cur0 ho).le (by omega)⟩) fun ⟨y, c4⟩ ⟨h4, k4⟩ => ?_
  simp only at h4 k4
  refine tot_cond (fun hy => ?_) fun _ => ?_
  · have hpos := h4 hy
    dsimp only [goLen]
    refine tot_bind (tpick k4) fun ⟨k, c5⟩ ⟨k0, k1, _, hc5⟩ => ?_
    have hk := k1 (by omega)
    simp only at k0 hk hc5
    refine tot_bind (tot_at (Q := fun t => SmallT 9 t) k0 (by simpa using hk) fun e _ he => hl.2 e he) fun u hu => ?_
    refine tot_bind (tbelow hc5 hs hu) fun ⟨t, c6⟩ ⟨ht, _⟩ => ?_
    exact tot_some ⟨hs, hl, ht⟩
  · refine tot_bind (tanyTable k4 hs) fun ⟨t, c5⟩ ⟨ht, _⟩ => ?_
    exact tot_some ⟨hs, hl, ht⟩
end

/-! ## the law -/
theorem laws_FnBases_true (a b : List (K .u8)) (o1 : Rng.ok a) (o2 : Rng.ok b) : laws_FnBases a b = some true := by
  refine tot_eq ?_
  unfold laws_FnBases
  have hbig : ∃ z : Bool, laws_big a b = some z := by
    unfold laws_big
    by_cases h : 1048576 < goLen a
    · exact ⟨true, by rw [decide_eq_true h]; rfl⟩
    · exact ⟨_, by rw [decide_eq_false h]; rfl⟩
  obtain ⟨z, ez⟩ := hbig
  rw [ez, Option.bind_some]
  refine tot_cond (fun _ => tot_some rfl) fun _ => ?_
  have hD : Tot (spec_DrawBaseTables a) fun r => SmallS 8 r.2.1 ∧ SmallP 31 r.2.2 := by
    unfold spec_DrawBaseTables
    exact tot_bind (tDrawSourcesIn o1.2) fun ⟨g, s, l⟩ h => tot_some h
  refine tot_bind hD fun ⟨g, s, l⟩ ⟨hs, hl⟩ => ?_
  simp only at hs hl
  have htail : ∀ {R : Bool → Prop}, R true → Tot ((spec_DrawCheapestSource b).bind fun t_66 => ((impl_CheapestSource t_66.1 t_66.2.1 t_66.2.2.1 t_66.2.2.2).bind fun t_75 => ((spec_CheapestSource t_66.1 t_66.2.1 t_66.2.2.1 t_66.2.2.2).bind fun t_77 => (((cond (t_75.2 != t_77.2) (some true) (some (t_75.1 != t_77.1))) : Option (Bool)).bind fun t_79 => (cond t_79 (some false) (cond t_75.2 ((goAt t_66.2.2.1 t_77.1).bind fun e_80 => ((impl_FollowsFrom t_66.1 t_66.2.1 t_66.2.2.2 e_80).bind fun t_84 => (((cond t_84.2 (some t_84.1) (some false)) : Option (Bool)).bind fun t_86 => some t_86))) (some true))))))) R := by
    intro R hR
    refine tot_bind (tDrawCheapestSource o2.2) fun ⟨g2, s2, l2, t2⟩ ⟨hs2, hl2, ht2⟩ => ?_
    simp only at hs2 hl2 ht2 ⊢
    have hV := ht2.1
    rcases Cheap_same (g := g2) (t := t2) hs2.tame hl2.tame (by omega) with ⟨q1, q2⟩ | ⟨k, u, hu, hT, hU, hF, q1, q2⟩
    · rw [q1, q2]; exact tot_some hR
    · rw [q1, q2, Option.bind_some, Option.bind_some]
      simp only [bne_self_eq_false, cond_false, cond_true, Option.bind_some]
      rw [at_ok hu, Option.bind_some, Follows_ok hs2.tame hT hU hF, Option.bind_some]
      exact tot_some hR
  rcases Base_same (g := g) hs.tame hl.tame with ⟨q1, q2⟩ | ⟨hP, q1, q2⟩
  · rw [q1, q2, Option.bind_some, Option.bind_some]
    rw [sameInts_same (by simp)]
    simp only [bne_self_eq_false, cond_false, Option.bind_some, Bool.not_true]
    exact htail rfl
  · obtain ⟨b1, f1, f2, h1⟩ := plans (g := g) hs.tame hl.tame
    rw [h1.2 hP] at f1 f2
    have hn := hP.n
    have hb : (bss g s l).length ≤ l.length := by
      have := List.length_filter_le (bse g s l) (List.range l.length)
      simpa [bss] using this
    obtain ⟨r1, r2⟩ := Sources_ok hP f1 f2
    obtain ⟨r3, r4⟩ := Sizes_ok hP f1 f2
    rw [q1, q2, Option.bind_some, Option.bind_some]
    rw [sameInts_same (by simp; omega)]
    simp only [bne_self_eq_false, cond_false, cond_true, Option.bind_some, Bool.not_true]
    rw [bts_loop hP rfl, Option.bind_some, Covers_bts hs.tame hl.tame hP, Option.bind_some, r1, r2, r3, r4, Chain_impl hP f1, Chain_spec hP f2]
    simp only [Option.bind_some, Bool.not_true, cond_false]
    rw [sameLists_same (by simp [srcs]; omega) (fun x hx => by
      unfold srcs at hx
      obtain ⟨i, _, rfl⟩ := List.mem_map.1 hx
      have := src_len (g := g) (s := s) (l := l) (i := i) (k := l.length)
      omega), sameInts_same (by simp [nums]; omega), sameInts_same (by have := chs_len (g := g) (s := s) (l := l); omega)]
    simp only [Option.bind_some, Bool.not_true, cond_false]
    exact htail rfl

end Go.Gx.F
