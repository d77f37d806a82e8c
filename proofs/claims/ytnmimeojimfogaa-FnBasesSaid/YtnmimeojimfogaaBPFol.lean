/- Plain laws: tables that follow from others. -/
import Derived.Test.YtnmimeojimfogaaBPDt
import Derived.Test.YtnmimeojimfogaaBPBit

namespace Go.Gx.F

open Go.Gx

set_option linter.all false

/-! ## the set of a condition -/

def cset (s : List impl_Variable) (t : impl_Table) (k : Nat) : Nat := match s[k]?, t.Where[k]? with
  | some v, some e => if e = 0 then (full v).toNat else e.toNat
  | _, _ => 0

theorem full_le2 {v : impl_Variable} (h : 2 ≤ v.Levels ∧ v.Levels ≤ 8) : 3 ≤ full v ∧ full v ≤ 255 := by
  have h1 : 2 ^ v.Levels.toNat ≤ 2 ^ 8 := Nat.pow_le_pow_right (by omega) (by omega)
  have h2 : 2 ^ 2 ≤ 2 ^ v.Levels.toNat := Nat.pow_le_pow_right (by omega) (by omega)
  unfold full
  omega

theorem cset_eq {s : List impl_Variable} {t : impl_Table} (hs : OkS s) (hW : OkW s t.Where) {k : Nat} (hk : k < s.length) : impl_conditionOf s t (k : Int) = some (cset s t k : Int) ∧ cset s t k < 256 := by
  have hv : s[k]? = some s[k] := by simp [hk]
  have hWl := hW.1
  have he : t.Where[k]? = some (t.Where[k]'(by omega)) := by simp [show k < t.Where.length by omega]
  generalize s[k] = v at hv
  generalize t.Where[k]'(by omega) = e at he
  have hb := hs.lv.get hv
  have hw := hW.2 k v e hv he
  have hf := full_le2 hb
  unfold cset impl_conditionOf
  rw [hv, he, at_ok he, Option.bind_some]
  by_cases h0 : e = 0
  · subst h0
    rw [show ((0 : Int) == 0) = true from rfl, cond_true, at_ok hv, Option.bind_some, fullSet_eq (by omega), Option.bind_some]
    simp only [if_true]
    exact ⟨by congr 1; omega, by omega⟩
  · rw [show (e == 0) = false by simpa using h0, cond_false, Option.bind_some]
    simp only [if_neg h0]
    exact ⟨by congr 1; omega, by omega⟩

theorem lSet_eq {s : List impl_Variable} {t : impl_Table} (hs : OkS s) (hW : OkW s t.Where) {k : Nat} (hk : k < s.length) : spec_lSet s t (k : Int) = some (cset s t k : Int) := by
  rw [← (cset_eq hs hW hk).1]
  have hv : s[k]? = some s[k] := by simp [hk]
  have hb := hs.lv.get hv
  unfold spec_lSet impl_conditionOf spec_eFull impl_fullSet
  rw [at_ok hv]
  simp only [Option.bind_some]
  rw [Go.IntWalk.u64_in _ ⟨by omega, by omega⟩]

/-! ## what follows -/

structure Fol (g : impl_Geo) (s : List impl_Variable) (t u : impl_Table) : Prop where
  lvl : t.Level = u.Level ∨ (t.Level < u.Level ∧ ∀ n : Nat, n < g.Parents.length → leaf g.Parents n = true → t.Level ≤ (((gpath g.Parents n).length - 1 : Nat) : Int) → u.Level ≤ (((gpath g.Parents n).length - 1 : Nat) : Int))
  vars : ∀ v ∈ t.Vars, v ∈ u.Vars
  sets : ∀ k : Nat, k < s.length → ((k : Int) ∈ u.Vars → cset s t k &&& cset s u k = cset s t k) ∧ ((k : Int) ∉ u.Vars → cset s t k = cset s u k)
  sum : t.Sum = u.Sum ∨ (u.Sum = -1 ∧ t.Sum ∈ u.Vars)

theorem leavesOf_eq {g : impl_Geo} (hl : g.Parents.length ≤ 1000) : impl_leavesOf g = some (leaves g.Parents) := by
  unfold impl_leavesOf
  rw [loop_sel (n := g.Parents.length) (leaf g.Parents) (fun k => (k : Int)) (fun out k hk ho => ?_) (fun out => by simp only [impl_leavesOf_l1, lt_end, cond_false])]
  · rfl
  · have hx : g.Parents[k]? = some g.Parents[k] := by simp [hk]
    have e1 : impl_isLeaf g (k : Int) = some (leaf g.Parents k) := by
      unfold impl_isLeaf
      obtain ⟨b, e, hb⟩ := contains_bis (l := g.Parents) (x := (k : Int)) (by omega)
      rw [e]
      simp only [Option.bind_some]
      congr 1
      unfold leaf
      rw [Bool.eq_iff_iff]
      cases b <;> simp_all
    simp only [impl_leavesOf_l1, lt_ok hx, cond_true, e1, Option.bind_some, nx_ok hx (show g.Parents.length ≤ 9223372036854775807 by omega)]
    cases leaf g.Parents k
    · rfl
    · rw [cond_true, goApp_ok (by simp; omega)]; rfl

theorem anc_dep {g : impl_Geo} (h : GeoOk g.Parents) {n : Nat} (hn : n < g.Parents.length) {L : Int} (h0 : 0 ≤ L) : (0 ≤ anc g.Parents n L) ↔ L ≤ (((gpath g.Parents n).length - 1 : Nat) : Int) := by
  have hl := gpath_len g.Parents n
  unfold anc
  rw [if_pos h0]
  cases e : (gpath g.Parents n)[L.toNat]? with
  | none =>
    have := List.getElem?_eq_none_iff.1 e
    simp only [Option.getD_none]
    omega
  | some a =>
    have h1 := (List.getElem?_eq_some_iff.1 e).1
    have h2 := gpath_le h hn (List.mem_of_getElem? e)
    simp only [Option.getD_some]
    omega

def FolL (g : impl_Geo) (t u : impl_Table) : Prop := t.Level = u.Level ∨ (t.Level < u.Level ∧ ∀ n : Nat, n < g.Parents.length → leaf g.Parents n = true → t.Level ≤ (((gpath g.Parents n).length - 1 : Nat) : Int) → u.Level ≤ (((gpath g.Parents n).length - 1 : Nat) : Int))

theorem OkT.lvl0 {g : impl_Geo} {s : List impl_Variable} {t : impl_Table} (h : OkT g s t) : 0 ≤ t.Level := by
  have hp := h.pos
  unfold num at hp
  have h1 : 0 < (lev g.Parents t.Level).length := Nat.pos_of_mul_pos_right hp
  obtain ⟨k, _, hk, _⟩ := mem_picks.1 (List.getElem_mem h1)
  unfold atL at hk
  have := eq_of_beq hk
  omega

theorem lLevels_bis {g : impl_Geo} {s : List impl_Variable} {t u : impl_Table} (ht : OkT g s t) (hu : OkT g s u) : Bis (spec_lLevels g t u) (FolL g t u) := by
  have hl := ht.go.l2
  have h0 := ht.lvl0; have h1 := hu.lvl0
  unfold spec_lLevels FolL
  by_cases hc : u.Level ≤ t.Level
  · rw [decide_eq_true hc, cond_true]
    exact ⟨_, rfl, by simp only [beq_iff_eq]; omega⟩
  · rw [decide_eq_false hc, cond_false, gLeaves_eq (by omega), Option.bind_some]
    refine bis_iff (bis_loop (l := leaves g.Parents) (fun _ x => ∀ n : Nat, x = (n : Int) → t.Level ≤ (((gpath g.Parents n).length - 1 : Nat) : Int) → u.Level ≤ (((gpath g.Parents n).length - 1 : Nat) : Int)) (fun k x hx => ?_) (by simp only [spec_lLevels_l1, lt_end, cond_false])) ?_
    · obtain ⟨n, hn, _, rfl⟩ := mem_leaves.1 (List.mem_of_getElem? hx)
      have hll := leaves_len g.Parents
      simp only [spec_lLevels_l1, lt_ok hx, at_ok hx, cond_true, Option.bind_some, gUp_eq ht.go hn, nx_ok hx (show (leaves g.Parents).length ≤ 9223372036854775807 by omega)]
      have a1 := anc_dep ht.go hn h0; have a2 := anc_dep ht.go hn h1
      by_cases c1 : 0 ≤ anc g.Parents n t.Level
      · rw [decide_eq_true c1]
        refine ⟨!decide (anc g.Parents n u.Level < 0), ?_, by simp only [cond_true, Option.bind_some]; cases decide (anc g.Parents n u.Level < 0) <;> rfl⟩
        rw [Bool.not_eq_true', decide_eq_false_iff_not]
        constructor
        · intro h m hm _; obtain rfl : n = m := by omega
          omega
        · intro h; have := h n rfl (by omega); omega
      · rw [decide_eq_false c1]
        refine ⟨true, ?_, rfl⟩
        simp only [true_iff]
        intro m hm h; obtain rfl : n = m := by omega
        omega
    · rw [all_mem_iff]
      constructor
      · intro h
        refine .inr ⟨by omega, fun n hn hlf => h (n : Int) (mem_leaves.2 ⟨n, hn, hlf, rfl⟩) n rfl⟩
      · rintro (h | ⟨_, h⟩)
        · omega
        · intro x hx n hxn
          obtain ⟨m, hm, hlf, rfl⟩ := mem_leaves.1 hx
          obtain rfl : m = n := by omega
          exact h m hm hlf

theorem range_at {n k x : Nat} (h : (List.range n)[k]? = some x) : x = k ∧ k < n := by
  have hk := (List.getElem?_eq_some_iff.1 h).1
  simp at hk
  rw [List.getElem?_range hk] at h
  exact ⟨(Option.some.inj h).symm, hk⟩

theorem lFollows_bis {g : impl_Geo} {s : List impl_Variable} {t u : impl_Table} (ht : OkT g s t) (hu : OkT g s u) : Bis (spec_lFollows g s t u) (Fol g s t u) := by
  have hVt := ht.vlen; have hVu := hu.vlen; have hsl := ht.sch.2.1
  unfold spec_lFollows
  obtain ⟨b1, e1, h1⟩ := lLevels_bis ht hu
  rw [e1, Option.bind_some]
  obtain ⟨b2, e2, h2⟩ := l1Has_bis (l := u.Vars) (x := t.Sum) (by omega)
  rw [e2]
  have hsum : (cond (t.Sum != u.Sum) (cond (u.Sum != -1) (some true) (Option.bind (some b2) fun t_11 => some (!t_11))) (some false) : Option Bool) = some (!decide (t.Sum = u.Sum ∨ (u.Sum = -1 ∧ t.Sum ∈ u.Vars))) := by
    by_cases c1 : t.Sum = u.Sum
    · rw [show (t.Sum != u.Sum) = false by simpa using c1, decide_eq_true (.inl c1)]; rfl
    · rw [show (t.Sum != u.Sum) = true by simpa using c1, cond_true]
      by_cases c2 : u.Sum = -1
      · rw [show (u.Sum != -1) = false by simpa using c2]
        simp only [cond_false, Option.bind_some]
        congr 2
        rw [Bool.eq_iff_iff, decide_eq_true_eq, h2]
        constructor
        · intro h; exact .inr ⟨c2, h⟩
        · rintro (h | h); exact absurd h c1; exact h.2
      · rw [show (u.Sum != -1) = true by simpa using c2, decide_eq_false (by rintro (h | h); exact c1 h; exact c2 h.1)]; rfl
  rw [hsum]
  by_cases hc : b1 = true ∧ (t.Sum = u.Sum ∨ (u.Sum = -1 ∧ t.Sum ∈ u.Vars))
  · obtain ⟨rfl, hs⟩ := hc
    rw [decide_eq_true hs]
    simp only [Bool.not_true, cond_false, Option.bind_some]
    obtain ⟨b3, h3, e3⟩ := loop_find (l := t.Vars) (body := spec_lFollows_l1 t u) (fun _ x => x ∉ u.Vars) false (fun k x hx => by
      obtain ⟨b, e, hb⟩ := l1Has_bis (l := u.Vars) (x := x) (by omega)
      refine ⟨!b, by rw [← hb]; simp, ?_⟩
      simp only [spec_lFollows_l1, lt_ok hx, at_ok hx, cond_true, Option.bind_some, e, nx_ok hx (show t.Vars.length ≤ 9223372036854775807 by omega)]
      cases b <;> rfl) (by simp only [spec_lFollows_l1, lt_end, cond_false])
    rw [e3]
    cases b3 with
    | true =>
      refine ⟨false, rfl, ?_⟩
      simp only [Bool.false_eq_true, false_iff]
      intro hF
      obtain ⟨k, x, hx, hn⟩ := h3.1 rfl
      exact hn (hF.vars x (List.mem_of_getElem? hx))
    | false =>
      simp only [cond_false, Option.bind_some]
      obtain ⟨b4, h4, e4⟩ := loop_find (l := List.range s.length) (body := spec_lFollows_l2 s t u) (fun _ k => ¬ (((k : Int) ∈ u.Vars → cset s t k &&& cset s u k = cset s t k) ∧ ((k : Int) ∉ u.Vars → cset s t k = cset s u k))) false (fun k x hx => by
        obtain ⟨rfl, hk⟩ := range_at hx
        have hv : s[x]? = some s[x] := by simp [hk]
        obtain ⟨b, e, hb⟩ := l1Has_bis (l := u.Vars) (x := (x : Int)) (by omega)
        have c1 := (cset_eq ht.sch ht.whr hk).2; have c2 := (cset_eq hu.sch hu.whr hk).2
        simp only [spec_lFollows_l2, lt_ok hv, cond_true, Option.bind_some, lSet_eq ht.sch ht.whr hk, lSet_eq hu.sch hu.whr hk, nx_ok hv (show s.length ≤ 9223372036854775807 by omega), e, and_nat (show cset s t x < 4611686018427387904 by omega) (show cset s u x < 4611686018427387904 by omega)]
        by_cases d1 : cset s t x = cset s u x
        · rw [show (((cset s t x : Nat) : Int) != ((cset s u x : Nat) : Int)) = false by simp [d1]]
          refine ⟨false, ?_, rfl⟩
          simp only [Bool.false_eq_true, false_iff, Classical.not_not]
          exact ⟨fun _ => by rw [d1, Nat.and_self], fun _ => d1⟩
        · rw [show (((cset s t x : Nat) : Int) != ((cset s u x : Nat) : Int)) = true by simp; omega]
          cases b with
          | false =>
            refine ⟨true, ?_, rfl⟩
            simp only [true_iff]
            intro h; exact d1 (h.2 fun hm => by have := hb.2 hm; cases this)
          | true =>
            refine ⟨((cset s t x &&& cset s u x : Nat) : Int) != (cset s t x : Int), ?_, by cases ((cset s t x &&& cset s u x : Nat) : Int) != (cset s t x : Int) <;> rfl⟩
            have hm := hb.1 rfl
            rw [bne_iff_ne]
            constructor
            · intro h h'; exact h (by rw [h'.1 hm])
            · intro h h'; exact h ⟨fun _ => by omega, fun h'' => absurd hm h''⟩) (by
        simp only [List.length_range, spec_lFollows_l2, lt_end, cond_false])
      rw [e4]
      refine ⟨!b4, by cases b4 <;> rfl, ?_⟩
      rw [Bool.not_eq_true', ← Bool.not_eq_true, h4]
      constructor
      · intro h
        refine ⟨h1.1 rfl, fun v hv => ?_, fun k hk => Classical.byContradiction fun hn => h ⟨k, k, by simp [List.getElem?_range hk], hn⟩, hs⟩
        obtain ⟨k, hk⟩ := List.getElem?_of_mem hv
        exact Classical.byContradiction fun hn => by have := h3.2 ⟨k, v, hk, hn⟩; cases this
      · rintro hF ⟨k, x, hx, hn⟩
        obtain ⟨rfl, hk⟩ := range_at hx
        exact hn (hF.sets x hk)
  · have e : (cond (!b1) (some true) (some (!decide (t.Sum = u.Sum ∨ (u.Sum = -1 ∧ t.Sum ∈ u.Vars)))) : Option Bool) = some true := by
      cases b1 with
      | false => rfl
      | true => rw [decide_eq_false fun h => hc ⟨rfl, h⟩]; rfl
    rw [e]
    refine ⟨false, rfl, ?_⟩
    simp only [Bool.false_eq_true, false_iff]
    exact fun hF => hc ⟨h1.2 hF.lvl, hF.sum⟩

theorem bis_first {x : Option (Unit ⊕ Bool)} {f : Unit ⊕ Bool → Option Bool} {P Q : Prop} (h : ∃ b : Bool, (b = true ↔ P) ∧ x = some (cond b (.inl ()) (.inr false))) (h1 : f (.inr false) = some false) (h2 : Bis (f (.inl ())) Q) : Bis (x.bind f) (P ∧ Q) := by
  obtain ⟨b, hb, rfl⟩ := h
  cases b with
  | false => exact ⟨false, h1, by simp only [Bool.false_eq_true, false_iff]; exact fun h => by have := hb.2 h.1; cases this⟩
  | true => exact bis_iff h2 ⟨fun h => ⟨hb.1 rfl, h⟩, fun h => h.2⟩

theorem followsFrom_bis {g : impl_Geo} {s : List impl_Variable} {t u : impl_Table} (ht : OkT g s t) (hu : OkT g s u) : Bis (impl_followsFrom g s t u) (Fol g s t u) := by
  have hVt := ht.vlen; have hVu := hu.vlen; have hsl := ht.sch.2.1; have hl := ht.go.l2
  have h0 := ht.lvl0; have h1 := hu.lvl0
  unfold impl_followsFrom
  refine bis_iff (bis_first (P := FolL g t u) (Q := (∀ v ∈ t.Vars, v ∈ u.Vars) ∧ (∀ k : Nat, k < s.length → ((k : Int) ∈ u.Vars → cset s t k &&& cset s u k = cset s t k) ∧ ((k : Int) ∉ u.Vars → cset s t k = cset s u k)) ∧ (t.Sum = u.Sum ∨ (u.Sum = -1 ∧ t.Sum ∈ u.Vars))) ?_ rfl ?_) ⟨fun ⟨h1, h2, h3, h4⟩ => ⟨h1, h2, h3, h4⟩, fun h => ⟨h.lvl, h.vars, h.sets, h.sum⟩⟩
  · unfold FolL
    by_cases c1 : t.Level = u.Level
    · rw [show (t.Level != u.Level) = false by simpa using c1]
      exact ⟨true, by simp [c1], rfl⟩
    · rw [show (t.Level != u.Level) = true by simpa using c1, cond_true]
      by_cases c2 : u.Level < t.Level
      · rw [decide_eq_true c2]
        exact ⟨false, by simp only [Bool.false_eq_true, false_iff]; omega, rfl⟩
      · rw [decide_eq_false c2, cond_false, leavesOf_eq (by omega), Option.bind_some]
        obtain ⟨b, hb, e⟩ := loop_find (l := leaves g.Parents) (ρ := Unit ⊕ Bool) (body := impl_followsFrom_l1 g t u (leaves g.Parents)) (fun _ x => ∃ n : Nat, x = (n : Int) ∧ t.Level ≤ (((gpath g.Parents n).length - 1 : Nat) : Int) ∧ (((gpath g.Parents n).length - 1 : Nat) : Int) < u.Level) (.inr false) (fun k x hx => by
          obtain ⟨n, hn, _, rfl⟩ := mem_leaves.1 (List.mem_of_getElem? hx)
          have hll := leaves_len g.Parents
          simp only [impl_followsFrom_l1, lt_ok hx, at_ok hx, cond_true, Option.bind_some, impl_depthOf_eq ht.go hn, nx_ok hx (show (leaves g.Parents).length ≤ 9223372036854775807 by omega)]
          refine ⟨decide (t.Level ≤ (((gpath g.Parents n).length - 1 : Nat) : Int)) && decide ((((gpath g.Parents n).length - 1 : Nat) : Int) < u.Level), ?_, ?_⟩
          · simp only [Bool.and_eq_true, decide_eq_true_eq]
            constructor
            · intro h; exact ⟨n, rfl, h⟩
            · rintro ⟨m, hm, h⟩; obtain rfl : n = m := by omega
              exact h
          · cases decide (t.Level ≤ (((gpath g.Parents n).length - 1 : Nat) : Int))
            · rfl
            · simp only [cond_true, Option.bind_some, Bool.true_and]; exact cond_some) (by simp only [impl_followsFrom_l1, lt_end, cond_false])
        rw [e]
        refine ⟨!b, ?_, by cases b <;> rfl⟩
        rw [Bool.not_eq_true', ← Bool.not_eq_true, hb]
        constructor
        · intro h
          refine .inr ⟨by omega, fun n hn hlf h3 => Classical.byContradiction fun h4 => ?_⟩
          obtain ⟨k, hk⟩ := List.getElem?_of_mem (mem_leaves.2 ⟨n, hn, hlf, rfl⟩)
          exact h ⟨k, (n : Int), hk, n, rfl, h3, by omega⟩
        · rintro (h | ⟨_, h⟩)
          · exact absurd h c1
          · rintro ⟨k, x, hx, n, rfl, h3, h4⟩
            obtain ⟨m, hm, hlf, hmn⟩ := mem_leaves.1 (List.mem_of_getElem? hx)
            obtain rfl : n = m := by omega
            have := h n hm hlf h3
            omega
  · simp only
    obtain ⟨b3, h3, e3⟩ := loop_find (l := t.Vars) (body := impl_followsFrom_l2 t u) (fun _ x => x ∉ u.Vars) false (fun k x hx => by
      obtain ⟨b, e, hb⟩ := contains_bis (l := u.Vars) (x := x) (by omega)
      refine ⟨!b, by rw [← hb]; simp, ?_⟩
      simp only [impl_followsFrom_l2, lt_ok hx, at_ok hx, cond_true, Option.bind_some, e, nx_ok hx (show t.Vars.length ≤ 9223372036854775807 by omega)]
      cases b <;> rfl) (by simp only [impl_followsFrom_l2, lt_end, cond_false])
    rw [e3]
    cases b3 with
    | true =>
      refine ⟨false, rfl, ?_⟩
      simp only [Bool.false_eq_true, false_iff]
      intro hF
      obtain ⟨k, x, hx, hn⟩ := h3.1 rfl
      exact hn (hF.1 x (List.mem_of_getElem? hx))
    | false =>
      simp only [cond_false, Option.bind_some]
      obtain ⟨b4, h4, e4⟩ := loop_find (l := List.range s.length) (body := impl_followsFrom_l3 s t u) (fun _ k => ¬ (((k : Int) ∈ u.Vars → cset s t k &&& cset s u k = cset s t k) ∧ ((k : Int) ∉ u.Vars → cset s t k = cset s u k))) false (fun k x hx => by
        obtain ⟨rfl, hk⟩ := range_at hx
        have hv : s[x]? = some s[x] := by simp [hk]
        obtain ⟨b, e, hb⟩ := contains_bis (l := u.Vars) (x := (x : Int)) (by omega)
        obtain ⟨d1, c1⟩ := cset_eq ht.sch ht.whr hk; obtain ⟨d2, c2⟩ := cset_eq hu.sch hu.whr hk
        have han := andNot_zero (show cset s t x < 4611686018427387904 by omega) (show cset s u x < 4611686018427387904 by omega)
        simp only [impl_followsFrom_l3, lt_ok hv, cond_true, Option.bind_some, d1, d2, nx_ok hv (show s.length ≤ 9223372036854775807 by omega), e]
        cases b with
        | true =>
          have hm := hb.1 rfl
          refine ⟨goBits .andNot .i64 (cset s t x : Int) (cset s u x : Int) != 0, ?_, ?_⟩
          · rw [bne_iff_ne, Ne, han]
            constructor
            · intro h h'; exact h (h'.1 hm)
            · intro h h'; exact h ⟨fun _ => h', fun h'' => absurd hm h''⟩
          · simp only [Bool.not_true, cond_false, cond_true, Option.bind_some]
            cases goBits .andNot .i64 (cset s t x : Int) (cset s u x : Int) != 0 <;> rfl
        | false =>
          have hm : (x : Int) ∉ u.Vars := fun h => by have := hb.2 h; cases this
          refine ⟨((cset s t x : Nat) : Int) != ((cset s u x : Nat) : Int), ?_, ?_⟩
          · rw [bne_iff_ne]
            constructor
            · intro h h'; exact h (by rw [h'.2 hm])
            · intro h h'; exact h ⟨fun h'' => absurd h'' hm, fun _ => by omega⟩
          · simp only [Bool.not_false, cond_false, cond_true, Option.bind_some]
            cases ((cset s t x : Nat) : Int) != ((cset s u x : Nat) : Int) <;> rfl) (by
        simp only [List.length_range, impl_followsFrom_l3, lt_end, cond_false])
      rw [e4]
      have hsum : (((cond (t.Sum == u.Sum) (some true) (cond (u.Sum == -1) ((slices_Contains_int_int u.Vars t.Sum).bind fun t_32 => some t_32) (some false))) : Option Bool).bind fun t_33 => some t_33) = some (decide (t.Sum = u.Sum ∨ (u.Sum = -1 ∧ t.Sum ∈ u.Vars))) := by
        obtain ⟨b2, e2, h2⟩ := contains_bis (l := u.Vars) (x := t.Sum) (by omega)
        rw [e2]
        by_cases c1 : t.Sum = u.Sum
        · rw [show (t.Sum == u.Sum) = true by simpa using c1, decide_eq_true (.inl c1)]; rfl
        · rw [show (t.Sum == u.Sum) = false by simpa using c1, cond_false]
          by_cases c2 : u.Sum = -1
          · rw [show (u.Sum == -1) = true by simpa using c2]
            simp only [cond_true, Option.bind_some]
            congr 1
            rw [Bool.eq_iff_iff, decide_eq_true_eq, h2]
            constructor
            · intro h; exact .inr ⟨c2, h⟩
            · rintro (h | h); exact absurd h c1; exact h.2
          · rw [show (u.Sum == -1) = false by simpa using c2, decide_eq_false (by rintro (h | h); exact c1 h; exact c2 h.1)]; rfl
      cases b4 with
      | true =>
        refine ⟨false, rfl, ?_⟩
        simp only [Bool.false_eq_true, false_iff]
        intro hF
        obtain ⟨k, x, hx, hn⟩ := h4.1 rfl
        obtain ⟨rfl, hk⟩ := range_at hx
        exact hn (hF.2.1 x hk)
      | false =>
        simp only [cond_false, Option.bind_some]
        rw [hsum]
        refine ⟨_, rfl, ?_⟩
        rw [decide_eq_true_eq]
        constructor
        · intro hs
          refine ⟨fun v hv => ?_, fun k hk => Classical.byContradiction fun hn => (by have := h4.2 ⟨k, k, by simp [List.getElem?_range hk], hn⟩; cases this), hs⟩
          obtain ⟨k, hk⟩ := List.getElem?_of_mem hv
          exact Classical.byContradiction fun hn => by have := h3.2 ⟨k, v, hk, hn⟩; cases this
        · exact fun hF => hF.2.2

theorem follows {g : impl_Geo} {s : List impl_Variable} {t u : impl_Table} (ht : OkT g s t) (hu : OkT g s u) : ∃ b : Bool, impl_followsFrom g s t u = some b ∧ spec_lFollows g s t u = some b ∧ (b = true ↔ Fol g s t u) := bis_same (followsFrom_bis ht hu) (lFollows_bis ht hu)

end Go.Gx.F
