/- Plain laws: the join of two tables. -/
import Derived.Test.YtnmimeojimfogaaPFolw
namespace Go.Gx.F
open Go.Gx
set_option linter.all false

/-! ## rising lists by their members -/
theorem rise_ext : ∀ {a b : List Int}, a.Pairwise (· < ·) → b.Pairwise (· < ·) → (∀ x, x ∈ a ↔ x ∈ b) → a = b
  | [], [], _, _, _ => rfl
  | [], y :: b, _, _, h => by have := (h y).2 (by simp); simp at this
  | x :: a, [], _, _, h => by have := (h x).1 (by simp); simp at this
  | x :: a, y :: b, ha, hb, h => by
    obtain ⟨ha1, ha2⟩ := List.pairwise_cons.1 ha
    obtain ⟨hb1, hb2⟩ := List.pairwise_cons.1 hb
    have hxy : x = y := by
      rcases List.mem_cons.1 ((h x).1 (by simp)) with h1 | h1
      · exact h1
      · rcases List.mem_cons.1 ((h y).2 (by simp)) with h2 | h2
        · exact h2.symm
        · have := hb1 x h1; have := ha1 y h2; omega
    subst hxy
    congr 1
    refine rise_ext ha2 hb2 fun z => ?_
    constructor
    · intro hz
      rcases List.mem_cons.1 ((h z).1 (by simp [hz])) with h1 | h1
      · subst h1; have := ha1 z hz; omega
      · exact h1
    · intro hz
      rcases List.mem_cons.1 ((h z).2 (by simp [hz])) with h1 | h1
      · subst h1; have := hb1 z hz; omega
      · exact h1

theorem picks_rise {sel : Nat → Bool} : ∀ n, (picks sel (fun k => (k : Int)) n).Pairwise (· < ·)
  | 0 => List.Pairwise.nil
  | n + 1 => by
    rw [picks]
    cases h : sel n with
    | false => exact picks_rise n
    | true =>
      rw [cond_true, List.pairwise_append]
      refine ⟨picks_rise n, List.pairwise_singleton _ _, fun x hx y hy => ?_⟩
      obtain ⟨k, hk, _, rfl⟩ := mem_picks.1 hx
      obtain rfl := List.mem_singleton.1 hy
      show (k : Int) < (n : Int)
      omega

theorem tput {l : List Int} {n : Int} (hs : l.Pairwise (· < ·)) (hl : l.length ≤ 1000) : Tot (spec_l1Put l n) fun r => r.Pairwise (· < ·) ∧ (∀ x, x ∈ r ↔ x ∈ l ∨ x = n) ∧ r.length ≤ l.length + 1 := by
  unfold spec_l1Put
  refine tot_bind (Q := fun k => ∃ m : Nat, k = (m : Int) ∧ m ≤ l.length ∧ (∀ (i : Nat) (x : Int), i < m → l[i]? = some x → x < n) ∧ (∀ x, l[m]? = some x → n ≤ x)) (tot_loop (fun z => ∃ m : Nat, z = (m : Int) ∧ m ≤ l.length ∧ (∀ (i : Nat) (x : Int), i < m → l[i]? = some x → x < n)) (fun z => l.length - z.toNat) ⟨0, rfl, by omega, fun i x hi => by omega⟩ ?_) ?_
  · rintro _ ⟨m, rfl, hm, hlt⟩
    simp only [spec_l1Put_l1, goLen]
    by_cases hc : m < l.length
    · have hx : l[m]? = some l[m] := by simp [hc]
      generalize l[m] = x at hx
      rw [decide_eq_true (show (m : Int) < l.length by omega), cond_true, at_ok hx, Option.bind_some, Option.bind_some]
      by_cases hxn : x < n
      · rw [decide_eq_true hxn, cond_true]
        refine tot_some ⟨⟨m + 1, by rw [wid (by omega) (by omega)]; omega, by omega, fun i y hi hy => ?_⟩, by rw [wid (by omega) (by omega)]; omega⟩
        by_cases him : i = m
        · subst him; rw [hx] at hy; obtain rfl := Option.some.inj hy; exact hxn
        · exact hlt i y (by omega) hy
      · rw [decide_eq_false hxn, cond_false]
        refine tot_some ⟨m, rfl, hm, hlt, fun y hy => ?_⟩
        rw [hx] at hy; obtain rfl := Option.some.inj hy; omega
    · rw [decide_eq_false (show ¬ (m : Int) < l.length by omega), cond_false, Option.bind_some, cond_false]
      refine tot_some ⟨m, rfl, hm, hlt, fun y hy => ?_⟩
      have := (List.getElem?_eq_some_iff.1 hy).1; omega
  · rintro _ ⟨m, rfl, hm, hlt, hge⟩
    simp only [goLen]
    have hcat : (∀ x, l[m]? = some x → n < x) → Tot ((goSub l 0 (m : Int)).bind fun l_11 => ((goApp 8 ([] : List Int) l_11).bind fun l_13 => ((goApp 8 l_13 ([n] : List Int)).bind fun l_16 => ((goSub l (m : Int) (l.length : Int)).bind fun l_18 => ((goApp 8 l_16 l_18).bind fun l_20 => some l_20))))) (fun r => r.Pairwise (· < ·) ∧ (∀ x, x ∈ r ↔ x ∈ l ∨ x = n) ∧ r.length ≤ l.length + 1) := by
      intro hgt
      refine tot_bind (tot_sub (Q := fun z => z = l.take m) (by omega) (by omega) (by omega) (by simp)) fun z hz => ?_
      subst hz
      rw [goApp_ok (by simp; omega), Option.bind_some, goApp_ok (by simp; omega), Option.bind_some]
      refine tot_bind (tot_sub (Q := fun z => z = l.drop m) (by omega) (by omega) (by omega) (by rw [List.take_of_length_le (by simp)]; simp)) fun z hz => ?_
      subst hz
      rw [goApp_ok (by simp; omega), Option.bind_some]
      have hall : ∀ x ∈ l.drop m, n < x := by
        intro x hx
        obtain ⟨j, hj⟩ := List.getElem?_of_mem hx
        rw [List.getElem?_drop] at hj
        have hjl := (List.getElem?_eq_some_iff.1 hj).1
        have h0 : l[m]? = some (l[m]'(by omega)) := by simp [show m < l.length by omega]
        have h1 := hgt _ h0
        by_cases hj0 : j = 0
        · subst hj0; rw [Nat.add_zero, h0] at hj; obtain rfl := Option.some.inj hj; exact h1
        · have h2 := List.pairwise_iff_getElem.1 hs m (m + j) (by omega) hjl (by omega)
          have h3 := (List.getElem?_eq_some_iff.1 hj).2
          omega
      have hall2 : ∀ x ∈ l.take m, x < n := by
        intro x hx
        obtain ⟨j, hj⟩ := List.getElem?_of_mem hx
        have hjl := (List.getElem?_eq_some_iff.1 hj).1
        simp at hjl
        rw [List.getElem?_take_of_lt (by omega)] at hj
        exact hlt j x (by omega) hj
      refine tot_some ⟨?_, fun x => ?_, by simp; omega⟩
      · rw [List.nil_append, List.pairwise_append, List.pairwise_append]
        refine ⟨⟨hs.sublist (List.take_sublist _ _), List.pairwise_singleton _ _, fun x hx y hy => ?_⟩, hs.sublist (List.drop_sublist _ _), fun x hx y hy => ?_⟩
        · obtain rfl := List.mem_singleton.1 hy; exact hall2 x hx
        · have := hall y hy
          rcases List.mem_append.1 hx with h | h
          · have := hall2 x h; omega
          · obtain rfl := List.mem_singleton.1 h; exact this
      · have : x ∈ l ↔ x ∈ l.take m ∨ x ∈ l.drop m := by rw [← List.mem_append, List.take_append_drop]
        rw [this]
        simp only [List.nil_append, List.mem_append, List.mem_singleton]
        constructor
        · rintro ((h | h) | h)
          · exact .inl (.inl h)
          · exact .inr h
          · exact .inl (.inr h)
        · rintro ((h | h) | h)
          · exact .inl (.inl h)
          · exact .inr h
          · exact .inl (.inr h)
    by_cases hc : m < l.length
    · have hx : l[m]? = some l[m] := by simp [hc]
      generalize l[m] = x at hx
      have hge' := hge x hx
      rw [decide_eq_true (show (m : Int) < l.length by omega), cond_true, at_ok hx, Option.bind_some, Option.bind_some]
      by_cases hxn : x = n
      · subst hxn
        rw [beq_self_eq_true, cond_true]
        refine tot_some ⟨hs, fun y => ?_, by omega⟩
        constructor
        · exact .inl
        · rintro (h | rfl)
          · exact h
          · exact List.mem_of_getElem? hx
      · rw [show (x == n) = false by simpa using hxn, cond_false]
        exact hcat fun y hy => by rw [hx] at hy; obtain rfl := Option.some.inj hy; omega
    · rw [decide_eq_false (show ¬ (m : Int) < l.length by omega), cond_false, Option.bind_some, cond_false]
      exact hcat fun y hy => by have := (List.getElem?_eq_some_iff.1 hy).1; omega

/-! ## the join -/
theorem or_nat {a b : Nat} (ha : a < 4611686018427387904) (hb : b < 4611686018427387904) : goBits .or .i64 (a : Int) (b : Int) = ((a ||| b : Nat) : Int) := by
  have e : goBits .or .i64 (a : Int) (b : Int) = IntKind.wrap .i64 ((BitVec.ofInt IntKind.i64.bits (a : Int) ||| BitVec.ofInt IntKind.i64.bits (b : Int)).toNat) := rfl
  have h : a ||| b < 2 ^ 62 := Nat.or_lt_two_pow (by omega) (by omega)
  rw [e, BitVec.toNat_or, ofInt_nat (by omega), ofInt_nat (by omega), Go.IntWalk.i64_in _ ⟨by omega, by omega⟩]

def orc (s : List impl_Variable) (a b : impl_Table) (k : Nat) : Nat := cset s a k ||| cset s b k

def jW (s : List impl_Variable) (a b : impl_Table) (k : Nat) : Int := match s[k]? with
  | some v => if (orc s a b k : Int) = full v then 0 else (orc s a b k : Int)
  | none => 0

def jSel (s : List impl_Variable) (a b : impl_Table) (k : Nat) : Bool := decide ((k : Int) ∈ a.Vars) || decide ((k : Int) ∈ b.Vars) || decide (cset s a k ≠ cset s b k) || (decide (a.Sum ≠ b.Sum) && (decide (a.Sum = (k : Int)) || decide (b.Sum = (k : Int))))

def jn (s : List impl_Variable) (a b : impl_Table) : impl_Table := ⟨max a.Level b.Level, picks (jSel s a b) (fun k => (k : Int)) s.length, (List.range s.length).map (jW s a b), if a.Sum = b.Sum then a.Sum else -1⟩

theorem orc_lt {s : List impl_Variable} {a b : impl_Table} (hs : OkS s) (ha : OkW s a.Where) (hb : OkW s b.Where) {k : Nat} (hk : k < s.length) : orc s a b k < 256 := Nat.or_lt_two_pow (n := 8) (cset_eq hs ha hk).2 (cset_eq hs hb hk).2

/-- a list that is filled from the front -/
def Fil (n : Nat) (w : Nat → Int) (k : Nat) (l : List Int) : Prop := l.length = n ∧ ∀ i : Nat, i < n → l[i]? = some (if i < k then w i else 0)

theorem Fil.map {n : Nat} {w : Nat → Int} {l : List Int} (h : Fil n w n l) : l = (List.range n).map w := by
  apply List.ext_getElem?
  intro i
  by_cases hi : i < n
  · rw [h.2 i hi, if_pos hi, List.getElem?_map, List.getElem?_range hi]; rfl
  · rw [List.getElem?_eq_none (by rw [h.1]; omega), List.getElem?_eq_none (by simp; omega)]

theorem Fil.zero (n : Nat) (w : Nat → Int) : Fil n w 0 (List.replicate n 0) := ⟨by simp, fun i hi => by rw [List.getElem?_replicate, if_pos hi, if_neg (by omega)]⟩

theorem Fil.keep {n : Nat} {w : Nat → Int} {k : Nat} {l : List Int} (h : Fil n w k l) (hk : w k = 0) : Fil n w (k + 1) l := ⟨h.1, fun i hi => by
  rw [h.2 i hi]
  by_cases h1 : i < k
  · rw [if_pos h1, if_pos (by omega)]
  · rw [if_neg h1]
    by_cases h2 : i < k + 1
    · rw [if_pos h2, show i = k by omega, hk]
    · rw [if_neg h2]⟩

theorem Fil.put {n : Nat} {w : Nat → Int} {k : Nat} {l : List Int} (h : Fil n w k l) (hk : k < n) : Fil n w (k + 1) (l.set k (w k)) := ⟨by rw [List.length_set, h.1], fun i hi => by
  by_cases h1 : i = k
  · subst h1
    rw [if_pos (by omega)]
    simp [h.1, hk]
  · rw [List.getElem?_set_ne (by omega), h.2 i hi]
    by_cases h2 : i < k
    · rw [if_pos h2, if_pos (by omega)]
    · rw [if_neg h2, if_neg (by omega)]⟩

theorem sel_eq {s : List impl_Variable} {a b : impl_Table} {k : Nat} (ha : a.Vars.length ≤ 1000) (hb : b.Vars.length ≤ 1000) : (((slices_Contains_int_int a.Vars (k : Int)).bind fun t_45 => (cond t_45 (some true) ((slices_Contains_int_int b.Vars (k : Int)).bind fun t_46 => (cond t_46 (some true) (cond (((cset s a k : Nat) : Int) != ((cset s b k : Nat) : Int)) (some true) (cond (a.Sum != b.Sum) (cond (a.Sum == (k : Int)) (some true) (some (b.Sum == (k : Int)))) (some false))))))) : Option Bool) = some (jSel s a b k) := by
  obtain ⟨b1, e1, h1⟩ := contains_bis (l := a.Vars) (x := (k : Int)) (by omega)
  obtain ⟨b2, e2, h2⟩ := contains_bis (l := b.Vars) (x := (k : Int)) (by omega)
  have g1 : decide ((k : Int) ∈ a.Vars) = b1 := by rw [Bool.eq_iff_iff, decide_eq_true_eq]; exact h1.symm
  have g2 : decide ((k : Int) ∈ b.Vars) = b2 := by rw [Bool.eq_iff_iff, decide_eq_true_eq]; exact h2.symm
  have g3 : (((cset s a k : Nat) : Int) != ((cset s b k : Nat) : Int)) = decide (cset s a k ≠ cset s b k) := by rw [Bool.eq_iff_iff]; simp; omega
  have g4 : (a.Sum != b.Sum) = decide (a.Sum ≠ b.Sum) := by rw [Bool.eq_iff_iff]; simp
  have g5 : (a.Sum == (k : Int)) = decide (a.Sum = (k : Int)) := by rw [Bool.eq_iff_iff]; simp
  have g6 : (b.Sum == (k : Int)) = decide (b.Sum = (k : Int)) := by rw [Bool.eq_iff_iff]; simp
  rw [e1, e2, g3, g4, g5, g6]
  unfold jSel
  rw [g1, g2]
  cases b1 <;> cases b2 <;> cases decide (cset s a k ≠ cset s b k) <;> cases decide (a.Sum ≠ b.Sum) <;> cases decide (a.Sum = (k : Int)) <;> cases decide (b.Sum = (k : Int)) <;> rfl

theorem join_loop {g : impl_Geo} {s : List impl_Variable} {a b : impl_Table} (ha : OkT g s a) (hb : OkT g s b) (L S : Int) : loopC (impl_JoinTables_l1 s a b) (0, ⟨L, [], List.replicate s.length 0, S⟩) = some ⟨L, picks (jSel s a b) (fun k => (k : Int)) s.length, (List.range s.length).map (jW s a b), S⟩ := by
  have hVa := ha.vlen; have hVb := hb.vlen; have hsl := ha.sch.2.1
  refine tot_eq (tot_loop (fun z => ∃ (k : Nat) (W : List Int), z = ((k : Int), ⟨L, picks (jSel s a b) (fun k => (k : Int)) k, W, S⟩) ∧ k ≤ s.length ∧ Fil s.length (jW s a b) k W) (fun z => s.length - z.1.toNat) ⟨0, _, rfl, by omega, Fil.zero _ _⟩ ?_)
  rintro _ ⟨k, W, rfl, hk, hW⟩
  simp only [impl_JoinTables_l1]
  refine tot_cond (fun hc => ?_) fun hc => tot_some ?_
  · have hkl : k < s.length := by have : (k : Int) < (s.length : Int) := by simpa [goLen] using hc
                                  omega
    have hv : s[k]? = some s[k] := by simp [hkl]
    generalize s[k] = v at hv
    have hlv := ha.sch.lv.get hv
    obtain ⟨d1, c1⟩ := cset_eq ha.sch ha.whr hkl; obtain ⟨d2, c2⟩ := cset_eq hb.sch hb.whr hkl
    have ho := orc_lt ha.sch ha.whr hb.whr hkl
    have hor : goBits .or .i64 (cset s a k : Int) (cset s b k : Int) = (orc s a b k : Int) := or_nat (by omega) (by omega)
    rw [d1, d2]
    simp only [Option.bind_some]
    rw [at_ok hv, Option.bind_some, fullSet_eq (by omega), Option.bind_some, hor]
    have hWl := hW.1
    have hwk : W[k]? = some (W[k]'(by omega)) := by simp [show k < W.length by omega]
    have hstep : ∃ W', ((cond ((orc s a b k : Int) != full v) ((goAt W (k : Int)).bind fun e_39 => some (impl_Table.mk L (picks (jSel s a b) (fun k => (k : Int)) k) (goSet W (k : Int) (orc s a b k : Int)) S)) (some (impl_Table.mk L (picks (jSel s a b) (fun k => (k : Int)) k) W S))) : Option impl_Table) = some ⟨L, picks (jSel s a b) (fun k => (k : Int)) k, W', S⟩ ∧ Fil s.length (jW s a b) (k + 1) W' := by
      by_cases hf : (orc s a b k : Int) = full v
      · rw [show ((orc s a b k : Int) != full v) = false by simpa using hf]
        exact ⟨W, rfl, hW.keep (by unfold jW; rw [hv]; simp only [if_pos hf])⟩
      · rw [show ((orc s a b k : Int) != full v) = true by simpa using hf, cond_true, at_ok hwk]
        refine ⟨_, rfl, ?_⟩
        have hw : jW s a b k = (orc s a b k : Int) := by unfold jW; rw [hv]; simp only [if_neg hf]
        rw [← hw]
        exact hW.put hkl
    obtain ⟨W', e1, hW'⟩ := hstep
    rw [e1, Option.bind_some, sel_eq (by omega) (by omega), Option.bind_some]
    have hpl := picks_len (sel := jSel s a b) (f := fun k : Nat => (k : Int)) k
    have e2 : ((cond (jSel s a b k) ((goApp 8 (picks (jSel s a b) (fun k => (k : Int)) k) ([(k : Int)] : List Int)).bind fun l_49 => some (impl_Table.mk L l_49 W' S)) (some (impl_Table.mk L (picks (jSel s a b) (fun k => (k : Int)) k) W' S))) : Option impl_Table) = some ⟨L, picks (jSel s a b) (fun k => (k : Int)) (k + 1), W', S⟩ := by
      rw [picks]
      cases jSel s a b k
      · rfl
      · rw [cond_true, goApp_ok (by simp; omega)]; rfl
    rw [e2, Option.bind_some]
    exact tot_some ⟨⟨k + 1, W', by rw [wid (by omega) (by omega)]; simp, by omega, hW'⟩, by simp only; rw [wid (by omega) (by omega)]; omega⟩
  · have hc' : ¬ (k : Int) < (s.length : Int) := by simpa [goLen] using hc
    obtain rfl : k = s.length := by omega
    rw [hW.map]

theorem lJoin_eq {g : impl_Geo} {s : List impl_Variable} {a b : impl_Table} (ha : OkT g s a) (hb : OkT g s b) : spec_lJoin g s a b = some (jn s a b) := by
  have hVa := ha.vlen; have hVb := hb.vlen; have hsl := ha.sch.2.1
  refine tot_eq ?_
  unfold spec_lJoin
  rw [lMost_eq, Option.bind_some, Option.bind_some, own_eq (by omega), Option.bind_some, goApp_ok (by omega), Option.bind_some]
  have hrange : ∀ v, v ∈ a.Vars ++ b.Vars → 0 ≤ v ∧ v < s.length := by
    intro v hv
    rcases List.mem_append.1 hv with h | h
    · obtain ⟨k, hk⟩ := List.getElem?_of_mem h; exact (ha.vars k v hk).1
    · obtain ⟨k, hk⟩ := List.getElem?_of_mem h; exact (hb.vars k v hk).1
  -- the variables of both
  refine tot_bind (Q := fun t => ∃ V : List Int, t = ⟨max a.Level b.Level, V, [], a.Sum⟩ ∧ V.Pairwise (· < ·) ∧ (∀ x, x ∈ V ↔ x ∈ a.Vars ++ b.Vars) ∧ V.length ≤ 12) (tot_loop (fun z => ∃ (k : Nat) (V : List Int), z = ((k : Int), ⟨max a.Level b.Level, V, [], a.Sum⟩) ∧ k ≤ (a.Vars ++ b.Vars).length ∧ V.Pairwise (· < ·) ∧ (∀ x, x ∈ V ↔ x ∈ (a.Vars ++ b.Vars).take k) ∧ V.length ≤ k) (fun z => (a.Vars ++ b.Vars).length - z.1.toNat) ⟨0, [], rfl, by omega, List.Pairwise.nil, by simp, by simp⟩ ?_) ?_
  · rintro _ ⟨k, V, rfl, hk, hV1, hV2, hV3⟩
    have hll : (a.Vars ++ b.Vars).length ≤ 12 := by simp; omega
    simp only [spec_lJoin_l1]
    refine tot_cond (fun hc => ?_) fun hc => tot_some ?_
    · have hkl : k < (a.Vars ++ b.Vars).length := by have : (k : Int) < ((a.Vars ++ b.Vars).length : Int) := by simpa [goLen] using hc
                                                     omega
      have hv : (a.Vars ++ b.Vars)[k]? = some (a.Vars ++ b.Vars)[k] := by simp [hkl]
      generalize (a.Vars ++ b.Vars)[k] = v at hv
      rw [at_ok hv, Option.bind_some]
      refine tot_bind (tput (n := v) hV1 (by omega)) fun V' ⟨h1, h2, h3⟩ => tot_some ⟨⟨k + 1, V', by rw [wid (by omega) (by omega)]; simp, by omega, h1, fun x => ?_, by omega⟩, by simp only; rw [wid (by omega) (by omega)]; omega⟩
      rw [h2, hV2, List.take_add_one, hv]
      simp
    · have hc' : ¬ (k : Int) < ((a.Vars ++ b.Vars).length : Int) := by simpa [goLen] using hc
      obtain rfl : k = (a.Vars ++ b.Vars).length := by omega
      refine ⟨V, rfl, hV1, fun x => ?_, by omega⟩
      rw [hV2, List.take_of_length_le (Nat.le_refl _)]
  · rintro _ ⟨V, rfl, hV1, hV2, hV3⟩
    simp only
    -- the sums
    refine tot_bind (Q := fun t => ∃ V : List Int, t = ⟨max a.Level b.Level, V, [], if a.Sum = b.Sum then a.Sum else -1⟩ ∧ V.Pairwise (· < ·) ∧ (∀ x, x ∈ V ↔ (x ∈ a.Vars ++ b.Vars ∨ (a.Sum ≠ b.Sum ∧ 0 ≤ x ∧ (x = a.Sum ∨ x = b.Sum)))) ∧ V.length ≤ 14) (tot_cond (fun hc => ?_) fun hc => tot_some ⟨V, by rw [if_pos (by simpa using hc)], hV1, fun x => by rw [hV2]; simp only [bne_eq_false_iff_eq] at hc; simp [hc], by omega⟩) ?_
    · have hne : a.Sum ≠ b.Sum := by simpa using hc
      rw [if_neg hne]
      refine tot_bind (Q := fun t => ∃ V : List Int, t = ⟨max a.Level b.Level, V, [], -1⟩ ∧ V.Pairwise (· < ·) ∧ (∀ x, x ∈ V ↔ (x ∈ a.Vars ++ b.Vars ∨ (0 ≤ x ∧ (x = a.Sum ∨ x = b.Sum)))) ∧ V.length ≤ 14) (tot_loop (fun z => ∃ (k : Nat) (V : List Int), z = ((k : Int), ⟨max a.Level b.Level, V, [], -1⟩) ∧ k ≤ 2 ∧ V.Pairwise (· < ·) ∧ (∀ x, x ∈ V ↔ (x ∈ a.Vars ++ b.Vars ∨ (0 ≤ x ∧ x ∈ ([a.Sum, b.Sum] : List Int).take k))) ∧ V.length ≤ 12 + k) (fun z => 2 - z.1.toNat) ⟨0, V, rfl, by omega, hV1, fun x => by rw [hV2]; simp, by omega⟩ ?_) fun t ⟨V', e, h1, h2, h3⟩ => tot_some ⟨V', by rw [e], h1, fun x => by rw [h2]; simp [hne], h3⟩
      rintro _ ⟨k, V, rfl, hk, hV1, hV2, hV3⟩
      simp only [spec_lJoin_l2]
      refine tot_cond (fun hc => ?_) fun hc => tot_some ?_
      · have hkl : k < 2 := by have : (k : Int) < 2 := by simpa [goLen] using hc
                               omega
        have hv : ([a.Sum, b.Sum] : List Int)[k]? = some ([a.Sum, b.Sum] : List Int)[k] := by simp [hkl]
        generalize ([a.Sum, b.Sum] : List Int)[k] = v at hv
        rw [at_ok hv, Option.bind_some]
        refine tot_bind (Q := fun t => ∃ V' : List Int, t = ⟨max a.Level b.Level, V', [], -1⟩ ∧ V'.Pairwise (· < ·) ∧ (∀ x, x ∈ V' ↔ (x ∈ V ∨ (0 ≤ x ∧ x = v))) ∧ V'.length ≤ V.length + 1) (tot_cond (fun h0 => ?_) fun h0 => tot_some ⟨V, rfl, hV1, fun x => ?_, by omega⟩) fun t ⟨V', e, h1, h2, h3⟩ => ?_
        · have h0' : 0 ≤ v := by simpa using h0
          refine tot_bind (tput (n := v) hV1 (by omega)) fun V' ⟨h1, h2, h3⟩ => tot_some ⟨V', rfl, h1, fun x => ?_, h3⟩
          rw [h2]
          constructor
          · rintro (h | rfl); exact .inl h; exact .inr ⟨h0', rfl⟩
          · rintro (h | ⟨_, h⟩); exact .inl h; exact .inr h
        · have h0' : ¬ 0 ≤ v := by simpa using h0
          constructor
          · exact .inl
          · rintro (h | ⟨h4, rfl⟩)
            · exact h
            · exact absurd h4 h0'
        · subst e
          refine tot_some ⟨⟨k + 1, V', by rw [wid (by omega) (by omega)]; simp, by omega, h1, fun x => ?_, by omega⟩, by simp only; rw [wid (by omega) (by omega)]; omega⟩
          rw [h2, hV2, List.take_add_one, hv]
          simp only [List.mem_append, Option.toList_some, List.mem_singleton]
          constructor
          · rintro ((h | ⟨h4, h⟩) | ⟨h4, h⟩)
            · exact .inl h
            · exact .inr ⟨h4, .inl h⟩
            · exact .inr ⟨h4, .inr h⟩
          · rintro (h | ⟨h4, h | h⟩)
            · exact .inl (.inl h)
            · exact .inl (.inr ⟨h4, h⟩)
            · exact .inr ⟨h4, h⟩
      · have hc' : ¬ (k : Int) < 2 := by simpa [goLen] using hc
        obtain rfl : k = 2 := by omega
        exact ⟨V, rfl, hV1, fun x => by rw [hV2]; simp, by omega⟩
    · rintro _ ⟨V, rfl, hV1, hV2, hV3⟩
      simp only
      -- the conditions
      refine tot_bind (Q := fun t => t = ⟨max a.Level b.Level, picks (jSel s a b) (fun k => (k : Int)) s.length, (List.range s.length).map (fun k => (orc s a b k : Int)), if a.Sum = b.Sum then a.Sum else -1⟩) (tot_loop (fun z => ∃ (k : Nat) (V : List Int), z = ((k : Int), ⟨max a.Level b.Level, V, (List.range k).map (fun k => (orc s a b k : Int)), if a.Sum = b.Sum then a.Sum else -1⟩) ∧ k ≤ s.length ∧ V.Pairwise (· < ·) ∧ (∀ x, x ∈ V ↔ (x ∈ a.Vars ++ b.Vars ∨ (a.Sum ≠ b.Sum ∧ 0 ≤ x ∧ (x = a.Sum ∨ x = b.Sum)) ∨ ∃ i : Nat, i < k ∧ x = (i : Int) ∧ cset s a i ≠ cset s b i)) ∧ V.length ≤ 14 + k) (fun z => s.length - z.1.toNat) ⟨0, V, rfl, by omega, hV1, fun x => by rw [hV2]; simp, by omega⟩ ?_) ?_
      · rintro _ ⟨k, V, rfl, hk, hV1, hV2, hV3⟩
        simp only [spec_lJoin_l3]
        refine tot_cond (fun hc => ?_) fun hc => tot_some ?_
        · have hkl : k < s.length := by have : (k : Int) < (s.length : Int) := by simpa [goLen] using hc
                                        omega
          have c1 := (cset_eq ha.sch ha.whr hkl).2; have c2 := (cset_eq hb.sch hb.whr hkl).2
          rw [lSet_eq ha.sch ha.whr hkl, lSet_eq hb.sch hb.whr hkl]
          simp only [Option.bind_some]
          have hor : goBits .or .i64 (cset s a k : Int) (cset s b k : Int) = (orc s a b k : Int) := or_nat (by omega) (by omega)
          rw [hor]
          refine tot_bind (Q := fun t => ∃ V' : List Int, t = ⟨max a.Level b.Level, V', (List.range k).map (fun k => (orc s a b k : Int)), if a.Sum = b.Sum then a.Sum else -1⟩ ∧ V'.Pairwise (· < ·) ∧ (∀ x, x ∈ V' ↔ (x ∈ V ∨ (cset s a k ≠ cset s b k ∧ x = (k : Int)))) ∧ V'.length ≤ V.length + 1) (tot_cond (fun h0 => ?_) fun h0 => tot_some ⟨V, rfl, hV1, fun x => ?_, by omega⟩) fun t ⟨V', e, h1, h2, h3⟩ => ?_
          · have h0' : cset s a k ≠ cset s b k := by simp at h0; omega
            refine tot_bind (tput (n := (k : Int)) hV1 (by omega)) fun V' ⟨h1, h2, h3⟩ => tot_some ⟨V', rfl, h1, fun x => ?_, h3⟩
            rw [h2]; simp [h0']
          · have h0' : cset s a k = cset s b k := by simp at h0; omega
            simp [h0']
          · subst e
            rw [goApp_ok (by simp; omega), Option.bind_some]
            refine tot_some ⟨⟨k + 1, V', by rw [wid (by omega) (by omega), List.range_succ, List.map_append]; simp, by omega, h1, fun x => ?_, by omega⟩, by simp only; rw [wid (by omega) (by omega)]; omega⟩
            rw [h2, hV2]
            constructor
            · rintro ((h | h | ⟨i, hi, h⟩) | ⟨h4, h⟩)
              · exact .inl h
              · exact .inr (.inl h)
              · exact .inr (.inr ⟨i, by omega, h⟩)
              · exact .inr (.inr ⟨k, by omega, h, h4⟩)
            · rintro (h | h | ⟨i, hi, h, h4⟩)
              · exact .inl (.inl h)
              · exact .inl (.inr (.inl h))
              · by_cases hik : i = k
                · subst hik; exact .inr ⟨h4, h⟩
                · exact .inl (.inr (.inr ⟨i, by omega, h, h4⟩))
        · have hc' : ¬ (k : Int) < (s.length : Int) := by simpa [goLen] using hc
          obtain rfl : k = s.length := by omega
          have e : V = picks (jSel s a b) (fun k => (k : Int)) s.length := by
            refine rise_ext hV1 (picks_rise _) fun x => ?_
            rw [hV2, mem_picks]
            have hsa := ha.sum; have hsb := hb.sum
            constructor
            · intro h
              have hx : 0 ≤ x ∧ x < s.length := by
                rcases h with h | ⟨_, h0, h | h⟩ | ⟨i, hi, rfl, _⟩
                · exact hrange x h
                · omega
                · omega
                · omega
              obtain ⟨i, rfl⟩ := Int.eq_ofNat_of_zero_le hx.1
              refine ⟨i, by omega, ?_, rfl⟩
              unfold jSel
              simp only [Bool.or_eq_true, Bool.and_eq_true, decide_eq_true_eq]
              rcases h with h | ⟨h1, _, h | h⟩ | ⟨j, hj, h, h4⟩
              · rcases List.mem_append.1 h with h | h
                · exact .inl (.inl (.inl h))
                · exact .inl (.inl (.inr h))
              · exact .inr ⟨h1, .inl h.symm⟩
              · exact .inr ⟨h1, .inr h.symm⟩
              · obtain rfl : i = j := by omega
                exact .inl (.inr h4)
            · rintro ⟨i, hi, hsel, rfl⟩
              unfold jSel at hsel
              simp only [Bool.or_eq_true, Bool.and_eq_true, decide_eq_true_eq] at hsel
              rcases hsel with ((h | h) | h) | ⟨h1, h | h⟩
              · exact .inl (List.mem_append.2 (.inl h))
              · exact .inl (List.mem_append.2 (.inr h))
              · exact .inr (.inr ⟨i, hi, rfl, h⟩)
              · exact .inr (.inl ⟨h1, by omega, .inl h.symm⟩)
              · exact .inr (.inl ⟨h1, by omega, .inr h.symm⟩)
          rw [e]
      · rintro _ rfl
        -- normal
        have hpl := picks_len (sel := jSel s a b) (f := fun k : Nat => (k : Int)) s.length
        unfold spec_nNormal spec_nOwn
        rw [own_eq (by show (picks _ _ _).length ≤ _; omega), Option.bind_some, own_eq (by simp; omega), Option.bind_some, Option.bind_some]
        have key : loopC (spec_nNormal_l1 s) (0, (⟨max a.Level b.Level, picks (jSel s a b) (fun k => (k : Int)) s.length, (List.range s.length).map (fun k => (orc s a b k : Int)), if a.Sum = b.Sum then a.Sum else -1⟩ : impl_Table)) = some (jn s a b) := by
          refine tot_eq (tot_loop (fun z => ∃ (k : Nat) (W : List Int), z = ((k : Int), ⟨max a.Level b.Level, picks (jSel s a b) (fun k => (k : Int)) s.length, W, if a.Sum = b.Sum then a.Sum else -1⟩) ∧ k ≤ s.length ∧ W.length = s.length ∧ ∀ i : Nat, i < s.length → W[i]? = some (if i < k then jW s a b i else (orc s a b i : Int))) (fun z => s.length - z.1.toNat) ⟨0, _, rfl, by omega, by simp, fun i hi => by rw [List.getElem?_map, List.getElem?_range hi, if_neg (by omega)]; rfl⟩ ?_)
          rintro _ ⟨k, W, rfl, hk, hWl, hW⟩
          simp only [spec_nNormal_l1]
          refine tot_cond (fun hc => ?_) fun hc => tot_some ?_
          · have hkl : k < s.length := by have : (k : Int) < (s.length : Int) := by simpa [goLen] using hc
                                          omega
            have hv : s[k]? = some s[k] := by simp [hkl]
            generalize s[k] = v at hv
            have hlv := ha.sch.lv.get hv
            have hwk := hW k hkl
            rw [if_neg (by omega)] at hwk
            have hfull : spec_eFull s (k : Int) = some (full v) := by
              rw [← fullSet_eq (v := v) (by omega)]
              unfold spec_eFull impl_fullSet
              rw [at_ok hv, Option.bind_some, Go.IntWalk.u64_in _ ⟨by omega, by omega⟩]
            rw [at_ok hwk, Option.bind_some, hfull]
            simp only [Option.bind_some]
            have hstep : ∃ W', ((cond ((orc s a b k : Int) == full v) (some (impl_Table.mk (max a.Level b.Level) (picks (jSel s a b) (fun k => (k : Int)) s.length) (goSet W (k : Int) 0) (if a.Sum = b.Sum then a.Sum else -1))) (some (impl_Table.mk (max a.Level b.Level) (picks (jSel s a b) (fun k => (k : Int)) s.length) W (if a.Sum = b.Sum then a.Sum else -1)))) : Option impl_Table) = some ⟨max a.Level b.Level, picks (jSel s a b) (fun k => (k : Int)) s.length, W', if a.Sum = b.Sum then a.Sum else -1⟩ ∧ W'.length = s.length ∧ ∀ i : Nat, i < s.length → W'[i]? = some (if i < k + 1 then jW s a b i else (orc s a b i : Int)) := by
              by_cases hf : (orc s a b k : Int) = full v
              · rw [show ((orc s a b k : Int) == full v) = true by simpa using hf]
                have hw : jW s a b k = 0 := by unfold jW; rw [hv]; simp only [if_pos hf]
                refine ⟨_, rfl, by show (W.set _ _).length = _; rw [List.length_set, hWl], fun i hi => ?_⟩
                show (W.set k 0)[i]? = _
                by_cases hik : i = k
                · subst hik; rw [if_pos (by omega), hw]; simp [hWl, hkl]
                · rw [List.getElem?_set_ne (by omega), hW i hi]
                  by_cases h2 : i < k
                  · rw [if_pos h2, if_pos (by omega)]
                  · rw [if_neg h2, if_neg (by omega)]
              · rw [show ((orc s a b k : Int) == full v) = false by simpa using hf]
                have hw : jW s a b k = (orc s a b k : Int) := by unfold jW; rw [hv]; simp only [if_neg hf]
                refine ⟨_, rfl, hWl, fun i hi => ?_⟩
                rw [hW i hi]
                by_cases hik : i = k
                · subst hik; rw [if_neg (by omega), if_pos (by omega), hw]
                · by_cases h2 : i < k
                  · rw [if_pos h2, if_pos (by omega)]
                  · rw [if_neg h2, if_neg (by omega)]
            obtain ⟨W', e1, h1, h2⟩ := hstep
            rw [e1, Option.bind_some]
            exact tot_some ⟨⟨k + 1, W', by rw [wid (by omega) (by omega)]; simp, by omega, h1, h2⟩, by simp only; rw [wid (by omega) (by omega)]; omega⟩
          · have hc' : ¬ (k : Int) < (s.length : Int) := by simpa [goLen] using hc
            obtain rfl : k = s.length := by omega
            have e : W = (List.range s.length).map (jW s a b) := by
              apply List.ext_getElem?
              intro i
              by_cases hi : i < s.length
              · rw [hW i hi, if_pos hi, List.getElem?_map, List.getElem?_range hi]; rfl
              · rw [List.getElem?_eq_none (by omega), List.getElem?_eq_none (by simp; omega)]
            subst e
            rfl
        rw [key]
        exact tot_some rfl

theorem Join_same {g : impl_Geo} {s : List impl_Variable} {a b : impl_Table} (hs : TameS s) (hVa : a.Vars.length ≤ 1000000) (hVb : b.Vars.length ≤ 1000000) :
    (impl_JoinTables g s a b = some (⟨0, [], [], 0⟩, false) ∧ spec_JoinTables g s a b = some (⟨0, [], [], 0⟩, false)) ∨
    (OkT g s a ∧ OkT g s b ∧ OkT g s (jn s a b) ∧ Fol g s a (jn s a b) ∧ Fol g s b (jn s a b) ∧ impl_JoinTables g s a b = some (jn s a b, true) ∧ spec_JoinTables g s a b = some (jn s a b, true)) := by
  obtain ⟨b1, f1, f1', g1⟩ := tables (g := g) (s := s) (t := a) hs hVa
  obtain ⟨b2, f2, f2', g2⟩ := tables (g := g) (s := s) (t := b) hs hVb
  unfold impl_JoinTables spec_JoinTables
  rw [f1, f1', f2']
  cases b1 with
  | false => exact .inl ⟨rfl, rfl⟩
  | true =>
    have hA := g1.1 rfl
    rw [isTable_eq (u := b) hs hA, f2]
    cases b2 with
    | false => exact .inl ⟨rfl, rfl⟩
    | true =>
      have hB := g2.1 rfl
      have hsl := hA.sch.2.1
      have hpl := picks_len (sel := jSel s a b) (f := fun k : Nat => (k : Int)) s.length
      obtain ⟨b3, f3, f3', g3⟩ := tables (g := g) (s := s) (t := jn s a b) hs (by show (picks _ _ _).length ≤ _; omega)
      have e1 : ((cond (a.Sum != b.Sum) (some (impl_Table.mk (max a.Level b.Level) ([] : List Int) (List.replicate s.length 0) (-1))) (some (impl_Table.mk (max a.Level b.Level) ([] : List Int) (List.replicate s.length 0) a.Sum))) : Option impl_Table) = some ⟨max a.Level b.Level, [], List.replicate s.length 0, if a.Sum = b.Sum then a.Sum else -1⟩ := by
        by_cases h : a.Sum = b.Sum
        · rw [show (a.Sum != b.Sum) = false by simpa using h, if_pos h]; rfl
        · rw [show (a.Sum != b.Sum) = true by simpa using h, if_neg h]; rfl
      simp only [Option.bind_some, Bool.not_true, cond_false, goLen]
      rw [goMake_ok (by omega) (by omega), lJoin_eq hA hB]
      simp only [Option.bind_some]
      rw [e1, Option.bind_some, join_loop hA hB]
      simp only [Option.bind_some]
      rw [show (⟨max a.Level b.Level, picks (jSel s a b) (fun k => (k : Int)) s.length, (List.range s.length).map (jW s a b), if a.Sum = b.Sum then a.Sum else -1⟩ : impl_Table) = jn s a b from rfl, isTable_eq (u := jn s a b) hs hA, f3, f3']
      cases b3 with
      | false => exact .inl ⟨rfl, rfl⟩
      | true =>
        have hJ := g3.1 rfl
        obtain ⟨b4, e4, e4', g4⟩ := follows hA hJ
        obtain ⟨b5, e5, e5', g5⟩ := follows hB hJ
        simp only [Option.bind_some, Bool.not_true, cond_false]
        rw [e4, e4', e5, e5']
        cases b4 with
        | false => exact .inl ⟨rfl, rfl⟩
        | true =>
          cases b5 with
          | false => exact .inl ⟨rfl, rfl⟩
          | true => exact .inr ⟨hA, hB, hJ, g4.1 rfl, g5.1 rfl, rfl, rfl⟩

end Go.Gx.F
