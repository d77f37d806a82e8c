/- Plain laws: mechanisms. -/
import Derived.Test.YtkgmphgbmjbfhaaHPMark
import Derived.Test.YtkgmphgbmjbfhaaHPAcc
namespace Go.Gx.F
open Go.Gx
set_option linter.all false

def cvFr (f : laws_Frac) : impl_Frac := ⟨f.Num, f.Den⟩

theorem maxLen_le' {n : Nat} (h : n ≤ maxLen) : n ≤ 9223372036854775807 := by unfold maxLen at h; omega

def Small (m : laws_Mechanism) : Prop := m.Rows.length ≤ 1048576 ∧ ∀ r ∈ m.Rows, r.length ≤ 1048576

theorem laws_szFracS_eq {l : List laws_Frac} (h : l.length ≤ maxLen) {left : Int} (h0 : 0 ≤ left) (h1 : left ≤ 1048576) : laws_szFracS l left = some (if (l.length : Int) ≤ left then left - l.length else -1) := by
  have h' := maxLen_le' h
  unfold laws_szFracS
  rw [show goLen l = ((l.length : Nat) : Int) from rfl, w64_in (by omega) (by omega)]
  by_cases hc : (l.length : Int) ≤ left
  · rw [if_pos hc, show decide (left - (l.length : Int) < 0) = false by simp; omega]; rfl
  · rw [if_neg hc, show decide (left - (l.length : Int) < 0) = true by simp; omega]; rfl

theorem szMech {m : laws_Mechanism} (o : Rng.ok m) : ∃ v, laws_szMechanism m 1048576 = some v ∧ (v < 0 ∨ (0 ≤ v ∧ Small m)) := by
  obtain ⟨o1, o2⟩ : m.Rows.length ≤ maxLen ∧ ∀ r ∈ m.Rows, Rng.ok r := o
  have o1' := maxLen_le' o1
  unfold laws_szMechanism laws_szFracSS
  rw [show goLen m.Rows = ((m.Rows.length : Nat) : Int) from rfl, w64_in (by omega) (by omega)]
  by_cases hc : m.Rows.length ≤ 1048576
  · rw [show decide (1048576 - (m.Rows.length : Int) < 0) = false by simp; omega]
    simp only [cond_false]
    obtain ⟨r, hr, hq⟩ := loopC_inv (f := laws_szFracSS_l1 m.Rows) (fun s => 0 ≤ s.1 ∧ s.1 ≤ 1048576 ∧ 0 ≤ s.2 ∧ s.2 ≤ m.Rows.length ∧ ∀ (j : Nat) row, (j : Int) < s.2 → m.Rows[j]? = some row → row.length ≤ 1048576) (fun s => m.Rows.length - s.2.toNat)
      (fun r => r = .inr (-1) ∨ ∃ v, r = .inl v ∧ 0 ≤ v ∧ ∀ row ∈ m.Rows, row.length ≤ 1048576) (fun s hs => by
        obtain ⟨left, i⟩ := s
        obtain ⟨e1, e2, e3, e4, e5⟩ := hs
        simp only at e1 e2 e3 e4 e5
        by_cases hi : i < (m.Rows.length : Int)
        · obtain ⟨n, rfl⟩ := Int.eq_ofNat_of_zero_le e3
          have hlt : n < m.Rows.length := by omega
          have hx : m.Rows[n]? = some m.Rows[n] := by simp [hlt]
          have hmem := List.mem_of_getElem? hx
          have hl := laws_szFracS_eq (l := m.Rows[n]) (o2 _ hmem).1 e1 e2
          by_cases hcc : (m.Rows[n].length : Int) ≤ left
          · right
            rw [if_pos hcc] at hl
            have e : laws_szFracSS_l1 m.Rows (left, (n : Int)) = some (.next (left - m.Rows[n].length, ((n + 1 : Nat) : Int))) := by
              simp only [laws_szFracSS_l1, lt_ok hx, cond_true, at_ok hx, Option.bind_some, hl, nx_ok hx o1']
              rw [show decide (left - (m.Rows[n].length : Int) < 0) = false by simp; omega]
              rfl
            refine ⟨_, e, ⟨by simp only; omega, by simp only; omega, by simp only; omega, by simp only; omega, fun j row hj hrow => ?_⟩, by simp only; omega⟩
            simp only at hj
            by_cases hjn : j = n
            · subst hjn
              rw [hx] at hrow
              simp only [Option.some.injEq] at hrow
              subst hrow
              omega
            · exact e5 j row (by omega) hrow
          · left
            rw [if_neg hcc] at hl
            refine ⟨.inr (-1), ?_, .inl rfl⟩
            simp only [laws_szFracSS_l1, lt_ok hx, cond_true, at_ok hx, Option.bind_some, hl]
            rfl
        · left
          refine ⟨.inl left, ?_, .inr ⟨left, rfl, e1, fun row hrow => ?_⟩⟩
          · simp only [laws_szFracSS_l1]
            rw [show decide (i < goLen m.Rows) = false by simp [goLen]; omega]
            rfl
          · obtain ⟨j, hj, rfl⟩ := List.mem_iff_getElem.1 hrow
            exact e5 j _ (by omega) (by simp [hj])) (1048576 - (m.Rows.length : Int), 0) ⟨by simp only; omega, by simp only; omega, by simp, by simp, fun j row hj => by simp at hj; omega⟩
    rw [hr]
    rcases hq with rfl | ⟨v, rfl, hv, hrows⟩
    · exact ⟨-1, rfl, .inl (by omega)⟩
    · refine ⟨v, ?_, .inr ⟨hv, hc, hrows⟩⟩
      simp only [Option.bind_some]
      rw [show decide (v < 0) = false by simp; omega]
      rfl
  · rw [show decide (1048576 - (m.Rows.length : Int) < 0) = true by simp; omega]
    exact ⟨-1, rfl, .inl (by omega)⟩

theorem laws_toFracS_eq {l : List laws_Frac} (h : l.length ≤ 1048576) : laws_toFracS l = some (l.map cvFr) := by
  unfold laws_toFracS
  rw [show goLen l = ((l.length : Nat) : Int) from rfl, goMake_ok (by omega) (by omega)]
  simp only [Option.bind_some]
  rw [loop_map cvFr _ (laws_toFracS_l1 l) (fun k x out hx ho => ?_) (fun out => ?_)]
  · rfl
  · have hlt := (List.getElem?_eq_some_iff.1 hx).1
    have ho' : out[k]? = some out[k] := by simp [ho, hlt]
    simp only [laws_toFracS_l1, lt_ok hx, cond_true, at_ok hx, Option.bind_some, laws_toFrac_eq, at_ok ho', nx_ok hx (by omega), goSet, Int.toNat_natCast]
    rfl
  · simp only [laws_toFracS_l1, lt_end, cond_false]

def cvMech (m : laws_Mechanism) : impl_Mechanism := ⟨m.Rows.map (·.map cvFr)⟩

theorem laws_toMechanism_eq {m : laws_Mechanism} (h : Small m) : laws_toMechanism m = some (cvMech m) := by
  unfold laws_toMechanism laws_toFracSS
  rw [show goLen m.Rows = ((m.Rows.length : Nat) : Int) from rfl, goMake_ok (by have := h.1; omega) (by have := h.1; omega)]
  simp only [Option.bind_some]
  rw [loop_map (fun r : List laws_Frac => r.map cvFr) _ (laws_toFracSS_l1 m.Rows) (fun k x out hx ho => ?_) (fun out => ?_)]
  · rfl
  · have hlt := (List.getElem?_eq_some_iff.1 hx).1
    have ho' : out[k]? = some out[k] := by simp [ho, hlt]
    have hr := laws_toFracS_eq (h.2 x (List.mem_of_getElem? hx))
    simp only [laws_toFracSS_l1, lt_ok hx, cond_true, at_ok hx, Option.bind_some, hr, at_ok ho', nx_ok hx (by have := h.1; omega), goSet, Int.toNat_natCast]
  · simp only [laws_toFracSS_l1, lt_end, cond_false]

def SmallI (m : impl_Mechanism) : Prop := m.Rows.length ≤ 1048576 ∧ ∀ r ∈ m.Rows, r.length ≤ 1048576

theorem smallI {m : laws_Mechanism} (h : Small m) : SmallI (cvMech m) := by
  refine ⟨by simpa [cvMech] using h.1, fun r hr => ?_⟩
  simp only [cvMech, List.mem_map] at hr
  obtain ⟨x, hx, rfl⟩ := hr
  simpa using h.2 x hx

theorem laws_eqMechanism_self {m : impl_Mechanism} (h : SmallI m) : laws_eqMechanism m m = some true := by
  unfold laws_eqMechanism laws_eqFracSS
  rw [loop_all (l := m.Rows) (fun _ => true) _ (fun k x hx => ?_) (fun _ => ?_)]
  · simp
  · simp only [laws_eqFracSS_l1, lt_ok hx, cond_true, at_ok hx, Option.bind_some, laws_eqFracS_self (h.2 x (List.mem_of_getElem? hx)), Bool.not_true, cond_false, nx_ok hx (by have := h.1; omega), if_true]
  · simp only [laws_eqFracSS_l1, lt_end, cond_false]

/-! distributions -/
def okE (f : impl_Frac) : Bool := decide (Good f ∧ 0 ≤ f.Num)

def one1 (f : impl_Frac) : Bool := (f.Num == 1) && ((f.Den == 1) && true)

def fsums : List impl_Frac → impl_Frac → Option impl_Frac
  | [], s => some s
  | x :: l, s => if (fadd s x).2 then fsums l (fadd s x).1 else none

def isDist (l : List impl_Frac) : Bool := l.all okE && (fsums l ⟨0, 1⟩).elim false one1

theorem good_zero : Good ⟨0, 1⟩ := by decide

theorem okE_good {f : impl_Frac} (h : okE f = true) : Good f := by simp only [okE, decide_eq_true_eq] at h; exact h.1

def stepF (_ : Nat) (x s : impl_Frac) : Option (impl_Frac ⊕ (impl_Frac ⊕ (impl_Frac × Bool))) := some (if (fadd s x).2 then .inl (fadd s x).1 else .inr (.inr (⟨0, 0⟩, false)))

theorem lfold_fsums : ∀ (l : List impl_Frac) (k : Nat) (s : impl_Frac), lfold stepF (fun s => some (.inl s)) k l s = some ((fsums l s).elim (.inr (⟨0, 0⟩, false)) .inl)
  | [], _, _ => rfl
  | x :: l, k, s => by
    simp only [lfold, stepF, fsums]
    by_cases h : (fadd s x).2 = true
    · simp only [h, if_true]; exact lfold_fsums l (k + 1) _
    · simp [h]

theorem spec_fSum_eq {l : List impl_Frac} (hl : l.length ≤ 1048576) (hg : ∀ x ∈ l, Good x) : spec_fSum l = some ((fsums l ⟨0, 1⟩).elim (⟨0, 0⟩, false) (fun r => (r, true))) := by
  unfold spec_fSum
  have e : spec_fInt 0 = some ⟨0, 1⟩ := rfl
  rw [e]
  simp only [Option.bind_some]
  rw [loop_list (fun k s => (k, s)) l (spec_fSum_l1 l) stepF (fun s => some (.inl s)) (fun _ s => Good s) (fun k x s hx hs => ?_) (fun s _ => ?_) (fun k x s s' hx hs h => ?_) good_zero]
  · rw [lfold_fsums]
    cases fsums l ⟨0, 1⟩ <;> rfl
  · have gx := hg x (List.mem_of_getElem? hx)
    simp only [spec_fSum_l1, lt_ok hx, cond_true, at_ok hx, Option.bind_some, spec_fAdd_eq hs gx, nx_ok hx (by omega), stepF]
    cases hc : (fadd s x).2 <;> simp [nxt]
  · simp only [spec_fSum_l1, lt_end, cond_false]; rfl
  · simp only [stepF] at h
    by_cases hc : (fadd s x).2 = true
    · simp only [hc, if_true, Option.some.injEq, Sum.inl.injEq] at h
      subst h
      exact fadd_good hs (hg x (List.mem_of_getElem? hx)) hc
    · simp [hc] at h

theorem spec_mRow_eq {l : List impl_Frac} (hl : l.length ≤ 1048576) : spec_mRow l = some (isDist l) := by
  unfold spec_mRow isDist
  rw [loop_all (l := l) okE _ (fun k x hx => ?_) (fun _ => ?_)]
  · by_cases ha : l.all okE = true
    · have hg : ∀ x ∈ l, Good x := fun x hx => okE_good (List.all_eq_true.1 ha x hx)
      have e : spec_fInt 1 = some ⟨1, 1⟩ := rfl
      rw [if_pos ha, ha]
      simp only [Option.bind_some, spec_mSum, spec_fSum_eq hl hg]
      cases fsums l ⟨0, 1⟩ with
      | none => rfl
      | some s => simp [e, one1]
    · rw [if_neg ha]; simp only [Bool.not_eq_true] at ha; rw [ha]; rfl
  · simp only [spec_mRow_l1, lt_ok hx, cond_true, at_ok hx, Option.bind_some, spec_fGood_eq, nx_ok hx (by omega), okE]
    by_cases h1 : Good x
    · by_cases h2 : x.Num < 0
      · simp [h1, h2, show ¬ 0 ≤ x.Num by omega]
      · simp [h1, h2, show 0 ≤ x.Num by omega]
    · simp [h1]
  · simp only [spec_mRow_l1, lt_end, cond_false]

theorem impl_isDistribution_eq {l : List impl_Frac} (hl : l.length ≤ 1048576) : impl_isDistribution l = some (isDist l) := by
  unfold impl_isDistribution isDist
  rw [loop_list (fun k s => (k, s)) l (impl_isDistribution_l1 l) (fun _ x s => some (if okE x && (fadd s x).2 then .inl (fadd s x).1 else .inr (.inr false))) (fun s => some (.inl s)) (fun _ s => Good s) (fun k x s hx hs => ?_) (fun s _ => ?_) (fun k x s s' hx hs h => ?_) good_zero]
  · suffices hh : ∀ (l : List impl_Frac) (k : Nat) (s : impl_Frac), ∃ r : impl_Frac ⊕ Bool, lfold (fun _ x s => some (if okE x && (fadd s x).2 then .inl (fadd s x).1 else .inr (.inr false))) (fun s => some (.inl s)) k l s = some r ∧
        Sum.elim (fun s => one1 s) id r = (l.all okE && (fsums l s).elim false one1) by
      obtain ⟨r, h1, h2⟩ := hh l 0 ⟨0, 1⟩
      rw [h1, ← h2]
      cases r <;> rfl
    intro l
    induction l with
    | nil => intro k s; exact ⟨.inl s, rfl, by simp [fsums]⟩
    | cons x l ih =>
      intro k s
      simp only [lfold, List.all_cons, fsums]
      by_cases h1 : okE x = true
      · by_cases h2 : (fadd s x).2 = true
        · simp only [h1, h2, Bool.and_self, if_true, Bool.true_and]
          exact ih (k + 1) _
        · simp only [h1, h2, Bool.and_false, Bool.false_eq_true, if_false]
          exact ⟨.inr false, rfl, by simp⟩
      · simp only [Bool.not_eq_true] at h1
        simp only [h1, Bool.false_and, Bool.false_eq_true, if_false]
        exact ⟨.inr false, rfl, by simp⟩
  · simp only [impl_isDistribution_l1, lt_ok hx, cond_true, at_ok hx, Option.bind_some, impl_IsFrac_eq, nx_ok hx (by omega)]
    by_cases h1 : Good x
    · by_cases h2 : x.Num < 0
      · simp [h1, h2, okE, show ¬ 0 ≤ x.Num by omega, nxt]
      · simp only [h1, h2, decide_true, decide_false, Bool.not_true, cond_false, Option.bind_some, impl_AddFrac_eq hs h1, show okE x = true by simp [okE, h1]; omega, Bool.true_and]
        cases hc : (fadd s x).2 <;> simp [nxt]
    · simp [h1, okE, nxt]
  · simp only [impl_isDistribution_l1, lt_end, cond_false]; rfl
  · by_cases hc : (okE x && (fadd s x).2) = true
    · simp only [hc, if_true, Option.some.injEq, Sum.inl.injEq] at h
      subst h
      simp only [Bool.and_eq_true] at hc
      exact fadd_good hs (okE_good hc.1) hc.2
    · simp [hc] at h

/-! mechanisms -/
def isMech (m : impl_Mechanism) : Bool := match m.Rows with
  | [] => false
  | r0 :: _ => decide (m.Rows.length ≤ 8) && decide (1 ≤ r0.length ∧ r0.length ≤ 24) && m.Rows.all (fun r => decide (r.length = r0.length) && isDist r)

theorem spec_mGood_eq {m : impl_Mechanism} (h : SmallI m) : spec_mGood m = some (isMech m) := by
  obtain ⟨h1, h2⟩ := h
  unfold spec_mGood isMech
  simp only [spec_l1In_eq, Option.bind_some]
  cases hm : m.Rows with
  | nil => simp [goLen]
  | cons r0 rest =>
    rw [hm] at h1 h2
    have a0 : goAt (r0 :: rest) 0 = some r0 := rfl
    simp only [a0, Option.bind_some]
    by_cases c1 : (r0 :: rest).length ≤ 8
    · rw [show decide (1 ≤ goLen (r0 :: rest) ∧ goLen (r0 :: rest) ≤ 8) = true by simp [goLen] at c1 ⊢; omega]
      by_cases c2 : 1 ≤ r0.length ∧ r0.length ≤ 24
      · rw [show decide (1 ≤ goLen r0 ∧ goLen r0 ≤ 24) = true by simp [goLen]; omega]
        simp only [Bool.not_true, cond_false, Option.bind_some]
        rw [loop_all (l := r0 :: rest) (fun r => decide (r.length = r0.length) && isDist r) _ (fun k x hx => ?_) (fun _ => ?_)]
        · simp only [c1, c2, and_self, decide_true, Bool.true_and]
          by_cases ha : (r0 :: rest).all (fun r => decide (r.length = r0.length) && isDist r) = true
          · rw [if_pos ha, ha]; rfl
          · rw [if_neg ha]; simp only [Bool.not_eq_true] at ha; rw [ha]; rfl
        · simp only [spec_mGood_l1, hm, lt_ok hx, cond_true, at_ok hx, a0, Option.bind_some, nx_ok hx (by omega), spec_mRow_eq (h2 x (List.mem_of_getElem? hx))]
          by_cases hl : x.length = r0.length
          · rw [show (goLen x != goLen r0) = false by simp [goLen, hl]]
            simp only [cond_false, Option.bind_some, hl, decide_true, Bool.true_and]
            cases isDist x <;> simp
          · rw [show (goLen x != goLen r0) = true by simp [goLen]; omega]
            simp [hl]
        · simp only [spec_mGood_l1, hm, lt_end, cond_false]
      · rw [show decide (1 ≤ goLen r0 ∧ goLen r0 ≤ 24) = false by simp [goLen]; omega]
        simp [c2]
    · rw [show decide (1 ≤ goLen (r0 :: rest) ∧ goLen (r0 :: rest) ≤ 8) = false by simp [goLen] at c1 ⊢; omega, decide_eq_false c1]
      simp

theorem impl_IsMechanism_eq {m : impl_Mechanism} (h : SmallI m) : impl_IsMechanism m = some (isMech m) := by
  obtain ⟨h1, h2⟩ := h
  unfold impl_IsMechanism isMech
  cases hm : m.Rows with
  | nil => simp [goLen]
  | cons r0 rest =>
    rw [hm] at h1 h2
    have a0 : goAt (r0 :: rest) 0 = some r0 := rfl
    simp only [a0, Option.bind_some]
    rw [show decide (goLen (r0 :: rest) < 1) = false by simp [goLen]; omega]
    by_cases c1 : (r0 :: rest).length ≤ 8
    · rw [show decide (8 < goLen (r0 :: rest)) = false by simp [goLen] at c1 ⊢; omega]
      by_cases c2 : 1 ≤ r0.length ∧ r0.length ≤ 24
      · rw [show decide (goLen r0 < 1) = false by simp [goLen]; omega, show decide (24 < goLen r0) = false by simp [goLen]; omega]
        simp only [cond_false, Option.bind_some]
        rw [loop_all (l := r0 :: rest) (fun r => decide (r.length = r0.length) && isDist r) _ (fun k x hx => ?_) (fun _ => ?_)]
        · simp only [c1, c2, and_self, decide_true, Bool.true_and]
          by_cases ha : (r0 :: rest).all (fun r => decide (r.length = r0.length) && isDist r) = true
          · rw [if_pos ha, ha]; rfl
          · rw [if_neg ha]; simp only [Bool.not_eq_true] at ha; rw [ha]; rfl
        · simp only [impl_IsMechanism_l1, hm, lt_ok hx, cond_true, at_ok hx, a0, Option.bind_some, nx_ok hx (by omega), impl_isDistribution_eq (h2 x (List.mem_of_getElem? hx))]
          by_cases hl : x.length = r0.length
          · rw [show (goLen x != goLen r0) = false by simp [goLen, hl]]
            simp only [cond_false, Option.bind_some, hl, decide_true, Bool.true_and]
            cases isDist x <;> simp
          · rw [show (goLen x != goLen r0) = true by simp [goLen]; omega]
            simp [hl]
        · simp only [impl_IsMechanism_l1, hm, lt_end, cond_false]
      · by_cases c3 : r0.length < 1
        · rw [show decide (goLen r0 < 1) = true by simp [goLen]; omega]
          simp [c2]
        · rw [show decide (goLen r0 < 1) = false by simp [goLen]; omega, show decide (24 < goLen r0) = true by simp [goLen]; omega]
          simp [c2]
    · rw [show decide (8 < goLen (r0 :: rest)) = true by simp [goLen] at c1 ⊢; omega, decide_eq_false c1]
      simp

theorem laws_FnExactIsMechanism_true (m : laws_Mechanism) (o : Rng.ok m) : laws_FnExactIsMechanism m = some true := by
  unfold laws_FnExactIsMechanism
  obtain ⟨v, hv, hs⟩ := szMech o
  rw [hv]
  simp only [Option.bind_some]
  rcases hs with hs | ⟨hs, hsm⟩
  · rw [show decide (v < 0) = true by simpa using hs]; rfl
  · rw [show decide (v < 0) = false by simp; omega]
    have hi := smallI hsm
    simp only [cond_false, laws_toMechanism_eq hsm, Option.bind_some, spec_IsMechanism, spec_mGood_eq hi, impl_IsMechanism_eq hi, laws_eqMechanism_self hi]
    simp

theorem isMech_rows {m : impl_Mechanism} (h : isMech m = true) : m.Rows.length ≤ 8 ∧ ∀ r ∈ m.Rows, r.length ≤ 24 ∧ ∀ x ∈ r, Good x := by
  unfold isMech at h
  cases hm : m.Rows with
  | nil => simp
  | cons r0 rest =>
    simp only [hm, Bool.and_eq_true, decide_eq_true_eq] at h
    obtain ⟨⟨h1, h2⟩, h3⟩ := h
    refine ⟨h1, fun r hr => ?_⟩
    have := List.all_eq_true.1 h3 r hr
    simp only [Bool.and_eq_true, decide_eq_true_eq] at this
    refine ⟨by omega, fun x hx => ?_⟩
    have hd := this.2
    unfold isDist at hd
    simp only [Bool.and_eq_true] at hd
    exact okE_good (List.all_eq_true.1 hd.1 x hx)

def stepX (k : Nat) (x s : impl_Frac) : Option (impl_Frac ⊕ (impl_Frac ⊕ (impl_Frac × Bool))) :=
  some (if (fmul x ⟨(k : Int), 1⟩).2 = true ∧ (fadd s (fmul x ⟨(k : Int), 1⟩).1).2 = true then .inl (fadd s (fmul x ⟨(k : Int), 1⟩).1).1 else .inr (.inr (⟨0, 0⟩, false)))

theorem expects {l : List impl_Frac} (hl : l.length ≤ 24) (hg : ∀ x ∈ l, Good x) : loopC (spec_ExpectedOutput_l1 l) (0, ⟨0, 1⟩) = lfold stepX (fun s => some (.inl s)) 0 l ⟨0, 1⟩ ∧ loopC (impl_ExpectedOutput_l1 l) (0, ⟨0, 1⟩) = lfold stepX (fun s => some (.inl s)) 0 l ⟨0, 1⟩ := by
  have pres : ∀ (k : Nat) (x s s' : impl_Frac), l[k]? = some x → Good s → stepX k x s = some (.inl s') → Good s' := by
    intro k x s s' hx hs h
    have hlt := (List.getElem?_eq_some_iff.1 hx).1
    have gx := hg x (List.mem_of_getElem? hx)
    have gk : Good ⟨(k : Int), 1⟩ := good_int (by omega) (by omega)
    unfold stepX at h
    split at h
    · rename_i hc
      simp only [Option.some.injEq, Sum.inl.injEq] at h
      subst h
      exact fadd_good hs (fmul_good gx gk hc.1) hc.2
    · cases h
  constructor
  · refine loop_list (fun k s => (k, s)) l (spec_ExpectedOutput_l1 l) stepX (fun s => some (.inl s)) (fun _ s => Good s) (fun k x s hx hs => ?_) (fun s _ => ?_) pres good_zero
    · have hlt := (List.getElem?_eq_some_iff.1 hx).1
      have gx := hg x (List.mem_of_getElem? hx)
      have gk : Good ⟨(k : Int), 1⟩ := good_int (by omega) (by omega)
      have e : spec_fInt (k : Int) = some ⟨(k : Int), 1⟩ := rfl
      simp only [spec_ExpectedOutput_l1, lt_ok hx, cond_true, at_ok hx, Option.bind_some, e, spec_fMul_eq gx gk, nx_ok hx (by omega), stepX]
      cases h1 : (fmul x ⟨(k : Int), 1⟩).2 with
      | false => simp [nxt]
      | true =>
        have gm := fmul_good gx gk h1
        simp only [Bool.not_true, cond_false, spec_fAdd_eq hs gm, Option.bind_some]
        cases h2 : (fadd s (fmul x ⟨(k : Int), 1⟩).1).2 <;> simp [nxt]
    · simp only [spec_ExpectedOutput_l1, lt_end, cond_false]; rfl
  · refine loop_list (fun k s => (k, s)) l (impl_ExpectedOutput_l1 l) stepX (fun s => some (.inl s)) (fun _ s => Good s) (fun k x s hx hs => ?_) (fun s _ => ?_) pres good_zero
    · have hlt := (List.getElem?_eq_some_iff.1 hx).1
      have gx := hg x (List.mem_of_getElem? hx)
      have gk : Good ⟨(k : Int), 1⟩ := good_int (by omega) (by omega)
      simp only [impl_ExpectedOutput_l1, lt_ok hx, cond_true, at_ok hx, Option.bind_some, impl_MulFrac_eq gk gx, fmul_comm ⟨(k : Int), 1⟩ x, nx_ok hx (by omega), stepX]
      cases h1 : (fmul x ⟨(k : Int), 1⟩).2 with
      | false => simp [nxt]
      | true =>
        have gm := fmul_good gx gk h1
        simp only [Bool.not_true, cond_false, impl_AddFrac_eq hs gm, Option.bind_some]
        cases h2 : (fadd s (fmul x ⟨(k : Int), 1⟩).1).2 <;> simp [nxt]
    · simp only [impl_ExpectedOutput_l1, lt_end, cond_false]; rfl

theorem lfold_total : ∀ (l : List impl_Frac) (k : Nat) (s : impl_Frac), ∃ p, lfold stepX (fun s => some (.inl s)) k l s = some p
  | [], _, _ => ⟨_, rfl⟩
  | x :: l, k, s => by
    simp only [lfold, stepX]
    by_cases hc : (fmul x ⟨(k : Int), 1⟩).2 = true ∧ (fadd s (fmul x ⟨(k : Int), 1⟩).1).2 = true
    · simp only [if_pos hc]; exact lfold_total l (k + 1) _
    · simp only [if_neg hc]; exact ⟨_, rfl⟩

theorem laws_FnExactExpectedOutput_true (m : laws_Mechanism) (i : Int) (o : Rng.ok m) (o2 : Rng.ok i) : laws_FnExactExpectedOutput m i = some true := by
  unfold laws_FnExactExpectedOutput
  obtain ⟨v, hv, hs⟩ := szMech o
  rw [hv]
  simp only [Option.bind_some]
  rcases hs with hs | ⟨hs, hsm⟩
  · rw [show decide (v < 0) = true by simpa using hs]; rfl
  · rw [show decide (v < 0) = false by simp; omega]
    have hi := smallI hsm
    simp only [cond_false, laws_toMechanism_eq hsm, Option.bind_some, laws_eqMechanism_self hi]
    unfold spec_ExpectedOutput impl_ExpectedOutput spec_mInput impl_isInput
    rw [spec_mGood_eq hi, impl_IsMechanism_eq hi]
    simp only [Option.bind_some]
    cases hm : isMech (cvMech m) with
    | false => simp [laws_eqFrac_self]
    | true =>
      obtain ⟨r1, r2⟩ := isMech_rows hm
      have w : w64 (goLen (cvMech m).Rows - 1) = ((cvMech m).Rows.length : Int) - 1 := w64_in (by simp [goLen]; omega) (by simp [goLen]; omega)
      simp only [cond_true, spec_l1In_eq, Option.bind_some, w, Bool.not_true, cond_false]
      by_cases h0 : 0 ≤ i
      · by_cases h1 : i < ((cvMech m).Rows.length : Int)
        · obtain ⟨n, rfl⟩ := Int.eq_ofNat_of_zero_le h0
          have hlt : n < (cvMech m).Rows.length := by omega
          have hx : (cvMech m).Rows[n]? = some (cvMech m).Rows[n] := by simp [hlt]
          obtain ⟨l24, lg⟩ := r2 _ (List.mem_of_getElem? hx)
          obtain ⟨x1, x2⟩ := expects l24 lg
          obtain ⟨p, hp⟩ := lfold_total (cvMech m).Rows[n] 0 ⟨0, 1⟩
          have e : spec_fInt 0 = some ⟨0, 1⟩ := rfl
          rw [show decide (0 ≤ (n : Int) ∧ (n : Int) ≤ ((cvMech m).Rows.length : Int) - 1) = true by simp; omega, show decide (0 ≤ (n : Int)) = true by simp, show decide ((n : Int) < goLen (cvMech m).Rows) = true by simp [goLen]; omega]
          simp only [cond_true, cond_false, Option.bind_some, Bool.not_true, at_ok hx, e, x1, x2, hp]
          cases p <;> simp [laws_eqFrac_self]
        · rw [show decide (0 ≤ i ∧ i ≤ ((cvMech m).Rows.length : Int) - 1) = false by simp; omega, show decide (0 ≤ i) = true by simpa using h0, show decide (i < goLen (cvMech m).Rows) = false by simp [goLen]; omega]
          simp [laws_eqFrac_self]
      · rw [show decide (0 ≤ i ∧ i ≤ ((cvMech m).Rows.length : Int) - 1) = false by simp; omega, show decide (0 ≤ i) = false by simpa using h0]
        simp [laws_eqFrac_self]
end Go.Gx.F
