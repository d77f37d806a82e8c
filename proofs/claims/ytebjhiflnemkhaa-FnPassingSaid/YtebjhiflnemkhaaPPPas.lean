/- Plain laws: edits, the values that pass them, failures of records. -/
import Derived.Test.YtebjhiflnemkhaaPPDrs
import Derived.Test.YtebjhiflnemkhaaPPBit
namespace Go.Gx.F
open Go.Gx
set_option linter.all false

theorem full_le2 {v : impl_Variable} (h : 2 ≤ v.Levels ∧ v.Levels ≤ 8) : 3 ≤ full v ∧ full v ≤ 255 := by
  have h1 : 2 ^ v.Levels.toNat ≤ 2 ^ 8 := Nat.pow_le_pow_right (by omega) (by omega)
  have h2 : 2 ^ 2 ≤ 2 ^ v.Levels.toNat := Nat.pow_le_pow_right (by omega) (by omega)
  unfold full
  omega

theorem eFull_eq {s : List impl_Variable} (hs : OkS s) {k : Nat} {v : impl_Variable} (hv : s[k]? = some v) : spec_eFull s (k : Int) = some (full v) := by
  have hb := hs.lv.get hv
  rw [← fullSet_eq (v := v) (by omega)]
  unfold spec_eFull impl_fullSet
  rw [at_ok hv, Option.bind_some, Go.IntWalk.u64_in _ ⟨by omega, by omega⟩]

/-! ## edits -/
def OkE (s : List impl_Variable) (e : impl_Edit) : Prop := e.Sets.length = s.length ∧ ∀ (k : Nat) (v : impl_Variable) (x : Int), s[k]? = some v → e.Sets[k]? = some x → 1 ≤ x ∧ x ≤ full v

def TameE (e : impl_Edit) : Prop := e.Sets.length ≤ 1000000

theorem isEdit_bis {s : List impl_Variable} {e : impl_Edit} (hs : OkS s) : Bis (impl_isEdit s e) (OkE s e) := by
  unfold impl_isEdit OkE
  simp only [goLen]
  by_cases h : e.Sets.length = s.length
  · rw [show ((e.Sets.length : Int) != (s.length : Int)) = false by simp [h], cond_false]
    have hsl := hs.2.1
    refine bis_iff (bis_loop (l := e.Sets) (fun k x => ∀ v, s[k]? = some v → 1 ≤ x ∧ x ≤ full v) (fun k x hx => ?_) (by simp only [impl_isEdit_l1, lt_end, cond_false])) ⟨fun h1 => ⟨h, fun k v x hv hx => h1 k x hx v hv⟩, fun h1 k x hx v hv => h1.2 k v x hv hx⟩
    have hk := (List.getElem?_eq_some_iff.1 hx).1
    have hv : s[k]? = some (s[k]'(by omega)) := by simp [show k < s.length by omega]
    generalize s[k]'(by omega) = v at hv
    have hb := hs.lv.get hv
    refine ⟨decide (1 ≤ x ∧ x ≤ full v), ?_, ?_⟩
    · rw [decide_eq_true_eq]
      constructor
      · intro h1 w hw; rw [hv] at hw; obtain rfl := Option.some.inj hw; exact h1
      · intro h1; exact h1 v hv
    · simp only [impl_isEdit_l1, lt_ok hx, at_ok hx, at_ok hv, cond_true, Option.bind_some, fullSet_eq (v := v) (by omega), nx_ok hx (show e.Sets.length ≤ 9223372036854775807 by omega)]
      by_cases h1 : x < 1
      · rw [decide_eq_true h1, decide_eq_false (show ¬ (1 ≤ x ∧ x ≤ full v) by omega)]; rfl
      · rw [decide_eq_false h1]
        by_cases h2 : full v < x
        · rw [decide_eq_true h2, decide_eq_false (show ¬ (1 ≤ x ∧ x ≤ full v) by omega)]; rfl
        · rw [decide_eq_false h2, decide_eq_true (show 1 ≤ x ∧ x ≤ full v by omega)]; rfl
  · rw [show ((e.Sets.length : Int) != (s.length : Int)) = true by simp; omega]
    exact ⟨false, rfl, by simp [h]⟩

theorem eGood_bis {s : List impl_Variable} {e : impl_Edit} (hs : OkS s) : Bis (spec_eGood s e) (OkE s e) := by
  unfold spec_eGood OkE
  simp only [goLen]
  by_cases h : e.Sets.length = s.length
  · rw [show ((e.Sets.length : Int) != (s.length : Int)) = false by simp [h], cond_false]
    have hsl := hs.2.1
    refine bis_iff (bis_loop (l := e.Sets) (fun k x => ∀ v, s[k]? = some v → 1 ≤ x ∧ x ≤ full v) (fun k x hx => ?_) (by simp only [spec_eGood_l1, lt_end, cond_false])) ⟨fun h1 => ⟨h, fun k v x hv hx => h1 k x hx v hv⟩, fun h1 k x hx v hv => h1.2 k v x hv hx⟩
    have hk := (List.getElem?_eq_some_iff.1 hx).1
    have hv : s[k]? = some (s[k]'(by omega)) := by simp [show k < s.length by omega]
    generalize s[k]'(by omega) = v at hv
    refine ⟨decide (1 ≤ x ∧ x ≤ full v), ?_, ?_⟩
    · rw [decide_eq_true_eq]
      constructor
      · intro h1 w hw; rw [hv] at hw; obtain rfl := Option.some.inj hw; exact h1
      · intro h1; exact h1 v hv
    · simp only [spec_eGood_l1, lt_ok hx, at_ok hx, cond_true, Option.bind_some, eFull_eq hs hv, lIn_eq, nx_ok hx (show e.Sets.length ≤ 9223372036854775807 by omega)]
      cases decide (1 ≤ x ∧ x ≤ full v) <;> rfl
  · rw [show ((e.Sets.length : Int) != (s.length : Int)) = true by simp; omega]
    exact ⟨false, rfl, by simp [h]⟩

def OkEs (s : List impl_Variable) (l : List impl_Edit) : Prop := l.length ≤ 40 ∧ ∀ e ∈ l, OkE s e

theorem areEdits_bis {s : List impl_Variable} {l : List impl_Edit} (hs : OkS s) : Bis (impl_areEdits s l) (OkEs s l) := by
  unfold impl_areEdits OkEs
  simp only [goLen]
  by_cases h : 40 < (l.length : Int)
  · rw [decide_eq_true h]
    exact ⟨false, rfl, by simp only [Bool.false_eq_true, false_iff]; intro h'; omega⟩
  · rw [decide_eq_false h, cond_false]
    refine bis_iff (bis_loop (l := l) (fun _ e => OkE s e) (fun k e he => ?_) (by simp only [impl_areEdits_l1, lt_end, cond_false])) (by rw [all_mem_iff]; exact ⟨fun h1 => ⟨by omega, h1⟩, fun h1 => h1.2⟩)
    obtain ⟨b, eb, hb⟩ := isEdit_bis (e := e) hs
    refine ⟨b, hb, ?_⟩
    simp only [impl_areEdits_l1, lt_ok he, at_ok he, cond_true, Option.bind_some, eb, nx_ok he (show l.length ≤ 9223372036854775807 by omega)]
    cases b <;> rfl

theorem eList_bis {s : List impl_Variable} {l : List impl_Edit} (ht : TameS s) : Bis (spec_eList s l) (OkS s ∧ OkEs s l) := by
  unfold spec_eList OkEs
  obtain ⟨b1, e1, h1⟩ := sGood_bis ht
  rw [e1]
  cases b1 with
  | false => exact ⟨false, rfl, by simp only [Bool.false_eq_true, false_iff]; intro h; have := h1.2 h.1; cases this⟩
  | true =>
    have hs := h1.1 rfl
    simp only [Option.bind_some, Bool.not_true, cond_false, goLen]
    by_cases h : 40 < (l.length : Int)
    · rw [decide_eq_true h]
      exact ⟨false, rfl, by simp only [Bool.false_eq_true, false_iff]; intro h'; omega⟩
    · rw [decide_eq_false h]
      simp only [cond_false]
      refine bis_iff (bis_loop (l := l) (fun _ e => OkE s e) (fun k e he => ?_) (by simp only [spec_eList_l1, lt_end, cond_false])) (by rw [all_mem_iff]; exact ⟨fun h1 => ⟨hs, by omega, h1⟩, fun h1 => h1.2.2⟩)
      obtain ⟨b, eb, hb⟩ := eGood_bis (e := e) hs
      refine ⟨b, hb, ?_⟩
      simp only [spec_eList_l1, lt_ok he, at_ok he, cond_true, Option.bind_some, eb, nx_ok he (show l.length ≤ 9223372036854775807 by omega)]
      cases b <;> rfl

/-! ## failing -/
def FailP (e : impl_Edit) (V : List Int) : Prop := ∀ (k : Nat) (x : Int), V[k]? = some x → ∀ y, e.Sets[k]? = some y → bit y x = true

open Classical in
noncomputable def fl (e : impl_Edit) (V : List Int) : Bool := decide (FailP e V)

theorem bis_fl {x : Option Bool} {e : impl_Edit} {V : List Int} (h : Bis x (FailP e V)) : x = some (fl e V) := by
  obtain ⟨b, rfl, hb⟩ := h
  congr 1
  unfold fl
  rw [Bool.eq_iff_iff, hb]
  exact ⟨fun h => @decide_eq_true (FailP e V) (Classical.propDecidable _) h, fun h => @of_decide_eq_true (FailP e V) (Classical.propDecidable _) h⟩

theorem fails_eq {s : List impl_Variable} {e : impl_Edit} {V : List Int} (hs : OkS s) (he : OkE s e) (hV : OkV s V) : impl_fails e V = some (fl e V) := by
  have hsl := hs.2.1; have hel := he.1; have hVl := hV.1
  refine bis_fl ?_
  unfold impl_fails
  refine bis_loop (l := V) (fun k x => ∀ y, e.Sets[k]? = some y → bit y x = true) (fun k x hx => ?_) (by simp only [impl_fails_l1, lt_end, cond_false])
  have hk := (List.getElem?_eq_some_iff.1 hx).1
  have hy : e.Sets[k]? = some (e.Sets[k]'(by omega)) := by simp [show k < e.Sets.length by omega]
  have hv : s[k]? = some (s[k]'(by omega)) := by simp [show k < s.length by omega]
  generalize e.Sets[k]'(by omega) = y at hy
  have hb := hV.2 k _ x hv hx
  refine ⟨bit y x, ⟨fun h z hz => by rw [hy] at hz; obtain rfl := Option.some.inj hz; exact h, fun h => h y hy⟩, ?_⟩
  simp only [impl_fails_l1, lt_ok hx, at_ok hx, at_ok hy, cond_true, Option.bind_some, shr_eq hb.1, nx_ok hx (show V.length ≤ 9223372036854775807 by omega)]
  unfold bit
  cases goBits .and .i64 (y.fdiv (2 ^ min x.toNat (IntKind.bits .i64))) 1 == 0 <;> rfl

theorem eFails_eq {s : List impl_Variable} {e : impl_Edit} {V : List Int} (hs : OkS s) (he : OkE s e) (hV : OkV s V) : spec_eFails e V = some (fl e V) := by
  have hsl := hs.2.1; have hel := he.1; have hVl := hV.1
  refine bis_fl ?_
  unfold spec_eFails
  refine bis_loop (l := V) (fun k x => ∀ y, e.Sets[k]? = some y → bit y x = true) (fun k x hx => ?_) (by simp only [spec_eFails_l1, lt_end, cond_false])
  have hk := (List.getElem?_eq_some_iff.1 hx).1
  have hy : e.Sets[k]? = some (e.Sets[k]'(by omega)) := by simp [show k < e.Sets.length by omega]
  have hv : s[k]? = some (s[k]'(by omega)) := by simp [show k < s.length by omega]
  generalize e.Sets[k]'(by omega) = y at hy
  have hb := hV.2 k _ x hv hx
  have hlv := hs.lv.get hv
  refine ⟨bit y x, ⟨fun h z hz => by rw [hy] at hz; obtain rfl := Option.some.inj hz; exact h, fun h => h y hy⟩, ?_⟩
  simp only [spec_eFails_l1, lt_ok hx, at_ok hx, at_ok hy, cond_true, Option.bind_some, nx_ok hx (show V.length ≤ 9223372036854775807 by omega)]
  rw [Go.IntWalk.u64_in _ ⟨by omega, by omega⟩, shr_eq hb.1, Option.bind_some]
  unfold bit
  cases goBits .and .i64 (y.fdiv (2 ^ min x.toNat (IntKind.bits .i64))) 1 == 0 <;> rfl

/-- the edits that fail -/
noncomputable def selE (l : List impl_Edit) (V : List Int) (k : Nat) : Bool := match l[k]? with
  | some e => fl e V
  | none => false

noncomputable def fld (l : List impl_Edit) (V : List Int) : List Int := picks (selE l V) (fun k => (k : Int)) l.length

theorem selE_at {l : List impl_Edit} {V : List Int} {k : Nat} {e : impl_Edit} (h : l[k]? = some e) : selE l V k = fl e V := by unfold selE; rw [h]

theorem eFailed_eq {s : List impl_Variable} {l : List impl_Edit} {V : List Int} (hs : OkS s) (hl : OkEs s l) (hV : OkV s V) : spec_eFailed l V = some (fld l V) := by
  have hn := hl.1
  unfold spec_eFailed fld
  rw [loop_sel (n := l.length) (selE l V) (fun k => (k : Int)) (fun out k hk ho => ?_) (fun out => by simp only [spec_eFailed_l1, lt_end, cond_false])]
  · rfl
  · have hx : l[k]? = some l[k] := by simp [hk]
    generalize l[k] = e at hx
    simp only [spec_eFailed_l1, lt_ok hx, at_ok hx, cond_true, Option.bind_some, eFails_eq hs (hl.2 e (List.mem_of_getElem? hx)) hV, selE_at hx, nx_ok hx (show l.length ≤ 9223372036854775807 by omega)]
    cases fl e V
    · rfl
    · rw [cond_true, goApp_ok (by simp; omega)]; rfl

theorem FailedEdits_ok {s : List impl_Variable} {l : List impl_Edit} {V : List Int} (ht : TameS s) (hs : OkS s) (hl : OkEs s l) (hV : OkV s V) : impl_FailedEdits s l V = some (fld l V, true) := by
  have hn := hl.1
  obtain ⟨b1, e1, h1⟩ := IsSchema_bis ht
  obtain ⟨b2, e2, h2⟩ := areEdits_bis (l := l) hs
  obtain ⟨b3, e3, h3⟩ := areValues_bis (s := s) (l := V) (by have := hV.1; have := hs.2.1; omega)
  unfold impl_FailedEdits
  rw [e1, h1.2 hs, e2, h2.2 hl, e3, h3.2 hV]
  simp only [Option.bind_some, Bool.not_true, cond_false]
  unfold fld
  rw [loop_sel (n := l.length) (selE l V) (fun k => (k : Int)) (fun out k hk ho => ?_) (fun out => by simp only [impl_FailedEdits_l1, lt_end, cond_false])]
  · rfl
  · have hx : l[k]? = some l[k] := by simp [hk]
    generalize l[k] = e at hx
    simp only [impl_FailedEdits_l1, lt_ok hx, at_ok hx, cond_true, Option.bind_some, fails_eq hs (hl.2 e (List.mem_of_getElem? hx)) hV, selE_at hx, nx_ok hx (show l.length ≤ 9223372036854775807 by omega)]
    cases fl e V
    · rfl
    · rw [cond_true, goApp_ok (by simp; omega)]; rfl

/-- the values pass -/
noncomputable def psd (l : List impl_Edit) (V : List Int) : Bool := (goLen (fld l V)) == 0

theorem psd_iff {l : List impl_Edit} {V : List Int} : psd l V = true ↔ ∀ k, k < l.length → selE l V k = false := by
  unfold psd goLen fld
  rw [beq_iff_eq]
  constructor
  · intro h k hk
    cases hs : selE l V k with
    | false => rfl
    | true =>
      have hm : (k : Int) ∈ picks (selE l V) (fun k => (k : Int)) l.length := mem_picks.2 ⟨k, hk, hs, rfl⟩
      have := List.length_pos_of_mem hm
      omega
  · intro h
    cases hp : picks (selE l V) (fun k => (k : Int)) l.length with
    | nil => rfl
    | cons a r =>
      obtain ⟨k, hk, hs, _⟩ := mem_picks.1 (show a ∈ picks (selE l V) (fun k => (k : Int)) l.length by rw [hp]; simp)
      rw [h k hk] at hs; cases hs

theorem failsOne_eq {s : List impl_Variable} {l : List impl_Edit} {V : List Int} (hs : OkS s) (hl : OkEs s l) (hV : OkV s V) : impl_failsOne l V = some (!psd l V) := by
  have hn := hl.1
  unfold impl_failsOne
  obtain ⟨b, hb, e⟩ := loop_find (l := l) (body := impl_failsOne_l1 l V) (fun _ e => fl e V = true) true (fun k e he => ⟨fl e V, Iff.rfl, by
    simp only [impl_failsOne_l1, lt_ok he, at_ok he, cond_true, Option.bind_some, fails_eq hs (hl.2 e (List.mem_of_getElem? he)) hV, nx_ok he (show l.length ≤ 9223372036854775807 by omega)]
    cases fl e V <;> rfl⟩) (by simp only [impl_failsOne_l1, lt_end, cond_false])
  rw [e]
  have : b = !psd l V := by
    rw [Bool.eq_iff_iff, hb, Bool.not_eq_true', ← Bool.not_eq_true, psd_iff]
    constructor
    · rintro ⟨k, e, he, hf⟩ h
      have := h k (List.getElem?_eq_some_iff.1 he).1
      rw [selE_at he, hf] at this; cases this
    · intro h
      refine Classical.byContradiction fun hn => h fun k hk => ?_
      have hx : l[k]? = some l[k] := by simp [hk]
      rw [selE_at hx]
      cases hf : fl l[k] V with
      | false => rfl
      | true => exact absurd ⟨k, _, hx, hf⟩ hn
  rw [← this]
  cases b <;> rfl

/-! ## the values that pass -/
noncomputable def pk (s : List impl_Variable) (l : List impl_Edit) (n : Nat) : List Nat := picks (fun i => psd l (up (dig (tops s) i))) (fun i => i) n

noncomputable def frs (s : List impl_Variable) (L : List Nat) : List Int := match L.head? with
  | some i => up (dig (tops s) i)
  | none => []

theorem pk_step (s : List impl_Variable) (l : List impl_Edit) (n : Nat) : pk s l (n + 1) = cond (psd l (up (dig (tops s) n))) (pk s l n ++ [n]) (pk s l n) := rfl

theorem vals_ok {s : List impl_Variable} (hs : OkS s) {i : Nat} (hi : i < cnt (tops s)) : OkV s (up (dig (tops s) i)) := OkV.of_vx hs.lv (dig_ok hi)

theorem ne_up {s : List impl_Variable} (hs : OkS s) (i : Nat) : goNE (up (dig (tops s) i)) = some () := by
  unfold goNE
  have h1 := hs.1
  have : (up (dig (tops s) i)).length = s.length := by rw [up_len, dig_len, tops_len]
  cases h : up (dig (tops s) i) with
  | nil => rw [h] at this; simp at this; omega
  | cons a r => rfl

theorem first_eq {s : List impl_Variable} {l : List impl_Edit} (hs : OkS s) (hl : OkEs s l) : impl_passing_of_impl_FirstPassing_1 s l [] = some (frs s (pk s l (cnt (tops s)))) := by
  have hc := hs.lv.cnt_le 0
  simp only [List.drop_zero] at hc
  unfold impl_passing_of_impl_FirstPassing_1
  rw [combinations_eq hs.lv, Option.bind_some]
  have key : ∀ (j k : Nat), k + j = cnt (tops s) → pk s l k = [] → (loopC (impl_passing_of_impl_FirstPassing_1_l1 s l (cnt (tops s) : Int)) ((k : Int), []) = some (.inl []) ∧ pk s l (cnt (tops s)) = []) ∨ loopC (impl_passing_of_impl_FirstPassing_1_l1 s l (cnt (tops s) : Int)) ((k : Int), []) = some (.inr (frs s (pk s l (cnt (tops s))))) := by
    intro j
    induction j with
    | zero =>
      intro k hk hp
      obtain rfl : k = cnt (tops s) := by omega
      rw [loopC_eq]
      simp only [impl_passing_of_impl_FirstPassing_1_l1]
      rw [decide_eq_false (by omega)]
      exact .inl ⟨rfl, hp⟩
    | succ j ih =>
      intro k hk hp
      have hkl : k < cnt (tops s) := by omega
      rw [loopC_eq]
      simp only [impl_passing_of_impl_FirstPassing_1_l1]
      rw [decide_eq_true (show (k : Int) < (cnt (tops s) : Int) by omega), cond_true, valuesAt_eq hs.lv hkl, Option.bind_some, failsOne_eq hs hl (vals_ok hs hkl), Option.bind_some, Bool.not_not]
      cases hb : psd l (up (dig (tops s) k)) with
      | false =>
        simp only [cond_false, Option.bind_some]
        rw [wid (by omega) (by omega)]
        exact ih (k + 1) (by omega) (by rw [pk_step, hb]; exact hp)
      | true =>
        right
        unfold impl_FirstPassing_1
        rw [cond_true, ne_up hs]
        simp only [Option.bind_some, Bool.not_false, cond_true]
        congr 2
        have h1 : pk s l (k + 1) = [k] := by rw [pk_step, hb, hp]; rfl
        have h2 : ∀ n, k + 1 ≤ n → (pk s l n).head? = some k := by
          intro n
          induction n with
          | zero => intro h; omega
          | succ n ihn =>
            intro hn
            by_cases hkn : n = k
            · subst hkn; rw [h1]; rfl
            · have := ihn (by omega)
              rw [pk_step]
              cases psd l (up (dig (tops s) n))
              · exact this
              · rw [cond_true, List.head?_append, this]; rfl
        unfold frs
        rw [h2 _ (by omega)]
  have h := key (cnt (tops s)) 0 (by omega) rfl
  rw [show ((0 : Nat) : Int) = 0 from rfl] at h
  rcases h with ⟨e, h⟩ | e
  · rw [e, h]; rfl
  · rw [e]; rfl

theorem count_eq {s : List impl_Variable} {l : List impl_Edit} (hs : OkS s) (hl : OkEs s l) : impl_passing_of_impl_CountPassing_1 s l 0 = some ((pk s l (cnt (tops s))).length : Int) := by
  have hc := hs.lv.cnt_le 0
  simp only [List.drop_zero] at hc
  unfold impl_passing_of_impl_CountPassing_1
  rw [combinations_eq hs.lv, Option.bind_some]
  have key : loopC (impl_passing_of_impl_CountPassing_1_l1 s l (cnt (tops s) : Int)) (0, 0) = some (.inl ((pk s l (cnt (tops s))).length : Int)) := by
    refine tot_eq (tot_loop (fun z => ∃ k : Nat, z = ((k : Int), ((pk s l k).length : Int)) ∧ k ≤ cnt (tops s)) (fun z => cnt (tops s) - z.1.toNat) ⟨0, rfl, by omega⟩ ?_)
    rintro _ ⟨k, rfl, hk⟩
    have hpl : (pk s l k).length ≤ k := picks_len k
    simp only [impl_passing_of_impl_CountPassing_1_l1]
    refine tot_cond (fun hc => ?_) fun hc => tot_some ?_
    · have hkl : k < cnt (tops s) := by have : (k : Int) < (cnt (tops s) : Int) := by simpa using hc
                                        omega
      rw [valuesAt_eq hs.lv hkl, Option.bind_some, failsOne_eq hs hl (vals_ok hs hkl), Option.bind_some, Bool.not_not]
      cases hb : psd l (up (dig (tops s) k)) with
      | false =>
        simp only [cond_false, Option.bind_some]
        exact tot_some ⟨⟨k + 1, by rw [wid (by omega) (by omega), pk_step, hb]; simp, by omega⟩, by simp only; rw [wid (by omega) (by omega)]; omega⟩
      | true =>
        unfold impl_CountPassing_1
        simp only [cond_true, Option.bind_some, Bool.not_true, cond_false]
        exact tot_some ⟨⟨k + 1, by rw [wid (by omega) (by omega), wid (by omega) (by omega), pk_step, hb]; simp, by omega⟩, by simp only; rw [wid (n := (k : Int) + 1) (by omega) (by omega)]; omega⟩
    · have hc' : ¬ (k : Int) < (cnt (tops s) : Int) := by simpa using hc
      obtain rfl : k = cnt (tops s) := by omega
      rfl
  rw [key]
  rfl

theorem ePassing_eq {s : List impl_Variable} {l : List impl_Edit} (hs : OkS s) (hl : OkEs s l) : spec_ePassing s l = some (((pk s l (cnt (tops s))).length : Int), frs s (pk s l (cnt (tops s)))) := by
  have hc := hs.lv.cnt_le 0
  simp only [List.drop_zero] at hc
  unfold spec_ePassing
  have key : loopC (spec_ePassing_l1 s l) (0, [], 0) = some (((pk s l (cnt (tops s))).length : Int), frs s (pk s l (cnt (tops s)))) := by
    refine tot_eq (tot_loop (fun z => ∃ k : Nat, z = (((pk s l k).length : Int), frs s (pk s l k), (k : Int)) ∧ k ≤ cnt (tops s)) (fun z => cnt (tops s) - z.2.2.toNat) ⟨0, rfl, by omega⟩ ?_)
    rintro _ ⟨k, rfl, hk⟩
    have hpl : (pk s l k).length ≤ k := picks_len k
    simp only [spec_ePassing_l1]
    rw [sCount_eq hs.lv, Option.bind_some]
    refine tot_cond (fun hc => ?_) fun hc => tot_some ?_
    · have hkl : k < cnt (tops s) := by have : (k : Int) < (cnt (tops s) : Int) := by simpa using hc
                                        omega
      rw [sAt_eq hs.lv hkl, Option.bind_some, eFailed_eq hs hl (vals_ok hs hkl), Option.bind_some, show (goLen (fld l (up (dig (tops s) k))) == 0) = psd l (up (dig (tops s) k)) from rfl]
      cases hb : psd l (up (dig (tops s) k)) with
      | false =>
        simp only [cond_false, Option.bind_some]
        exact tot_some ⟨⟨k + 1, by rw [wid (by omega) (by omega), pk_step, hb]; simp, by omega⟩, by simp only; rw [wid (by omega) (by omega)]; omega⟩
      | true =>
        have hf : (cond (((pk s l k).length : Int) == 0) (some (up (dig (tops s) k))) (some (frs s (pk s l k))) : Option (List Int)) = some (frs s (pk s l (k + 1))) := by
          rw [pk_step, hb, cond_true]
          cases hp : pk s l k with
          | nil => rfl
          | cons a r =>
            rw [show (((a :: r).length : Int) == 0) = false by simp; omega]
            rfl
        simp only [cond_true]
        rw [hf, Option.bind_some, Option.bind_some]
        exact tot_some ⟨⟨k + 1, by rw [wid (by omega) (by omega), wid (by omega) (by omega)]; rw [show ((pk s l (k + 1)).length : Int) = (pk s l k).length + 1 by rw [pk_step, hb]; simp]; simp, by omega⟩, by simp only; rw [wid (n := (k : Int) + 1) (by omega) (by omega)]; omega⟩
    · have hc' : ¬ (k : Int) < (cnt (tops s) : Int) := by simpa using hc
      obtain rfl : k = cnt (tops s) := by omega
      rfl
  rw [key]
  rfl

/-- both say the same of a list of edits -/
theorem Passing_same {s : List impl_Variable} {l : List impl_Edit} (ht : TameS s) :
    (impl_FirstPassing s l = some ([], false) ∧ spec_FirstPassing s l = some ([], false) ∧ impl_CountPassing s l = some (0, false) ∧ spec_CountPassing s l = some (0, false)) ∨
    (OkS s ∧ OkEs s l ∧ ∃ L : List Nat, (∀ i ∈ L, i < cnt (tops s) ∧ psd l (up (dig (tops s) i)) = true) ∧ impl_FirstPassing s l = some (frs s L, decide (0 < (L.length : Int))) ∧ spec_FirstPassing s l = some (frs s L, decide (0 < (L.length : Int))) ∧ impl_CountPassing s l = some ((L.length : Int), true) ∧ spec_CountPassing s l = some ((L.length : Int), true)) := by
  unfold impl_FirstPassing spec_FirstPassing impl_CountPassing spec_CountPassing
  obtain ⟨b1, f1, g1⟩ := IsSchema_bis ht
  obtain ⟨b3, f3, g3⟩ := eList_bis (l := l) ht
  rw [f1, f3]
  cases b1 with
  | false =>
    cases b3 with
    | false => exact .inl ⟨rfl, rfl, rfl, rfl⟩
    | true => have := g1.2 (g3.1 rfl).1; cases this
  | true =>
    have hs := g1.1 rfl
    obtain ⟨b2, f2, g2⟩ := areEdits_bis (l := l) hs
    simp only [Option.bind_some, Bool.not_true, cond_false]
    rw [f2]
    have hb : b2 = b3 := by rw [Bool.eq_iff_iff, g2, g3]; exact ⟨fun h => ⟨hs, h⟩, fun h => h.2⟩
    subst hb
    cases b2 with
    | false => exact .inl ⟨rfl, rfl, rfl, rfl⟩
    | true =>
      have hl := g2.1 rfl
      simp only [Option.bind_some, Bool.not_true, cond_false]
      rw [combinations_eq hs.lv, sCount_eq hs.lv]
      simp only [Option.bind_some]
      by_cases hbig : 20000 < ((cnt (tops s) : Nat) : Int)
      · rw [decide_eq_true hbig]
        exact .inl ⟨rfl, rfl, rfl, rfl⟩
      · rw [decide_eq_false hbig]
        simp only [cond_false]
        rw [first_eq hs hl, count_eq hs hl, ePassing_eq hs hl]
        refine .inr ⟨hs, hl, pk s l (cnt (tops s)), fun i hi => ?_, ?_, rfl, rfl, rfl⟩
        · obtain ⟨k, hk, hp, rfl⟩ := mem_picks.1 hi
          exact ⟨hk, hp⟩
        · rw [Option.bind_some]
          congr 2
          unfold frs
          cases hp : pk s l (cnt (tops s)) with
          | nil => rfl
          | cons a r =>
            have h1 := hs.1
            have : (up (dig (tops s) a)).length = s.length := by rw [up_len, dig_len, tops_len]
            simp only [List.head?_cons]
            rw [decide_eq_true (show (0 : Int) < ((a :: r).length : Int) by rw [List.length_cons]; omega)]
            cases hu : up (dig (tops s) a) with
            | nil => rw [hu] at this; simp at this; omega
            | cons x y => rfl

/-! ## failures of records -/
noncomputable def cF (l : List impl_Edit) (D : List impl_Record) (i : Nat) : Int := (D.map fun r => if selE l r.Values i then (1 : Int) else 0).sum

theorem cF_le (l : List impl_Edit) (i : Nat) : ∀ D : List impl_Record, 0 ≤ cF l D i ∧ cF l D i ≤ D.length
  | [] => by simp [cF]
  | r :: D => by
    have := cF_le l i D
    unfold cF at *
    rw [List.map_cons, List.sum_cons, List.length_cons]
    split <;> omega

theorem cF_snoc (l : List impl_Edit) (D : List impl_Record) (r : impl_Record) (i : Nat) : cF l (D ++ [r]) i = cF l D i + (if selE l r.Values i then 1 else 0) := by
  unfold cF
  rw [List.map_append, List.sum_append]
  simp

noncomputable def cnts (l : List impl_Edit) (D : List impl_Record) : List Int := (List.range l.length).map (cF l D)

theorem cnts_at {l : List impl_Edit} {D : List impl_Record} {i : Nat} (hi : i < l.length) : (cnts l D)[i]? = some (cF l D i) := by
  unfold cnts
  rw [List.getElem?_map, List.getElem?_range hi]
  rfl

theorem cnts_ext {l : List impl_Edit} {D : List impl_Record} {out : List Int} (hl : out.length = l.length) (h : ∀ i, i < l.length → out[i]? = some (cF l D i)) : out = cnts l D := by
  apply List.ext_getElem?
  intro i
  by_cases hi : i < l.length
  · rw [h i hi, cnts_at hi]
  · rw [List.getElem?_eq_none (by omega), List.getElem?_eq_none (by unfold cnts; simp; omega)]

theorem take_snoc {α : Type} {l : List α} {k : Nat} {x : α} (h : l[k]? = some x) : l.take (k + 1) = l.take k ++ [x] := by
  rw [List.take_add_one, h]; rfl

theorem FailureCounts_loop {s : List impl_Variable} {l : List impl_Edit} {D : List impl_Record} (hs : OkS s) (hl : OkEs s l) (hD : OkD s D) : loopC (impl_FailureCounts_l1 l D) (List.replicate l.length 0, 0) = some (cnts l D) := by
  have hn := hl.1; have hDl := hD.1
  refine tot_eq (tot_loop (fun z => ∃ k : Nat, z.2 = (k : Int) ∧ k ≤ l.length ∧ z.1.length = l.length ∧ (∀ i, i < k → z.1[i]? = some (cF l D i)) ∧ (∀ i, k ≤ i → i < l.length → z.1[i]? = some 0)) (fun z => l.length - z.2.toNat) ⟨0, rfl, by omega, by simp, fun i hi => by omega, fun i _ hi => by rw [List.getElem?_replicate, if_pos hi]⟩ ?_)
  rintro ⟨out, _⟩ ⟨k, rfl, hk, hol, h1, h2⟩
  simp only at hol h1 h2
  simp only [impl_FailureCounts_l1]
  refine tot_cond (fun hc => ?_) fun hc => tot_some ?_
  · have hkl : k < l.length := by have : (k : Int) < (l.length : Int) := by simpa [goLen] using hc
                                  omega
    have he : l[k]? = some l[k] := by simp [hkl]
    generalize l[k] = e at he
    have hoe := hl.2 e (List.mem_of_getElem? he)
    rw [at_ok he, Option.bind_some]
    refine tot_bind (Q := fun r => r.length = l.length ∧ (∀ i, i ≠ k → r[i]? = out[i]?) ∧ r[k]? = some (cF l D k)) (tot_loop (fun z => ∃ j : Nat, z.2 = (j : Int) ∧ j ≤ D.length ∧ z.1.length = l.length ∧ (∀ i, i ≠ k → z.1[i]? = out[i]?) ∧ z.1[k]? = some (cF l (D.take j) k)) (fun z => D.length - z.2.toNat) ⟨0, rfl, by omega, hol, fun _ _ => rfl, by rw [List.take_zero]; exact h2 k (by omega) hkl⟩ ?_) fun r ⟨r1, r2, r3⟩ => tot_some ⟨⟨k + 1, by simp only; rw [wid (by omega) (by omega)]; omega, by omega, r1, fun i hi => ?_, fun i hi1 hi2 => by rw [r2 i (by omega)]; exact h2 i (by omega) hi2⟩, by simp only; rw [wid (by omega) (by omega)]; omega⟩
    · rintro ⟨z, _⟩ ⟨j, rfl, hj, hzl, hz1, hz2⟩
      simp only at hzl hz1 hz2
      simp only [impl_FailureCounts_l2]
      refine tot_cond (fun hc => ?_) fun hc => tot_some ?_
      · have hjl : j < D.length := by have : (j : Int) < (D.length : Int) := by simpa [goLen] using hc
                                      omega
        have hr : D[j]? = some D[j] := by simp [hjl]
        generalize D[j] = r at hr
        have hor := hD.2 r (List.mem_of_getElem? hr)
        have hcb := cF_le l k (D.take j)
        have htl : (D.take j).length ≤ 40 := by simp; omega
        rw [at_ok hr, Option.bind_some, fails_eq hs hoe hor.2.2, Option.bind_some, at_ok hz2]
        simp only [Option.bind_some]
        have hstep : ∃ z', (cond (fl e r.Values) (some (goSet z (k : Int) (w64 (cF l (D.take j) k + 1)))) (some z) : Option (List Int)) = some z' ∧ z'.length = l.length ∧ (∀ i, i ≠ k → z'[i]? = out[i]?) ∧ z'[k]? = some (cF l (D.take (j + 1)) k) := by
          rw [take_snoc hr, cF_snoc, selE_at he]
          cases fl e r.Values with
          | false => exact ⟨z, rfl, hzl, hz1, by rw [hz2]; simp⟩
          | true =>
            refine ⟨_, rfl, by show (z.set _ _).length = _; rw [List.length_set, hzl], fun i hi => ?_, ?_⟩
            · show (z.set k _)[i]? = _
              rw [List.getElem?_set_ne (Ne.symm hi)]; exact hz1 i hi
            · show (z.set k _)[k]? = _
              rw [wid (by omega) (by omega)]
              simp [show k < z.length by omega]
        obtain ⟨z', e1, q1, q2, q3⟩ := hstep
        rw [e1, Option.bind_some]
        exact tot_some ⟨⟨j + 1, by simp only; rw [wid (by omega) (by omega)]; omega, by omega, q1, q2, q3⟩, by simp only; rw [wid (by omega) (by omega)]; omega⟩
      · have hc' : ¬ (j : Int) < (D.length : Int) := by simpa [goLen] using hc
        obtain rfl : j = D.length := by omega
        exact ⟨hzl, hz1, by rw [List.take_length] at hz2; exact hz2⟩
    · by_cases hik : i = k
      · subst hik; exact r3
      · rw [r2 i hik]; exact h1 i (by omega)
  · have hc' : ¬ (k : Int) < (l.length : Int) := by simpa [goLen] using hc
    obtain rfl : k = l.length := by omega
    exact cnts_ext hol h1

theorem specCounts_loop {s : List impl_Variable} {l : List impl_Edit} {D : List impl_Record} (hs : OkS s) (hl : OkEs s l) (hD : OkD s D) : loopC (spec_FailureCounts_l1 l D) (List.replicate l.length 0, 0) = some (cnts l D) := by
  have hn := hl.1; have hDl := hD.1
  refine tot_eq (tot_loop (fun z => ∃ k : Nat, z = (cnts l (D.take k), (k : Int)) ∧ k ≤ D.length) (fun z => D.length - z.2.toNat) ⟨0, ?_, by omega⟩ ?_)
  · congr 1
    exact cnts_ext (by simp) fun i hi => by rw [List.getElem?_replicate, if_pos hi]; rfl
  · rintro _ ⟨k, rfl, hk⟩
    simp only [spec_FailureCounts_l1]
    refine tot_cond (fun hc => ?_) fun hc => tot_some ?_
    · have hkl : k < D.length := by have : (k : Int) < (D.length : Int) := by simpa [goLen] using hc
                                    omega
      have hr : D[k]? = some D[k] := by simp [hkl]
      generalize D[k] = r at hr
      have hor := hD.2 r (List.mem_of_getElem? hr)
      have hfl : (fld l r.Values).length ≤ l.length := picks_len _
      rw [at_ok hr, Option.bind_some, eFailed_eq hs hl hor.2.2, Option.bind_some]
      have hmem : ∀ (j : Nat) (x : Int), (fld l r.Values)[j]? = some x → ∃ i : Nat, i < l.length ∧ selE l r.Values i = true ∧ x = (i : Int) := by
        intro j x hx
        obtain ⟨i, h1, h2, h3⟩ := mem_picks.1 (List.mem_of_getElem? hx)
        exact ⟨i, h1, h2, h3.symm⟩
      refine tot_bind (Q := fun o => o = cnts l (D.take (k + 1))) (tot_loop (fun z => ∃ j : Nat, z.2 = (j : Int) ∧ j ≤ (fld l r.Values).length ∧ z.1.length = l.length ∧ ∀ i, i < l.length → z.1[i]? = some (cF l (D.take k) i + (if (i : Int) ∈ (fld l r.Values).take j then 1 else 0))) (fun z => (fld l r.Values).length - z.2.toNat) ⟨0, rfl, by omega, by simp [cnts], fun i hi => by rw [cnts_at hi]; simp⟩ ?_) fun o ho => tot_some ⟨⟨k + 1, by rw [ho, wid (by omega) (by omega)]; simp, by omega⟩, by simp only; rw [wid (by omega) (by omega)]; omega⟩
      rintro ⟨z, _⟩ ⟨j, rfl, hj, hzl, hz⟩
      simp only at hzl hz
      simp only [spec_FailureCounts_l2]
      refine tot_cond (fun hc => ?_) fun hc => tot_some ?_
      · have hjl : j < (fld l r.Values).length := by have : (j : Int) < ((fld l r.Values).length : Int) := by simpa [goLen] using hc
                                                     omega
        have hx : (fld l r.Values)[j]? = some (fld l r.Values)[j] := by simp [hjl]
        generalize (fld l r.Values)[j] = x at hx
        obtain ⟨i, hi, hsel, rfl⟩ := hmem j x hx
        have hnot : (i : Int) ∉ (fld l r.Values).take j := by
          intro hm
          obtain ⟨j', hj'⟩ := List.getElem?_of_mem hm
          have hjl' := (List.getElem?_eq_some_iff.1 hj').1
          simp at hjl'
          rw [List.getElem?_take_of_lt (by omega)] at hj'
          have := picks_lt (show j' < j by omega) hj' hx
          omega
        have hzi := hz i hi
        rw [if_neg hnot, Int.add_zero] at hzi
        have hcb := cF_le l i (D.take k)
        have htl : (D.take k).length ≤ 40 := by simp; omega
        rw [at_ok hx, Option.bind_some, at_ok hzi, Option.bind_some, Option.bind_some, wid (n := cF l (D.take k) i + 1) (by omega) (by omega)]
        refine tot_some ⟨⟨j + 1, by simp only; rw [wid (by omega) (by omega)]; omega, by omega, by show (z.set _ _).length = _; rw [List.length_set, hzl], fun i' hi' => ?_⟩, by simp only; rw [wid (by omega) (by omega)]; omega⟩
        show (z.set i _)[i']? = _
        rw [take_snoc hx]
        by_cases hii : i' = i
        · subst hii
          rw [if_pos (by simp)]
          simp [show i' < z.length by omega]
        · rw [List.getElem?_set_ne (Ne.symm hii), hz i' hi']
          have : ((i' : Int) ∈ (fld l r.Values).take j ++ [(i : Int)]) ↔ ((i' : Int) ∈ (fld l r.Values).take j) := by
            simp only [List.mem_append, List.mem_singleton]
            constructor
            · rintro (h | h)
              · exact h
              · omega
            · exact .inl
          by_cases hm : (i' : Int) ∈ (fld l r.Values).take j
          · rw [if_pos hm, if_pos (this.2 hm)]
          · rw [if_neg hm, if_neg fun h => hm (this.1 h)]
      · have hc' : ¬ (j : Int) < ((fld l r.Values).length : Int) := by simpa [goLen] using hc
        obtain rfl : j = (fld l r.Values).length := by omega
        refine cnts_ext hzl fun i hi => ?_
        rw [hz i hi, take_snoc hr, cF_snoc, List.take_length]
        congr 2
        have : ((i : Int) ∈ fld l r.Values) ↔ selE l r.Values i = true := by
          unfold fld
          rw [mem_picks]
          constructor
          · rintro ⟨i', _, h, e⟩; obtain rfl : i' = i := by omega
            exact h
          · intro h; exact ⟨i, hi, h, rfl⟩
        by_cases hm : selE l r.Values i = true
        · rw [if_pos (this.2 hm), if_pos hm]
        · rw [if_neg fun h => hm (this.1 h), if_neg hm]
    · have hc' : ¬ (k : Int) < (D.length : Int) := by simpa [goLen] using hc
      obtain rfl : k = D.length := by omega
      rw [List.take_length]

theorem Counts_same {s : List impl_Variable} {l : List impl_Edit} {D : List impl_Record} (ht : TameS s) (hD : TameD D) :
    (impl_FailureCounts s l D = some ([], false) ∧ spec_FailureCounts s l D = some ([], false)) ∨
    (OkS s ∧ OkEs s l ∧ OkD s D ∧ impl_FailureCounts s l D = some (cnts l D, true) ∧ spec_FailureCounts s l D = some (cnts l D, true)) := by
  unfold impl_FailureCounts spec_FailureCounts
  obtain ⟨b1, f1, g1⟩ := IsSchema_bis ht
  obtain ⟨b3, f3, g3⟩ := eList_bis (l := l) ht
  rw [f1, f3]
  cases b1 with
  | false =>
    cases b3 with
    | false => exact .inl ⟨rfl, rfl⟩
    | true => have := g1.2 (g3.1 rfl).1; cases this
  | true =>
    have hs := g1.1 rfl
    obtain ⟨b2, f2, g2⟩ := areEdits_bis (l := l) hs
    simp only [Option.bind_some, Bool.not_true, cond_false]
    rw [f2]
    have hb : b2 = b3 := by rw [Bool.eq_iff_iff, g2, g3]; exact ⟨fun h => ⟨hs, h⟩, fun h => h.2⟩
    subst hb
    cases b2 with
    | false => exact .inl ⟨rfl, rfl⟩
    | true =>
      have hl := g2.1 rfl
      have hn := hl.1
      obtain ⟨b4, f4, f4', g4⟩ := bis_same (isData_bis (s := s) hD) (dGood_bis hs hD)
      simp only [Option.bind_some, Bool.not_true, cond_false]
      rw [f4, f4']
      cases b4 with
      | false => exact .inl ⟨rfl, rfl⟩
      | true =>
        have hd := g4.1 rfl
        simp only [Option.bind_some, Bool.not_true, cond_false, goLen]
        rw [goMake_ok (by omega) (by omega)]
        simp only [Option.bind_some]
        rw [FailureCounts_loop hs hl hd, specCounts_loop hs hl hd]
        exact .inr ⟨hs, hl, hd, rfl, rfl⟩

/-! ## both sums are the same -/
theorem fld_sg (l : List impl_Edit) (V : List Int) : ((fld l V).length : Int) = sg (fun i => if selE l V i then 1 else 0) l.length := by
  unfold fld
  generalize l.length = n
  induction n with
  | zero => rfl
  | succ n ih =>
    rw [picks, sg, ← ih]
    cases selE l V n <;> simp

theorem pSum_eq {l : List Int} (hl : l.length ≤ 1000) (hb : ∀ x ∈ l, 0 ≤ x ∧ x ≤ 1000) : laws_pSum l = some l.sum := by
  unfold laws_pSum
  have := loop_fold (l := l) (fun out x => out + x) (fun k out => 0 ≤ out ∧ out ≤ 1000 * (k : Int)) (fun out : Int => out) (body := laws_pSum_l1 l) (s := 0) (fun out k x hx hI => by
    have hx2 := hb x (List.mem_of_getElem? hx)
    have hk := (List.getElem?_eq_some_iff.1 hx).1
    refine ⟨?_, by omega⟩
    simp only [laws_pSum_l1, lt_ok hx, at_ok hx, cond_true, Option.bind_some, nx_ok hx (show l.length ≤ 9223372036854775807 by omega)]
    rw [wid (by omega) (by omega)]) (fun out _ => by simp only [laws_pSum_l1, lt_end, cond_false]) ⟨by omega, by omega⟩
  rw [this.1]
  have hf : ∀ (l : List Int) (a : Int), l.foldl (fun out x => out + x) a = a + l.sum := by
    intro l
    induction l with
    | nil => intro a; simp
    | cons x l ih => intro a; rw [List.foldl_cons, ih, List.sum_cons]; omega
  rw [hf, Option.bind_some, Int.zero_add]

theorem sum_sg (f : Nat → Int) : ∀ n, ((List.range n).map f).sum = sg f n
  | 0 => rfl
  | n + 1 => by rw [List.range_succ, List.map_append, List.sum_append, sum_sg f n, sg]; simp

theorem sums_eq (l : List impl_Edit) : ∀ D : List impl_Record, (D.map fun r => ((fld l r.Values).length : Int)).sum = sg (cF l D) l.length
  | [] => by
    rw [sg_congr (g := cF l []) (h := fun _ => 0) fun k _ => rfl, sg_zero]; rfl
  | r :: D => by
    rw [List.map_cons, List.sum_cons, sums_eq l D, fld_sg, ← sg_add]
    exact sg_congr fun k _ => by unfold cF; rw [List.map_cons, List.sum_cons]

/-! ## what is drawn -/
def SmallE (e : impl_Edit) : Prop := e.Sets.length ≤ 10

theorem tedit {B : Nat} {c : spec_l1Cur} {s : List impl_Variable} (h : Cur B c) (hs : OkS s) (hB : B ≤ 100000 := by omega) : Tot (spec_l1Cur_edit c s) fun r => r.1.Sets.length = s.length ∧ Cur (B + 30) r.2 := by
  have hsl := hs.2.1
  unfold spec_l1Cur_edit
  refine tot_bind (Q := fun r => r.1.Sets.length = s.length ∧ Cur (B + 30) r.2) (tot_loop (fun t => ∃ k : Nat, t.1 = (k : Int) ∧ k ≤ s.length ∧ t.2.1.Sets.length = k ∧ Cur (B + 4 * k) t.2.2) (fun t => s.length - t.1.toNat) ⟨0, rfl, by omega, rfl, h.le (by omega)⟩ ?_) fun ⟨e, c3⟩ ⟨h1, h2⟩ => tot_some ⟨h1, h2⟩
  rintro ⟨_, e, c3⟩ ⟨k, rfl, hk, he, kc⟩
  simp only at he kc
  simp only [spec_l1Cur_edit_l1]
  refine tot_cond (fun hc => ?_) fun hc => tot_some ⟨?_, kc.le (by omega)⟩
  · have hkl : k < s.length := by have : (k : Int) < (s.length : Int) := by simpa [goLen] using hc
                                  omega
    have hv : s[k]? = some s[k] := by simp [hkl]
    generalize s[k] = v at hv
    have hf := full_le2 (hs.lv.get hv)
    rw [eFull_eq hs hv, Option.bind_some]
    refine tot_bind (tone kc) fun ⟨y, c4⟩ k4 => ?_
    simp only at k4
    refine tot_bind (Q := fun r => Cur (B + 4 * (k + 1)) r.2) (tot_cond (fun _ => tot_bind (tpick k4) fun ⟨x, c5⟩ ⟨_, _, _, k5⟩ => tot_some (k5.le (by omega))) fun _ => tot_some (k4.le (by omega))) fun ⟨x, c5⟩ k5 => ?_
    simp only at k5
    rw [goApp_ok (by simp; omega), Option.bind_some]
    exact tot_some ⟨⟨k + 1, by simp only; rw [wid (by omega) (by omega)]; omega, by omega, by simp; omega, k5⟩, by simp only; rw [wid (by omega) (by omega)]; omega⟩
  · have hc' : ¬ (k : Int) < (s.length : Int) := by simpa [goLen] using hc
    simp only; omega

theorem tanyEdit {B : Nat} {c : spec_l1Cur} {s : List impl_Variable} (h : Cur B c) (ht : TameS s) (hB : B ≤ 100000 := by omega) : Tot (spec_l1Cur_anyEdit c s) fun r => SmallE r.1 ∧ Cur (B + 40) r.2 := by
  unfold spec_l1Cur_anyEdit SmallE
  obtain ⟨b, e, hb⟩ := sGood_bis ht
  rw [e, Option.bind_some]
  cases b with
  | false => exact tot_some ⟨by simp, h.le (by omega)⟩
  | true =>
    have hs := hb.1 rfl
    have hsl := hs.2.1; have hsl0 := hs.1
    rw [Bool.not_true, cond_false]
    refine tot_bind (tedit h hs) fun ⟨e, c1⟩ ⟨he, k1⟩ => ?_
    simp only at he k1
    refine tot_bind (tpick k1) fun ⟨x, c2⟩ ⟨_, _, _, k2⟩ => ?_
    simp only at k2
    have ret : ∀ {x : Option (spec_l1Cur × impl_Edit)}, Tot x (fun r => r.2.Sets.length ≤ 10 ∧ Cur (B + 40) r.1) → Tot (x.bind fun (p, t) => some (p, t)) (fun r => r.2.Sets.length ≤ 10 ∧ Cur (B + 40) r.1) := fun hx => tot_bind hx fun z hz => tot_some hz
    refine tot_bind (Q := fun r => r.2.Sets.length ≤ 10 ∧ Cur (B + 40) r.1) (tot_cond (fun _ => ret ?_) fun _ => tot_bind (Q := fun r => r.Sets.length ≤ 10) (tot_cond (fun _ => ?_) fun _ => tot_some (by omega)) fun e2 h2 => tot_some ⟨h2, k2.le (by omega)⟩) fun z hz => tot_some ⟨hz.1, hz.2⟩
    · refine tot_bind (tpick k2 (hk := by simp only [goLen]; omega)) fun ⟨y, c3⟩ ⟨y0, y1, _, k3⟩ => ?_
      have hy := y1 (by simp only [goLen]; omega)
      simp only [goLen] at y0 hy k3
      refine tot_bind (tamong k3) fun ⟨z, c4⟩ ⟨_, k4⟩ => ?_
      refine tot_bind (tot_at (Q := fun _ => True) y0 hy fun _ _ _ => trivial) fun _ _ => tot_some ⟨?_, k4.le (by omega)⟩
      show (e.Sets.set _ _).length ≤ 10
      rw [List.length_set]; omega
    · rw [goApp_ok (by simp; omega), Option.bind_some]
      exact tot_some (by simp; omega)

theorem tedits {B : Nat} {c : spec_l1Cur} {s : List impl_Variable} (h : Cur B c) (ht : TameS s) (hB : B ≤ 90000 := by omega) : Tot (spec_l1Cur_edits c s) fun r => r.1.length ≤ 50 ∧ Cur (B + 400) r.2 := by
  unfold spec_l1Cur_edits
  refine tot_bind (tpick h) fun ⟨k, c1⟩ ⟨k0, k1, _, hc1⟩ => ?_
  have hk := k1 (by omega)
  simp only at k0 hk hc1
  obtain ⟨n, rfl⟩ := Int.eq_ofNat_of_zero_le k0
  refine tot_bind (Q := fun r => r.1.length ≤ 6 ∧ Cur (B + 300) r.2) (tot_loop (fun z => ∃ j : Nat, z.2.1 = (j : Int) ∧ j ≤ 5 ∧ z.1.length + j ≤ 6 ∧ Cur (B + 2 + 40 * (5 - j)) z.2.2) (fun z => z.2.1.toNat) ⟨n, rfl, by omega, by simp only [List.length_nil]; omega, hc1.le (by omega)⟩ ?_) fun ⟨l, c2⟩ ⟨hl, hc2⟩ => ?_
  · rintro ⟨l, _, c2⟩ ⟨j, rfl, hj, hl, hc2⟩
    simp only at hl hc2
    simp only [spec_l1Cur_edits_l1]
    refine tot_cond (fun hc => ?_) fun hc => tot_some ⟨by simp only; omega, hc2.le (by omega)⟩
    have hc' : 0 < (j : Int) := by simpa using hc
    refine tot_bind (tanyEdit hc2 ht) fun ⟨e, c3⟩ ⟨he, hc3⟩ => ?_
    simp only at hc3
    rw [goApp_ok (by simp; omega), Option.bind_some]
    exact tot_some ⟨⟨j - 1, by simp only; rw [wid (by omega) (by omega)]; omega, by omega, by simp; omega, hc3.le (by omega)⟩, by simp only; rw [wid (by omega) (by omega)]; omega⟩
  · simp only at hl hc2
    dsimp only
    refine tot_bind (tone hc2) fun ⟨y, c3⟩ k3 => ?_
    simp only at k3
    have ret : ∀ {x : Option (List impl_Edit × spec_l1Cur)}, Tot x (fun r => r.1.length ≤ 50 ∧ Cur (B + 400) r.2) → Tot (x.bind fun (p, t) => some (p, t)) (fun r => r.1.length ≤ 50 ∧ Cur (B + 400) r.2) := fun hx => tot_bind hx fun z hz => tot_some hz
    refine ret (tot_cond (fun _ => ?_) fun _ => tot_some ⟨by simp only; omega, k3.le (by omega)⟩)
    refine tot_bind (tanyEdit k3 ht) fun ⟨e, c4⟩ ⟨he, k4⟩ => ?_
    simp only [SmallE] at he k4
    refine tot_bind (tpick k4) fun ⟨x, c5⟩ ⟨x0, x1, _, k5⟩ => ?_
    have hx := x1 (by omega)
    simp only at x0 hx k5
    refine tot_bind (Q := fun r => r.length ≤ 50) (tot_loop (fun z => z.length ≤ 42) (fun z => 50 - z.length) (by omega) ?_) fun l2 h2 => tot_some ⟨h2, k5.le (by omega)⟩
    intro z hz
    simp only [spec_l1Cur_edits_l2, goLen]
    rw [wid (by omega) (by omega)]
    refine tot_cond (fun hc => ?_) fun _ => tot_some (by omega)
    have hc' : (z.length : Int) < 40 + x := by simpa using hc
    rw [own_eq (by omega), Option.bind_some, goApp_ok (by simp; omega), Option.bind_some]
    exact tot_some ⟨by simp; omega, by simp; omega⟩

theorem tDrawCountPassing {code : List (K .u8)} (ho : ∀ x ∈ code, Rng.ok x) : Tot (spec_DrawCountPassing code) fun r => SmallS 8 r.1 ∧ r.2.length ≤ 50 := by
  unfold spec_DrawCountPassing
  refine tot_bind (tanySchema (cur0 ho)) fun ⟨s, c1⟩ ⟨hs, k1⟩ => ?_
  simp only at hs k1
  exact tot_bind (tedits k1 hs.tame) fun ⟨l, c2⟩ ⟨hl, _⟩ => tot_some ⟨hs, hl⟩

theorem tanyValues {B : Nat} {c : spec_l1Cur} {s : List impl_Variable} (h : Cur B c) (hs : SmallS 8 s) (hB : B ≤ 100000 := by omega) : Tot (spec_l1Cur_anyValues c s) fun r => r.1.length ≤ 9 ∧ Cur (B + 40) r.2 := by
  unfold spec_l1Cur_anyValues
  have hsl := hs.l
  refine tot_bind (tvalues h hs) fun ⟨V, c1⟩ ⟨hV, k1⟩ => ?_
  simp only at hV k1
  refine tot_bind (Q := fun r => (r.1 = true → 0 < V.length) ∧ Cur (B + 20) r.2) (tot_cond (fun h1 => tot_bind (tone k1) fun ⟨y, c4⟩ k4 => tot_some ⟨fun _ => by simpa [goLen] using h1, k4.le (by omega)⟩) fun _ => tot_some ⟨fun h => by simp at h, k1.le (by omega)⟩) fun ⟨y, c2⟩ ⟨hy, k2⟩ => ?_
  simp only at hy k2
  dsimp only
  refine tot_bind (Q := fun o => match o with | .inl r => r.1.length ≤ 9 ∧ Cur (B + 40) r.2 | .inr r => r.1.length ≤ 9 ∧ Cur (B + 40) r.2) (tot_cond (fun h1 => ?_) fun _ => ?_) fun o ho => ?_
  · have h0 := hy h1
    refine tot_bind (tpick k2 (hk := by simp only [goLen]; omega)) fun ⟨x, c3⟩ ⟨x0, x1, _, k3⟩ => ?_
    have hx := x1 (by simp only [goLen]; omega)
    simp only [goLen] at x0 hx k3
    refine tot_bind (tamong k3) fun ⟨z, c4⟩ ⟨_, k4⟩ => ?_
    refine tot_bind (tot_at (Q := fun _ => True) x0 hx fun _ _ _ => trivial) fun _ _ => tot_some ⟨?_, k4.le (by omega)⟩
    show (V.set _ _).length ≤ 9
    rw [List.length_set]; omega
  · refine tot_bind (tone k2) fun ⟨z, c3⟩ k3 => ?_
    simp only at k3
    refine tot_cond (fun _ => ?_) fun _ => tot_some ⟨by simp only; omega, k3.le (by omega)⟩
    rw [goApp_ok (by simp; omega), Option.bind_some]
    exact tot_some ⟨by simp; omega, k3.le (by omega)⟩
  · rcases o with r | r
    · exact tot_some ho
    · exact tot_some ho

theorem tanyData {B : Nat} {c : spec_l1Cur} {s : List impl_Variable} (h : Cur B c) (hs : SmallS 8 s) (hB : B ≤ 50000 := by omega) : Tot (spec_l1Cur_anyData c s) fun r => r.1.length ≤ 50 ∧ ∀ x ∈ r.1, x.Values.length ≤ 100 := by
  unfold spec_l1Cur_anyData
  have hsl := hs.l
  refine tot_bind (tdata h hs ⟨by simp, by simp⟩) fun ⟨D, c1⟩ hD => ?_
  obtain ⟨hDl, hDv, k1⟩ : D.length ≤ 22 ∧ (∀ x ∈ D, x.Values.length ≤ 100) ∧ Cur (B + 1000) c1 := by
    obtain ⟨a, b, c⟩ := hD
    exact ⟨a, fun x hx => by have := b x hx; omega, c.le (by omega)⟩
  refine tot_bind (tpick k1) fun ⟨x, c2⟩ ⟨_, _, _, k2⟩ => ?_
  simp only at k2
  have ret : ∀ {x : Option (List impl_Record × spec_l1Cur)}, Tot x (fun r => r.1.length ≤ 50 ∧ ∀ x ∈ r.1, x.Values.length ≤ 100) → Tot (x.bind fun (p, t) => some (p, t)) (fun r => r.1.length ≤ 50 ∧ ∀ x ∈ r.1, x.Values.length ≤ 100) := fun hx => tot_bind hx fun z hz => tot_some hz
  refine ret (tot_cond (fun _ => ?_) fun _ => ret (tot_cond (fun _ => ret ?_) fun _ => tot_some ⟨by simp only; omega, hDv⟩))
  · refine tot_bind (tamong k2) fun ⟨y, c3⟩ ⟨_, k3⟩ => ?_
    refine tot_bind (tamong k3) fun ⟨z, c4⟩ ⟨_, k4⟩ => ?_
    simp only at k4
    refine tot_bind (tanyValues k4 hs) fun ⟨V, c5⟩ ⟨hV, _⟩ => ?_
    simp only at hV
    rw [goApp_ok (by simp; omega), Option.bind_some]
    refine tot_some ⟨by simp; omega, fun r hr => ?_⟩
    rcases List.mem_append.1 hr with hr | hr
    · exact hDv r hr
    · obtain rfl := List.mem_singleton.1 hr; simp only; omega
  · refine tot_loop (fun z => z.1.length ≤ 42 ∧ (∀ x ∈ z.1, x.Values.length ≤ 100) ∧ ∃ j : Nat, z.1.length = D.length + j ∧ Cur (B + 1002 + 20 * j) z.2) (fun z => 50 - z.1.length) ⟨by simp only; omega, hDv, 0, rfl, k2.le (by omega)⟩ ?_
    rintro ⟨z, c3⟩ ⟨hz, hzv, j, hj, k3⟩
    simp only at hz hzv hj k3
    simp only [spec_l1Cur_anyData_l1]
    refine tot_bind (tpick k3) fun ⟨y, c4⟩ ⟨y0, y1, _, k4⟩ => ?_
    have hy := y1 (by omega)
    simp only at y0 hy k4
    simp only [goLen]
    rw [wid (by omega) (by omega)]
    refine tot_cond (fun hc => ?_) fun _ => tot_some ⟨by simp only; omega, hzv⟩
    have hc' : (z.length : Int) < 40 + y := by simpa using hc
    refine tot_bind (tvalues k4 hs) fun ⟨V, c5⟩ ⟨hV, k5⟩ => ?_
    simp only at hV k5
    rw [goApp_ok (by simp; omega), Option.bind_some]
    refine tot_some ⟨⟨by simp; omega, fun r hr => ?_, j + 1, by simp; omega, k5.le (by omega)⟩, by simp; omega⟩
    rcases List.mem_append.1 hr with hr | hr
    · exact hzv r hr
    · obtain rfl := List.mem_singleton.1 hr; simp only; omega

theorem tDrawFailureCounts {code : List (K .u8)} (ho : ∀ x ∈ code, Rng.ok x) : Tot (spec_DrawFailureCounts code) fun r => SmallS 8 r.1 ∧ TameD r.2.2 := by
  unfold spec_DrawFailureCounts
  refine tot_bind (tanySchema (cur0 ho)) fun ⟨s, c1⟩ ⟨hs, k1⟩ => ?_
  simp only at hs k1
  refine tot_bind (tedits k1 hs.tame) fun ⟨l, c2⟩ ⟨hl, k2⟩ => ?_
  simp only at k2
  exact tot_bind (tanyData k2 hs) fun ⟨D, c3⟩ ⟨h1, h2⟩ => tot_some ⟨hs, by simp only at h1 ⊢; omega, fun r hr => by have := h2 r hr; unfold TameR; omega⟩

/-! ## the law -/
theorem sameInts_same {l : List Int} (h : l.length ≤ 1048576) : laws_sameInts l l = some true := by
  unfold laws_sameInts
  rw [bne_self_eq_false, cond_false]
  have h := loop_all (l := l) (fun _ => true) (laws_sameInts_l1 l l) (fun k x hx => by
    simp only [laws_sameInts_l1, lt_ok hx, cond_true, at_ok hx, Option.bind_some, bne_self_eq_false, cond_false, nx_ok hx (by omega), if_true]) (fun _ => by simp only [laws_sameInts_l1, lt_end, cond_false])
  rw [h]; simp

theorem laws_FnPassing_true (a b : List (K .u8)) (o1 : Rng.ok a) (o2 : Rng.ok b) : laws_FnPassing a b = some true := by
  refine tot_eq ?_
  unfold laws_FnPassing
  have hbig : ∃ z : Bool, laws_big a b = some z := by
    unfold laws_big
    by_cases h : 1048576 < goLen a
    · exact ⟨true, by rw [decide_eq_true h]; rfl⟩
    · exact ⟨_, by rw [decide_eq_false h]; rfl⟩
  obtain ⟨z, ez⟩ := hbig
  rw [ez, Option.bind_some]
  refine tot_cond (fun _ => tot_some rfl) fun _ => ?_
  refine tot_bind (Q := fun r => SmallS 8 r.1) (by unfold spec_DrawFirstPassing; exact tot_bind (tDrawCountPassing o1.2) fun _ h => tot_some h.1) fun ⟨s, l⟩ hs => ?_
  simp only at hs
  have ht := hs.tame
  -- the second part
  have htail : ∀ {R : Bool → Prop}, R true → Tot ((spec_DrawFailureCounts b).bind fun t_24 => ((impl_FailureCounts t_24.1 t_24.2.1 t_24.2.2).bind fun t_29 => ((spec_FailureCounts t_24.1 t_24.2.1 t_24.2.2).bind fun t_33 => (((cond (t_29.2 != t_33.2) (some true) ((laws_sameInts t_29.1 t_33.1).bind fun t_37 => some (!t_37))) : Option (Bool)).bind fun t_39 => (cond t_39 (some false) (cond t_29.2 ((loopC (laws_FnPassing_l1 t_24) (0, 0)).bind fun | .inl sum_50 => ((laws_pSum t_29.1).bind fun t_51 => some (sum_50 == t_51)) | .inr o => some o) (some true))))))) R := by
    intro R hR
    refine tot_bind (tDrawFailureCounts o2.2) fun ⟨s2, l2, D⟩ ⟨hs2, hD⟩ => ?_
    simp only at hs2 hD
    have ht2 := hs2.tame
    simp only
    rcases Counts_same (l := l2) ht2 hD with ⟨q1, q2⟩ | ⟨hS, hL, hDD, q1, q2⟩
    · rw [q1, q2, Option.bind_some, Option.bind_some, sameInts_same (by simp)]
      simp only [bne_self_eq_false, cond_false, Option.bind_some, Bool.not_true]
      exact tot_some hR
    · have hll := hL.1; have hDl := hDD.1
      have hcl : (cnts l2 D).length = l2.length := by simp [cnts]
      rw [q1, q2, Option.bind_some, Option.bind_some, sameInts_same (by simp only; omega)]
      simp only [bne_self_eq_false, cond_false, Option.bind_some, Bool.not_true, cond_true]
      have hloop : loopC (laws_FnPassing_l1 (s2, l2, D)) (0, 0) = some (.inl (D.map fun r => ((fld l2 r.Values).length : Int)).sum) := by
        have := loop_fold (l := D) (fun out r => out + ((fld l2 r.Values).length : Int)) (fun k out => 0 ≤ out ∧ out ≤ 40 * (k : Int)) (fun out => (.inl out : Int ⊕ Bool)) (body := laws_FnPassing_l1 (s2, l2, D)) (s := 0) (fun out k r hr hI => by
          have hrl : (fld l2 r.Values).length ≤ l2.length := picks_len _
          have hk := (List.getElem?_eq_some_iff.1 hr).1
          refine ⟨?_, by omega⟩
          simp only [laws_FnPassing_l1, lt_ok hr, at_ok hr, cond_true, Option.bind_some, FailedEdits_ok ht2 hS hL (hDD.2 r (List.mem_of_getElem? hr)).2.2, Bool.not_true, cond_false, nx_ok hr (show D.length ≤ 9223372036854775807 by omega), goLen]
          rw [wid (by omega) (by omega)]) (fun out _ => by simp only [laws_FnPassing_l1, lt_end, cond_false]) ⟨by omega, by omega⟩
        rw [this.1]
        have hf : ∀ (D : List impl_Record) (a : Int), D.foldl (fun out r => out + ((fld l2 r.Values).length : Int)) a = a + (D.map fun r => ((fld l2 r.Values).length : Int)).sum := by
          intro D
          induction D with
          | nil => intro a; simp
          | cons x D ih => intro a; rw [List.foldl_cons, ih, List.map_cons, List.sum_cons]; omega
        rw [hf, Int.zero_add]
      rw [hloop]
      simp only [Option.bind_some]
      rw [pSum_eq (by omega) (fun x hx => by
        unfold cnts at hx
        obtain ⟨i, _, rfl⟩ := List.mem_map.1 hx
        have := cF_le l2 i D
        omega), Option.bind_some]
      refine tot_some ?_
      rw [sums_eq, show (cnts l2 D).sum = sg (cF l2 D) l2.length from sum_sg _ _, beq_self_eq_true]
      exact hR
  rcases Passing_same (l := l) ht with ⟨q1, q2, q3, q4⟩ | ⟨hS, hL, L, hLm, q1, q2, q3, q4⟩
  · rw [q1, q2, q3, q4]
    simp only [Option.bind_some, bne_self_eq_false, cond_false]
    rw [sameInts_same (by simp)]
    simp only [Option.bind_some, Bool.not_true, cond_false]
    exact htail rfl
  · have hfl : (frs s L).length ≤ 10 := by
      unfold frs
      cases L.head? with
      | none => simp
      | some i =>
        have := hS.2.1
        simp only
        rw [up_len, dig_len, tops_len]; omega
    rw [q1, q2, q3, q4]
    simp only [Option.bind_some, bne_self_eq_false, cond_false, cond_true]
    rw [sameInts_same (by omega)]
    simp only [Option.bind_some, Bool.not_true, cond_false]
    cases L with
    | nil =>
      simp only [List.length_nil]
      exact htail rfl
    | cons i r =>
      obtain ⟨hi, hp⟩ := hLm i (by simp)
      rw [decide_eq_true (show (0 : Int) < ((i :: r).length : Int) by rw [List.length_cons]; omega)]
      simp only [cond_true]
      have e : frs s (i :: r) = up (dig (tops s) i) := rfl
      rw [e, FailedEdits_ok ht hS hL (vals_ok hS hi)]
      simp only [Option.bind_some, Bool.not_true, cond_false]
      have h0 : goLen (fld l (up (dig (tops s) i))) = 0 := by unfold psd at hp; exact eq_of_beq hp
      rw [h0]
      exact htail rfl

end Go.Gx.F
