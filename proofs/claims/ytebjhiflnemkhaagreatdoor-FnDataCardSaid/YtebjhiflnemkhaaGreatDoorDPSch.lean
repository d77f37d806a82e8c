/- Plain laws: schemas and values. -/
import Derived.Test.YtebjhiflnemkhaaGreatDoorDPLst
import Derived.Test.YtebjhiflnemkhaaGreatDoorDPDig
namespace Go.Gx.F
open Go.Gx
set_option linter.all false

/-! ## names -/
def Word (w : List UInt8) : Prop := 1 ≤ w.length ∧ w.length ≤ 8 ∧ ∀ c ∈ w, 97 ≤ c.toNat ∧ c.toNat ≤ 122

theorem strAt_ok {l : List UInt8} {k : Nat} {b : UInt8} (h : l[k]? = some b) : goStrAt l (k : Int) = some (b.toNat : Int) := by
  unfold goStrAt
  rw [show decide (0 ≤ (k : Int)) = true by simp]
  simp [h]

theorem letters {l : List UInt8} {k : Nat} {b : UInt8} (h : l[k]? = some b) : (((goStrAt l (k : Int)).bind fun t => (cond (decide (t < 97)) (some true) ((goStrAt l (k : Int)).bind fun t_4 => some (decide (122 < t_4))))) : Option Bool) = some (!decide (97 ≤ b.toNat ∧ b.toNat ≤ 122)) := by
  rw [strAt_ok h, Option.bind_some, Option.bind_some]
  by_cases h1 : (b.toNat : Int) < 97
  · rw [decide_eq_true h1, show decide (97 ≤ b.toNat ∧ b.toNat ≤ 122) = false by simp; omega]; rfl
  · rw [decide_eq_false h1, cond_false]
    congr 1
    by_cases h2 : (122 : Int) < b.toNat
    · rw [decide_eq_true h2, show decide (97 ≤ b.toNat ∧ b.toNat ≤ 122) = false by simp; omega]; rfl
    · rw [decide_eq_false h2, show decide (97 ≤ b.toNat ∧ b.toNat ≤ 122) = true by simp; omega]; rfl

theorem isWord_bis (w : List UInt8) : Bis (impl_isWord w) (Word w) := by
  unfold impl_isWord Word
  by_cases h : 1 ≤ w.length ∧ w.length ≤ 8
  · rw [show decide (goLen w < 1) = false by simp [goLen]; omega, show decide (8 < goLen w) = false by simp [goLen]; omega]
    simp only [cond_false, Option.bind_some]
    refine bis_iff (bis_loop (l := w) (fun _ c => 97 ≤ c.toNat ∧ c.toNat ≤ 122) (fun k b hb => ⟨decide (97 ≤ b.toNat ∧ b.toNat ≤ 122), by simp, ?_⟩) (by simp only [impl_isWord_l1, lt_end, cond_false])) ?_
    · simp only [impl_isWord_l1, lt_ok hb, cond_true, letters hb, Option.bind_some]
      cases decide (97 ≤ b.toNat ∧ b.toNat ≤ 122)
      · rfl
      · simp only [Bool.not_true, cond_false, cond_true, nx_ok hb (show w.length ≤ 9223372036854775807 by omega)]
    · rw [all_mem_iff]; simp [h]
  · have e : (cond (decide (goLen w < 1)) (some true) (some (decide (8 < goLen w))) : Option Bool) = some true := by
      by_cases h1 : w.length < 1
      · rw [show decide (goLen w < 1) = true by simp [goLen]; omega]; rfl
      · rw [show decide (goLen w < 1) = false by simp [goLen]; omega, show decide (8 < goLen w) = true by simp [goLen]; omega]; rfl
    rw [e]
    refine ⟨false, rfl, ?_⟩
    simp only [Bool.false_eq_true, false_iff]
    exact fun hh => h ⟨hh.1, hh.2.1⟩

theorem sName_bis {w : List UInt8} (hw : w.length ≤ 1000000) : Bis (spec_sName w) (Word w) := by
  unfold spec_sName Word
  obtain ⟨b, hb, e⟩ := loop_find (l := w) (body := spec_sName_l1 w) (fun _ c => ¬ (97 ≤ c.toNat ∧ c.toNat ≤ 122)) false (fun k c hc => ⟨!decide (97 ≤ c.toNat ∧ c.toNat ≤ 122), by simp; omega, by
    simp only [spec_sName_l1, lt_ok hc, cond_true, letters hc, Option.bind_some, nx_ok hc (show w.length ≤ 9223372036854775807 by omega)]; exact cond_some⟩) (by simp only [spec_sName_l1, lt_end, cond_false])
  rw [e]
  have hall : b = false ↔ ∀ c ∈ w, 97 ≤ c.toNat ∧ c.toNat ≤ 122 := by
    rw [← all_mem_iff]
    constructor
    · intro h k x hx
      exact Classical.byContradiction fun hn => by have := hb.2 ⟨k, x, hx, hn⟩; rw [h] at this; cases this
    · intro h
      cases b with
      | false => rfl
      | true => obtain ⟨k, x, hx, hn⟩ := hb.1 rfl; exact absurd (h k x hx) hn
  cases b with
  | true =>
    refine ⟨false, rfl, ?_⟩
    simp only [Bool.false_eq_true, false_iff]
    rintro ⟨_, _, h⟩
    have := hall.2 h
    cases this
  | false =>
    refine ⟨decide (1 ≤ (w.length : Int) ∧ (w.length : Int) ≤ 8), ?_, ?_⟩
    · simp only [cond_false, Option.bind_some, lIn_eq, goLen]
    · have := hall.1 rfl
      rw [decide_eq_true_eq]
      constructor
      · rintro ⟨h1, h2⟩; exact ⟨by omega, by omega, this⟩
      · rintro ⟨h1, h2, _⟩; omega

/-! ## schemas -/
def OkS (s : List impl_Variable) : Prop := 1 ≤ s.length ∧ s.length ≤ 6 ∧ ∀ (k : Nat) (v : impl_Variable), s[k]? = some v → (Word v.Name ∧ 2 ≤ v.Levels ∧ v.Levels ≤ 8) ∧ ∀ (j : Nat) (w : impl_Variable), j < k → s[j]? = some w → w.Name ≠ v.Name

/-- what is needed of a list of variables that may be none -/
def TameS (s : List impl_Variable) : Prop := s.length ≤ 1000 ∧ ∀ v ∈ s, v.Name.length ≤ 1000000

theorem IsSchema_bis {s : List impl_Variable} (ht : TameS s) : Bis (impl_IsSchema s) (OkS s) := by
  have hl := ht.1
  unfold impl_IsSchema OkS
  by_cases h : 1 ≤ s.length ∧ s.length ≤ 6
  · rw [show decide (goLen s < 1) = false by simp [goLen]; omega, show decide (6 < goLen s) = false by simp [goLen]; omega]
    simp only [cond_false, Option.bind_some]
    refine bis_iff (bis_loop (l := s) (fun k v => (Word v.Name ∧ 2 ≤ v.Levels ∧ v.Levels ≤ 8) ∧ ∀ (j : Nat) (w : impl_Variable), j < k → s[j]? = some w → w.Name ≠ v.Name) (fun k v hv => ?_) (by simp only [impl_IsSchema_l1, lt_end, cond_false])) (by simp [h])
    simp only [impl_IsSchema_l1, lt_ok hv, at_ok hv, cond_true, Option.bind_some]
    obtain ⟨b, eb, hb⟩ := isWord_bis v.Name
    rw [eb, Option.bind_some]
    by_cases hc : b = true ∧ 2 ≤ v.Levels ∧ v.Levels ≤ 8
    · obtain ⟨rfl, h1, h2⟩ := hc
      rw [show decide (v.Levels < 2) = false by simp; omega, show decide (8 < v.Levels) = false by simp; omega]
      simp only [Bool.not_true, cond_false, Option.bind_some, goSub_take hv]
      obtain ⟨c, hc, ec⟩ := loop_find (l := s.take k) (body := impl_IsSchema_l2 v (s.take k)) (fun _ w => w.Name = v.Name) (.done (.inr false)) (fun j w hw => ⟨w.Name == v.Name, by simp, by
        simp only [impl_IsSchema_l2, lt_ok hw, at_ok hw, cond_true, Option.bind_some, nx_ok hw (show (s.take k).length ≤ 9223372036854775807 by simp; omega)]; exact cond_some⟩) (by simp only [impl_IsSchema_l2, lt_end, cond_false])
      rw [ec]
      refine ⟨!c, ?_, ?_⟩
      · rw [Bool.not_eq_true', ← Bool.not_eq_true, hc]
        constructor
        · intro hn
          refine ⟨⟨hb.1 rfl, h1, h2⟩, fun j w hj hw hne => hn ⟨j, w, ?_, hne⟩⟩
          rw [List.getElem?_take_of_lt hj]; exact hw
        · rintro ⟨_, h3⟩ ⟨j, w, hw, hne⟩
          have hj : j < k := by
            have := (List.getElem?_eq_some_iff.1 hw).1
            simp at this; omega
          rw [List.getElem?_take_of_lt hj] at hw
          exact h3 j w hj hw hne
      · cases c
        · simp only [cond_false, Option.bind_some, Bool.not_false, cond_true, nx_ok hv (show s.length ≤ 9223372036854775807 by omega)]
        · rfl
    · have e : (cond (!b) (some true) (cond (decide (v.Levels < 2)) (some true) (some (decide (8 < v.Levels)))) : Option Bool) = some true := by
        cases b with
        | false => rfl
        | true =>
          by_cases h1 : v.Levels < 2
          · rw [decide_eq_true h1]; rfl
          · rw [decide_eq_false h1, show decide (8 < v.Levels) = true by simp; exact Classical.byContradiction fun hn => hc ⟨rfl, by omega, by omega⟩]; rfl
      rw [e]
      refine ⟨false, ?_, rfl⟩
      simp only [Bool.false_eq_true, false_iff]
      exact fun hh => hc ⟨hb.2 hh.1.1, hh.1.2⟩
  · have e : (cond (decide (goLen s < 1)) (some true) (some (decide (6 < goLen s))) : Option Bool) = some true := by
      by_cases h1 : s.length < 1
      · rw [show decide (goLen s < 1) = true by simp [goLen]; omega]; rfl
      · rw [show decide (goLen s < 1) = false by simp [goLen]; omega, show decide (6 < goLen s) = true by simp [goLen]; omega]; rfl
    rw [e]
    refine ⟨false, rfl, ?_⟩
    simp only [Bool.false_eq_true, false_iff]
    exact fun hh => h ⟨hh.1, hh.2.1⟩

theorem sFind_eq {s : List impl_Variable} {n : List UInt8} (hl : s.length ≤ 1000000) : ∃ r : Int, spec_sFind s n = some r ∧ (0 ≤ r ↔ ∃ (k : Nat) (v : impl_Variable), s[k]? = some v ∧ v.Name = n) := by
  unfold spec_sFind
  have key : ∀ (j k : Nat), k + j = s.length → (∀ i w, i < k → s[i]? = some w → w.Name ≠ n) → ∃ r : Int, ((loopC (spec_sFind_l1 s n) (k : Int)).bind fun | .inl () => some (-1) | .inr o => some o) = some r ∧ (0 ≤ r ↔ ∃ (k : Nat) (v : impl_Variable), s[k]? = some v ∧ v.Name = n) := by
    intro j
    induction j with
    | zero =>
      intro k hk hall
      obtain rfl : k = s.length := by omega
      rw [loopC_eq]
      simp only [spec_sFind_l1, lt_end, cond_false]
      refine ⟨-1, rfl, ?_⟩
      constructor
      · intro h; omega
      · rintro ⟨i, v, hv, hn⟩
        exact absurd hn (hall i v (List.getElem?_eq_some_iff.1 hv).1 hv)
    | succ j ih =>
      intro k hk hall
      have hv : s[k]? = some (s[k]'(by omega)) := by simp [show k < s.length by omega]
      generalize s[k]'(by omega) = v at hv
      rw [loopC_eq]
      simp only [spec_sFind_l1, lt_ok hv, at_ok hv, cond_true, Option.bind_some]
      by_cases hn : v.Name = n
      · rw [show (v.Name == n) = true by simpa using hn]
        exact ⟨(k : Int), rfl, by constructor; exact fun _ => ⟨k, v, hv, hn⟩; exact fun _ => by omega⟩
      · rw [show (v.Name == n) = false by simpa using hn]
        simp only [cond_false, nx_ok hv (show s.length ≤ 9223372036854775807 by omega)]
        refine ih (k + 1) (by omega) fun i w hi hw => ?_
        by_cases hik : i = k
        · subst hik
          rw [hv] at hw
          obtain rfl := Option.some.inj hw
          exact hn
        · exact hall i w (by omega) hw
  obtain ⟨r, e, hr⟩ := key s.length 0 (by omega) fun i w hi => by omega
  exact ⟨r, e, hr⟩

theorem sGood_bis {s : List impl_Variable} (ht : TameS s) : Bis (spec_sGood s) (OkS s) := by
  have hl := ht.1
  unfold spec_sGood OkS
  rw [lIn_eq, Option.bind_some]
  refine bis_iff (bis_nand (Q := 1 ≤ s.length ∧ s.length ≤ 6) (P := ∀ (k : Nat) (v : impl_Variable), s[k]? = some v → (Word v.Name ∧ 2 ≤ v.Levels ∧ v.Levels ≤ 8) ∧ ∀ (j : Nat) (w : impl_Variable), j < k → s[j]? = some w → w.Name ≠ v.Name) (by simp [goLen]; omega) fun hb => ?_) (by rw [and_assoc])
  refine bis_loop (l := s) (fun k v => (Word v.Name ∧ 2 ≤ v.Levels ∧ v.Levels ≤ 8) ∧ ∀ (j : Nat) (w : impl_Variable), j < k → s[j]? = some w → w.Name ≠ v.Name) (fun k v hv => ?_) (by simp only [spec_sGood_l1, lt_end, cond_false])
  simp only [spec_sGood_l1, lt_ok hv, at_ok hv, cond_true, Option.bind_some, lIn_eq, goSub_take hv]
  obtain ⟨b, eb, hb2⟩ := sName_bis (ht.2 v (List.mem_of_getElem? hv))
  obtain ⟨r, er, hr⟩ := sFind_eq (s := s.take k) (n := v.Name) (by simp; omega)
  rw [eb, er, Option.bind_some, Option.bind_some]
  have hfind : (0 ≤ r) ↔ ∃ j w, j < k ∧ s[j]? = some w ∧ w.Name = v.Name := by
    rw [hr]
    constructor
    · rintro ⟨j, w, hw, hn⟩
      have hj : j < k := by
        have := (List.getElem?_eq_some_iff.1 hw).1
        simp at this; omega
      rw [List.getElem?_take_of_lt hj] at hw
      exact ⟨j, w, hj, hw, hn⟩
    · rintro ⟨j, w, hj, hw, hn⟩
      exact ⟨j, w, by rw [List.getElem?_take_of_lt hj]; exact hw, hn⟩
  by_cases hc : b = true ∧ (2 ≤ v.Levels ∧ v.Levels ≤ 8) ∧ ¬ 0 ≤ r
  · obtain ⟨rfl, h1, h2⟩ := hc
    rw [decide_eq_true h1, decide_eq_false h2]
    refine ⟨true, ?_, ?_⟩
    · simp only [true_iff]
      exact ⟨⟨hb2.1 rfl, h1⟩, fun j w hj hw hn => h2 (hfind.2 ⟨j, w, hj, hw, hn⟩)⟩
    · simp only [Bool.not_true, cond_false, Option.bind_some, cond_true, nx_ok hv (show s.length ≤ 9223372036854775807 by omega)]
  · refine ⟨false, ?_, ?_⟩
    · simp only [Bool.false_eq_true, false_iff]
      rintro ⟨⟨h1, h2⟩, h3⟩
      exact hc ⟨hb2.2 h1, h2, fun h4 => by
        obtain ⟨j, w, hj, hw, hn⟩ := hfind.1 h4
        exact h3 j w hj hw hn⟩
    · have e : (cond (!b) (some true) (cond (!decide (2 ≤ v.Levels ∧ v.Levels ≤ 8)) (some true) (some (decide (0 ≤ r)))) : Option Bool) = some true := by
        cases b with
        | false => rfl
        | true =>
          by_cases h1 : 2 ≤ v.Levels ∧ v.Levels ≤ 8
          · rw [decide_eq_true h1, show decide (0 ≤ r) = true by rw [decide_eq_true_eq]; exact Classical.byContradiction fun hn => hc ⟨rfl, h1, hn⟩]; rfl
          · rw [decide_eq_false h1]; rfl
      rw [e]; rfl

theorem schemas {s : List impl_Variable} (ht : TameS s) : ∃ b : Bool, impl_IsSchema s = some b ∧ spec_sGood s = some b ∧ (b = true ↔ OkS s) := bis_same (IsSchema_bis ht) (sGood_bis ht)

/-! ## the sizes of a schema -/
/-- the greatest values -/
def tops (s : List impl_Variable) : List Nat := s.map fun v => v.Levels.toNat - 1

/-- variables of a schema, in any order -/
structure LvS (s : List impl_Variable) : Prop where
  l : s.length ≤ 6
  b : ∀ v ∈ s, 2 ≤ v.Levels ∧ v.Levels ≤ 8

theorem OkS.lv {s : List impl_Variable} (h : OkS s) : LvS s := ⟨h.2.1, fun v hv => by
  obtain ⟨k, hk⟩ := List.getElem?_of_mem hv
  exact (h.2.2 k v hk).1.2⟩

theorem tops_get {s : List impl_Variable} {k : Nat} {v : impl_Variable} (h : s[k]? = some v) : (tops s)[k]? = some (v.Levels.toNat - 1) := by simp [tops, h]

theorem tops_len (s : List impl_Variable) : (tops s).length = s.length := by simp [tops]

theorem tops_drop (s : List impl_Variable) (k : Nat) : (tops s).drop k = tops (s.drop k) := by simp [tops, List.map_drop]

theorem cnt_pow {S : List Nat} {b : Nat} (h : ∀ x ∈ S, x + 1 ≤ b) : cnt S ≤ b ^ S.length := by
  induction S with
  | nil => exact Nat.le_refl _
  | cons s S ih =>
    simp only [cnt, List.length_cons, Nat.pow_succ]
    rw [Nat.mul_comm (b ^ S.length)]
    exact Nat.mul_le_mul (h s (by simp)) (ih fun x hx => h x (by simp [hx]))

theorem LvS.cnt_le {s : List impl_Variable} (h : LvS s) (k : Nat) : cnt ((tops s).drop k) ≤ 262144 := by
  have h1 := cnt_pow (S := (tops s).drop k) (b := 8) fun x hx => by
    have hx := List.mem_of_mem_drop hx
    simp only [tops, List.mem_map] at hx
    obtain ⟨v, hv, rfl⟩ := hx
    have := h.b v hv
    omega
  have h2 : ((tops s).drop k).length ≤ 6 := by simp [tops]; have := h.l; omega
  have : 8 ^ ((tops s).drop k).length ≤ 8 ^ 6 := Nat.pow_le_pow_right (by omega) h2
  omega

theorem LvS.get {s : List impl_Variable} (h : LvS s) {k : Nat} {v : impl_Variable} (hv : s[k]? = some v) : 2 ≤ v.Levels ∧ v.Levels ≤ 8 := h.b v (List.mem_of_getElem? hv)

theorem LvS.cnt_drop {s : List impl_Variable} (h : LvS s) {k : Nat} {v : impl_Variable} (hv : s[k]? = some v) : ((cnt ((tops s).drop k) : Nat) : Int) = v.Levels * ((cnt ((tops s).drop (k + 1)) : Nat) : Int) := by
  have hb := h.get hv
  rw [Go.Gx.F.cnt_drop (tops_get hv), show v.Levels.toNat - 1 + 1 = v.Levels.toNat by omega, Int.natCast_mul]
  congr 1
  omega

theorem count_loop {body : Int × Int → Option (Stp (Int × Int) Int)} {s : List impl_Variable} (h : LvS s) (hbody : ∀ n t, body (n, t) = (cond (decide (t < (goLen s))) ((goAt s t).bind fun e_4 => some (.next ((w64 (n * e_4.Levels)), (w64 (t + 1))))) (some (.done n)))) : loopC body (1, 0) = some ((cnt (tops s) : Nat) : Int) := by
  have hl := h.l
  have key : ∀ (j k acc : Nat), k + j = s.length → acc * cnt ((tops s).drop k) ≤ 300000 → loopC body ((acc : Int), (k : Int)) = some ((acc * cnt ((tops s).drop k) : Nat) : Int) := by
    intro j
    induction j with
    | zero =>
      intro k acc hk _
      obtain rfl : k = s.length := by omega
      rw [loopC_eq, hbody]
      simp only [lt_end, cond_false]
      rw [List.drop_of_length_le (show (tops s).length ≤ s.length by rw [tops_len]; omega)]
      simp [cnt]
    | succ j ih =>
      intro k acc hk hb
      have hv : s[k]? = some (s[k]'(by omega)) := by simp [show k < s.length by omega]
      generalize s[k]'(by omega) = v at hv
      have hbv := h.get hv
      obtain ⟨L, hL⟩ := Int.eq_ofNat_of_zero_le (show 0 ≤ v.Levels by omega)
      have hcd : cnt ((tops s).drop k) = L * cnt ((tops s).drop (k + 1)) := by
        have := h.cnt_drop hv
        rw [hL, ← Int.natCast_mul] at this
        omega
      rw [hcd, ← Nat.mul_assoc] at hb
      have hp := cnt_pos ((tops s).drop (k + 1))
      have hb3 : acc * L ≤ acc * L * cnt ((tops s).drop (k + 1)) := Nat.le_mul_of_pos_right _ hp
      rw [loopC_eq, hbody]
      simp only [lt_ok hv, at_ok hv, cond_true, Option.bind_some, hL]
      rw [← Int.natCast_mul, wnat (by omega), wid (n := (k : Int) + 1) (by omega) (by omega), show ((k : Int) + 1) = ((k + 1 : Nat) : Int) by omega, ih (k + 1) _ (by omega) hb, hcd, Nat.mul_assoc]
  have c0 := h.cnt_le 0
  have := key s.length 0 1 (by omega) (by simp only [List.drop_zero] at c0 ⊢; omega)
  simpa using this

/-! ## values -/
def OkV (s : List impl_Variable) (l : List Int) : Prop := l.length = s.length ∧ ∀ (k : Nat) (v : impl_Variable) (x : Int), s[k]? = some v → l[k]? = some x → 0 ≤ x ∧ x < v.Levels

theorem areValues_bis {s : List impl_Variable} {l : List Int} (hl : l.length ≤ 1000000) : Bis (impl_areValues s l) (OkV s l) := by
  unfold impl_areValues OkV
  by_cases h : l.length = s.length
  · rw [show (goLen l != goLen s) = false by simp [goLen, h], cond_false]
    refine bis_iff (bis_loop (l := l) (fun k x => ∀ v : impl_Variable, s[k]? = some v → 0 ≤ x ∧ x < v.Levels) (fun k x hx => ?_) (by simp only [impl_areValues_l1, lt_end, cond_false])) ?_
    · have hk := (List.getElem?_eq_some_iff.1 hx).1
      have hv : s[k]? = some (s[k]'(by omega)) := by simp [show k < s.length by omega]
      generalize s[k]'(by omega) = v at hv
      simp only [impl_areValues_l1, lt_ok hx, at_ok hx, at_ok hv, cond_true, Option.bind_some]
      refine ⟨decide (0 ≤ x ∧ x < v.Levels), ?_, ?_⟩
      · rw [decide_eq_true_eq, hv]
        exact ⟨fun h v' hv' => by obtain rfl := Option.some.inj hv'; exact h, fun h => h v rfl⟩
      · by_cases h1 : x < 0
        · rw [decide_eq_true h1, show decide (0 ≤ x ∧ x < v.Levels) = false by simp; omega]; rfl
        · by_cases h2 : v.Levels ≤ x
          · rw [decide_eq_false h1, decide_eq_true h2, show decide (0 ≤ x ∧ x < v.Levels) = false by simp; omega]; rfl
          · rw [decide_eq_false h1, decide_eq_false h2, show decide (0 ≤ x ∧ x < v.Levels) = true by simp; omega]
            simp only [cond_false, Option.bind_some, cond_true, nx_ok hx (show l.length ≤ 9223372036854775807 by omega)]
    · constructor
      · exact fun hh => ⟨h, fun k v x hv hx => hh k x hx v hv⟩
      · exact fun hh k x hx v hv => hh.2 k v x hv hx
  · rw [show (goLen l != goLen s) = true by simp [goLen]; omega]
    refine ⟨false, rfl, ?_⟩
    simp only [Bool.false_eq_true, false_iff]
    exact fun hh => h hh.1

theorem sFits_bis {s : List impl_Variable} {l : List Int} (hl : l.length ≤ 1000000) (hs : ∀ v ∈ s, -1000 ≤ v.Levels ∧ v.Levels ≤ 1000000) : Bis (spec_sFits s l) (OkV s l) := by
  unfold spec_sFits OkV
  by_cases h : l.length = s.length
  · rw [show (goLen l != goLen s) = false by simp [goLen, h], cond_false]
    refine bis_iff (bis_loop (l := s) (fun k v => ∀ x : Int, l[k]? = some x → 0 ≤ x ∧ x < v.Levels) (fun k v hv => ?_) (by simp only [spec_sFits_l1, lt_end, cond_false])) ?_
    · have hk := (List.getElem?_eq_some_iff.1 hv).1
      have hx : l[k]? = some (l[k]'(by omega)) := by simp [show k < l.length by omega]
      generalize l[k]'(by omega) = x at hx
      have hb := hs v (List.mem_of_getElem? hv)
      simp only [spec_sFits_l1, lt_ok hv, at_ok hv, at_ok hx, cond_true, Option.bind_some, lIn_eq]
      rw [wid (n := v.Levels - 1) (by omega) (by omega)]
      refine ⟨decide (0 ≤ x ∧ x ≤ v.Levels - 1), ?_, ?_⟩
      · rw [decide_eq_true_eq, hx]
        exact ⟨fun h x' hx' => by obtain rfl := Option.some.inj hx'; omega, fun h => by have := h x rfl; omega⟩
      · by_cases h1 : 0 ≤ x ∧ x ≤ v.Levels - 1
        · rw [decide_eq_true h1]
          simp only [Bool.not_true, cond_false, cond_true, nx_ok hv (show s.length ≤ 9223372036854775807 by omega)]
        · rw [decide_eq_false h1]; rfl
    · constructor
      · exact fun hh => ⟨h, fun k v x hv hx => hh k v hv x hx⟩
      · exact fun hh k v hv x hx => hh.2 k v x hv hx
  · rw [show (goLen l != goLen s) = true by simp [goLen]; omega]
    refine ⟨false, rfl, ?_⟩
    simp only [Bool.false_eq_true, false_iff]
    exact fun hh => h hh.1

/-- values are an index -/
theorem OkV.vx {s : List impl_Variable} {l : List Int} (h : OkV s l) (hs : LvS s) : ∃ X, l = up X ∧ VX (tops s) X := by
  have h0 : ∀ v ∈ l, 0 ≤ v := by
    intro x hx
    obtain ⟨k, hk⟩ := List.getElem?_of_mem hx
    have hkl := (List.getElem?_eq_some_iff.1 hk).1
    have hv : s[k]? = some (s[k]'(by rw [← h.1]; exact hkl)) := by simp
    exact (h.2 k _ x hv hk).1
  have hup : up (l.map Int.toNat) = l := by
    unfold up
    rw [List.map_map]
    conv => rhs; rw [← List.map_id l]
    refine List.map_congr_left fun v hv => ?_
    have := h0 v hv
    simp only [Function.comp, id]
    omega
  refine ⟨l.map Int.toNat, hup.symm, VX.of_get (by rw [tops_len, List.length_map, h.1]) fun k a b ha hb => ?_⟩
  have hkl : k < s.length := by
    have := (List.getElem?_eq_some_iff.1 ha).1
    rwa [tops_len] at this
  have hv : s[k]? = some s[k] := by simp [hkl]
  rw [tops_get hv] at ha
  obtain rfl := Option.some.inj ha
  rw [List.getElem?_map] at hb
  obtain ⟨x, hx, rfl⟩ := Option.map_eq_some_iff.1 hb
  have h1 := h.2 k _ x hv hx
  have h2 := hs.get hv
  omega

theorem OkV.of_vx {s : List impl_Variable} {X : List Nat} (hs : LvS s) (h : VX (tops s) X) : OkV s (up X) := by
  have hl := h.len
  rw [tops_len] at hl
  refine ⟨by rw [up_len, hl], fun k v x hv hx => ?_⟩
  have hk : k < X.length := by
    have := (List.getElem?_eq_some_iff.1 hx).1
    rwa [up_len] at this
  have hX : X[k]? = some X[k] := by simp [hk]
  rw [up_get hX] at hx
  obtain rfl := Option.some.inj hx
  have h1 := h.get (tops_get hv) hX
  have h2 := hs.get hv
  omega

theorem index_loop {body : Int × Int → Option (Stp (Int × Int) Int)} {s : List impl_Variable} {X : List Nat} (h : LvS s) (hX : VX (tops s) X)
    (hbody : ∀ (n : Int) (k : Nat), (k < s.length → ∀ (v : impl_Variable) (x : Nat), s[k]? = some v → X[k]? = some x → body (n, (k : Int)) = some (.next ((w64 ((w64 (n * v.Levels)) + (x : Int))), (w64 ((k : Int) + 1))))) ∧ (k = s.length → body (n, (k : Int)) = some (.done n))) : loopC body (0, 0) = some ((ix (tops s) X : Nat) : Int) := by
  have hl := h.l
  have hXl := hX.len
  rw [tops_len] at hXl
  have key : ∀ (j k acc : Nat), k + j = s.length → (acc + 1) * cnt ((tops s).drop k) ≤ 300000 → loopC body ((acc : Int), (k : Int)) = some ((acc * cnt ((tops s).drop k) + ix ((tops s).drop k) (X.drop k) : Nat) : Int) := by
    intro j
    induction j with
    | zero =>
      intro k acc hk _
      rw [loopC_eq, (hbody acc k).2 (by omega)]
      simp only
      rw [List.drop_of_length_le (show (tops s).length ≤ k by rw [tops_len]; omega)]
      simp [ix, cnt]
    | succ j ih =>
      intro k acc hk hb
      have hlt : k < s.length := by omega
      have hv : s[k]? = some s[k] := by simp [hlt]
      have hx : X[k]? = some (X[k]'(by omega)) := by simp [show k < X.length by omega]
      have e := ix_drop (tops_get hv) hx
      have hxs := hX.get (tops_get hv) hx
      have hbv := h.get hv
      rw [loopC_eq, (hbody acc k).1 hlt _ _ hv hx]
      generalize X[k]'(by omega) = x at *
      generalize s[k] = v at *
      obtain ⟨L, hL⟩ := Int.eq_ofNat_of_zero_le (show 0 ≤ v.Levels by omega)
      have hcd : cnt ((tops s).drop k) = L * cnt ((tops s).drop (k + 1)) := by
        have := h.cnt_drop hv
        rw [hL, ← Int.natCast_mul] at this
        omega
      have hp := cnt_pos ((tops s).drop (k + 1))
      have hm : (acc * L + x + 1) * cnt ((tops s).drop (k + 1)) ≤ (acc + 1) * cnt ((tops s).drop k) := by
        rw [hcd, ← Nat.mul_assoc]
        refine Nat.mul_le_mul_right _ ?_
        rw [Nat.add_mul acc 1]
        omega
      have hb2 : acc * L + x + 1 ≤ (acc * L + x + 1) * cnt ((tops s).drop (k + 1)) := Nat.le_mul_of_pos_right _ hp
      simp only
      rw [hL, ← Int.natCast_mul, wnat (by omega), ← Int.natCast_add, wnat (by omega), wid (n := (k : Int) + 1) (by omega) (by omega), show ((k : Int) + 1) = ((k + 1 : Nat) : Int) by omega, ih (k + 1) _ (by omega) (by omega), e, hcd]
      congr 2
      rw [Nat.add_mul, Nat.mul_assoc]
      omega
  have c0 := h.cnt_le 0
  simp only [List.drop_zero] at c0
  have := key s.length 0 0 (by omega) (by simp only [List.drop_zero]; omega)
  simp only [List.drop_zero, Nat.zero_add, Nat.zero_mul] at this
  exact this

theorem at_loop {body : Int × List Int × Int → Option (Stp (Int × List Int × Int) (List Int))} {s : List impl_Variable} (h : LvS s) {i : Nat} (hi : i < cnt (tops s))
    (hbody : ∀ i out k, body (i, out, k) = (cond (decide (0 ≤ k)) ((goAt s k).bind fun e_8 => ((goRem i e_8.Levels).bind fun t_10 => ((goAt out k).bind fun e_11 => ((goAt s k).bind fun e_14 => ((goQuo .i64 i e_14.Levels).bind fun t_16 => some (.next (t_16, goSet out k t_10, (w64 (k - 1))))))))) (some (.done out)))) :
    loopC body ((i : Int), List.replicate s.length 0, (s.length : Int) - 1) = some (up (dig (tops s) i)) := by
  have hl := h.l
  have c0 := h.cnt_le 0
  simp only [List.drop_zero] at c0
  refine tot_eq ?_
  refine tot_loop (fun t => ∃ (p : Nat) (out : List Int), t = (((i / cnt ((tops s).drop p) : Nat) : Int), out, (p : Int) - 1) ∧ p ≤ s.length ∧ out.length = s.length ∧ out.drop p = up ((dig (tops s) i).drop p)) (fun t => (t.2.2 + 1).toNat) ⟨s.length, List.replicate s.length 0, by
    rw [List.drop_of_length_le (show (tops s).length ≤ s.length by rw [tops_len]; omega)]; simp [cnt], by omega, by simp, by
    rw [List.drop_of_length_le (show (dig (tops s) i).length ≤ s.length by rw [dig_len, tops_len]; omega)]; simp [up]⟩ ?_
  rintro t ⟨p, out, rfl, hp, ho, hd⟩
  rw [hbody]
  refine tot_cond (fun hc => ?_) fun hc => tot_some ?_
  · have hc' : 0 ≤ (p : Int) - 1 := by simpa using hc
    obtain ⟨q, rfl⟩ : ∃ q, p = q + 1 := ⟨p - 1, by omega⟩
    rw [show ((q + 1 : Nat) : Int) - 1 = (q : Int) by omega]
    have hv : s[q]? = some (s[q]'(by omega)) := by simp [show q < s.length by omega]
    generalize s[q]'(by omega) = v at hv
    have hbv := h.get hv
    have hs := tops_get hv
    have c2 := cnt_drop hs
    have hdg := dig_get hi hs
    rw [c2, Nat.mul_comm (v.Levels.toNat - 1 + 1), Nat.mod_mul_right_div_self] at hdg
    have hle : i / cnt ((tops s).drop (q + 1)) ≤ i := Nat.div_le_self _ _
    generalize hM : i / cnt ((tops s).drop (q + 1)) = M at *
    have hle2 : M / (v.Levels.toNat - 1 + 1) ≤ M := Nat.div_le_self _ _
    have hLe : v.Levels = ((v.Levels.toNat - 1 + 1 : Nat) : Int) := by omega
    generalize v.Levels.toNat - 1 + 1 = L at *
    rw [at_ok hv]
    simp only [Option.bind_some]
    rw [hLe]
    have hq : goQuo .i64 (M : Int) (L : Int) = some ((M / L : Nat) : Int) := by
      unfold goQuo
      rw [show ((L : Int) == 0) = false by simp; omega, cond_false]
      congr 1
      rw [Int.tdiv_eq_ediv_of_nonneg (by omega), ← Int.natCast_ediv]
      exact wnat (by omega)
    have hr : goRem (M : Int) (L : Int) = some ((M % L : Nat) : Int) := by
      unfold goRem
      rw [show ((L : Int) == 0) = false by simp; omega, cond_false]
      rfl
    rw [hq, hr]
    simp only [Option.bind_some]
    refine tot_bind (tot_at (Q := fun _ => True) (by omega) (by omega) fun _ _ _ => trivial) fun _ _ => ?_
    refine tot_some ⟨⟨q, out.set q ((M % L : Nat) : Int), ?_, by omega, by simpa using ho, ?_⟩, by simp only; rw [wid (by omega) (by omega)]; omega⟩
    · rw [wid (n := (q : Int) - 1) (by omega) (by omega)]
      congr 2
      rw [c2, Nat.mul_comm, ← Nat.div_div_eq_div_mul, hM]
    · rw [set_drop_cons (by omega), hd, drop_cons hdg]
      rfl
  · have hc' : ¬ 0 ≤ (p : Int) - 1 := by simpa using hc
    obtain rfl : p = 0 := by omega
    simpa using hd

end Go.Gx.F
