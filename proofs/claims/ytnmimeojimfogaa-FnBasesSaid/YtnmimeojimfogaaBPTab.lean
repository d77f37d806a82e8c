/- Plain laws: surveys and tables. -/
import Derived.Test.YtnmimeojimfogaaBPSch
import Derived.Test.YtnmimeojimfogaaBPAre

namespace Go.Gx.F

open Go.Gx

set_option linter.all false

/-! ## records -/

def OkR (s : List impl_Variable) (r : impl_Record) : Prop := (0 ≤ r.Area ∧ r.Area ≤ 29) ∧ (0 ≤ r.House ∧ r.House ≤ 999) ∧ OkV s r.Values

def TameR (r : impl_Record) : Prop := r.Values.length ≤ 1000000

theorem OkS.lvl {s : List impl_Variable} (h : OkS s) : ∀ v ∈ s, -1000 ≤ v.Levels ∧ v.Levels ≤ 1000000 := fun v hv => by
  have := h.lv.b v hv
  omega

def OkD (s : List impl_Variable) (l : List impl_Record) : Prop := l.length ≤ 40 ∧ ∀ r ∈ l, OkR s r

def TameD (l : List impl_Record) : Prop := l.length ≤ 1000000 ∧ ∀ r ∈ l, TameR r

def OkU (g : impl_Geo) (s : List impl_Variable) (l : List impl_Record) : Prop := OkD s l ∧ ∀ r ∈ l, r.Area ∈ leaves g.Parents

/-! ## the parts of a table -/

def RiseV (n : Nat) (l : List Int) : Prop := ∀ (k : Nat) (v : Int), l[k]? = some v → (0 ≤ v ∧ v < n) ∧ (0 < k → ∀ u, l[k - 1]? = some u → u < v)

theorem RiseV.ge {n : Nat} {l : List Int} (h : RiseV n l) : ∀ (k : Nat) (v : Int), l[k]? = some v → (k : Int) ≤ v
  | 0, v, hv => (h 0 v hv).1.1
  | k + 1, v, hv => by
    have hlt := (List.getElem?_eq_some_iff.1 hv).1
    have hu : l[k]? = some (l[k]'(by omega)) := by simp [show k < l.length by omega]
    have h1 := h.ge k _ hu
    have h2 := (h (k + 1) v hv).2 (by omega) _ hu
    omega

theorem RiseV.len {n : Nat} {l : List Int} (h : RiseV n l) : l.length ≤ n := by
  by_cases h0 : l.length = 0
  · omega
  · have hu : l[l.length - 1]? = some (l[l.length - 1]'(by omega)) := by simp [show l.length - 1 < l.length by omega]
    have h1 := h.ge _ _ hu
    have h2 := (h _ _ hu).1.2
    omega

theorem risingV_bis {n : Nat} {l : List Int} (hn : n ≤ 1000000) (hl : l.length ≤ 1000000) : Bis (spec_l1Rising l 0 (w64 ((n : Int) - 1))) (RiseV n l) := by
  unfold spec_l1Rising RiseV
  rw [wid (by omega) (by omega)]
  refine bis_loop (l := l) (fun k v => (0 ≤ v ∧ v < n) ∧ (0 < k → ∀ u, l[k - 1]? = some u → u < v)) (fun k v hv => ?_) (by simp only [spec_l1Rising_l1, lt_end, cond_false])
  have hlt := (List.getElem?_eq_some_iff.1 hv).1
  simp only [spec_l1Rising_l1, lt_ok hv, at_ok hv, cond_true, Option.bind_some, lIn_eq, nx_ok hv (show l.length ≤ 9223372036854775807 by omega)]
  by_cases h1 : 0 ≤ v ∧ v ≤ (n : Int) - 1
  · rw [decide_eq_true h1]
    simp only [Bool.not_true, cond_false]
    by_cases h0 : 0 < k
    · have hu : l[k - 1]? = some (l[k - 1]'(by omega)) := by simp [show k - 1 < l.length by omega]
      generalize l[k - 1]'(by omega) = u at hu
      rw [decide_eq_true (show 0 < (k : Int) by omega), cond_true, show w64 ((k : Int) - 1) = ((k - 1 : Nat) : Int) from (wid (by omega) (by omega)).trans (by omega), at_ok hu]
      simp only [Option.bind_some]
      refine ⟨!decide (v ≤ u), ?_, by cases decide (v ≤ u) <;> rfl⟩
      simp only [Bool.not_eq_true', decide_eq_false_iff_not]
      constructor
      · intro h; exact ⟨by omega, fun _ u' hu' => by rw [hu] at hu'; have := Option.some.inj hu'; omega⟩
      · intro h; have := h.2 h0 u hu; omega
    · rw [decide_eq_false (show ¬ 0 < (k : Int) by omega)]
      exact ⟨true, by simp only [true_iff]; exact ⟨by omega, fun h => absurd h h0⟩, rfl⟩
  · rw [decide_eq_false h1]
    exact ⟨false, by simp only [Bool.false_eq_true, false_iff]; rintro ⟨h, _⟩; omega, rfl⟩

theorem areVars_bis {s : List impl_Variable} {l : List Int} (hl : l.length ≤ 1000000) : Bis (impl_areVars s l) (RiseV s.length l) := by
  unfold impl_areVars
  have key : ∀ (j k : Nat) (last : Int), k + j = l.length → (k = 0 ∧ last = -1 ∨ 0 < k ∧ l[k - 1]? = some last ∧ 0 ≤ last) → (∀ (i : Nat) (v : Int), i < k → l[i]? = some v → (0 ≤ v ∧ v < s.length) ∧ (0 < i → ∀ u, l[i - 1]? = some u → u < v)) →
      Bis ((loopC (impl_areVars_l1 s l) (last, (k : Int))).bind fun | .inl () => some true | .inr o => some o) (RiseV s.length l) := by
    intro j
    induction j with
    | zero =>
      intro k last hk _ hp
      obtain rfl : k = l.length := by omega
      rw [loopC_eq]
      simp only [impl_areVars_l1, lt_end, cond_false]
      exact ⟨true, rfl, by simp only [true_iff]; exact fun i v hv => hp i v (List.getElem?_eq_some_iff.1 hv).1 hv⟩
    | succ j ih =>
      intro k last hk hlast hp
      have hv : l[k]? = some (l[k]'(by omega)) := by simp [show k < l.length by omega]
      generalize l[k]'(by omega) = v at hv
      have hok : ¬ v ≤ last → ¬ (s.length : Int) ≤ v → (0 ≤ v ∧ v < s.length) ∧ (0 < k → ∀ u, l[k - 1]? = some u → u < v) := fun h1 h2 => by
        rcases hlast with ⟨h3, h4⟩ | ⟨h3, h4, h5⟩
        · exact ⟨by omega, fun h => by omega⟩
        · exact ⟨by omega, fun _ u hu => by rw [h4] at hu; have := Option.some.inj hu; omega⟩
      rw [loopC_eq]
      simp only [impl_areVars_l1, lt_ok hv, at_ok hv, cond_true, Option.bind_some, nx_ok hv (show l.length ≤ 9223372036854775807 by omega), goLen]
      by_cases h1 : v ≤ last
      · rw [decide_eq_true h1]
        refine ⟨false, rfl, ?_⟩
        simp only [Bool.false_eq_true, false_iff]
        intro h
        have h2 := h k v hv
        rcases hlast with ⟨h3, h4⟩ | ⟨h3, h4, h5⟩
        · omega
        · have := h2.2 h3 _ h4; omega
      · by_cases h2 : (s.length : Int) ≤ v
        · rw [decide_eq_false h1, decide_eq_true h2]
          refine ⟨false, rfl, ?_⟩
          simp only [Bool.false_eq_true, false_iff]
          intro h
          have := (h k v hv).1
          omega
        · rw [decide_eq_false h1, decide_eq_false h2]
          refine ih (k + 1) v (by omega) (.inr ⟨by omega, by simpa using hv, (hok h1 h2).1.1⟩) fun i w hi hw => ?_
          by_cases hik : i = k
          · subst hik
            rw [hv] at hw
            obtain rfl := Option.some.inj hw
            exact hok h1 h2
          · exact hp i w (by omega) hw
  exact key l.length 0 (-1) (by omega) (.inl ⟨rfl, rfl⟩) fun i v hi => by omega

/-! conditions -/

theorem shl_eq {L : Int} (h0 : 0 ≤ L) (h : L ≤ 60) : goShl .i64 1 L = some ((2 ^ L.toNat : Nat) : Int) := by
  obtain ⟨n, rfl⟩ := Int.eq_ofNat_of_zero_le h0
  have hp : 2 ^ n ≤ 2 ^ 60 := Nat.pow_le_pow_right (by omega) (by omega)
  unfold goShl
  rw [decide_eq_false (show ¬ (n : Int) < 0 by omega), cond_false, show (n : Int).toNat = n by omega, Nat.min_eq_left (show n ≤ IntKind.bits .i64 from by show n ≤ 64; omega), Int.one_mul]
  congr 1
  rw [show ((2 : Int) ^ n) = ((2 ^ n : Nat) : Int) by simp]
  exact wnat (by omega)

def full (v : impl_Variable) : Int := ((2 ^ v.Levels.toNat : Nat) : Int) - 1

theorem full_b {v : impl_Variable} (h : 0 ≤ v.Levels ∧ v.Levels ≤ 60) : 0 ≤ full v ∧ full v ≤ 1152921504606846975 := by
  have hp : 2 ^ v.Levels.toNat ≤ 2 ^ 60 := Nat.pow_le_pow_right (by omega) (by omega)
  have h1 : 1 ≤ 2 ^ v.Levels.toNat := Nat.one_le_two_pow
  unfold full
  omega

theorem fullSet_eq {v : impl_Variable} (h : 0 ≤ v.Levels ∧ v.Levels ≤ 60) : impl_fullSet v = some (full v) := by
  have := full_b h
  unfold impl_fullSet
  rw [shl_eq h.1 h.2, Option.bind_some, wid (by unfold full at this; omega) (by unfold full at this; omega)]
  rfl

def OkW (s : List impl_Variable) (W : List Int) : Prop := W.length = s.length ∧ ∀ (k : Nat) (v : impl_Variable) (e : Int), s[k]? = some v → W[k]? = some e → 0 ≤ e ∧ e ≤ full v

theorem isWhere_bis {s : List impl_Variable} {W : List Int} (hs : OkS s) : Bis (impl_isWhere s W) (OkW s W) := by
  unfold impl_isWhere OkW
  have hl := hs.2.1
  by_cases h : W.length = s.length
  · rw [show (goLen W != goLen s) = false by simp [goLen, h], cond_false]
    refine bis_iff (bis_loop (l := W) (fun k e => ∀ v : impl_Variable, s[k]? = some v → 0 ≤ e ∧ e ≤ full v) (fun k e he => ?_) (by simp only [impl_isWhere_l1, lt_end, cond_false])) ⟨fun hh => ⟨h, fun k v e hv he => hh k e he v hv⟩, fun hh k e he v hv => hh.2 k v e hv he⟩
    have hk := (List.getElem?_eq_some_iff.1 he).1
    have hv : s[k]? = some (s[k]'(by omega)) := by simp [show k < s.length by omega]
    generalize s[k]'(by omega) = v at hv
    have hb := hs.lv.get hv
    simp only [impl_isWhere_l1, lt_ok he, at_ok he, at_ok hv, cond_true, Option.bind_some, fullSet_eq (show 0 ≤ v.Levels ∧ v.Levels ≤ 60 by omega), nx_ok he (show W.length ≤ 9223372036854775807 by omega)]
    refine ⟨decide (0 ≤ e ∧ e ≤ full v), ?_, ?_⟩
    · rw [decide_eq_true_eq, hv]
      exact ⟨fun h v' hv' => by obtain rfl := Option.some.inj hv'; exact h, fun h => h v rfl⟩
    · by_cases h1 : e < 0
      · rw [decide_eq_true h1, decide_eq_false (show ¬ (0 ≤ e ∧ e ≤ full v) by omega)]; rfl
      · by_cases h2 : full v < e
        · rw [decide_eq_false h1, decide_eq_true h2, decide_eq_false (show ¬ (0 ≤ e ∧ e ≤ full v) by omega)]; rfl
        · rw [decide_eq_false h1, decide_eq_false h2, decide_eq_true (show (0 ≤ e ∧ e ≤ full v) by omega)]; rfl
  · rw [show (goLen W != goLen s) = true by simp [goLen]; omega]
    exact ⟨false, rfl, by simp [h]⟩

theorem uWhere_bis {s : List impl_Variable} {W : List Int} (hs : OkS s) : Bis (spec_uWhere s W) (OkW s W) := by
  unfold spec_uWhere OkW
  have hl := hs.2.1
  by_cases h : W.length = s.length
  · rw [show (goLen W != goLen s) = false by simp [goLen, h], cond_false]
    refine bis_iff (bis_loop (l := s) (fun k v => ∀ e : Int, W[k]? = some e → 0 ≤ e ∧ e ≤ full v) (fun k v hv => ?_) (by simp only [spec_uWhere_l1, lt_end, cond_false])) ⟨fun hh => ⟨h, fun k v e hv he => hh k v hv e he⟩, fun hh k v hv e he => hh.2 k v e hv he⟩
    have hk := (List.getElem?_eq_some_iff.1 hv).1
    have he : W[k]? = some (W[k]'(by omega)) := by simp [show k < W.length by omega]
    generalize W[k]'(by omega) = e at he
    have hb := hs.lv.get hv
    have hf := full_b (v := v) (by omega)
    have hlt : (2 ^ v.Levels.toNat : Nat) = full v + 1 := by unfold full; omega
    simp only [spec_uWhere_l1, lt_ok hv, at_ok he, at_ok hv, cond_true, Option.bind_some, nx_ok hv (show s.length ≤ 9223372036854775807 by omega)]
    rw [Go.IntWalk.u64_in _ ⟨by omega, by omega⟩, shl_eq (by omega) (by omega), Option.bind_some, hlt, wid (by omega) (by omega), lIn_eq, Option.bind_some]
    refine ⟨decide (0 ≤ e ∧ e ≤ full v + 1 - 1), ?_, by cases decide (0 ≤ e ∧ e ≤ full v + 1 - 1) <;> rfl⟩
    rw [decide_eq_true_eq, he]
    exact ⟨fun h e' he' => by obtain rfl := Option.some.inj he'; omega, fun h => by have := h e rfl; omega⟩
  · rw [show (goLen W != goLen s) = true by simp [goLen]; omega]
    exact ⟨false, rfl, by simp [h]⟩

end Go.Gx.F
