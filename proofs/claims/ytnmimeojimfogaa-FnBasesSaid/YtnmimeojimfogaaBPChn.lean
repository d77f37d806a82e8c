/- Plain laws: longest chains of a strict order on the first numbers. -/
import Derived.Test.YtnmimeojimfogaaBPFol

namespace Go.Gx.F

open Go.Gx

set_option linter.all false

/-! ## the first of the longest lists -/

def lng (b c : List Int) : List Int := if b.length < c.length then c else b

theorem lng_spec (xs : List (List Int)) (b : List Int) : (xs.foldl lng b = b ∧ ∀ x ∈ xs, x.length ≤ b.length) ∨
    ∃ (k : Nat) (x : List Int), xs[k]? = some x ∧ xs.foldl lng b = x ∧ b.length < x.length ∧ (∀ j y, j < k → xs[j]? = some y → y.length < x.length) ∧ ∀ y ∈ xs, y.length ≤ x.length := by
  induction xs generalizing b with
  | nil => exact .inl ⟨rfl, fun x hx => by cases hx⟩
  | cons c cs ih =>
    rw [List.foldl_cons]
    by_cases hc : b.length < c.length
    · have e : lng b c = c := by simp [lng, hc]
      rw [e]
      rcases ih c with ⟨h1, h2⟩ | ⟨k, x, h1, h2, h3, h4, h5⟩
      · exact .inr ⟨0, c, rfl, h1, hc, fun j y hj => by omega, fun y hy => by
          rcases List.mem_cons.1 hy with rfl | hy
          · exact Nat.le_refl _
          · exact h2 y hy⟩
      · refine .inr ⟨k + 1, x, by simpa using h1, h2, by omega, fun j y hj hy => ?_, fun y hy => ?_⟩
        · cases j with
          | zero => simp at hy; subst hy; exact h3
          | succ j => exact h4 j y (by omega) (by simpa using hy)
        · rcases List.mem_cons.1 hy with rfl | hy
          · omega
          · exact h5 y hy
    · have e : lng b c = b := by simp [lng, hc]
      rw [e]
      rcases ih b with ⟨h1, h2⟩ | ⟨k, x, h1, h2, h3, h4, h5⟩
      · exact .inl ⟨h1, fun y hy => by
          rcases List.mem_cons.1 hy with rfl | hy
          · omega
          · exact h2 y hy⟩
      · refine .inr ⟨k + 1, x, by simpa using h1, h2, h3, fun j y hj hy => ?_, fun y hy => ?_⟩
        · cases j with
          | zero => simp at hy; subst hy; omega
          | succ j => exact h4 j y (by omega) (by simpa using hy)
        · rcases List.mem_cons.1 hy with rfl | hy
          · omega
          · exact h5 y hy

/-! ## chains -/

structure Ord (n : Nat) (R : Nat → Nat → Bool) : Prop where
  tr : ∀ a b c, a < n → b < n → c < n → R a b = true → R b c = true → R a c = true
  ir : ∀ a, a < n → R a a = false

def rk (n : Nat) (R : Nat → Nat → Bool) (i : Nat) : Nat := (List.range n).countP (fun k => R k i)

theorem countP_lt_of {α : Type} {l : List α} {p q : α → Bool} (h : ∀ x ∈ l, p x = true → q x = true) {a : α} (ha : a ∈ l) (hp : p a = false) (hq : q a = true) : l.countP p < l.countP q := by
  induction l with
  | nil => cases ha
  | cons x xs ih =>
    rw [List.countP_cons, List.countP_cons]
    have hle : xs.countP p ≤ xs.countP q := List.countP_mono_left fun y hy => h y (List.mem_cons_of_mem _ hy)
    rcases List.mem_cons.1 ha with rfl | ha
    · simp [hp, hq]; omega
    · have := ih (fun y hy => h y (List.mem_cons_of_mem _ hy)) ha
      have hx := h x (List.mem_cons_self ..)
      cases hpx : p x with
      | false => simp; omega
      | true => simp [hx hpx]; omega

theorem rk_lt {n : Nat} {R : Nat → Nat → Bool} (h : Ord n R) {k i : Nat} (hk : k < n) (hi : i < n) (hr : R k i = true) : rk n R k < rk n R i :=
  countP_lt_of (fun x hx hxk => h.tr x k i (List.mem_range.1 hx) hk hi hxk hr) (List.mem_range.2 hk) (h.ir k hk) hr

theorem rk_n {n : Nat} {R : Nat → Nat → Bool} (h : Ord n R) {i : Nat} (hi : i < n) : rk n R i < n := by
  have : (List.range n).countP (fun k => R k i) < (List.range n).countP (fun _ => true) := countP_lt_of (fun _ _ _ => rfl) (List.mem_range.2 hi) (h.ir i hi) rfl
  simpa [rk] using this

def dn (n : Nat) (R : Nat → Nat → Bool) (i : Nat) : List Nat := (List.range n).filter (fun k => R k i)

theorem dn_mem {n : Nat} {R : Nat → Nat → Bool} {i k : Nat} : k ∈ dn n R i ↔ k < n ∧ R k i = true := by simp [dn]

def chF (n : Nat) (R : Nat → Nat → Bool) : Nat → Nat → List Int
  | 0, _ => []
  | f + 1, i => (i : Int) :: ((dn n R i).map (chF n R f)).foldl lng []

theorem chF_stab {n : Nat} {R : Nat → Nat → Bool} (h : Ord n R) : ∀ (f : Nat) (i : Nat), i < n → rk n R i < f → chF n R (f + 1) i = chF n R f i
  | 0, i, _, hr => by omega
  | f + 1, i, hi, hr => by
    rw [chF]
    conv => rhs; rw [chF]
    rw [show (dn n R i).map (chF n R (f + 1)) = (dn n R i).map (chF n R f) from List.map_congr_left fun k hk => by
      obtain ⟨h1, h2⟩ := dn_mem.1 hk
      have := rk_lt h h1 hi h2
      exact chF_stab h f k h1 (by omega)]

def ch (n : Nat) (R : Nat → Nat → Bool) (i : Nat) : List Int := chF n R n i

def bst (n : Nat) (R : Nat → Nat → Bool) (i : Nat) : List Int := ((dn n R i).map (ch n R)).foldl lng []

theorem ch_eq {n : Nat} {R : Nat → Nat → Bool} (h : Ord n R) {i : Nat} (hi : i < n) : ch n R i = (i : Int) :: bst n R i := by
  have h1 : ch n R i = chF n R (n + 1) i := (chF_stab h n i hi (rk_n h hi)).symm
  rw [h1, chF]
  rfl

def hgt (n : Nat) (R : Nat → Nat → Bool) (i : Nat) : Nat := (ch n R i).length

theorem ch_ne {n : Nat} {R : Nat → Nat → Bool} (h : Ord n R) {i : Nat} (hi : i < n) : 1 ≤ hgt n R i := by
  unfold hgt; rw [ch_eq h hi]; simp

theorem hgt_eq {n : Nat} {R : Nat → Nat → Bool} (h : Ord n R) {i : Nat} (hi : i < n) : hgt n R i = (bst n R i).length + 1 := by
  unfold hgt; rw [ch_eq h hi]; simp

theorem hgt_lt {n : Nat} {R : Nat → Nat → Bool} (h : Ord n R) {k i : Nat} (hk : k < n) (hi : i < n) (hr : R k i = true) : hgt n R k + 1 ≤ hgt n R i := by
  rw [hgt_eq h hi]
  have hm : ch n R k ∈ (dn n R i).map (ch n R) := List.mem_map.2 ⟨k, dn_mem.2 ⟨hk, hr⟩, rfl⟩
  unfold bst
  rcases lng_spec ((dn n R i).map (ch n R)) [] with ⟨h1, h2⟩ | ⟨j, x, h1, h2, h3, h4, h5⟩
  · rw [h1]; have := h2 _ hm; unfold hgt; omega
  · rw [h2]; have := h5 _ hm; unfold hgt; omega

theorem hgt_step {n : Nat} {R : Nat → Nat → Bool} (h : Ord n R) {i : Nat} (hi : i < n) : hgt n R i = 1 ∨ ∃ k, k < n ∧ R k i = true ∧ hgt n R i = hgt n R k + 1 := by
  rw [hgt_eq h hi]
  unfold bst
  rcases lng_spec ((dn n R i).map (ch n R)) [] with ⟨h1, h2⟩ | ⟨j, x, h1, h2, h3, h4, h5⟩
  · rw [h1]; exact .inl rfl
  · rw [h2]
    have hm := List.mem_of_getElem? h1
    obtain ⟨k, hk, rfl⟩ := List.mem_map.1 hm
    obtain ⟨h6, h7⟩ := dn_mem.1 hk
    exact .inr ⟨k, h6, h7, rfl⟩

theorem hgt_n {n : Nat} {R : Nat → Nat → Bool} (h : Ord n R) : ∀ (i : Nat), i < n → hgt n R i ≤ rk n R i + 1 := by
  intro i
  induction hr : rk n R i using Nat.strongRecOn generalizing i with
  | ind r ih =>
    intro hi
    rcases hgt_step h hi with h1 | ⟨k, hk, h2, h3⟩
    · omega
    · have := rk_lt h hk hi h2
      have := ih (rk n R k) (by omega) k rfl hk
      omega

theorem filt_first {n : Nat} {p : Nat → Bool} {k j : Nat} (h : ((List.range n).filter p)[j]? = some k) : ∀ k' : Nat, k' < k → p k' = true → ∃ j', j' < j ∧ ((List.range n).filter p)[j']? = some k' := by
  intro k' hk' hp
  have hn : k < n := by
    have := List.mem_of_getElem? h
    simp at this
    exact this.1
  have hm : k' ∈ (List.range n).filter p := by simp [hp]; omega
  obtain ⟨j', hj'⟩ := List.mem_iff_getElem?.1 hm
  refine ⟨j', ?_, hj'⟩
  have hs : ((List.range n).filter p).Pairwise (· < ·) := List.Pairwise.filter _ List.pairwise_lt_range
  rcases Nat.lt_trichotomy j' j with h1 | h1 | h1
  · exact h1
  · subst h1
    rw [hj'] at h
    have := Option.some.inj h
    omega
  · have hj1 := (List.getElem?_eq_some_iff.1 hj').1
    have hj2 := (List.getElem?_eq_some_iff.1 h).1
    have := (List.pairwise_iff_getElem.1 hs) j j' hj2 hj1 h1
    rw [(List.getElem?_eq_some_iff.1 h).2, (List.getElem?_eq_some_iff.1 hj').2] at this
    omega

theorem best_first {n : Nat} {R : Nat → Nat → Bool} (h : Ord n R) (p : Nat → Bool) :
    ((((List.range n).filter p).map (ch n R)).foldl lng [] = [] ∧ ∀ k, k < n → p k = false) ∨
    ∃ k, k < n ∧ p k = true ∧ (((List.range n).filter p).map (ch n R)).foldl lng [] = ch n R k ∧ (∀ k', k' < k → p k' = true → hgt n R k' < hgt n R k) ∧ ∀ k', k' < n → p k' = true → hgt n R k' ≤ hgt n R k := by
  rcases lng_spec (((List.range n).filter p).map (ch n R)) [] with ⟨h1, h2⟩ | ⟨j, x, h1, h2, h3, h4, h5⟩
  · refine .inl ⟨h1, fun k hk => ?_⟩
    cases hp : p k with
    | false => rfl
    | true =>
      have := h2 (ch n R k) (List.mem_map.2 ⟨k, by simp [hp, hk], rfl⟩)
      have h6 := ch_ne h hk
      unfold hgt at h6
      simp at this
      rw [this] at h6
      simp at h6
  · right
    rw [List.getElem?_map] at h1
    obtain ⟨k, hk, rfl⟩ := Option.map_eq_some_iff.1 h1
    have hm := List.mem_of_getElem? hk
    simp at hm
    refine ⟨k, hm.1, hm.2, h2, fun k' hk' hp' => ?_, fun k' hk' hp' => ?_⟩
    · obtain ⟨j', hj', hj2⟩ := filt_first hk k' hk' hp'
      exact h4 j' _ hj' (by rw [List.getElem?_map, hj2]; rfl)
    · exact h5 _ (List.mem_map.2 ⟨k', by simp [hp', hk'], rfl⟩)

def top (n : Nat) (R : Nat → Nat → Bool) : List Int := ((List.range n).map (ch n R)).foldl lng []

theorem top_eq {n : Nat} {R : Nat → Nat → Bool} : top n R = (((List.range n).filter (fun _ => true)).map (ch n R)).foldl lng [] := by
  unfold top
  rw [List.filter_eq_self.2 (fun _ _ => rfl)]

end Go.Gx.F
