/- Plain laws: trees that are given by the parents. -/
import Derived.Test.YtebjhiflnemkhaaGreatDoorDPLst
namespace Go.Gx.F
open Go.Gx
set_option linter.all false

theorem w64_in {n : Int} (h1 : -9223372036854775808 ≤ n) (h2 : n ≤ 9223372036854775807) : w64 n = n := wid h1 h2
theorem spec_l1In_eq (n lo hi : Int) : spec_l1In n lo hi = some (decide (lo ≤ n ∧ n ≤ hi)) := lIn_eq n lo hi

/-- the parent of i -/
def par (p : List Int) (i : Nat) : Nat := (p.getD i 0).toNat

def okFrom : Nat → List Int → Bool
  | _, [] => true
  | k, x :: l => decide (0 ≤ x) && decide (x < (k : Int)) && okFrom (k + 1) l

theorem okFrom_at : ∀ {l : List Int} {k : Nat}, okFrom k l = true → ∀ (j : Nat) (x : Int), l[j]? = some x → 0 ≤ x ∧ x < ((k + j : Nat) : Int)
  | [], k, h, j, x, hj => by simp at hj
  | y :: l, k, h, j, x, hj => by
    simp only [okFrom, Bool.and_eq_true, decide_eq_true_eq] at h
    cases j with
    | zero => simp at hj; subst hj; exact ⟨h.1.1, by have := h.1.2; omega⟩
    | succ j =>
      have := okFrom_at h.2 j x (by simpa using hj)
      exact ⟨this.1, by have := this.2; omega⟩

/-- a good tree -/
def gok (p : List Int) : Bool := decide (1 ≤ p.length) && decide (p.length ≤ 30) && (p[0]? == some (-1)) && okFrom 1 (p.drop 1)

structure GeoOk (p : List Int) : Prop where
  l1 : 1 ≤ p.length
  l2 : p.length ≤ 30
  rt : p[0]? = some (-1)
  up : ∀ (k : Nat) (x : Int), p[k]? = some x → 0 < k → 0 ≤ x ∧ x < (k : Int)

theorem gok_ok {p : List Int} (h : gok p = true) : GeoOk p := by
  simp only [gok, Bool.and_eq_true, decide_eq_true_eq, beq_iff_eq] at h
  refine ⟨h.1.1.1, h.1.1.2, h.1.2, fun k x hk h0 => ?_⟩
  obtain ⟨j, rfl⟩ : ∃ j, k = 1 + j := ⟨k - 1, by omega⟩
  exact okFrom_at h.2 j x (by rw [List.getElem?_drop]; exact hk)

theorem par_at {p : List Int} (h : GeoOk p) {i : Nat} (hi : i < p.length) (h0 : 0 < i) : p[i]? = some (par p i : Int) ∧ par p i < i := by
  have e : p[i]? = some p[i] := by simp [hi]
  have hu := h.up i _ e h0
  have ep : (par p i : Int) = p[i] := by
    unfold par
    rw [List.getD_eq_getElem?_getD, e, Option.getD_some]
    exact Int.toNat_of_nonneg hu.1
  rw [e, ep]
  exact ⟨rfl, by omega⟩

/-- from the root to i -/
def gpath (p : List Int) (i : Nat) : List Int := if h : 0 < i ∧ par p i < i then gpath p (par p i) ++ [(i : Int)] else [(i : Int)]
termination_by i
decreasing_by exact h.2

theorem gpath_zero (p : List Int) : gpath p 0 = [0] := by rw [gpath]; rfl

theorem gpath_up {p : List Int} (h : GeoOk p) {i : Nat} (hi : i < p.length) (h0 : 0 < i) : gpath p i = gpath p (par p i) ++ [(i : Int)] := by
  rw [gpath, dif_pos ⟨h0, (par_at h hi h0).2⟩]

theorem gpath_len (p : List Int) (i : Nat) : 1 ≤ (gpath p i).length ∧ (gpath p i).length ≤ i + 1 := by
  induction i using Nat.strongRecOn with
  | _ i ih =>
    rw [gpath]
    split
    · rename_i h
      have := ih _ h.2
      simp
      omega
    · simp

theorem gpath_head {p : List Int} (i : Nat) (h : GeoOk p) (hi : i < p.length) : (gpath p i)[0]? = some 0 := by
  induction i using Nat.strongRecOn with
  | _ i ih =>
    by_cases h0 : 0 < i
    · rw [gpath_up h hi h0]
      have hp := (par_at h hi h0).2
      have hl := gpath_len p (par p i)
      rw [List.getElem?_append_left (by omega)]
      exact ih _ hp (by omega)
    · have : i = 0 := by omega
      subst this
      rw [gpath_zero]; rfl

theorem gpath_last (p : List Int) (i : Nat) : (gpath p i).getLast? = some (i : Int) := by
  rw [gpath]
  split <;> simp

/-- each element of the path stands for the first part of it -/
theorem gpath_at {p : List Int} (h : GeoOk p) (i : Nat) (hi : i < p.length) : ∀ (k : Nat) (a : Int), (gpath p i)[k]? = some a → ∃ n : Nat, n ≤ i ∧ a = (n : Int) ∧ gpath p n = (gpath p i).take (k + 1) ∧ (gpath p n).length = k + 1 := by
  induction i using Nat.strongRecOn with
  | _ i ih =>
    intro k a hk
    by_cases h0 : 0 < i
    · have hp := (par_at h hi h0).2
      have e := gpath_up h hi h0
      by_cases hlt : k < (gpath p (par p i)).length
      · rw [e, List.getElem?_append_left hlt] at hk
        obtain ⟨n, n1, n2, n3, n4⟩ := ih _ hp (by omega) k a hk
        exact ⟨n, by omega, n2, by rw [e, List.take_append_of_le_length (by omega)]; exact n3, n4⟩
      · have hl : k < (gpath p i).length := (List.getElem?_eq_some_iff.1 hk).1
        have hl2 : (gpath p i).length = (gpath p (par p i)).length + 1 := by rw [e]; simp
        have hke : k = (gpath p (par p i)).length := by omega
        rw [e, List.getElem?_append_right (by omega), hke] at hk
        simp at hk
        exact ⟨i, by omega, hk.symm, by rw [List.take_of_length_le (by omega)], by omega⟩
    · have : i = 0 := by omega
      subst this
      rw [gpath_zero] at hk ⊢
      cases k with
      | zero => simp at hk; exact ⟨0, by omega, by simp [← hk], by rw [gpath_zero]; rfl, by rw [gpath_zero]; rfl⟩
      | succ k => simp at hk

theorem gpath_le {p : List Int} (h : GeoOk p) {i : Nat} (hi : i < p.length) {a : Int} (ha : a ∈ gpath p i) : 0 ≤ a ∧ a ≤ (i : Int) := by
  obtain ⟨k, hk, e⟩ := List.getElem_of_mem ha
  obtain ⟨n, n1, n2, _, _⟩ := gpath_at h i hi k a (by rw [List.getElem?_eq_getElem hk, e])
  omega

/-! ## what is good -/

end Go.Gx.F
