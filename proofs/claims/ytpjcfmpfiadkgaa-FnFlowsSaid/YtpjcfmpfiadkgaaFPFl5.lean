/- Plain laws: sets of rows and columns as lists. -/
import Derived.Test.YtpjcfmpfiadkgaaFPFl4

namespace Go.Gx.F

open Go.Gx

set_option linter.all false

set_option maxRecDepth 10000

theorem any_mem {l : List Int} {v : Int} : anyN (fun k => v == vc l k) l.length = decide (v ∈ l) := by
  rw [Bool.eq_iff_iff, anyN_iff, decide_eq_true_iff, List.mem_iff_getElem?]
  constructor
  · rintro ⟨k, hk, he⟩
    rw [beq_iff_eq] at he
    exact ⟨k, by rw [he]; exact vc_at hk⟩
  · rintro ⟨k, hk⟩
    obtain ⟨h1, _⟩ := List.getElem?_eq_some_iff.1 hk
    rw [vc_at h1] at hk
    exact ⟨k, h1, by rw [beq_iff_eq]; exact (Option.some.inj hk).symm⟩

theorem has_ok {l : List Int} {v : Int} (hl : l.length ≤ 1000) : spec_l1Has l v = some (decide (v ∈ l)) := by
  unfold spec_l1Has
  rw [scanN (v := true) (N := l.length) (g := fun k => v == vc l k) (by omega) ?_ ?_, any_mem]
  · cases decide (v ∈ l) <;> rfl
  · intro k hk
    have hx := vc_at hk
    simp only [spec_l1Has_l1, lt_ok hx, cond_true, at_ok hx, Option.bind_some]
    rw [show (vc l k == v) = (v == vc l k) from BEq.comm]
    cases (v == vc l k) <;> rfl
  · simp only [spec_l1Has_l1, lt_end, cond_false]

theorem contains_ok {l : List Int} {v : Int} (hl : l.length ≤ 1000) : slices_Contains_int_int l v = some (decide (v ∈ l)) := by
  have h : ∃ k : Int, slices_Index_int_int l v = some k ∧ (0 ≤ k ↔ v ∈ l) := by
    unfold slices_Index_int_int
    have hl2 : ∃ o : Unit ⊕ Int, loopC (slices_Index_int_int_l1 l v) 0 = some o ∧ ((o = .inl () ∧ v ∉ l) ∨ ∃ k : Nat, o = .inr (k : Int) ∧ v ∈ l) := by
      refine tot_loop (fun s => ∃ k : Nat, k ≤ l.length ∧ s = (k : Int) ∧ ∀ i, i < k → v ≠ vc l i) (fun s => l.length - s.toNat) ⟨0, by omega, rfl, fun i hi => by omega⟩ ?_
      rintro _ ⟨k, hk, rfl, hn⟩
      by_cases hlt : k < l.length
      · have hx := vc_at hlt
        simp only [slices_Index_int_int_l1, lt_ok hx, cond_true, at_ok hx, Option.bind_some]
        by_cases he : v = vc l k
        · rw [show (v == vc l k) = true by rw [beq_iff_eq]; exact he, cond_true]
          exact tot_some (.inr ⟨k, rfl, by rw [he]; exact List.mem_of_getElem? hx⟩)
        · rw [show (v == vc l k) = false by rw [beq_eq_false_iff_ne]; exact he, cond_false, wid (by omega) (by omega)]
          refine tot_some ⟨⟨k + 1, by omega, by omega, fun i hi => ?_⟩, by omega⟩
          by_cases hik : i = k
          · rw [hik]; exact he
          · exact hn i (by omega)
      · obtain rfl : k = l.length := by omega
        simp only [slices_Index_int_int_l1, lt_end, cond_false]
        refine tot_some (.inl ⟨rfl, fun hm => ?_⟩)
        obtain ⟨i, hi⟩ := List.mem_iff_getElem?.1 hm
        obtain ⟨h1, _⟩ := List.getElem?_eq_some_iff.1 hi
        rw [vc_at h1] at hi
        exact hn i h1 (Option.some.inj hi).symm
    obtain ⟨o, e, ho⟩ := hl2
    rw [e]
    rcases ho with ⟨rfl, hm⟩ | ⟨k, rfl, hm⟩
    · exact ⟨-1, rfl, ⟨fun h => by omega, fun h => absurd h hm⟩⟩
    · exact ⟨k, rfl, ⟨fun _ => hm, fun _ => by omega⟩⟩
  obtain ⟨k, e, hk⟩ := h
  unfold slices_Contains_int_int
  rw [e, Option.bind_some]
  exact congrArg some (decide_eq_decide.2 hk)

end Go.Gx.F
