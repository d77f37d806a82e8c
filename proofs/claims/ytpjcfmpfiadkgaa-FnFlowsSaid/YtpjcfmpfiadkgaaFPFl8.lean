/- Plain laws: lists of chosen indices. -/
import Derived.Test.YtpjcfmpfiadkgaaFPFl7

namespace Go.Gx.F

open Go.Gx

set_option linter.all false

set_option maxRecDepth 10000

def sel (S : Nat → Bool) : Nat → List Int
  | 0 => []
  | i + 1 => sel S i ++ cond (S i) [(i : Int)] []

theorem sel_len (S : Nat → Bool) : ∀ i, (sel S i).length ≤ i
  | 0 => by simp [sel]
  | i + 1 => by
    have := sel_len S i
    simp only [sel, List.length_append]
    cases S i <;> simp <;> omega

theorem sel_in {S : Nat → Bool} {x : Int} : ∀ {n}, x ∈ sel S n → ∃ a, a < n ∧ S a = true ∧ x = (a : Int)
  | 0, h => by simp [sel] at h
  | n + 1, h => by
    simp only [sel, List.mem_append] at h
    rcases h with h | h
    · obtain ⟨a, h1, h2⟩ := sel_in h
      exact ⟨a, by omega, h2⟩
    · cases hs : S n with
      | false => rw [hs] at h; simp at h
      | true => rw [hs] at h; simp at h; exact ⟨n, by omega, hs, h⟩

theorem in_sel {S : Nat → Bool} {a : Nat} (hs : S a = true) : ∀ {n}, a < n → (a : Int) ∈ sel S n
  | 0, h => by omega
  | n + 1, h => by
    simp only [sel, List.mem_append]
    by_cases ha : a = n
    · rw [ha] at hs ⊢
      rw [hs]; exact .inr (by simp)
    · exact .inl (in_sel hs (by omega))

theorem mem_sel {S : Nat → Bool} {a n : Nat} (ha : a < n) : decide ((a : Int) ∈ sel S n) = S a := by
  cases hs : S a with
  | true => exact decide_eq_true (in_sel hs ha)
  | false =>
    refine decide_eq_false fun h => ?_
    obtain ⟨b, _, h2, h3⟩ := sel_in h
    obtain rfl : a = b := by omega
    rw [hs] at h2; cases h2

theorem bts_sel (k : Nat) : ∀ n, bts k n = sel (fun i => decide (k / 2 ^ i % 2 = 1)) n
  | 0 => rfl
  | n + 1 => by simp only [bts, sel]; rw [bts_sel k n]

theorem sel_sum {S : Nat → Bool} {f : Nat → Int} : ∀ n, ((sel S n).map fun x => f x.toNat).sum = sm n fun i => if S i = true then f i else 0
  | 0 => rfl
  | n + 1 => by
    simp only [sel, List.map_append, List.sum_append, sm]
    rw [sel_sum n]
    cases S n <;> simp

end Go.Gx.F
