/- Plain laws: what FnWitnesses draws; partners. -/
import Derived.Test.YtpjcfmpfiadkgaaFPAud

namespace Go.Gx.F

open Go.Gx

set_option linter.all false

set_option maxRecDepth 10000

/-! searches -/

def anyN (g : Nat → Bool) : Nat → Bool
  | 0 => false
  | k + 1 => anyN g k || g k

theorem anyN_iff {g : Nat → Bool} : ∀ {k}, anyN g k = true ↔ ∃ i, i < k ∧ g i = true
  | 0 => by simp [anyN]
  | k + 1 => by
    rw [anyN, Bool.or_eq_true, anyN_iff]
    constructor
    · rintro (⟨i, h1, h2⟩ | h)
      · exact ⟨i, by omega, h2⟩
      · exact ⟨k, by omega, h⟩
    · rintro ⟨i, h1, h2⟩
      by_cases hk : i = k
      · subst hk; exact .inr h2
      · exact .inl ⟨i, by omega, h2⟩

theorem scanN {γ : Type} {f : Int → Option (Stp Int (Unit ⊕ γ))} {g : Nat → Bool} {N : Nat} {v : γ} (hN : N ≤ 100000) (hs : ∀ k : Nat, k < N → f k = some (cond (g k) (.done (.inr v)) (.next (w64 ((k : Int) + 1))))) (he : f (N : Int) = some (.done (.inl ()))) : loopC f 0 = some (cond (anyN g N) (.inr v) (.inl ())) := by
  refine tot_eq (tot_loop (fun s => ∃ k : Nat, k ≤ N ∧ s = (k : Int) ∧ anyN g k = false) (fun s => N - s.toNat) ⟨0, by omega, rfl, rfl⟩ ?_)
  rintro _ ⟨k, hk, rfl, hg⟩
  by_cases hlt : k < N
  · rw [hs k hlt]
    cases hc : g k with
    | true =>
      refine tot_some ?_
      show Sum.inr v = _
      rw [show anyN g N = true from anyN_iff.2 ⟨k, hlt, hc⟩]; rfl
    | false =>
      rw [cond_false, wid (by omega) (by omega)]
      exact tot_some ⟨⟨k + 1, by omega, by omega, by rw [anyN, hg, hc]; rfl⟩, by omega⟩
  · obtain rfl : k = N := by omega
    rw [he]
    refine tot_some ?_
    show Sum.inl () = _
    rw [hg]; rfl

section

variable {n m : Nat} {x p q : List (List Int)}

def aln (n m : Nat) (p : List (List Int)) : Nat → Nat → Bool := fun i j => sm m (mt p i) == 1 || sm n (fun a => mt p a j) == 1

end

end Go.Gx.F
