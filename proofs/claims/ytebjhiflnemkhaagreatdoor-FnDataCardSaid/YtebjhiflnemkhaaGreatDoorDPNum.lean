/- Plain laws: numbers as texts, as the reference writes them; texts put together. -/
import Derived.Test.YtebjhiflnemkhaaGreatDoorDPDr
namespace Go.Gx.F
open Go.Gx
set_option linter.all false

theorem cat_ok {a b : List UInt8} (h : a.length + b.length ≤ 1000000000) : goCat a b = some (a ++ b) := by
  unfold goCat
  rw [decide_eq_true (by omega), cond_true]

theorem num_small {u : Nat} (h : u < 10) : Go.Lib.decDigits u = [UInt8.ofNat (48 + u)] := by rw [Go.Lib.decDigits, dif_pos h]
theorem num_big {u : Nat} (h : ¬ u < 10) : Go.Lib.decDigits u = Go.Lib.decDigits (u / 10) ++ [UInt8.ofNat (48 + u % 10)] := by rw [Go.Lib.decDigits, dif_neg h]

theorem num_len (u : Nat) : (Go.Lib.decDigits u).length ≤ u + 1 := by
  induction u using Nat.strongRecOn with
  | _ u ih =>
    by_cases h : u < 10
    · rw [num_small h]; simp
    · rw [num_big h, List.length_append, List.length_singleton]
      have := ih (u / 10) (by omega)
      omega

theorem num_byte {d : Nat} (h : d < 10) : goBytes ([(⟨(IntKind.wrap .u8 (w64 (48 + (d : Int))))⟩ : K .u8)] : List (K .u8)) = [UInt8.ofNat (48 + d)] := by
  unfold goBytes
  simp only [List.map_cons, List.map_nil]
  rw [wid (by omega) (by omega), Go.IntWalk.u8_in _ ⟨by omega, by omega⟩, show (48 + (d : Int)).toNat = 48 + d by omega]

theorem num_k (u : Nat) (hu : u ≤ 1000000000) : ∀ k, (∀ r, spec_l1Num_k k (u : Int) = some r → r = Go.Lib.decDigits u) ∧ (u + 1 ≤ k → spec_l1Num_k k (u : Int) = some (Go.Lib.decDigits u)) := by
  induction u using Nat.strongRecOn with
  | _ u ih =>
    intro k
    cases k with
    | zero => exact ⟨fun r hr => (by cases hr), fun h => (by omega)⟩
    | succ k =>
      simp only [spec_l1Num_k, spec_l1Num_B]
      by_cases h : u < 10
      · rw [decide_eq_true (by omega), cond_true, num_byte h, num_small h]
        exact ⟨fun r hr => (Option.some.inj hr).symm, fun _ => rfl⟩
      · rw [decide_eq_false (by omega), cond_false]
        have hq : goQuo .i64 (u : Int) 10 = some ((u / 10 : Nat) : Int) := by
          refine tot_eq (tot_quo (by decide) ?_)
          rw [Int.tdiv_eq_ediv_of_nonneg (by omega)]
          show w64 ((u : Int) / 10) = _
          rw [wid (by omega) (by omega)]
          omega
        have hr : goRem (u : Int) 10 = some ((u % 10 : Nat) : Int) := by
          refine tot_eq (tot_rem (by decide) ?_)
          rw [Int.tmod_eq_emod_of_nonneg (by omega)]
          omega
        obtain ⟨h1, h2⟩ := ih (u / 10) (by omega) (by omega) k
        have hl := num_len (u / 10)
        rw [hq, hr]
        simp only [Option.bind_some]
        rw [num_byte (show u % 10 < 10 by omega), num_big h]
        refine ⟨fun r hr => ?_, fun hk => ?_⟩
        · cases hc : spec_l1Num_k k ((u / 10 : Nat) : Int) with
          | none => rw [hc] at hr; cases hr
          | some x =>
            rw [hc] at hr
            obtain rfl := h1 _ hc
            simp only [Option.bind_some] at hr
            rw [cat_ok (by simp only [List.length_singleton]; omega)] at hr
            exact (Option.some.inj hr).symm
        · rw [h2 (by omega), Option.bind_some, cat_ok (by simp only [List.length_singleton]; omega)]
          rfl

theorem l1Num_ok {u : Nat} (hu : u ≤ 1000000000) : spec_l1Num (u : Int) = some (Go.Lib.decDigits u) :=
  recO_of ((num_k u hu (u + 1)).2 (by omega)) fun k r h => (num_k u hu k).1 r h

end Go.Gx.F
