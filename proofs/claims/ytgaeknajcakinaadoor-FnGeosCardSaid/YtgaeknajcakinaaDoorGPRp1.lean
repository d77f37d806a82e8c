/- Plain laws: numbers as texts, and read back: what is read is the text. -/
import Derived.Test.YtgaeknajcakinaaDoorGPSpl
namespace Go.Gx.F
open Go.Gx
set_option linter.all false

theorem dig_of {b : UInt8} (h1 : 48 ≤ b.toNat) (h2 : b.toNat ≤ 57) : b = UInt8.ofNat (48 + (b.toNat - 48)) := by
  rw [show 48 + (b.toNat - 48) = b.toNat by omega, UInt8.ofNat_toNat]

theorem digs_push {n d : Nat} (hn : n ≠ 0) (hd : d < 10) : Go.Lib.decDigits (n * 10 + d) = Go.Lib.decDigits n ++ [UInt8.ofNat (48 + d)] := by
  rw [digs_big (by omega), show (n * 10 + d) / 10 = n by omega, show (n * 10 + d) % 10 = d by omega]

/-- what is read is the text of a number -/
theorem readNat_inv {x : List UInt8} {most : Int} (hx : x.length ≤ 1000000) (h0 : 0 ≤ most ∧ most ≤ 1000000000) : ∃ n r b, impl_readNatural x most = some (n, r, b) ∧ (b = true → ∃ u : Nat, n = (u : Int) ∧ n ≤ most ∧ x = Go.Lib.decDigits u ++ r) := by
  unfold impl_readNatural
  have h : Tot (loopC (impl_readNatural_l1 x most) (0, 0)) (fun o => match o with | .inl (n, i) => ∃ k u : Nat, n = (u : Int) ∧ n ≤ most ∧ i = (k : Int) ∧ k ≤ x.length ∧ (k = 0 ∨ x.take k = Go.Lib.decDigits u) | .inr o => o.2.2 = false) := by
    refine tot_loop (fun t => ∃ k u : Nat, t.2 = (k : Int) ∧ t.1 = (u : Int) ∧ k ≤ x.length ∧ t.1 ≤ most ∧ (k = 0 ∧ u = 0 ∨ 0 < k ∧ x.take k = Go.Lib.decDigits u)) (fun t => x.length - t.2.toNat) ⟨0, 0, rfl, rfl, by omega, by simp; omega, .inl ⟨rfl, rfl⟩⟩ ?_
    rintro ⟨n, i⟩ ⟨k, u, rfl, rfl, hk, hn1, hu⟩
    simp only at hn1
    simp only [impl_readNatural_l1]
    have hend : (k = 0 ∨ x.take k = Go.Lib.decDigits u) := by
      rcases hu with ⟨h, _⟩ | ⟨_, h⟩
      · exact .inl h
      · exact .inr h
    by_cases hlt : k < x.length
    · have hb : x[k]? = some x[k] := by simp [hlt]
      generalize hbb : x[k] = b at hb
      have hb8 := UInt8.toNat_lt b
      rw [decide_eq_true (by simp only [goLen]; omega)]
      simp only [cond_true, strAt_k hb, Option.bind_some]
      by_cases h1 : (48 : Int) ≤ (b.toNat : Int)
      · rw [decide_eq_true h1]
        simp only [cond_true, Option.bind_some]
        by_cases h2 : (b.toNat : Int) ≤ 57
        · rw [decide_eq_true h2]
          simp only [cond_true]
          have hz : ∃ z : Bool, ((cond (decide (0 < (k : Int))) (some ((u : Int) == 0)) (some false)) : Option Bool) = some z ∧ (z = false → k = 0 ∨ u ≠ 0) := by
            by_cases hk0 : k = 0
            · exact ⟨_, by rw [decide_eq_false (by omega), cond_false], fun _ => .inl hk0⟩
            · refine ⟨_, by rw [decide_eq_true (by omega), cond_true], fun h => .inr ?_⟩
              rw [beq_eq_false_iff_ne] at h
              omega
          obtain ⟨z, hz, hz2⟩ := hz
          rw [hz]
          simp only [Option.bind_some]
          cases z with
          | true => exact tot_some rfl
          | false =>
            rw [u8dig (by omega) (by omega), wid (n := (u : Int) * 10) (by omega) (by omega), wid (n := (u : Int) * 10 + ((b.toNat - 48 : Nat) : Int)) (by omega) (by omega), cond_false]
            by_cases h3 : most < (u : Int) * 10 + ((b.toNat - 48 : Nat) : Int)
            · rw [decide_eq_true h3]; exact tot_some rfl
            · rw [decide_eq_false h3, cond_false, wid (n := (k : Int) + 1) (by omega) (by omega)]
              refine tot_some ⟨⟨k + 1, u * 10 + (b.toNat - 48), by simp only; omega, by simp only; omega, by omega, by simp only; omega, .inr ⟨by omega, ?_⟩⟩, by simp only; omega⟩
              rw [List.take_add_one, hb]
              have hb2 := dig_of (b := b) (by omega) (by omega)
              rcases hu with ⟨rfl, rfl⟩ | ⟨hk0, hu⟩
              · rw [Nat.zero_mul, Nat.zero_add, digs_small (by omega), ← hb2]; rfl
              · rw [digs_push ((hz2 rfl).resolve_left (by omega)) (by omega), ← hu, ← hb2]; rfl
        · rw [decide_eq_false h2]
          exact tot_some ⟨k, u, rfl, hn1, rfl, hk, hend⟩
      · rw [decide_eq_false h1]
        exact tot_some ⟨k, u, rfl, hn1, rfl, hk, hend⟩
    · rw [decide_eq_false (by simp only [goLen]; omega)]
      exact tot_some ⟨k, u, rfl, hn1, rfl, hk, hend⟩
  obtain ⟨o, e, ho⟩ := h
  rw [e]
  cases o with
  | inr o => exact ⟨o.1, o.2.1, o.2.2, rfl, fun hb => by simp only at ho; rw [ho] at hb; cases hb⟩
  | inl o =>
    obtain ⟨n, i⟩ := o
    obtain ⟨k, u, rfl, q1, rfl, q3, q4⟩ := ho
    simp only [Option.bind_some]
    by_cases hk : k = 0
    · subst hk
      exact ⟨0, [], false, rfl, fun h => by cases h⟩
    · rw [show (((k : Int)) == 0) = false by rw [beq_eq_false_iff_ne]; omega, cond_false]
      have hsub : goSub x (k : Int) (goLen x) = some (x.drop k) := by
        refine tot_eq (tot_sub (by omega) (by simp only [goLen]; omega) (by simp only [goLen]; omega) ?_)
        simp only [goLen, Int.toNat_natCast]
        rw [List.take_of_length_le (by simp)]
      rw [hsub]
      refine ⟨_, _, _, rfl, fun _ => ⟨u, rfl, q1, ?_⟩⟩
      rw [← q4.resolve_left hk, List.take_append_drop]

theorem itoa_nat (u : Nat) : Go.Lib.itoa (u : Int) = Go.Lib.decDigits u := by
  unfold Go.Lib.itoa
  rw [if_neg (by omega)]
  rfl
theorem itoa_neg {u : Nat} (h : u ≠ 0) : Go.Lib.itoa (-(u : Int)) = 45 :: Go.Lib.decDigits u := by
  unfold Go.Lib.itoa
  rw [if_pos (by omega), Int.natAbs_neg]
  rfl

end Go.Gx.F
