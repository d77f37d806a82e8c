/- Plain laws: texts split by the reference; numbers read by it; names found. -/
import Derived.Test.YtgaeknajcakinaaDoorGPSet
import Derived.Test.YtgaeknajcakinaaDoorGPTxt
import Derived.Test.YtgaeknajcakinaaDoorGPSch
namespace Go.Gx.F
open Go.Gx
set_option linter.all false

theorem split_bd (c : UInt8) : ∀ (x : List UInt8), (splitB c x).length ≤ x.length + 1 ∧ ∀ p ∈ splitB c x, p.length ≤ x.length ∧ ∀ b ∈ p, b ∈ x
  | [] => by simp [splitB]
  | a :: r => by
    have ih := split_bd c r
    simp only [splitB]
    split
    · refine ⟨by simp; omega, fun p hp => ?_⟩
      rcases List.mem_cons.1 hp with rfl | hp
      · simp
      · exact ⟨by have := (ih.2 p hp).1; simp; omega, fun b hb => List.mem_cons_of_mem _ ((ih.2 p hp).2 b hb)⟩
    · split
      · simp
      · rename_i y ys hy
        rw [hy] at ih
        refine ⟨by simp only [List.length_cons] at ih ⊢; omega, fun p hp => ?_⟩
        rcases List.mem_cons.1 hp with rfl | hp
        · have := ih.2 y List.mem_cons_self
          refine ⟨by simp only [List.length_cons]; omega, fun b hb => ?_⟩
          rcases List.mem_cons.1 hb with rfl | hb
          · exact List.mem_cons_self
          · exact List.mem_cons_of_mem _ (this.2 b hb)
        · have := ih.2 p (List.mem_cons_of_mem _ hp)
          exact ⟨by simp only [List.length_cons]; omega, fun b hb => List.mem_cons_of_mem _ (this.2 b hb)⟩

theorem strAt_k {x : List UInt8} {k : Nat} {b : UInt8} (h : x[k]? = some b) : goStrAt x (k : Int) = some (b.toNat : Int) := by
  unfold goStrAt
  rw [decide_eq_true (by omega), cond_true, Int.toNat_natCast, h]; rfl

theorem byte_eq {a b : UInt8} : (((a.toNat : Int)) == (b.toNat : Int)) = (a == b) := by
  rw [Bool.eq_iff_iff, beq_iff_eq, beq_iff_eq]
  constructor
  · intro h
    have : a.toNat = b.toNat := by omega
    exact UInt8.toNat_inj.1 this
  · rintro rfl; rfl

theorem loopC_nx {σ ρ : Type} {body : σ → Option (Stp σ ρ)} {x y : σ} (h : body x = some (.next y)) : loopC body x = loopC body y := by rw [loopC_eq, h]
theorem loopC_dn {σ ρ : Type} {body : σ → Option (Stp σ ρ)} {x : σ} {r : ρ} (h : body x = some (.done r)) : loopC body x = some r := by rw [loopC_eq, h]

/-! numbers -/
theorem u8dig {b : UInt8} (h1 : 48 ≤ b.toNat) (h2 : b.toNat ≤ 57) : w64 (IntKind.wrap .u8 ((b.toNat : Int) - 48)) = ((b.toNat - 48 : Nat) : Int) := by
  rw [Go.IntWalk.u8_in _ ⟨by omega, by omega⟩, wid (by omega) (by omega)]
  omega

theorem read_small : ∀ u : Fin 31, (1 ≤ (Go.Lib.decDigits u.1).length ∧ (Go.Lib.decDigits u.1).length ≤ 2) ∧ (∀ b ∈ Go.Lib.decDigits u.1, 48 ≤ b.toNat ∧ b.toNat ≤ 57) := by
  intro u
  have hu := u.2
  by_cases h : u.1 < 10
  · rw [num_small h]
    refine ⟨by simp, fun b hb => ?_⟩
    obtain rfl := List.mem_singleton.1 hb
    rw [dig_nat h]; omega
  · rw [num_big h, num_small (by omega)]
    refine ⟨by simp, fun b hb => ?_⟩
    simp only [List.cons_append, List.nil_append, List.mem_cons, List.not_mem_nil, or_false] at hb
    rcases hb with rfl | rfl
    · rw [dig_nat (by omega)]; omega
    · rw [dig_nat (by omega)]; omega

/-- reading of any text comes to an end -/
theorem readNat_tot {x : List UInt8} {most : Int} (hx : x.length ≤ 1000000) (h0 : 0 ≤ most ∧ most ≤ 1000000000) : ∃ n r b, impl_readNatural x most = some (n, r, b) ∧ 0 ≤ n ∧ n ≤ most := by
  unfold impl_readNatural
  have h : Tot (loopC (impl_readNatural_l1 x most) (0, 0)) (fun o => match o with | .inl (n, i) => 0 ≤ n ∧ n ≤ most ∧ 0 ≤ i ∧ i ≤ (x.length : Int) | .inr o => o.1 = 0) := by
    refine tot_loop (fun t => ∃ k : Nat, t.2 = (k : Int) ∧ k ≤ x.length ∧ 0 ≤ t.1 ∧ t.1 ≤ most) (fun t => x.length - t.2.toNat) ⟨0, rfl, by omega, by simp, by simp; omega⟩ ?_
    rintro ⟨n, i⟩ ⟨k, rfl, hk, hn0, hn1⟩
    simp only at hn0 hn1
    simp only [impl_readNatural_l1]
    by_cases hlt : k < x.length
    · have hb : x[k]? = some x[k] := by simp [hlt]
      generalize x[k] = b at hb
      have hb8 := UInt8.toNat_lt b
      rw [decide_eq_true (by simp only [goLen]; omega)]
      simp only [cond_true, strAt_k hb, Option.bind_some]
      by_cases h1 : (48 : Int) ≤ (b.toNat : Int)
      · rw [decide_eq_true h1]
        simp only [cond_true, Option.bind_some]
        by_cases h2 : (b.toNat : Int) ≤ 57
        · rw [decide_eq_true h2]
          simp only [cond_true]
          have hz : ∃ z : Bool, ((cond (decide (0 < (k : Int))) (some (n == 0)) (some false)) : Option Bool) = some z := by cases (decide (0 < (k : Int))) <;> exact ⟨_, rfl⟩
          obtain ⟨z, hz⟩ := hz
          rw [hz]
          simp only [Option.bind_some]
          cases z with
          | true => exact tot_some rfl
          | false =>
            rw [u8dig (by omega) (by omega), wid (n := n * 10) (by omega) (by omega), wid (n := n * 10 + ((b.toNat - 48 : Nat) : Int)) (by omega) (by omega), cond_false]
            by_cases h3 : most < n * 10 + ((b.toNat - 48 : Nat) : Int)
            · rw [decide_eq_true h3]; exact tot_some rfl
            · rw [decide_eq_false h3, cond_false, wid (n := (k : Int) + 1) (by omega) (by omega)]
              exact tot_some ⟨⟨k + 1, by simp only; omega, by omega, by simp only; omega, by simp only; omega⟩, by simp only; omega⟩
        · rw [decide_eq_false h2]
          exact tot_some ⟨hn0, hn1, by omega, by omega⟩
      · rw [decide_eq_false h1]
        exact tot_some ⟨hn0, hn1, by omega, by omega⟩
    · rw [decide_eq_false (by simp only [goLen]; omega)]
      exact tot_some ⟨hn0, hn1, by omega, by omega⟩
  obtain ⟨o, e, ho⟩ := h
  rw [e]
  cases o with
  | inr o => exact ⟨o.1, o.2.1, o.2.2, rfl, by simp only at ho; omega, by simp only at ho; omega⟩
  | inl o =>
    obtain ⟨n, i⟩ := o
    obtain ⟨q1, q2, q3, q4⟩ := ho
    simp only [Option.bind_some]
    cases i == 0 with
    | true => exact ⟨0, [], false, rfl, by omega, by omega⟩
    | false =>
      obtain ⟨l, hl, _⟩ : Tot (goSub x i (goLen x)) (fun _ => True) := tot_sub q3 (by simp only [goLen]; omega) (by simp only [goLen]; omega) trivial
      rw [hl]
      exact ⟨n, l, true, rfl, q1, q2⟩

end Go.Gx.F
