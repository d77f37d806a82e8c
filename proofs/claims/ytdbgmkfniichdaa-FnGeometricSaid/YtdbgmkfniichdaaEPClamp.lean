/- Plain laws: the masses of clamped noise. -/
import Derived.Test.YtdbgmkfniichdaaEPMark
import Derived.Test.YtdbgmkfniichdaaEPAcc
import Derived.Test.YtdbgmkfniichdaaEPUse
namespace Go.Gx.F
open Go.Gx
set_option linter.all false

theorem mapO_all {α β : Type} {P : β → Prop} {f : Nat → α → Option β} (hf : ∀ k x y, f k x = some y → P y) : ∀ {l : List α} {k : Nat} {r : List β}, mapO f k l = some r → ∀ y ∈ r, P y
  | [], _, r, h => by simp only [mapO, Option.some.injEq] at h; subst h; simp
  | x :: l, k, r, h => by
    simp only [mapO] at h
    split at h
    · cases h
    · rename_i h1
      split at h
      · cases h
      · rename_i h2
        simp only [Option.some.injEq] at h
        subst h
        intro y hy
        rcases List.mem_cons.1 hy with rfl | hy
        · exact hf _ _ _ h1
        · exact mapO_all hf h2 y hy

theorem range_get' {n k x : Nat} (h : (List.range n)[k]? = some x) : x = k ∧ k < n := by
  by_cases hk : k < n
  · rw [List.getElem?_range hk] at h
    simp at h
    exact ⟨h.symm, hk⟩
  · rw [List.getElem?_eq_none (by simp; omega)] at h
    cases h

def gbase (A : impl_Frac) : impl_Frac × Bool := if (fadd ⟨1, 1⟩ A).2 = true then fdiv ⟨A.Den - A.Num, A.Den⟩ (fadd ⟨1, 1⟩ A).1 else zz

def gmass (A : impl_Frac) (k : Nat) : impl_Frac × Bool := if (gbase A).2 = true ∧ (pwI A ⟨1, 1⟩ k).2 = true then fmul (gbase A).1 (pwI A ⟨1, 1⟩ k).1 else zz

theorem gbase_good {A : impl_Frac} (hr : Ratio A) (h : (gbase A).2 = true) : Good (gbase A).1 := by
  unfold gbase at h ⊢
  split at h
  · rename_i hc
    rw [if_pos hc]
    exact fdiv_good (less_good hr) (fadd_good good_one hr.1 hc) h
  · cases h

theorem spec_zMass_eq {A : impl_Frac} (hr : Ratio A) {k : Int} (h1 : k.natAbs ≤ 60) : spec_zMass A k = some (gmass A k.natAbs) := by
  have hk : (k.natAbs : Int) ≤ 60 := by omega
  unfold gmass gbase
  simp only [spec_zMass, spec_zBase, spec_fInt, Option.bind_some, spec_l1Abs_eq (show -9223372036854775807 ≤ k by omega) (show k ≤ 9223372036854775807 by omega), spec_fPow_eq hr.1 hk, spec_fAdd_eq good_one hr.1, one_sub hr, Int.toNat_natCast]
  rcases h4 : (fadd ⟨1, 1⟩ A).2 with _ | _
  · simp [zz]
  · have g2 := fadd_good good_one hr.1 h4
    have hl := less_good hr
    simp only [Bool.not_true, cond_false, Option.bind_some, spec_fDiv_eq hl g2, if_true]
    rcases h5 : (fdiv ⟨A.Den - A.Num, A.Den⟩ (fadd ⟨1, 1⟩ A).1).2 with _ | _
    · simp [zz]
    · have g3 := fdiv_good hl g2 h5
      rcases h3 : (pwI A ⟨1, 1⟩ k.natAbs).2 with _ | _
      · simp [zz]
      · have g1 := pwI_good hr.1 _ _ good_one h3
        simp only [Bool.not_true, cond_false, Option.bind_some, spec_fMul_eq g3 g1]
        simp

theorem impl_geoMass_eq {A : impl_Frac} (hr : Ratio A) {k : Nat} (h1 : k ≤ 60) : impl_geoMass A (k : Int) = some (gmass A k) := by
  unfold gmass gbase
  simp only [impl_geoMass, impl_moreOne, Option.bind_some, impl_PowFrac_eq hr.1 (show (0 : Int) ≤ (k : Int) by omega) (show (k : Int) ≤ 60 by omega), impl_AddFrac_eq good_one hr.1, impl_lessOne_eq hr, Int.toNat_natCast]
  rcases h4 : (fadd ⟨1, 1⟩ A).2 with _ | _
  · simp [zz]
  · have g2 := fadd_good good_one hr.1 h4
    have hl := less_good hr
    simp only [Bool.not_true, cond_false, Option.bind_some, impl_DivFrac_eq hl g2, if_true]
    rcases h5 : (fdiv ⟨A.Den - A.Num, A.Den⟩ (fadd ⟨1, 1⟩ A).1).2 with _ | _
    · simp [zz]
    · have g3 := fdiv_good hl g2 h5
      rcases h3 : (pwI A ⟨1, 1⟩ k).2 with _ | _
      · simp [zz]
      · have g1 := pwI_good hr.1 _ _ good_one h3
        simp only [Bool.not_true, cond_false, Option.bind_some, impl_MulFrac_eq g3 g1]
        simp

theorem gmass_good {A : impl_Frac} (hr : Ratio A) {k : Nat} (h : (gmass A k).2 = true) : Good (gmass A k).1 := by
  unfold gmass at h ⊢
  split at h
  · rename_i hc
    rw [if_pos hc]
    exact fmul_good (gbase_good hr hc.1) (pwI_good hr.1 _ _ good_one hc.2) h
  · cases h

/-! bounds -/
def Bnds (lo hi : Int) : Prop := -1000000000 ≤ lo ∧ lo ≤ hi ∧ hi ≤ 1000000000 ∧ hi - lo ≤ 12

instance (lo hi : Int) : Decidable (Bnds lo hi) := by unfold Bnds; infer_instance

theorem impl_isClamp_eq (lo hi : Int) : impl_isClamp lo hi = some (decide (Bnds lo hi)) := by
  unfold impl_isClamp
  by_cases h1 : -1000000000 ≤ lo
  · by_cases h2 : lo ≤ hi
    · by_cases h3 : hi ≤ 1000000000
      · rw [w64_in (by omega) (by omega)]
        by_cases h4 : hi - lo ≤ 12
        · simp [h1, h2, h3, h4, show Bnds lo hi from ⟨h1, h2, h3, h4⟩]
        · simp [h1, h2, h3, h4, show ¬ Bnds lo hi from fun c => h4 c.2.2.2]
      · simp [h1, h2, h3, show ¬ Bnds lo hi from fun c => h3 c.2.2.1]
    · simp [h1, h2, show ¬ Bnds lo hi from fun c => h2 c.2.1]
  · simp [h1, show ¬ Bnds lo hi from fun c => h1 c.1]

theorem spec_zBounds_eq (lo hi : Int) : spec_zBounds lo hi = some (decide (Bnds lo hi)) := by
  unfold spec_zBounds
  simp only [spec_l1In_eq, Option.bind_some]
  by_cases h1 : -1000000000 ≤ lo ∧ lo ≤ 1000000000
  · by_cases h2 : lo ≤ hi ∧ hi ≤ 1000000000
    · rw [w64_in (by omega) (by omega)]
      by_cases h4 : hi - lo ≤ 12
      · simp [h1, h2, h4, show Bnds lo hi from ⟨h1.1, h2.1, h2.2, h4⟩]
      · simp [h1, h2, h4, show ¬ Bnds lo hi from fun c => h4 c.2.2.2]
    · simp [h1, h2, show ¬ Bnds lo hi from fun c => h2 ⟨c.2.1, c.2.2.1⟩]
  · simp [h1, show ¬ Bnds lo hi from fun c => h1 ⟨c.1, by have := c.2.1; have := c.2.2.1; omega⟩]

def massAt (A : impl_Frac) (lo hi x : Int) (k : Nat) : impl_Frac × Bool :=
  if lo + k = lo ∨ lo + k = hi then gtail A ((x - (lo + k)).natAbs : Int) else gmass A (x - (lo + k)).natAbs

theorem massAt_tail {A : impl_Frac} {lo hi x : Int} {k : Nat} (h : lo + k = lo ∨ lo + k = hi) : massAt A lo hi x k = gtail A ((x - (lo + k)).natAbs : Int) := if_pos h

theorem massAt_mass {A : impl_Frac} {lo hi x : Int} {k : Nat} (h : ¬ (lo + k = lo ∨ lo + k = hi)) : massAt A lo hi x k = gmass A (x - (lo + k)).natAbs := if_neg h

def clampF (A : impl_Frac) (lo hi x : Int) (k : Nat) (_ : Nat) : Option impl_Frac := if (massAt A lo hi x k).2 then some (massAt A lo hi x k).1 else none

def clampR (A : impl_Frac) (lo hi x : Int) : List impl_Frac × Bool :=
  if lo = hi then ([⟨1, 1⟩], true) else (mapO (clampF A lo hi x) 0 (List.range ((hi - lo).toNat + 1))).elim ([], false) (fun r => (r, true))

theorem massAt_good {A : impl_Frac} (hr : Ratio A) {lo hi x : Int} {k : Nat} (hx : (x - (lo + k)).natAbs ≤ 60) (h : (massAt A lo hi x k).2 = true) : Good (massAt A lo hi x k).1 := by
  unfold massAt at h ⊢
  split at h
  · rename_i hc
    rw [if_pos hc]
    exact (tails hr (k := ((x - (lo + k)).natAbs : Int)) (by omega) (by omega)).2.2 h
  · rename_i hc
    rw [if_neg hc]
    exact gmass_good hr h

theorem clamps {A : impl_Frac} (hr : Ratio A) {lo hi x : Int} (hb : Bnds lo hi) (hx : lo ≤ x ∧ x ≤ hi) : spec_zClamped A lo hi x = some (clampR A lo hi x) ∧ impl_clampedMasses A lo hi x = some (clampR A lo hi x) := by
  obtain ⟨b1, b2, b3, b4⟩ := hb
  unfold spec_zClamped impl_clampedMasses clampR
  by_cases hlh : lo = hi
  · have e : spec_fInt 1 = some ⟨1, 1⟩ := rfl
    subst hlh
    simp [e]
  · obtain ⟨N, hN⟩ : ∃ N : Nat, hi = lo + N := ⟨(hi - lo).toNat, by omega⟩
    subst hN
    have eN : (lo + (N : Int) - lo).toNat = N := by omega
    have hne : (lo == lo + (N : Int)) = false := by simpa using hlh
    rw [eN, if_neg hlh, hne]
    simp only [cond_false]
    have s1 := loop_app (fun k out => (out, lo + k)) (List.range (N + 1)) (clampF A lo (lo + N) x) (.inr ([], false)) Sum.inl (spec_zClamped_l1 A lo (lo + N) x) (fun k y out hy ho => ?_) (fun out _ => ?_)
    have s2 := loop_set (fun k out => (out, k)) (List.range (N + 1)) (clampF A lo (lo + N) x) (.inr ([], false)) Sum.inl ⟨0, 0⟩ (impl_clampedMasses_l1 A lo (lo + N) x (List.replicate (N + 1) ⟨0, 0⟩)) (fun k y out hy ho => ?_) (fun out _ => ?_)
    · rw [Int.add_zero] at s1
      have v1 : w64 (lo + (N : Int) - lo) = lo + N - lo := w64_in (by omega) (by omega)
      have v2 : w64 (lo + (N : Int) - lo + 1) = ((N + 1 : Nat) : Int) := by rw [w64_in (by omega) (by omega)]; omega
      rw [s1, v1, v2, goMake_ok (by omega) (by omega)]
      simp only [Option.bind_some]
      rw [List.length_range] at s2
      rw [s2]
      cases mapO (clampF A lo (lo + N) x) 0 (List.range (N + 1)) <;> exact ⟨rfl, rfl⟩
    · obtain ⟨rfl, hk⟩ := range_get' hy
      have hyl : y < out.length := by rw [ho]; simpa using hk
      have ho' : out[y]? = some out[y] := by simp [hyl]
      have w1 : w64 (lo + (y : Int)) = lo + y := w64_in (by omega) (by omega)
      have w2 : w64 (x - (lo + (y : Int))) = x - (lo + y) := w64_in (by omega) (by omega)
      have w3 : w64 (lo + (y : Int) - x) = lo + y - x := w64_in (by omega) (by omega)
      have w4 : w64 ((y : Int) + 1) = ((y + 1 : Nat) : Int) := by rw [w64_in (by omega) (by omega)]; omega
      have w5 : max (x - (lo + (y : Int))) (lo + y - x) = ((x - (lo + y)).natAbs : Int) := by omega
      have ht := tails hr (k := ((x - (lo + (y : Int))).natAbs : Int)) (by omega) (by omega)
      have hm := impl_geoMass_eq hr (k := (x - (lo + (y : Int))).natAbs) (by omega)
      simp only [impl_clampedMasses_l1, w1, w2, w3, w4, w5, ht.2.1, hm, at_ok ho', Option.bind_some]
      rw [show decide ((y : Int) < goLen (List.replicate (N + 1) (⟨0, 0⟩ : impl_Frac))) = true by simp [goLen]; omega]
      simp only [cond_true]
      by_cases c1 : lo + (y : Int) = lo
      · rw [show (lo + (y : Int) == lo) = true by simpa using c1]
        simp only [clampF, massAt_tail (.inl c1), cond_true, Option.bind_some]
        cases hg : (gtail A ((x - (lo + y)).natAbs : Int)).2 <;> simp [goSet]
      · have e1 : (lo + (y : Int) == lo) = false := by simpa using c1
        simp only [e1, cond_false, Option.bind_some]
        by_cases c2 : lo + (y : Int) = lo + N
        · rw [show (lo + (y : Int) == lo + N) = true by simp [c2]]
          simp only [clampF, massAt_tail (.inr c2), cond_true, Option.bind_some]
          cases hg : (gtail A ((x - (lo + y)).natAbs : Int)).2 <;> simp [goSet]
        · rw [show (lo + (y : Int) == lo + N) = false by simpa using c2]
          simp only [clampF, massAt_mass (show ¬ (lo + (y : Int) = lo ∨ lo + (y : Int) = lo + N) by omega), cond_false, Option.bind_some]
          cases hg : (gmass A (x - (lo + y)).natAbs).2 <;> simp [goSet]
    · simp only [impl_clampedMasses_l1]
      rw [show decide (((List.range (N + 1)).length : Int) < goLen (List.replicate (N + 1) (⟨0, 0⟩ : impl_Frac))) = false by simp [goLen]]
      rfl
    · obtain ⟨rfl, hk⟩ := range_get' hy
      have w1 : w64 (lo + (y : Int) - x) = lo + y - x := w64_in (by omega) (by omega)
      have w2 : w64 (x - lo) = x - lo := w64_in (by omega) (by omega)
      have w3 : w64 (lo + (N : Int) - x) = lo + N - x := w64_in (by omega) (by omega)
      have w4 : w64 (lo + (y : Int) + 1) = lo + ((y + 1 : Nat) : Int) := by rw [w64_in (by omega) (by omega)]; omega
      have t1 := tails hr (k := x - lo) (by omega) (by omega)
      have t2 := tails hr (k := lo + (N : Int) - x) (by omega) (by omega)
      have hm := spec_zMass_eq hr (k := lo + (y : Int) - x) (by omega)
      have em : (lo + (y : Int) - x).natAbs = (x - (lo + y)).natAbs := by omega
      rw [em] at hm
      simp only [spec_zClamped_l1, w1, w2, w3, w4, t1.1, t2.1, hm, Option.bind_some]
      rw [show decide (lo + (y : Int) ≤ lo + N) = true by simp; omega]
      simp only [cond_true]
      have ga : ∀ v : impl_Frac, goApp 16 out [v] = some (out ++ [v]) := fun v => goApp_ok (by simp; omega)
      by_cases c1 : lo + (y : Int) = lo
      · have hn : ¬ lo + (y : Int) = lo + N := by omega
        rw [show (lo + (y : Int) == lo) = true by simpa using c1, show (lo + (y : Int) == lo + N) = false by simpa using hn]
        simp only [clampF, massAt_tail (.inl c1), cond_true, cond_false, Option.bind_some, ga]
        have e : x - lo = ((x - (lo + y)).natAbs : Int) := by omega
        rw [e]
        cases hg : (gtail A ((x - (lo + y)).natAbs : Int)).2 <;> simp
      · rw [show (lo + (y : Int) == lo) = false by simpa using c1]
        simp only [cond_false, Option.bind_some, ga]
        by_cases c2 : lo + (y : Int) = lo + N
        · rw [show (lo + (y : Int) == lo + N) = true by simp [c2]]
          simp only [clampF, massAt_tail (.inr c2), cond_true, Option.bind_some]
          have e : lo + (N : Int) - x = ((x - (lo + y)).natAbs : Int) := by omega
          rw [e]
          cases hg : (gtail A ((x - (lo + y)).natAbs : Int)).2 <;> simp
        · rw [show (lo + (y : Int) == lo + N) = false by simpa using c2]
          simp only [clampF, massAt_mass (show ¬ (lo + (y : Int) = lo ∨ lo + (y : Int) = lo + N) by omega), cond_false, Option.bind_some]
          cases hg : (gmass A (x - (lo + y)).natAbs).2 <;> simp
    · simp only [spec_zClamped_l1]
      rw [show decide (lo + ((List.range (N + 1)).length : Int) ≤ lo + N) = false by simp; omega]
      rfl

theorem clampR_len (A : impl_Frac) {lo hi x : Int} (hb : Bnds lo hi) : (clampR A lo hi x).1.length ≤ 13 := by
  obtain ⟨b1, b2, b3, b4⟩ := hb
  unfold clampR
  split
  · simp
  · cases hq : mapO (clampF A lo hi x) 0 (List.range ((hi - lo).toNat + 1)) with
    | none => simp
    | some r =>
      have := mapO_len hq
      simp at this
      simp only [Option.elim_some]
      omega

theorem clampeds_same (A : impl_Frac) (lo hi x : Int) : ∃ p, spec_ClampedMasses A lo hi x = some p ∧ impl_ClampedMasses A lo hi x = some p ∧ p.1.length ≤ 1048576 := by
  unfold spec_ClampedMasses impl_ClampedMasses
  rw [spec_zRatio_eq, impl_isRatio_eq]
  simp only [Option.bind_some, spec_zBounds_eq, impl_isClamp_eq, spec_l1In_eq]
  by_cases hr : Ratio A
  · by_cases hb : Bnds lo hi
    · by_cases h1 : x < lo
      · exact ⟨([], false), by simp [hr, hb, show ¬ (lo ≤ x ∧ x ≤ hi) by omega], by simp [hr, hb, h1], by simp⟩
      · by_cases h2 : hi < x
        · exact ⟨([], false), by simp [hr, hb, show ¬ (lo ≤ x ∧ x ≤ hi) by omega], by simp [hr, hb, h1, h2], by simp⟩
        · obtain ⟨c1, c2⟩ := clamps hr hb (x := x) (by omega)
          refine ⟨clampR A lo hi x, ?_, ?_, by have := clampR_len A hb (x := x); omega⟩
          · simp [hr, hb, show lo ≤ x ∧ x ≤ hi by omega, c1]
          · simp [hr, hb, h1, h2, c2]
    · exact ⟨([], false), by simp [hr, hb], by simp [hr, hb], by simp⟩
  · exact ⟨([], false), by simp [hr], by simp [hr], by simp⟩

/-! the worst ratio -/
theorem clampR_good {A : impl_Frac} (hr : Ratio A) {lo hi x : Int} (hb : Bnds lo hi) (hx : lo ≤ x ∧ x ≤ hi) : ∀ y ∈ (clampR A lo hi x).1, Good y := by
  obtain ⟨b1, b2, b3, b4⟩ := hb
  unfold clampR
  split
  · simp [good_one]
  · cases hq : mapO (clampF A lo hi x) 0 (List.range ((hi - lo).toNat + 1)) with
    | none => simp
    | some r =>
      simp only [Option.elim_some]
      -- each index that comes up is small
      have key : ∀ (l : List Nat) (k : Nat) (r : List impl_Frac), k + l.length ≤ 14 → mapO (clampF A lo hi x) k l = some r → ∀ y ∈ r, Good y := by
        intro l
        induction l with
        | nil => intro k r _ h; simp only [mapO, Option.some.injEq] at h; subst h; simp
        | cons z l ih =>
          intro k r hk h
          simp only [List.length_cons] at hk
          simp only [mapO] at h
          split at h
          · cases h
          · rename_i y0 h1
            split at h
            · cases h
            · rename_i r0 h2
              simp only [Option.some.injEq] at h
              subst h
              intro y hy
              rcases List.mem_cons.1 hy with rfl | hy
              · unfold clampF at h1
                split at h1
                · rename_i hc
                  simp only [Option.some.injEq] at h1
                  subst h1
                  exact massAt_good hr (by omega) hc
                · cases h1
              · exact ih (k + 1) r0 (by omega) h2 y hy
      exact key _ 0 r (by simp; omega) hq

theorem clampR_same_len {A : impl_Frac} {lo hi x y : Int} (h1 : (clampR A lo hi x).2 = true) (h2 : (clampR A lo hi y).2 = true) : (clampR A lo hi x).1.length = (clampR A lo hi y).1.length := by
  unfold clampR at *
  split
  · rfl
  · rename_i hne
    rw [if_neg hne] at h1 h2
    cases hq : mapO (clampF A lo hi x) 0 (List.range ((hi - lo).toNat + 1)) with
    | none => rw [hq] at h1; cases h1
    | some r =>
      cases hq' : mapO (clampF A lo hi y) 0 (List.range ((hi - lo).toNat + 1)) with
      | none => rw [hq'] at h2; cases h2
      | some r' =>
        have e1 := mapO_len hq
        have e2 := mapO_len hq'
        simp only [Option.elim_some]
        omega

def gmx (b u : impl_Frac) : impl_Frac := if 0 < cmp u b then u else b

theorem gmx_good {b u : impl_Frac} (hb : Good b) (hu : Good u) : Good (gmx b u) := by unfold gmx; split <;> assumption

def pairS (e e' b : impl_Frac) : Option impl_Frac := if (fdiv e e').2 = true ∧ (fdiv e' e).2 = true then some (gmx (gmx b (fdiv e e').1) (fdiv e' e).1) else none

def inner : List (impl_Frac × impl_Frac) → impl_Frac → Option impl_Frac
  | [], b => some b
  | p :: r, b => match pairS p.1 p.2 b with
    | none => none
    | some b' => inner r b'

theorem pairS_good {e e' b b' : impl_Frac} (he : Good e) (he' : Good e') (hb : Good b) (h : pairS e e' b = some b') : Good b' := by
  unfold pairS at h
  split at h
  · rename_i hc
    simp only [Option.some.injEq] at h
    subst h
    exact gmx_good (gmx_good hb (fdiv_good he he' hc.1)) (fdiv_good he' he hc.2)
  · cases h

theorem inner_good : ∀ (l : List (impl_Frac × impl_Frac)) (b b' : impl_Frac), (∀ p ∈ l, Good p.1 ∧ Good p.2) → Good b → inner l b = some b' → Good b'
  | [], b, b', _, hb, h => by simp only [inner, Option.some.injEq] at h; subst h; exact hb
  | p :: r, b, b', hl, hb, h => by
    simp only [inner] at h
    split at h
    · cases h
    · rename_i h1
      exact inner_good r _ b' (fun q hq => hl q (by simp [hq])) (pairS_good (hl p (by simp)).1 (hl p (by simp)).2 hb h1) h

theorem lfold_inner {β : Type} (bad : β) : ∀ (l : List (impl_Frac × impl_Frac)) (k : Nat) (b : impl_Frac),
    lfold (ρ := impl_Frac ⊕ β) (fun _ p b => some ((pairS p.1 p.2 b).elim (.inr (.inr bad)) .inl)) (fun b => some (.inl b)) k l b = some ((inner l b).elim (.inr bad) .inl)
  | [], _, _ => rfl
  | p :: r, k, b => by
    simp only [lfold, inner]
    cases pairS p.1 p.2 b with
    | none => rfl
    | some b' => exact lfold_inner bad r (k + 1) b'

theorem zip_get {P Q : List impl_Frac} {k : Nat} {p : impl_Frac × impl_Frac} (h : (P.zip Q)[k]? = some p) : P[k]? = some p.1 ∧ Q[k]? = some p.2 := by
  rw [List.getElem?_zip_eq_some] at h
  exact h

theorem impl_pair {e e' b : impl_Frac} (he : Good e) (he' : Good e') (hb : Good b) :
    loopC (impl_WorstRatio_l3 e e' e' e) (0, b) = some ((pairS e e' b).elim (.inr (.done (.inr (.done (.inr (⟨0, 0⟩, false)))))) .inl) := by
  have w0 : w64 ((0 : Int) + 1) = 1 := by rw [w64_in (by omega) (by omega)]; rfl
  have w1 : w64 ((1 : Int) + 1) = 2 := by rw [w64_in (by omega) (by omega)]; rfl
  have a0 : goAt [(e, e'), (e', e)] 0 = some (e, e') := rfl
  have a1 : goAt [(e, e'), (e', e)] 1 = some (e', e) := rfl
  rw [loopC_eq]
  simp only [impl_WorstRatio_l3, show decide ((0 : Int) < 2) = true by decide, cond_true, a0, Option.bind_some, impl_DivFrac_eq he he', pairS, w0]
  cases c1 : (fdiv e e').2 with
  | false => simp
  | true =>
    have gu := fdiv_good he he' c1
    simp only [Bool.not_true, cond_false, impl_cmp_good gu hb, Option.bind_some]
    have second : ∀ {b1 : impl_Frac}, Good b1 → loopC (impl_WorstRatio_l3 e e' e' e) (1, b1) = some (if (fdiv e' e).2 = true then .inl (gmx b1 (fdiv e' e).1) else .inr (.done (.inr (.done (.inr (⟨0, 0⟩, false)))))) := by
      intro b1 g1
      rw [loopC_eq]
      simp only [impl_WorstRatio_l3, show decide ((1 : Int) < 2) = true by decide, cond_true, a1, Option.bind_some, impl_DivFrac_eq he' he, w1]
      cases c2 : (fdiv e' e).2 with
      | false => simp
      | true =>
        have gv := fdiv_good he' he c2
        have last : ∀ b2 : impl_Frac, loopC (impl_WorstRatio_l3 e e' e' e) (2, b2) = some (.inl b2) := by
          intro b2
          rw [loopC_eq]
          simp only [impl_WorstRatio_l3, show decide ((2 : Int) < 2) = false by decide, cond_false]
        simp only [Bool.not_true, cond_false, impl_cmp_good gv g1, Option.bind_some, if_true, gmx]
        by_cases d2 : 0 < cmp (fdiv e' e).1 b1
        · simp [d2, last]
        · simp [d2, last]
    by_cases d1 : 0 < cmp (fdiv e e').1 b
    · simp only [d1, decide_true, cond_true, Option.bind_some, second gu]
      cases c2 : (fdiv e' e).2 <;> simp [gmx, d1]
    · simp only [d1, decide_false, cond_false, Option.bind_some, second hb]
      cases c2 : (fdiv e' e).2 <;> simp [gmx, d1]

theorem impl_inner {P Q : List impl_Frac × Bool} (hl : P.1.length = Q.1.length) (h13 : P.1.length ≤ 1048576) (gP : ∀ y ∈ P.1, Good y) (gQ : ∀ y ∈ Q.1, Good y) {b : impl_Frac} (hb : Good b) :
    loopC (impl_WorstRatio_l2 P Q) (0, b) = some ((inner (P.1.zip Q.1) b).elim (.inr (.done (.inr (⟨0, 0⟩, false)))) .inl) := by
  rw [loop_list (fun k s => (k, s)) (P.1.zip Q.1) (impl_WorstRatio_l2 P Q) (fun _ p b => some ((pairS p.1 p.2 b).elim (.inr (.inr (.done (.inr (⟨0, 0⟩, false))))) .inl)) (fun b => some (.inl b)) (fun _ b => Good b) (fun k p b hp hb => ?_) (fun b _ => ?_) (fun k p b b' hp hb h => ?_) hb]
  · rw [lfold_inner]
  · obtain ⟨h1, h2⟩ := zip_get hp
    have g1 := gP _ (List.mem_of_getElem? h1)
    have g2 := gQ _ (List.mem_of_getElem? h2)
    simp only [impl_WorstRatio_l2, lt_ok h1, cond_true, at_ok h1, at_ok h2, Option.bind_some, impl_pair g1 g2 hb, nx_ok h1 (by omega)]
    cases pairS p.1 p.2 b <;> simp [nxt]
  · simp only [impl_WorstRatio_l2]
    rw [show decide (((P.1.zip Q.1).length : Int) < goLen P.1) = false by simp [goLen]; omega]
    rfl
  · obtain ⟨h1, h2⟩ := zip_get hp
    cases hq : pairS p.1 p.2 b with
    | none => simp [hq] at h
    | some b2 =>
      simp only [hq, Option.elim_some, Option.some.injEq, Sum.inl.injEq] at h
      subst h
      exact pairS_good (gP _ (List.mem_of_getElem? h1)) (gQ _ (List.mem_of_getElem? h2)) hb hq

def outerS (A : impl_Frac) (lo hi : Int) (k : Nat) (b : impl_Frac) : Option impl_Frac :=
  if (clampR A lo hi (lo + k)).2 = true ∧ (clampR A lo hi (lo + k + 1)).2 = true then inner ((clampR A lo hi (lo + k)).1.zip (clampR A lo hi (lo + k + 1)).1) b else none
