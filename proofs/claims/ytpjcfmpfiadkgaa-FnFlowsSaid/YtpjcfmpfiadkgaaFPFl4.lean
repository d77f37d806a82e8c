/- Plain laws: no flow and equal totals: a cut; a flow: no cut. -/
import Derived.Test.YtpjcfmpfiadkgaaFPFl3

namespace Go.Gx.F

open Go.Gx

set_option linter.all false

set_option maxRecDepth 10000

theorem res_max {N : Nat} {r0 : Nat → Nat → Int} {a b : Nat} (h0 : ∀ i j, i < N → j < N → 0 ≤ r0 i j) (ha : a < N) (hab : a ≠ b) : ∃ (v : Int) (r : Nat → Nat → Int), Res N r0 r a b v ∧ ∀ w g, FlowN N r0 a b w g → w ≤ v := by
  have key : ∀ (k : Nat) (v : Int) (r : Nat → Nat → Int), Res N r0 r a b v → (sm N (r0 a) - v).toNat = k → ∃ (v : Int) (r : Nat → Nat → Int), Res N r0 r a b v ∧ ∀ w g, FlowN N r0 a b w g → w ≤ v := by
    intro k
    induction k using Nat.strongRecOn with
    | ind k ih =>
      intro v r h hk
      obtain ⟨back, ord, hs, hao, hcl⟩ := srch_max (r := r) ha
      by_cases hb : b ∈ ord
      · obtain ⟨k', hk'⟩ := List.mem_iff_getElem?.1 hb
        obtain ⟨path, a', p1, p2, p3, p4, p5, p6, p7⟩ := hs.path k' b hk'
        obtain rfl : a' = a := p3
        have h2 := h.aug (s := 1) (by omega) p4 (fun x hx => by obtain ⟨i, _, hi⟩ := p5 x hx; exact hs.lt x (List.mem_of_getElem? hi)) p7 p1 p2
        have e := h2.sum a' ha
        rw [if_pos rfl, if_neg hab] at e
        have e2 := sm_nonneg (n := N) (f := augP 1 r path a') fun j hj => h2.nn a' j ha hj
        exact ih _ (by omega) (v + 1) _ h2 rfl
      · refine ⟨v, r, h, h.max ha hab (S := fun v => decide (v ∈ ord)) (decide_eq_true hao) (decide_eq_false hb) fun i j hi hj h1 h2 => ?_⟩
        have g1 := of_decide_eq_true h1
        have g2 := of_decide_eq_false h2
        have g3 := hcl i j g1 hj g2
        have g4 := h.nn i j hi hj
        omega
  exact key _ 0 r0 (Res.start h0) rfl

section

variable {n m : Nat} {R C : Nat → Int} {lo hi : Nat → Nat → Int}

theorem cut_ex (hlh : ∀ i j, i < n → j < m → lo i j ≤ hi i j) (htot : sm n R = sm m C) (hno : ∀ y, ¬ IsFl n m R C lo hi y) : ∃ S T, rgt n m C lo hi S T < lft n R S := by
  by_cases hR : ∀ i, i < n → sm m (lo i) ≤ R i
  · by_cases hC : ∀ j, j < m → sm n (fun i => lo i j) ≤ C j
    · have h0 := fil_nn (n := n) (m := m) hlh hR hC
      obtain ⟨v, r, h, hmax⟩ := res_max (N := n + m + 2) (a := n + m) (b := n + m + 1) h0 (by omega) (by omega)
      obtain ⟨S, h1, h2, h3⟩ := h.cut (by omega) (by omega) hmax
      rw [fil_cut h1 h2] at h3
      obtain ⟨f1, f2, f3, f4⟩ := fill_ok h
      refine ⟨S, fun j => S (n + j), cut_of ?_⟩
      rw [← h3]
      by_cases hlt : v < sm n fun i => R i - sm m (lo i)
      · exact hlt
      · refine absurd (fill_flow h (fun i hi' => ?_) htot) (hno _)
        have g1 := sm_one (f := fun i => r (n + m) i) (fun i hi => (f2 i hi).1) hi'
        have g2 := f2 i hi'
        omega
    · obtain ⟨j, hj, hlt⟩ : ∃ j, j < m ∧ C j < sm n (fun i => lo i j) := Classical.byContradiction fun hc => hC fun j hj => Int.not_lt.1 fun h => hc ⟨j, hj, h⟩
      refine ⟨fun _ => false, fun k => decide (k = j), ?_⟩
      have e1 : lft n R (fun _ => false) = 0 := sm_z fun i hi' => rfl
      have e2 : (sm m fun k => if decide (k = j) = true then C k else 0) = C j := by
        rw [← sm_single hj (C j)]
        refine sm_congr fun k hk => ?_
        by_cases hkj : k = j
        · rw [hkj]; simp
        · simp [hkj]
      have e3 : (sm n fun i => sm m fun k => if false = true then (if decide (k = j) = true then 0 else hi i k) else (if decide (k = j) = true then - lo i k else 0)) = - sm n fun i => lo i j := by
        rw [← sm_neg]
        refine sm_congr fun i hi' => ?_
        rw [← sm_single hj (- lo i j)]
        refine sm_congr fun k hk => ?_
        by_cases hkj : k = j
        · rw [hkj]; simp
        · simp [hkj]
      unfold rgt
      show (sm m fun k => if decide (k = j) = true then C k else 0) + (sm n fun i => sm m fun k => if false = true then (if decide (k = j) = true then 0 else hi i k) else (if decide (k = j) = true then - lo i k else 0)) < _
      rw [e1, e2, e3]
      omega
  · obtain ⟨i, hi', hlt⟩ : ∃ i, i < n ∧ R i < sm m (lo i) := Classical.byContradiction fun hc => hR fun i hi' => Int.not_lt.1 fun h => hc ⟨i, hi', h⟩
    refine ⟨fun k => decide (k ≠ i), fun _ => true, ?_⟩
    have e1 : lft n R (fun k => decide (k ≠ i)) = sm n R - R i := by
      have := sm_single hi' (R i)
      unfold lft
      rw [← this, ← sm_sub]
      refine sm_congr fun k hk => ?_
      by_cases hki : k = i
      · rw [hki]; simp
      · simp [hki]
    have e2 : (sm m fun k => if true = true then C k else 0) = sm m C := sm_congr fun k hk => by simp
    have e3 : (sm n fun k => sm m fun j => if decide (k ≠ i) = true then (if true = true then 0 else hi k j) else (if true = true then - lo k j else 0)) = - sm m (lo i) := by
      rw [← sm_single hi' (- sm m (lo i))]
      refine sm_congr fun k hk => ?_
      by_cases hki : k = i
      · rw [hki, if_pos rfl, ← sm_neg]
        exact sm_congr fun j hj => by simp
      · rw [if_neg hki]
        exact sm_z fun j hj => by simp [hki]
    unfold rgt
    show (sm m fun k => if true = true then C k else 0) + (sm n fun k => sm m fun j => if decide (k ≠ i) = true then (if true = true then 0 else hi k j) else (if true = true then - lo k j else 0)) < _
    rw [e1, e2, e3]
    omega

theorem no_cut {y : Nat → Nat → Int} (hy : IsFl n m R C lo hi y) (S T : Nat → Bool) : lft n R S ≤ rgt n m C lo hi S T := by
  have e1 : lft n R S = sm n fun i => sm m fun j => if S i = true then y i j else 0 := by
    unfold lft
    refine sm_congr fun i hi' => ?_
    cases S i with
    | true => simp only [if_true]; exact (hy.row i hi').symm
    | false => simp only [Bool.false_eq_true, if_false]; exact (sm_zero m).symm
  have e2 : (sm m fun j => if T j = true then C j else 0) = sm n fun i => sm m fun j => if T j = true then y i j else 0 := by
    rw [sm_comm]
    refine sm_congr fun j hj => ?_
    cases T j with
    | true => simp only [if_true]; exact (hy.col j hj).symm
    | false => simp only [Bool.false_eq_true, if_false]; exact (sm_zero n).symm
  unfold rgt
  rw [e1, e2, ← sm_add]
  refine sm_le fun i hi' => ?_
  rw [← sm_add]
  refine sm_le fun j hj => ?_
  have b1 := hy.lo i j hi' hj; have b2 := hy.hi i j hi' hj
  cases S i <;> cases T j <;> simp <;> omega

end

end Go.Gx.F
