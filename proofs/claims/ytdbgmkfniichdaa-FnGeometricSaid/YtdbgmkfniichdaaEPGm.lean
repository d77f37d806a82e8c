/- Plain laws: the geometric mechanism. -/
import Derived.Test.YtdbgmkfniichdaaEPClamp
import Derived.Test.YtdbgmkfniichdaaEPVal
import Derived.Test.YtdbgmkfniichdaaEPCur
namespace Go.Gx.F
open Go.Gx
set_option linter.all false

theorem val_of_cmp {a b : impl_Frac} (ha : Good a) (hb : Good b) (h : cmp a b ≤ 0) : val a ≤ val b := by
  rcases Rat.le_total (a := val a) (b := val b) with h1 | h1
  · exact h1
  · have h2 := cmp_of_val hb ha h1
    rw [cmp_anti' ha hb h h2]
    exact Rat.le_refl

/-! values of masses -/
def Tq (a : Rat) (d : Nat) : Rat := a ^ d / (1 + a)

theorem T_next {a : Rat} (h : 1 + a ≠ 0) (d : Nat) : Tq a (d + 1) = a * Tq a d := by unfold Tq; grind

theorem T_01 {a : Rat} (h : 1 + a ≠ 0) : Tq a 0 + Tq a 1 = 1 := by unfold Tq; grind

theorem one_plus {A : impl_Frac} (hr : Ratio A) : 1 + val A ≠ 0 := by
  obtain ⟨hg, h1, h2⟩ := hr
  have hd := den_q hg
  have hs : ((A.Den + A.Num : Int) : Rat) ≠ 0 := by
    have : A.Den + A.Num ≠ 0 := by have := den_pos hg; omega
    intro hc
    have h0 : ((A.Den + A.Num : Int) : Rat) = ((0 : Int) : Rat) := by rw [hc]; rfl
    exact this (Rat.intCast_inj.1 h0)
  rw [Rat.intCast_add] at hs
  unfold val
  grind

theorem val_ne {A : impl_Frac} (hr : Ratio A) : val A ≠ 0 := num_q hr.1 (by have := hr.2.1; omega)

theorem val_tail {A : impl_Frac} (hr : Ratio A) {k : Nat} (h : (gtail A (k : Int)).2 = true) : val (gtail A (k : Int)).1 = Tq (val A) k := by
  have h1 := one_plus hr
  unfold gtail at h ⊢
  split at h
  · rename_i hc
    rw [if_pos hc]
    have g1 := pwI_good hr.1 _ _ good_one hc.1
    have g2 := fadd_good good_one hr.1 hc.2
    rw [val_div g1 g2 h, val_pw hr.1 _ _ good_one hc.1, val_add good_one hr.1 hc.2, val_one]
    unfold Tq
    simp only [Int.toNat_natCast]
    grind
  · cases h

theorem val_mass {A : impl_Frac} (hr : Ratio A) {k : Nat} (h : (gmass A k).2 = true) : val (gmass A k).1 = Tq (val A) k - Tq (val A) (k + 1) := by
  have h1 := one_plus hr
  unfold gmass at h ⊢
  split at h
  · rename_i hc
    rw [if_pos hc]
    have g1 := gbase_good hr hc.1
    have g2 := pwI_good hr.1 k _ good_one hc.2
    rw [val_mul g1 g2 h, val_pw hr.1 _ _ good_one hc.2, val_one]
    have hb : val (gbase A).1 = (1 - val A) / (1 + val A) := by
      have h0 := hc.1
      unfold gbase at h0 ⊢
      split at h0
      · rename_i ha
        rw [if_pos ha]
        have g3 := fadd_good good_one hr.1 ha
        have gl := less_good hr
        rw [val_div gl g3 h0, val_add good_one hr.1 ha, val_one]
        have hd := den_q hr.1
        have hl : val ⟨A.Den - A.Num, A.Den⟩ = 1 - val A := by
          unfold val
          simp only
          rw [Rat.intCast_sub]
          grind
        rw [hl]
      · cases h0
    rw [hb]
    unfold Tq
    grind
  · cases h

def wq (a : Rat) (i N k : Nat) : Rat := if k = 0 then Tq a i else if k = N then Tq a (N - i) else if k ≤ i then Tq a (i - k) - Tq a (i - k + 1) else Tq a (k - i) - Tq a (k - i + 1)

def Pre (a : Rat) (i N k : Nat) : Rat := if k = 0 then 0 else if k = N + 1 then 1 else if k ≤ i + 1 then Tq a (i + 1 - k) else 1 - Tq a (k - i)

theorem pre_step {a : Rat} (h : 1 + a ≠ 0) {i N k : Nat} (hi : i ≤ N) (hN : 1 ≤ N) (hk : k ≤ N) : Pre a i N (k + 1) = Pre a i N k + wq a i N k := by
  have h01 := T_01 h
  unfold Pre wq
  rw [if_neg (show ¬ k + 1 = 0 by omega)]
  by_cases c0 : k = 0
  · subst c0
    rw [if_neg (show ¬ 0 + 1 = N + 1 by omega), if_pos (show 0 + 1 ≤ i + 1 by omega), if_pos rfl, if_pos rfl, show i + 1 - (0 + 1) = i by omega]
    grind
  · rw [if_neg c0, if_neg c0, if_neg (show ¬ k = N + 1 by omega)]
    by_cases cN : k = N
    · rw [if_pos (show k + 1 = N + 1 by omega), if_pos cN]
      by_cases ci : k ≤ i + 1
      · rw [if_pos ci]
        by_cases cj : i = N
        · rw [show i + 1 - k = 1 by omega, show N - i = 0 by omega]; grind
        · rw [show i + 1 - k = 0 by omega, show N - i = 1 by omega]; grind
      · rw [if_neg ci, show N - i = k - i by omega]; grind
    · rw [if_neg (show ¬ k + 1 = N + 1 by omega), if_neg cN]
      by_cases ci : k ≤ i
      · rw [if_pos (show k + 1 ≤ i + 1 by omega), if_pos (show k ≤ i + 1 by omega), if_pos ci, show i + 1 - (k + 1) = i - k by omega, show i + 1 - k = i - k + 1 by omega]
        grind
      · rw [if_neg (show ¬ k + 1 ≤ i + 1 by omega), if_neg ci]
        by_cases cj : k ≤ i + 1
        · rw [if_pos cj, show i + 1 - k = 0 by omega, show k + 1 - i = 2 by omega, show k - i = 1 by omega]; grind
        · rw [if_neg cj, show k + 1 - i = k - i + 1 by omega]; grind

theorem val_at {A : impl_Frac} (hr : Ratio A) {lo x : Int} {N i k : Nat} (hx : x = lo + i) (hi : i ≤ N) (hN : 1 ≤ N) (hk : k ≤ N) (h : (massAt A lo (lo + N) x k).2 = true) : val (massAt A lo (lo + N) x k).1 = wq (val A) i N k := by
  subst hx
  unfold wq
  by_cases c0 : k = 0
  · rw [massAt_tail (.inl (by omega))] at h ⊢
    rw [if_pos c0, show (lo + (i : Int) - (lo + (k : Int))).natAbs = i by omega] at *
    exact val_tail hr h
  · rw [if_neg c0]
    by_cases cN : k = N
    · rw [massAt_tail (.inr (by omega))] at h ⊢
      rw [if_pos cN, show (lo + (i : Int) - (lo + (k : Int))).natAbs = N - i by omega] at *
      exact val_tail hr h
    · rw [massAt_mass (by omega)] at h ⊢
      rw [if_neg cN]
      by_cases ci : k ≤ i
      · rw [if_pos ci]
        rw [show (lo + (i : Int) - (lo + (k : Int))).natAbs = i - k by omega] at *
        exact val_mass hr h
      · rw [if_neg ci]
        rw [show (lo + (i : Int) - (lo + (k : Int))).natAbs = k - i by omega] at *
        exact val_mass hr h

theorem clampF_some {A : impl_Frac} {lo hi x : Int} {k z : Nat} {y : impl_Frac} (h : clampF A lo hi x k z = some y) : (massAt A lo hi x k).2 = true ∧ y = (massAt A lo hi x k).1 := by
  unfold clampF at h
  split at h
  · rename_i hc; exact ⟨hc, (Option.some.inj h).symm⟩
  · cases h

theorem sum_from {A : impl_Frac} (hr : Ratio A) {lo x : Int} {N i : Nat} (hx : x = lo + i) (hi : i ≤ N) (hN : 1 ≤ N) : ∀ (l : List Nat) (k : Nat) (r : List impl_Frac), l.length + k = N + 1 → mapO (clampF A lo (lo + N) x) k l = some r → vsum r = 1 - Pre (val A) i N k
  | [], k, r, hl, h => by
    simp only [mapO, Option.some.injEq] at h
    subst h
    simp only [List.length_nil, Nat.zero_add] at hl
    unfold Pre
    rw [if_neg (by omega), if_pos hl]
    simp only [vsum]
    grind
  | z :: l, k, r, hl, h => by
    simp only [List.length_cons] at hl
    simp only [mapO] at h
    split at h
    · cases h
    · rename_i y h1
      split at h
      · cases h
      · rename_i r' h2
        simp only [Option.some.injEq] at h
        subst h
        obtain ⟨c1, c2⟩ := clampF_some h1
        have hv := val_at hr hx hi hN (k := k) (by omega) c1
        rw [← c2] at hv
        have ih := sum_from hr hx hi hN l (k + 1) r' (by omega) h2
        have hs := pre_step (one_plus hr) hi hN (show k ≤ N by omega)
        simp only [vsum]
        grind

/-- the masses add up to one -/
theorem clamp_sum {A : impl_Frac} (hr : Ratio A) {lo hi x : Int} (hb : Bnds lo hi) (hx : lo ≤ x ∧ x ≤ hi) (h : (clampR A lo hi x).2 = true) {t : impl_Frac} (ht : fsums (clampR A lo hi x).1 ⟨0, 1⟩ = some t) : t = ⟨1, 1⟩ := by
  have hg := clampR_good hr hb hx
  have gt := fsums_good _ _ t good_zero hg ht
  have hv := val_fsums _ _ t good_zero hg ht
  refine val_inj gt good_one ?_
  rw [hv, val_zero, val_one]
  unfold clampR at h ⊢
  by_cases hlh : lo = hi
  · rw [if_pos hlh]
    simp only [vsum, val_one]
    grind
  · rw [if_neg hlh] at h ⊢
    obtain ⟨N, hN⟩ : ∃ N : Nat, hi = lo + N := ⟨(hi - lo).toNat, by have := hb.2.1; omega⟩
    subst hN
    obtain ⟨i, hi'⟩ : ∃ i : Nat, x = lo + i := ⟨(x - lo).toNat, by omega⟩
    rw [show (lo + (N : Int) - lo).toNat = N by omega] at h ⊢
    cases hq : mapO (clampF A lo (lo + N) x) 0 (List.range (N + 1)) with
    | none => rw [hq] at h; cases h
    | some r =>
      have := sum_from hr hi' (by omega) (by omega) (List.range (N + 1)) 0 r (by simp) hq
      simp only [Option.elim_some, this]
      unfold Pre
      rw [if_pos rfl]
      grind

/-! the worst ratio -/
theorem w_near {a : Rat} (h : 1 + a ≠ 0) {i N k : Nat} (hi : i + 1 ≤ N) (hk : k ≤ N) : wq a (i + 1) N k = a * wq a i N k ∨ wq a i N k = a * wq a (i + 1) N k := by
  have T := fun d => T_next h d
  unfold wq
  by_cases c0 : k = 0
  · left; rw [if_pos c0, if_pos c0, T]
  · rw [if_neg c0, if_neg c0]
    by_cases cN : k = N
    · right; rw [if_pos cN, if_pos cN, show N - i = N - (i + 1) + 1 by omega, T]
    · rw [if_neg cN, if_neg cN]
      by_cases ci : k ≤ i
      · left
        rw [if_pos ci, if_pos (show k ≤ i + 1 by omega), show i + 1 - k = i - k + 1 by omega, T, T]
        grind
      · right
        rw [if_neg ci]
        by_cases cj : k ≤ i + 1
        · rw [if_pos cj, show i + 1 - k = 0 by omega, show k - i = 1 by omega, show (1 : Nat) + 1 = 0 + 1 + 1 from rfl, T, T, show (1 : Nat) = 0 + 1 from rfl, T]
          grind
        · rw [if_neg cj, show k - i = k - (i + 1) + 1 by omega, T, T]
          grind

theorem inv_val {A : impl_Frac} (hr : Ratio A) : val ⟨A.Den, A.Num⟩ = 1 / val A := by
  have hd := den_q hr.1
  have hn : (A.Num : Rat) ≠ 0 := by
    have := hr.2.1
    intro hc
    have : A.Num = 0 := by simpa using hc
    omega
  unfold val
  grind

theorem gmx_le {b u : impl_Frac} {B : Rat} (hb : val b ≤ B) (hu : val u ≤ B) : val (gmx b u) ≤ B := by unfold gmx; split <;> assumption

theorem pair_bound {A e e' b b' : impl_Frac} (hr : Ratio A) (he : Good e) (he' : Good e') (hn : val e' = val A * val e ∨ val e = val A * val e') (hb : val b ≤ val ⟨A.Den, A.Num⟩) (h : pairS e e' b = some b') : val b' ≤ val ⟨A.Den, A.Num⟩ := by
  have hi := inv_val hr
  have ha := val_ne hr
  have hai : val A ≤ val ⟨A.Den, A.Num⟩ := val_of_cmp hr.1 (inv_good hr) (by
    rw [cmp_le]
    obtain ⟨hg, h1, h2⟩ := hr
    show A.Num * A.Num ≤ A.Den * A.Den
    exact Int.mul_le_mul (by omega) (by omega) (by omega) (by omega))
  unfold pairS at h
  split at h
  · rename_i hc
    simp only [Option.some.injEq] at h
    have n1 := num_q he' (div_num hc.1)
    have n2 := num_q he (div_num hc.2)
    have hu : val (fdiv e e').1 ≤ val ⟨A.Den, A.Num⟩ := by
      rw [val_div he he' hc.1]
      rcases hn with hn | hn
      · rw [hi, show val e / val e' = 1 / val A by grind]; exact Rat.le_refl
      · rw [show val e / val e' = val A by grind]; exact hai
    have hv : val (fdiv e' e).1 ≤ val ⟨A.Den, A.Num⟩ := by
      rw [val_div he' he hc.2]
      rcases hn with hn | hn
      · rw [show val e' / val e = val A by grind]; exact hai
      · rw [hi, show val e' / val e = 1 / val A by grind]; exact Rat.le_refl
    subst h
    exact gmx_le (gmx_le hb hu) hv
  · cases h

theorem inner_bound {A : impl_Frac} (hr : Ratio A) : ∀ (l : List (impl_Frac × impl_Frac)) (b b' : impl_Frac), (∀ p ∈ l, Good p.1 ∧ Good p.2 ∧ (val p.2 = val A * val p.1 ∨ val p.1 = val A * val p.2)) → val b ≤ val ⟨A.Den, A.Num⟩ → inner l b = some b' → val b' ≤ val ⟨A.Den, A.Num⟩
  | [], b, b', _, hb, h => by simp only [inner, Option.some.injEq] at h; subst h; exact hb
  | p :: r, b, b', hl, hb, h => by
    simp only [inner] at h
    split at h
    · cases h
    · rename_i b2 h1
      obtain ⟨p1, p2, p3⟩ := hl p (by simp)
      exact inner_bound hr r b2 b' (fun q hq => hl q (by simp [hq])) (pair_bound hr p1 p2 p3 hb h1) h

theorem zip_near {A : impl_Frac} (hr : Ratio A) {lo x : Int} {N : Nat} (hb : Bnds lo (lo + N)) (hx : lo ≤ x ∧ x < lo + N) : ∀ p ∈ (clampR A lo (lo + N) x).1.zip (clampR A lo (lo + N) (x + 1)).1, Good p.1 ∧ Good p.2 ∧ (val p.2 = val A * val p.1 ∨ val p.1 = val A * val p.2) := by
  intro p hp
  have hm := List.of_mem_zip (show (p.1, p.2) ∈ _ from hp)
  refine ⟨clampR_good hr hb (by omega) _ hm.1, clampR_good hr hb (by omega) _ hm.2, ?_⟩
  obtain ⟨k, hk, hke⟩ := List.mem_iff_getElem.1 hp
  have hz : ((clampR A lo (lo + N) x).1.zip (clampR A lo (lo + N) (x + 1)).1)[k]? = some p := by rw [List.getElem?_eq_getElem hk, hke]
  obtain ⟨z1, z2⟩ := zip_get hz
  obtain ⟨i, hi⟩ : ∃ i : Nat, x = lo + i := ⟨(x - lo).toNat, by omega⟩
  have hne : ¬ lo = lo + (N : Int) := by omega
  unfold clampR at z1 z2
  rw [if_neg hne, show (lo + (N : Int) - lo).toNat = N by omega] at z1 z2
  cases hq : mapO (clampF A lo (lo + N) x) 0 (List.range (N + 1)) with
  | none => rw [hq] at z1; simp at z1
  | some r =>
    cases hq' : mapO (clampF A lo (lo + N) (x + 1)) 0 (List.range (N + 1)) with
    | none => rw [hq'] at z2; simp at z2
    | some r' =>
      rw [hq] at z1
      rw [hq'] at z2
      simp only [Option.elim_some] at z1 z2
      obtain ⟨y, e1, e2⟩ := mapO_at hq k _ z1
      obtain ⟨y', e1', e2'⟩ := mapO_at hq' k _ z2
      have hkN := (range_get' e1).2
      rw [Nat.zero_add] at e2 e2'
      obtain ⟨c1, c2⟩ := clampF_some e2
      obtain ⟨c1', c2'⟩ := clampF_some e2'
      have v1 := val_at hr hi (by omega) (by omega) (by omega) c1
      have v2 := val_at hr (show x + 1 = lo + ((i + 1 : Nat) : Int) by omega) (by omega) (by omega) (by omega) c1'
      rw [← c2] at v1
      rw [← c2'] at v2
      rw [v1, v2]
      exact w_near (one_plus hr) (by omega) (by omega)

theorem worst_bound {A : impl_Frac} (hr : Ratio A) {lo hi : Int} (hb : Bnds lo hi) :
    ∃ r : impl_Frac ⊕ (impl_Frac × Bool), loopC (impl_WorstRatio_l1 A lo hi) (lo, ⟨1, 1⟩) = some r ∧ (∀ t, r = .inl t → Good t ∧ val t ≤ val ⟨A.Den, A.Num⟩) ∧ (∀ q, r = .inr q → q.2 = false) := by
  obtain ⟨N, hN⟩ : ∃ N : Nat, hi = lo + N := ⟨(hi - lo).toNat, by have := hb.2.1; omega⟩
  subst hN
  have hbb := hb
  obtain ⟨b1, b2, b3, b4⟩ := hb
  have round : ∀ (k : Nat) (b : impl_Frac), k < N → Good b → impl_WorstRatio_l1 A lo (lo + N) (lo + k, b) = some ((outerS A lo (lo + N) k b).elim (.done (.inr (⟨0, 0⟩, false))) (fun b' => .next (lo + ((k + 1 : Nat) : Int), b'))) := by
    intro k b hk gb
    have w1 : w64 (lo + (k : Int) + 1) = lo + k + 1 := w64_in (by omega) (by omega)
    simp only [impl_WorstRatio_l1]
    rw [show decide (lo + (k : Int) < lo + N) = true by simp; omega, (clamps hr hbb (x := lo + k) (by omega)).2, w1, (clamps hr hbb (x := lo + k + 1) (by omega)).2]
    simp only [cond_true, Option.bind_some, outerS]
    cases c1 : (clampR A lo (lo + N) (lo + k)).2 with
    | false => simp
    | true =>
      cases c2 : (clampR A lo (lo + N) (lo + k + 1)).2 with
      | false => simp
      | true =>
        rw [impl_inner (clampR_same_len c1 c2) (by have := clampR_len A hbb (x := lo + k); omega) (clampR_good hr hbb (by omega)) (clampR_good hr hbb (by omega)) gb]
        simp only [Bool.not_true, cond_false, Option.bind_some, and_self, if_true]
        cases inner ((clampR A lo (lo + N) (lo + k)).1.zip (clampR A lo (lo + N) (lo + k + 1)).1) b with
        | none => simp
        | some b' => simp; omega
  have stay : ∀ (k : Nat) (b b' : impl_Frac), k < N → Good b → val b ≤ val ⟨A.Den, A.Num⟩ → outerS A lo (lo + N) k b = some b' → Good b' ∧ val b' ≤ val ⟨A.Den, A.Num⟩ := by
    intro k b b' hk gb vb ho
    unfold outerS at ho
    split at ho
    · have hz := zip_near hr hbb (x := lo + k) (by omega)
      exact ⟨inner_good _ _ _ (fun p hp => ⟨(hz p hp).1, (hz p hp).2.1⟩) gb ho, inner_bound hr _ _ _ hz vb ho⟩
    · cases ho
  refine loopC_inv (f := impl_WorstRatio_l1 A lo (lo + N)) (fun s => ∃ k : Nat, k ≤ N ∧ s.1 = lo + k ∧ Good s.2 ∧ val s.2 ≤ val ⟨A.Den, A.Num⟩) (fun s => (lo + N - s.1).toNat) (fun r => (∀ t, r = .inl t → Good t ∧ val t ≤ val ⟨A.Den, A.Num⟩) ∧ (∀ q, r = .inr q → q.2 = false)) (fun s hs => ?_) (lo, ⟨1, 1⟩) ⟨0, by omega, by simp, good_one, ?_⟩
  · obtain ⟨x, b⟩ := s
    obtain ⟨k, hk, rfl, gb, vb⟩ := hs
    simp only at gb vb
    by_cases hkN : k < N
    · rw [round k b hkN gb]
      cases ho : outerS A lo (lo + N) k b with
      | none => exact .inl ⟨_, rfl, fun t ht => (by cases ht), fun q hq => by simp only [Sum.inr.injEq] at hq; rw [← hq]⟩
      | some b' =>
        obtain ⟨q1, q2⟩ := stay k b b' hkN gb vb ho
        exact .inr ⟨_, rfl, ⟨k + 1, by omega, rfl, q1, q2⟩, by simp only; omega⟩
    · left
      refine ⟨.inl b, by simp only [impl_WorstRatio_l1, show decide (lo + (k : Int) < lo + N) = false by simp; omega, cond_false], fun t ht => ?_, fun q hq => by cases hq⟩
      simp only [Sum.inl.injEq] at ht
      subst ht
      exact ⟨gb, vb⟩
  · exact val_of_cmp good_one (inv_good hr) (by rw [cmp_le]; have := hr.2.2; simp only; omega)

theorem worst_impl (A : impl_Frac) (lo hi : Int) : ∃ p, impl_WorstRatio A lo hi = some p ∧ (Ratio A → Bnds lo hi → p.2 = true → Good p.1 ∧ val p.1 ≤ val ⟨A.Den, A.Num⟩) := by
  unfold impl_WorstRatio
  simp only [Option.bind_some, impl_isRatio_eq, impl_isClamp_eq]
  by_cases hr : Ratio A
  · by_cases hb : Bnds lo hi
    · obtain ⟨p, p2, p3, p4⟩ := worst_bound hr hb
      simp only [hr, hb, decide_true, Bool.not_true, cond_false, Option.bind_some, p2]
      cases p with
      | inl t => exact ⟨(t, true), rfl, fun _ _ _ => p3 t rfl⟩
      | inr q => exact ⟨q, rfl, fun _ _ hq => by rw [p4 q rfl] at hq; cases hq⟩
    · exact ⟨(⟨0, 0⟩, false), by simp [hr, hb], fun _ h => absurd h hb⟩
  · exact ⟨(⟨0, 0⟩, false), by simp [hr], fun h => absurd h hr⟩

theorem geo_one {A : impl_Frac} (hr : Ratio A) : impl_GeoRatio A 1 = some (⟨A.Den, A.Num⟩, true) := by
  have hi := inv_good hr
  have e1 : fmul ⟨1, 1⟩ ⟨A.Den, A.Num⟩ = (⟨A.Den, A.Num⟩, true) := by
    unfold fmul
    simp only [Int.one_mul]
    exact mk_self hi
  unfold impl_GeoRatio
  simp only [impl_isRatio_eq, hr, decide_true, Bool.not_true, cond_false, Option.bind_some]
  rw [impl_PowFrac_eq hi (by omega) (by omega)]
  simp [pwI, e1]

theorem compare_good {a b : impl_Frac} (ha : Good a) (hb : Good b) : impl_CompareFrac a b = some (cmp a b, true) := by
  unfold impl_CompareFrac
  simp [impl_IsFrac_eq, ha, hb, impl_cmp_good ha hb]

/-! the other functions of the mechanism -/
theorem masses (A : impl_Frac) (k : Int) (h1 : -1000000 ≤ k) (h2 : k ≤ 1000000) : ∃ p, spec_GeoMass A k = some p ∧ impl_GeoMass A k = some p ∧ impl_GeoMass A (w64 (-k)) = some p := by
  unfold spec_GeoMass impl_GeoMass
  have w1 : w64 (-k) = -k := w64_in (by omega) (by omega)
  have w2 : w64 (- -k) = k := by rw [w64_in (by omega) (by omega)]; omega
  simp only [w1, w2, Option.bind_some, spec_zRatio_eq, impl_isRatio_eq, spec_l1In_eq, bools2, bnd_l]
  by_cases hr : Ratio A
  · by_cases hk : -60 ≤ k ∧ k ≤ 60
    · have hk' : -60 ≤ -k ∧ -k ≤ 60 := by omega
      have e1 : max k (-k) = (k.natAbs : Int) := by omega
      have e2 : max (-k) k = (k.natAbs : Int) := by omega
      have hm := spec_zMass_eq hr (k := k) (by omega)
      have hi := impl_geoMass_eq hr (k := k.natAbs) (by omega)
      refine ⟨gmass A k.natAbs, ?_, ?_, ?_⟩
      · simp [hr, hk, hm]
      · simp [hr, hk, e1, hi]
      · simp [hr, hk', e2, hi]
    · have hk' : ¬ (-60 ≤ -k ∧ -k ≤ 60) := by omega
      exact ⟨(⟨0, 0⟩, false), by simp [hk], by simp [hk], by simp only [hk', and_false, if_false]; try simp⟩
  · exact ⟨(⟨0, 0⟩, false), by simp [hr], by simp [hr], by simp [hr]⟩

theorem radii (A D : impl_Frac) : ∃ p, spec_LeastRadius A D = some p ∧ impl_LeastRadius A D = some p := by
  unfold spec_LeastRadius impl_LeastRadius
  simp only [Option.bind_some, spec_zRatio_eq, impl_isRatio_eq, spec_fGood_eq, impl_IsFrac_eq, bools2]
  by_cases hc : Ratio A ∧ Good D
  · obtain ⟨hr, hg⟩ := hc
    simp only [hr, hg, and_self, if_true]
    have hbody : ∀ t : Int, 0 ≤ t ∧ t ≤ 60 → impl_LeastRadius_l1 A D t = spec_LeastRadius_l1 A D t ∧ ((∃ r, impl_LeastRadius_l1 A D t = some (.done r)) ∨ (t < 60 ∧ impl_LeastRadius_l1 A D t = some (.next (t + 1)))) := fun t ht => by
      by_cases h6 : t < 60
      · obtain ⟨x, y⟩ := radius_bodies hr hg ht.1 h6
        exact ⟨x, y.imp id fun y => ⟨h6, y⟩⟩
      · unfold impl_LeastRadius_l1 spec_LeastRadius_l1
        simp [h6]
    have hsame : loopC (impl_LeastRadius_l1 A D) 0 = loopC (spec_LeastRadius_l1 A D) 0 := loopC_congr (I := fun t => 0 ≤ t ∧ t ≤ 60) (fun t ht => (hbody t ht).1) (fun t t' ht hn => by
      rcases (hbody t ht).2 with ⟨r, hr⟩ | ⟨h6, hr⟩
      · rw [hr] at hn; simp at hn
      · rw [hr] at hn; simp at hn; omega) (by omega)
    obtain ⟨r, hr', _⟩ := loopC_inv (f := impl_LeastRadius_l1 A D) (fun t => 0 ≤ t ∧ t ≤ 60) (fun t => (60 - t).toNat) (fun _ => True) (fun t ht => by
      rcases (hbody t ht).2 with ⟨r, hr⟩ | ⟨h6, hr⟩
      · exact .inl ⟨r, hr, trivial⟩
      · exact .inr ⟨t + 1, hr, by omega, by omega⟩) 0 (by omega)
    rw [← hsame, hr']
    cases r with
    | inl u => exact ⟨(0, false), by simp, by simp⟩
    | inr q => exact ⟨q, by simp, by simp⟩
  · exact ⟨(0, false), by simp only [hc, if_false]; try simp, by simp only [hc, if_false]; try simp⟩

theorem variances (A : impl_Frac) : ∃ p, spec_VarianceOf A = some p ∧ impl_VarianceOf A = some p := by
  unfold spec_VarianceOf impl_VarianceOf
  simp only [Option.bind_some, spec_zRatio_eq, impl_isRatio_eq]
  by_cases hr : Ratio A
  · have h2 : Good ⟨2, 1⟩ := by decide
    have hl := less_good hr
    simp only [hr, decide_true, Bool.not_true, cond_false, spec_fInt, Option.bind_some, spec_fMul_eq hr.1 h2, impl_MulFrac_eq h2 hr.1, fmul_comm ⟨2, 1⟩ A, one_sub hr, impl_lessOne_eq hr,
      spec_fPow_eq hl (show (2 : Int) ≤ 60 by decide), impl_PowFrac_eq hl (show (0 : Int) ≤ 2 by decide) (show (2 : Int) ≤ 60 by decide)]
    rcases h3 : (fmul A ⟨2, 1⟩).2 with _ | _
    · exact ⟨(⟨0, 0⟩, false), by simp, by simp⟩
    · rcases h4 : (pwI ⟨A.Den - A.Num, A.Den⟩ ⟨1, 1⟩ (Int.toNat 2)).2 with _ | _
      · exact ⟨(⟨0, 0⟩, false), by simp, by simp⟩
      · have g1 := fmul_good hr.1 h2 h3
        have g2 := pwI_good hl _ _ good_one h4
        simp only [Bool.not_true, cond_false, Option.bind_some, spec_fDiv_eq g1 g2, impl_DivFrac_eq g1 g2]
        exact ⟨_, rfl, rfl⟩
  · exact ⟨(⟨0, 0⟩, false), by simp [hr], by simp [hr]⟩

/-! what is drawn -/
theorem ratio_ok {n : Nat} {c : spec_l1Cur} (h : CurOk (n + 4) c) : ∃ x c', spec_l1Cur_ratio c = some (x, c') ∧ CurOk n c' := by
  obtain ⟨x, c1, e1, x0, x1, _, k1⟩ := pick_ok (n := n + 2) h 9 (by omega)
  have hx := x1 (by omega)
  obtain ⟨y, c2, e2, y0, y1, _, k2⟩ := pick_ok (n := n) k1 (2 + x - 1) (by omega)
  have hy := y1 (by omega)
  obtain ⟨p, hp⟩ := fMake_some (n := 1 + y) (d := 2 + x) (by omega) (by omega)
  exact ⟨p.1, c2, by simp [spec_l1Cur_ratio, e1, e2, w64_small (show -1000000000000 ≤ 2 + x by omega) (by omega), w64_small (show -1000000000000 ≤ 2 + x - 1 by omega) (by omega), w64_small (show -1000000000000 ≤ 1 + y by omega) (by omega), hp], k2⟩

theorem anyRatio_ok {n : Nat} {c : spec_l1Cur} (h : CurOk (n + 8) c) : ∃ x c', spec_l1Cur_anyRatio c = some (x, c') ∧ CurOk n c' := by
  obtain ⟨b, c1, e1, k1⟩ := one_ok (n := n + 6) h 16 (by omega)
  unfold spec_l1Cur_anyRatio
  simp only [e1, Option.bind_some]
  cases b with
  | true =>
    obtain ⟨y, c2, e2, k2⟩ := anyFrac_ok (n := n) k1
    exact ⟨_, c2, by simp only [cond_true, e2, Option.bind_some]; rfl, k2⟩
  | false =>
    obtain ⟨y, c2, e2, k2⟩ := ratio_ok (n := n) (k1.le (by omega))
    exact ⟨_, c2, by simp only [cond_false, e2, Option.bind_some]; rfl, k2⟩

theorem DrawClampedMasses_ok {code : List (K .u8)} (ho : ∀ x ∈ code, Rng.ok x) : ∃ p, spec_DrawClampedMasses code = some p := by
  obtain ⟨x, c1, e1, _, _, _, k1⟩ := pick_ok (n := 1000) ((cur_start ho).le (by omega)) 5 (by omega)
  obtain ⟨y, c2, e2, _, k2⟩ := among_ok (n := 500) (k1.le (by omega)) [0, 1, 2, 3, 4, 5, 12, 13, -1] (by simp) (by simp)
  obtain ⟨z, c3, e3, k3⟩ := anyRatio_ok (n := 100) (k2.le (by omega))
  obtain ⟨w, c4, e4, _, _, _, k4⟩ := pick_ok (n := 10) (k3.le (by omega)) 5 (by omega)
  exact ⟨_, by simp only [spec_DrawClampedMasses, e1, e2, e3, e4, Option.bind_some]; rfl⟩

theorem DrawGeoMass_ok {code : List (K .u8)} (ho : ∀ x ∈ code, Rng.ok x) : ∃ p, spec_DrawGeoMass code = some p ∧ -1000000 ≤ p.2 ∧ p.2 ≤ 1000000 := by
  obtain ⟨x, c1, e1, k1⟩ := anyRatio_ok (n := 100) ((cur_start ho).le (by omega))
  obtain ⟨y, c2, e2, hy, k2⟩ := among_ok (n := 10) (k1.le (by omega)) [0, 1, -1, 2, 3, -4, 8, 60, -61, 61] (by simp) (by simp)
  refine ⟨(x, y), by simp only [spec_DrawGeoMass, e1, e2, Option.bind_some], ?_⟩
  simp only [List.mem_cons, List.not_mem_nil, or_false] at hy
  simp only
  omega

theorem DrawLeastRadius_ok {code : List (K .u8)} (ho : ∀ x ∈ code, Rng.ok x) : ∃ p, spec_DrawLeastRadius code = some p := by
  obtain ⟨x, c1, e1, k1⟩ := anyRatio_ok (n := 100) ((cur_start ho).le (by omega))
  obtain ⟨y, c2, e2, y0, y1, _, k2⟩ := pick_ok (n := 50) (k1.le (by omega)) 200 (by omega)
  have hy := y1 (by omega)
  obtain ⟨b, c3, e3, k3⟩ := one_ok (n := 30) (k2.le (by omega)) 12 (by omega)
  obtain ⟨f, c4, e4, k4⟩ := anyFrac_ok (n := 10) (k3.le (by omega))
  obtain ⟨p, hp⟩ := fMake_some (n := 1) (d := 1 + y) (by omega) (by omega)
  unfold spec_DrawLeastRadius
  simp only [e1, e2, e3, e4, Option.bind_some, w64_small (show -1000000000000 ≤ 1 + y by omega) (by omega), hp]
  cases b <;> exact ⟨_, rfl⟩

theorem laws_pSameFracs_self {l : List impl_Frac} (h : l.length ≤ 1048576) : laws_pSameFracs l l = some true := by
  unfold laws_pSameFracs
  rw [loop_all (l := l) (fun _ => true) _ (fun k x hx => ?_) (fun _ => ?_)]
  · simp
  · simp only [laws_pSameFracs_l1, lt_ok hx, cond_true, at_ok hx, Option.bind_some, beq_self_eq_true, Bool.and_self, Bool.not_true, cond_false, nx_ok hx (by omega), if_true]
  · simp only [laws_pSameFracs_l1, lt_end, cond_false]

theorem clampeds_more (A : impl_Frac) (lo hi x : Int) : ∃ p, spec_ClampedMasses A lo hi x = some p ∧ impl_ClampedMasses A lo hi x = some p ∧ p.1.length ≤ 100 ∧ (p.2 = true → Ratio A ∧ Bnds lo hi ∧ (lo ≤ x ∧ x ≤ hi) ∧ p = clampR A lo hi x) := by
  unfold spec_ClampedMasses impl_ClampedMasses
  rw [spec_zRatio_eq, impl_isRatio_eq]
  simp only [Option.bind_some, spec_zBounds_eq, impl_isClamp_eq, spec_l1In_eq]
  by_cases hr : Ratio A
  · by_cases hb : Bnds lo hi
    · by_cases h1 : x < lo
      · exact ⟨([], false), by simp [hr, hb, show ¬ (lo ≤ x ∧ x ≤ hi) by omega], by simp [hr, hb, h1], by simp, fun h => by cases h⟩
      · by_cases h2 : hi < x
        · exact ⟨([], false), by simp [hr, hb, show ¬ (lo ≤ x ∧ x ≤ hi) by omega], by simp [hr, hb, h1, h2], by simp, fun h => by cases h⟩
        · obtain ⟨c1, c2⟩ := clamps hr hb (x := x) (by omega)
          refine ⟨clampR A lo hi x, ?_, ?_, by have := clampR_len A hb (x := x); omega, fun _ => ⟨hr, hb, by omega, rfl⟩⟩
          · simp [hr, hb, show lo ≤ x ∧ x ≤ hi by omega, c1]
          · simp [hr, hb, h1, h2, c2]
    · exact ⟨([], false), by simp [hr, hb], by simp [hr, hb], by simp, fun h => by cases h⟩
  · exact ⟨([], false), by simp [hr], by simp [hr], by simp, fun h => by cases h⟩

theorem big_some (a b : List (K .u8)) : ∃ r, laws_big a b = some r := by
  unfold laws_big
  cases decide (1048576 < goLen a)
  · exact ⟨_, rfl⟩
  · exact ⟨_, rfl⟩

theorem laws_FnGeometric_true (code more : List (K .u8)) (o1 : Rng.ok code) (o2 : Rng.ok more) : laws_FnGeometric code more = some true := by
  unfold laws_FnGeometric
  obtain ⟨bg, hb⟩ := big_some code more
  rw [hb]
  simp only [Option.bind_some]
  cases bg with
  | true => rfl
  | false =>
    obtain ⟨⟨A, lo, hi, x⟩, d1⟩ := DrawClampedMasses_ok o1.2
    obtain ⟨⟨B, k⟩, d2, hk1, hk2⟩ := DrawGeoMass_ok o2.2
    obtain ⟨⟨C, D⟩, d3⟩ := DrawLeastRadius_ok o2.2
    simp only at hk1 hk2
    obtain ⟨p, p1, p2, p3, p4⟩ := clampeds_more A lo hi x
    obtain ⟨q, q1, q2, q3⟩ := masses B k hk1 hk2
    obtain ⟨r, r1, r2⟩ := radii C D
    obtain ⟨v, v1, v2⟩ := variances C
    simp only [cond_false, d1, d2, d3, p1, p2, q1, q2, q3, r1, r2, v1, v2, Option.bind_some, bne_self_eq_false, cond_false, beq_self_eq_true, Bool.and_self, Bool.not_true, cond_true, laws_pSameFracs_self (show p.1.length ≤ 1048576 by omega)]
    cases hp : p.2 with
    | false => rfl
    | true =>
      obtain ⟨hr, hbn, hx, rfl⟩ := p4 hp
      obtain ⟨w, w1, w2⟩ := worst_impl A lo hi
      simp only [cond_true, impl_SumFracs_eq p3 (clampR_good hr hbn hx), Option.bind_some, w1, geo_one hr]
      have fin : ∀ s : impl_Frac × Bool, (s.2 = true → s.1 = ⟨1, 1⟩) → (((cond s.2 (some (!((s.1.Num == 1) && ((s.1.Den == 1) && true)))) (some false)) : Option (Bool))) = some false := by
        intro s hs
        cases h2 : s.2 with
        | false => rfl
        | true => rw [hs h2]; rfl
      have hsum : ((fsums (clampR A lo hi x).1 ⟨0, 1⟩).elim ((⟨0, 0⟩ : impl_Frac), false) (fun r => (r, true))).2 = true → ((fsums (clampR A lo hi x).1 ⟨0, 1⟩).elim ((⟨0, 0⟩ : impl_Frac), false) (fun r => (r, true))).1 = ⟨1, 1⟩ := by
        intro h
        cases hf : fsums (clampR A lo hi x).1 ⟨0, 1⟩ with
        | none => rw [hf] at h; cases h
        | some t => exact clamp_sum hr hbn hx hp hf
      rw [fin _ hsum]
      simp only [Option.bind_some, cond_false]
      cases hw : w.2 with
      | false => rfl
      | true =>
        obtain ⟨gw, vw⟩ := w2 hr hbn hw
        have hc := cmp_of_val gw (inv_good hr) vw
        simp only [cond_true, Option.bind_some, compare_good gw (inv_good hr), Bool.not_true, cond_false, show decide (0 < cmp w.1 ⟨A.Den, A.Num⟩) = false by simp; omega]
end Go.Gx.F
