/- Plain laws: losses of groups, parallel losses, and parts of a loss. -/
import Derived.Test.YtdbgmkfniichdaaCPLos
import Derived.Test.YtdbgmkfniichdaaCPMax
import Derived.Test.YtdbgmkfniichdaaCPSum
import Derived.Test.YtdbgmkfniichdaaCPSplit
import Derived.Test.YtdbgmkfniichdaaCPCur
namespace Go.Gx.F
open Go.Gx
set_option linter.all false

/-! groups -/
def grp (x : impl_Loss) (k : Int) : impl_Loss × Bool :=
  if (GoodL x ∧ 0 ≤ k ∧ k ≤ 20) ∧ (pwI x.Ratio ⟨1, 1⟩ k.toNat).2 = true ∧ (fmul x.Rho ⟨k * k, 1⟩).2 = true then (⟨(pwI x.Ratio ⟨1, 1⟩ k.toNat).1, (fmul x.Rho ⟨k * k, 1⟩).1⟩, true) else (⟨⟨0, 0⟩, ⟨0, 0⟩⟩, false)

theorem groups (A : impl_Loss) (k : Int) : spec_GroupLoss A k = some (grp A k) ∧ impl_GroupLoss A k = some (grp A k) := by
  unfold spec_GroupLoss impl_GroupLoss grp
  simp only [Option.bind_some, spec_pGood_eq, impl_IsLoss_eq, spec_l1In_eq, bools2, bnd_l]
  by_cases hc : GoodL A ∧ 0 ≤ k ∧ k ≤ 20
  · obtain ⟨hg, h0, h1⟩ := hc
    have hk := prod_bound (a := k) (b := k) (A := 20) (B := 20) (by omega) (by omega)
    have hki : Good ⟨k * k, 1⟩ := good_int (by omega) (by omega)
    rw [w64_in (n := k * k) (by omega) (by omega)]
    simp only [hg, h0, h1, and_self, if_true, Option.bind_some, spec_fInt, spec_fPow_eq hg.1 (show k ≤ 60 by omega), impl_PowFrac_eq hg.1 h0 (show k ≤ 60 by omega), spec_fMul_eq hg.2.1 hki, impl_MulFrac_eq hki hg.2.1, fmul_comm ⟨k * k, 1⟩ A.Rho]
    rcases h3 : (pwI A.Ratio ⟨1, 1⟩ k.toNat).2 with _ | _ <;> rcases h4 : (fmul A.Rho ⟨k * k, 1⟩).2 with _ | _ <;> simp
  · simp only [hc, if_false, Option.bind_some, false_and]
    simp

theorem grp_ok {x : impl_Loss} {k : Int} (h : (grp x k).2 = true) : GoodL x := by
  unfold grp at h
  split at h
  · rename_i hc; exact hc.1.1
  · cases h

theorem grp_zero {x : impl_Loss} (hx : GoodL x) : grp x 0 = (⟨⟨1, 1⟩, ⟨0, 1⟩⟩, true) := by
  have e : fmul x.Rho ⟨0 * 0, 1⟩ = (⟨0, 1⟩, true) := by
    unfold fmul
    simp only [Int.mul_zero, Int.mul_one]
    rw [mk_cross (n2 := 0) (d2 := 1) (den_pos hx.2.1) (by omega) (by omega)]
    exact mk_self (f := ⟨0, 1⟩) (by decide)
  unfold grp
  rw [e]
  simp [hx, pwI]

theorem pw_two {f : impl_Frac} (hf : Good f) (h : (pwI f ⟨1, 1⟩ 2).2 = true) : (pwI f ⟨1, 1⟩ 2).1 = (fmul f f).1 := by
  have e1 : fmul ⟨1, 1⟩ f = (f, true) := by
    unfold fmul
    simp only [Int.one_mul]
    exact mk_self hf
  simp only [pwI, e1, if_true] at h ⊢
  split at h
  · rename_i hc; rw [if_pos hc]
  · cases h

theorem pair_ratio {x : impl_Loss} (hx : GoodL x) (h1 : (grp x 2).2 = true) (h2 : (compL [x, x] ⟨⟨1, 1⟩, ⟨0, 1⟩⟩).2 = true) : (grp x 2).1.Ratio = (compL [x, x] ⟨⟨1, 1⟩, ⟨0, 1⟩⟩).1.Ratio := by
  simp only [compL, comp_none hx, if_true] at h2 ⊢
  by_cases hc : (comp x x).2 = true
  · rw [if_pos hc]
    unfold grp at h1 ⊢
    split at h1
    · rename_i hg
      rw [if_pos hg]
      have h3 := hg.2.1
      rw [show (2 : Int).toNat = 2 from rfl] at h3
      simp only [show (2 : Int).toNat = 2 from rfl]
      rw [pw_two hx.1 h3]
      unfold comp at hc ⊢
      split at hc
      · rename_i hd; rw [if_pos hd]
      · cases hc
    · cases h1
  · rw [if_neg hc] at h2; cases h2

/-! parallel losses -/
theorem parallels {l : List impl_Loss} (hl : l.length ≤ 1048576) : ∃ p, spec_ParallelLoss l = some p ∧ impl_ParallelLoss l = some p ∧ (p.2 = true → GoodL p.1 ∧ ∀ y ∈ l, GoodL y ∧ within p.1 y = true) := by
  unfold spec_ParallelLoss impl_ParallelLoss
  rw [spec_pList_eq hl, impl_areLosses_eq hl]
  cases hg : goodLs l with
  | false => exact ⟨(⟨⟨0, 0⟩, ⟨0, 0⟩⟩, false), by simp, by simp, fun h => by cases h⟩
  | true =>
    have hm := goodLs_mem hg
    refine ⟨(l.foldl lgr ⟨⟨1, 1⟩, ⟨0, 1⟩⟩, true), by simp [spec_pParallel_eq hl hm], by simp [impl_Parallel_loop hl hm, impl_NoLoss_eq], fun _ => ⟨foldl_lgr_good l _ good_none hm, fun y hy => ⟨hm y hy, ?_⟩⟩⟩
    rw [foldl_lgr]
    have h1 := (fmax_spec (l.map (·.Ratio)) ⟨1, 1⟩ good_one (fun x hx => by obtain ⟨z, hz, rfl⟩ := List.mem_map.1 hx; exact (hm z hz).1)).2.2 y.Ratio (by simp only [List.mem_cons, List.mem_map]; exact .inr ⟨y, hy, rfl⟩)
    have h2 := (fmax_spec (l.map (·.Rho)) ⟨0, 1⟩ (by decide) (fun x hx => by obtain ⟨z, hz, rfl⟩ := List.mem_map.1 hx; exact (hm z hz).2.1)).2.2 y.Rho (by simp only [List.mem_cons, List.mem_map]; exact .inr ⟨y, hy, rfl⟩)
    unfold within
    simp only [Bool.and_eq_true, decide_eq_true_eq]
    exact ⟨h1, h2⟩

/-! parts that add up -/
def Val (rho : impl_Frac) (S W : Int) (s : impl_Frac) : Prop := s.Num * (rho.Den * S) = rho.Num * W * s.Den

theorem part_val {rho : impl_Frac} (hr : Good rho) {S w : Int} (hS : 1 ≤ S) (hS2 : S ≤ 30000) (h1 : 1 ≤ w) (h2 : w ≤ 1000) {f : impl_Frac} {k : Nat} (h : partOf rho S k w = some f) : Good f ∧ Val rho S w f := by
  have h3 := mk_ok (n := w) (d := S) (by omega) (by omega) hS (by omega)
  have hm := mk_good (by omega) h3
  have em := mk_val (n := w) (d := S) (by omega) h3
  unfold partOf at h
  split at h
  · rename_i hc
    simp only [Option.some.injEq] at h
    subst h
    have ef := fmul_val hr hm hc
    have hg := fmul_good hr hm hc
    refine ⟨hg, ?_⟩
    unfold Val
    generalize (fmul rho (mk w S).1).1 = f at ef hg ⊢
    generalize (mk w S).1 = m at em hm ef ⊢
    have pm := den_pos hm
    have hz : (f.Num * (rho.Den * S)) * m.Den = (rho.Num * w * f.Den) * m.Den := by grind
    exact Int.eq_of_mul_eq_mul_right (by omega) hz
  · cases h

theorem sum_val {rho : impl_Frac} (hr : Good rho) {S : Int} (hS : 1 ≤ S) (hS2 : S ≤ 30000) : ∀ (l : List Int) (k : Nat) (r : List impl_Frac) (s t : impl_Frac) (W : Int), (∀ x ∈ l, 1 ≤ x ∧ x ≤ 1000) → mapO (partOf rho S) k l = some r → Good s → Val rho S W s →
    fsums r s = some t → Good t ∧ Val rho S (l.foldl (· + ·) W) t
  | [], k, r, s, t, W, _, h, hs, hv, hf => by
    simp only [mapO, Option.some.injEq] at h
    subst h
    simp only [fsums, Option.some.injEq] at hf
    subst hf
    exact ⟨hs, hv⟩
  | w :: l, k, r, s, t, W, hw, h, hs, hv, hf => by
    simp only [mapO] at h
    split at h
    · cases h
    · rename_i f hp
      split at h
      · cases h
      · rename_i r' hr'
        simp only [Option.some.injEq] at h
        subst h
        have hww := hw w (by simp)
        obtain ⟨gf, vf⟩ := part_val hr hS hS2 hww.1 hww.2 hp
        simp only [fsums] at hf
        split at hf
        · rename_i hc
          have ga := fadd_good hs gf hc
          have ea := fadd_val hs gf hc
          refine sum_val hr hS hS2 l (k + 1) r' _ t (W + w) (fun y hy => hw y (by simp [hy])) hr' ga ?_ hf
          unfold Val at hv vf ⊢
          generalize (fadd s f).1 = u at ea ga ⊢
          have ps := den_pos hs; have pf := den_pos gf
          have hz : (u.Num * (rho.Den * S)) * (s.Den * f.Den) = (rho.Num * (W + w) * u.Den) * (s.Den * f.Den) := by grind
          exact Int.eq_of_mul_eq_mul_right (Int.ne_of_gt (Int.mul_pos ps pf)) hz
        · cases hf

theorem splits_back (rho : impl_Frac) {l : List Int} (hl : l.length ≤ 1048576) : ∃ p, spec_SplitRho rho l = some p ∧ impl_SplitRho rho l = some p ∧ p.1.length ≤ 100 ∧
    (p.2 = true → (∀ x ∈ p.1, Good x) ∧ ∀ t, fsums p.1 ⟨0, 1⟩ = some t → t = rho) := by
  unfold spec_SplitRho impl_SplitRho
  rw [spec_fGood_eq, impl_IsFrac_eq]
  simp only [Option.bind_some]
  by_cases hr : Good rho
  · by_cases h0 : rho.Num < 0
    · exact ⟨([], false), by simp [hr, h0], by simp [hr, h0], by simp, fun h => by cases h⟩
    · simp only [hr, h0, decide_true, decide_false, Bool.not_true, cond_false, spec_l1In_eq, Option.bind_some, spec_l1All_eq 1 1000 hl, goLen]
      by_cases h1 : (l.length : Int) < 1
      · exact ⟨([], false), by simp [h1, show ¬ (1 ≤ (l.length : Int) ∧ (l.length : Int) ≤ 30) by omega], by simp [h1], by simp, fun h => by cases h⟩
      · by_cases h2 : 30 < (l.length : Int)
        · exact ⟨([], false), by simp [h1, show ¬ (1 ≤ (l.length : Int) ∧ (l.length : Int) ≤ 30) by omega], by simp [h1, h2], by simp, fun h => by cases h⟩
        · simp only [h1, h2, show 1 ≤ (l.length : Int) ∧ (l.length : Int) ≤ 30 by omega, decide_true, decide_false, Bool.not_true, cond_false, Option.bind_some, impl_weights_eq hl]
          by_cases ha : l.all (fun x => decide (1 ≤ x ∧ x ≤ 1000)) = true
          · have hm : ∀ x ∈ l, 1 ≤ x ∧ x ≤ 1000 := fun x hx => by simpa using List.all_eq_true.1 ha x hx
            obtain ⟨s1, s2⟩ := splits hr (l := l) (by omega) hm (by omega)
            simp only [ha, Bool.not_true, cond_false, if_true, Option.bind_some, spec_total_eq hl hm, impl_total_eq hl hm, s1]
            rw [goMake_ok (by omega) (by omega)]
            simp only [Option.bind_some, s2]
            cases hq : mapO (partOf rho (isum l)) 0 l with
            | none => exact ⟨([], false), rfl, rfl, by simp, fun h => by cases h⟩
            | some r =>
              have hlen := mapO_len hq
              have hb := isum_bound l 0 hm
              have hS1 : 1 ≤ isum l := by unfold isum; omega
              have hS2 : isum l ≤ 30000 := by unfold isum; omega
              refine ⟨(r, true), rfl, rfl, by simp only; omega, fun _ => ⟨?_, fun t ht => ?_⟩⟩
              · have hl0 : ∃ l0 : List Int, l0 = l := ⟨l, rfl⟩
                obtain ⟨l0, hl0⟩ := hl0
                rw [← hl0] at hq hS1 hS2
                have key : ∀ (l : List Int) (k : Nat) (r : List impl_Frac), (∀ x ∈ l, 1 ≤ x ∧ x ≤ 1000) → mapO (partOf rho (isum l0)) k l = some r → ∀ y ∈ r, Good y := by
                  intro l
                  induction l with
                  | nil => intro k r _ h; simp only [mapO, Option.some.injEq] at h; subst h; simp
                  | cons z l ih =>
                    intro k r hw h
                    simp only [mapO] at h
                    split at h
                    · cases h
                    · rename_i y0 h1
                      split at h
                      · cases h
                      · rename_i r0 h2
                        simp only [Option.some.injEq] at h
                        subst h
                        intro y hy
                        rcases List.mem_cons.1 hy with rfl | hy
                        · exact (part_val hr hS1 hS2 (hw z (by simp)).1 (hw z (by simp)).2 h1).1
                        · exact ih (k + 1) r0 (fun y hy => hw y (by simp [hy])) h2 y hy
                rw [hl0] at hq hS1 hS2 key
                exact key l 0 r hm hq
              · obtain ⟨gt, vt⟩ := sum_val hr hS1 hS2 l 0 r ⟨0, 1⟩ t 0 hm hq good_zero (by simp [Val]) ht
                unfold Val at vt
                have e : t.Num * rho.Den = rho.Num * t.Den := by
                  have hz : (t.Num * rho.Den) * isum l = (rho.Num * t.Den) * isum l := by
                    unfold isum at vt ⊢
                    grind
                  exact Int.eq_of_mul_eq_mul_right (by omega) hz
                exact cmp_anti gt hr (by rw [cmp_le]; omega) (by rw [cmp_le]; omega)
          · simp only [Bool.not_eq_true] at ha
            exact ⟨([], false), by rw [ha]; rfl, by rw [ha]; rfl, by simp, fun h => by cases h⟩
  · exact ⟨([], false), by simp [hr], by simp [hr], by simp, fun h => by cases h⟩

/-! what is drawn -/
theorem DrawGroupLoss_ok {code : List (K .u8)} (ho : ∀ x ∈ code, Rng.ok x) : ∃ p, spec_DrawGroupLoss code = some p := by
  obtain ⟨x, c1, e1, k1⟩ := anyLoss_ok (n := 10) ((cur_start ho).le (by omega))
  obtain ⟨y, c2, e2, _, k2⟩ := among_ok (n := 1) (k1.le (by omega)) [0, 1, 2, 3, 5, 20, 21, -1] (by simp) (by simp)
  exact ⟨_, by simp only [spec_DrawGroupLoss, e1, e2, Option.bind_some]; rfl⟩

theorem losses_loop {k : Int} (h0 : 0 ≤ k) (h1 : k ≤ 6) {c : spec_l1Cur} (hc : CurOk 1000 c) : ∃ r, loopC spec_DrawComposeLosses_l1 ([], k, c) = some r ∧ r.1.length ≤ 6 ∧ CurOk 500 r.2 := by
  refine loopC_inv (fun s => 0 ≤ s.2.1 ∧ s.2.1 ≤ 6 ∧ (s.1.length : Int) + s.2.1 ≤ 6 ∧ CurOk (500 + 8 * s.2.1.toNat) s.2.2) (fun s => s.2.1.toNat) _ (fun s hs => ?_) ([], k, c) ⟨h0, h1, by simp; omega, hc.le (by simp only; omega)⟩
  obtain ⟨l, k, c⟩ := s
  obtain ⟨a1, a2, a3, a4⟩ := hs
  simp only at a1 a2 a3 a4
  by_cases hk : 0 < k
  · right
    obtain ⟨x, c1, e1, k1⟩ := loss_ok (n := 500 + 8 * (k - 1).toNat) (a4.le (by omega))
    have e : spec_DrawComposeLosses_l1 (l, k, c) = some (.next (l ++ [x], k - 1, c1)) := by
      simp only [spec_DrawComposeLosses_l1, decide_eq_true hk, cond_true, e1, Option.bind_some, goApp_ok (show (l.length + [x].length) * 32 ≤ 140737488355328 by simp; omega), w64_small (show -1000000000000 ≤ k - 1 by omega) (by omega)]
    exact ⟨_, e, ⟨by simp only; omega, by simp only; omega, by simp; omega, k1⟩, by simp only; omega⟩
  · left
    exact ⟨(l, c), by simp only [spec_DrawComposeLosses_l1, decide_eq_false hk, cond_false], by simp only; omega, a4.le (by omega)⟩

theorem fill_loop {l : List impl_Loss} (hl : l.length ≤ 6) {c : spec_l1Cur} (hc : CurOk 400 c) : ∃ r, loopC spec_DrawComposeLosses_l2 (l, c) = some r ∧ r.length ≤ 40 := by
  refine loopC_inv (fun s => s.1.length ≤ 31 ∧ CurOk (100 + 2 * (40 - s.1.length)) s.2) (fun s => 40 - s.1.length) _ (fun s hs => ?_) (l, c) ⟨by simp only; omega, hc.le (by simp only; omega)⟩
  obtain ⟨l, c⟩ := s
  obtain ⟨a1, a2⟩ := hs
  simp only at a1 a2
  obtain ⟨x, c1, e1, x0, x1, _, k1⟩ := pick_ok (n := 100 + 2 * (40 - (l.length + 1))) (a2.le (by omega)) 2 (by omega)
  have hx := x1 (by omega)
  have en : spec_pNone = some ⟨⟨1, 1⟩, ⟨0, 1⟩⟩ := rfl
  by_cases hk : goLen l < 30 + x
  · right
    have e : spec_DrawComposeLosses_l2 (l, c) = some (.next (l ++ [⟨⟨1, 1⟩, ⟨0, 1⟩⟩], c1)) := by
      simp only [spec_DrawComposeLosses_l2, e1, Option.bind_some, w64_small (show -1000000000000 ≤ 30 + x by omega) (by omega), decide_eq_true hk, cond_true, en, goApp_ok (show (l.length + [(⟨⟨1, 1⟩, ⟨0, 1⟩⟩ : impl_Loss)].length) * 32 ≤ 140737488355328 by simp; omega)]
    refine ⟨_, e, ⟨?_, ?_⟩, ?_⟩
    · simp only [goLen] at hk; simp; omega
    · simpa using k1
    · simp only [goLen] at hk; simp; omega
  · left
    exact ⟨l, by simp only [spec_DrawComposeLosses_l2, e1, Option.bind_some, w64_small (show -1000000000000 ≤ 30 + x by omega) (by omega), decide_eq_false hk, cond_false], by omega⟩

theorem DrawComposeLosses_ok {code : List (K .u8)} (ho : ∀ x ∈ code, Rng.ok x) : ∃ l, spec_DrawComposeLosses code = some l ∧ l.length ≤ 40 := by
  obtain ⟨x, c1, e1, x0, x1, _, k1⟩ := pick_ok (n := 1000) ((cur_start ho).le (by omega)) 6 (by omega)
  have hx := x1 (by omega)
  obtain ⟨⟨l, c2⟩, e2, l2, k2⟩ := losses_loop x0 (by omega) k1
  simp only at l2 k2
  obtain ⟨y, c3, e3, _, _, _, k3⟩ := pick_ok (n := 400) (k2.le (by omega)) 16 (by omega)
  unfold spec_DrawComposeLosses
  simp only [e1, e2, e3, Option.bind_some]
  cases h0 : (y == 0) with
  | true =>
    obtain ⟨z, c4, e4, k4⟩ := anyLoss_ok (n := 10) (k3.le (by omega))
    exact ⟨l ++ [z], by simp only [cond_true, e4, Option.bind_some, goApp_ok (show (l.length + [z].length) * 32 ≤ 140737488355328 by simp; omega)], by simp; omega⟩
  | false =>
    cases h1 : (y == 1) with
    | true =>
      obtain ⟨r, e4, hr⟩ := fill_loop l2 k3
      exact ⟨r, by simp only [cond_true, cond_false, e4, Option.bind_some], hr⟩
    | false => exact ⟨l, by simp only [cond_false, Option.bind_some], by omega⟩

theorem weights_loop {k : Int} (h0 : 0 ≤ k) (h1 : k ≤ 5) {c : spec_l1Cur} (hc : CurOk 1000 c) : ∃ r, loopC spec_DrawSplitRho_l1 ([], k, c) = some r ∧ r.1.length ≤ 5 ∧ CurOk 500 r.2 := by
  refine loopC_inv (fun s => 0 ≤ s.2.1 ∧ s.2.1 ≤ 5 ∧ (s.1.length : Int) + s.2.1 ≤ 5 ∧ CurOk (500 + 2 * s.2.1.toNat) s.2.2) (fun s => s.2.1.toNat) _ (fun s hs => ?_) ([], k, c) ⟨h0, h1, by simp; omega, hc.le (by simp only; omega)⟩
  obtain ⟨l, k, c⟩ := s
  obtain ⟨a1, a2, a3, a4⟩ := hs
  simp only at a1 a2 a3 a4
  by_cases hk : 0 < k
  · right
    obtain ⟨x, c1, e1, x0, x1, _, k1⟩ := pick_ok (n := 500 + 2 * (k - 1).toNat) (a4.le (by omega)) 9 (by omega)
    have hx := x1 (by omega)
    have e : spec_DrawSplitRho_l1 (l, k, c) = some (.next (l ++ [1 + x], k - 1, c1)) := by
      simp only [spec_DrawSplitRho_l1, decide_eq_true hk, cond_true, e1, Option.bind_some, w64_small (show -1000000000000 ≤ 1 + x by omega) (by omega), goApp_ok (show (l.length + [1 + x].length) * 8 ≤ 140737488355328 by simp; omega), w64_small (show -1000000000000 ≤ k - 1 by omega) (by omega)]
    exact ⟨_, e, ⟨by simp only; omega, by simp only; omega, by simp; omega, k1⟩, by simp only; omega⟩
  · left
    exact ⟨(l, c), by simp only [spec_DrawSplitRho_l1, decide_eq_false hk, cond_false], by simp only; omega, a4.le (by omega)⟩

theorem DrawSplitRho_ok {code : List (K .u8)} (ho : ∀ x ∈ code, Rng.ok x) : ∃ p, spec_DrawSplitRho code = some p ∧ p.2.length ≤ 1048576 := by
  obtain ⟨x, c1, e1, x0, x1, _, k1⟩ := pick_ok (n := 1000) ((cur_start ho).le (by omega)) 5 (by omega)
  have hx := x1 (by omega)
  obtain ⟨⟨l, c2⟩, e2, l2, k2⟩ := weights_loop x0 (by omega) k1
  simp only at l2 k2
  obtain ⟨b, c3, e3, k3⟩ := one_ok (n := 400) (k2.le (by omega)) 10 (by omega)
  obtain ⟨w, c4, e4, _, k4⟩ := among_ok (n := 300) (k3.le (by omega)) [0, 1000, 1001] (by simp) (by simp)
  have tail : ∀ (w : List Int) (c : spec_l1Cur), w.length ≤ 6 → CurOk 300 c → ∃ p : impl_Frac × List Int, ((spec_l1Cur_anyFrac c).bind fun t_41 => (((cond (decide (t_41.1.Num < 0)) ((spec_l1Cur_one t_41.2 2).bind fun t_45 => some t_45.1) (some false)) : Option (Bool)).bind fun t_47 => (((cond t_47 (some (impl_Frac.mk (w64 (-t_41.1.Num)) t_41.1.Den)) (some t_41.1)) : Option (impl_Frac)).bind fun f_49 => some (f_49, w)))) = some p ∧ p.2.length ≤ 1048576 := by
    intro w c hw hc
    obtain ⟨f, c5, e5, k5⟩ := anyFrac_ok (n := 100) (hc.le (by omega))
    obtain ⟨b2, c6, e6, k6⟩ := one_ok (n := 50) (k5.le (by omega)) 2 (by omega)
    simp only [e5, Option.bind_some]
    cases decide (f.Num < 0) with
    | false => exact ⟨(f, w), rfl, by simp only; omega⟩
    | true =>
      simp only [cond_true, e6, Option.bind_some]
      cases b2 with
      | false => exact ⟨(f, w), rfl, by simp only; omega⟩
      | true => exact ⟨(⟨w64 (-f.Num), f.Den⟩, w), rfl, by simp only; omega⟩
  unfold spec_DrawSplitRho
  simp only [e1, e2, e3, Option.bind_some]
  cases b with
  | false =>
    simp only [cond_false, Option.bind_some]
    exact tail l c3 (by omega) (k3.le (by omega))
  | true =>
    simp only [cond_true, e4, Option.bind_some, goApp_ok (show (l.length + [w].length) * 8 ≤ 140737488355328 by simp; omega)]
    exact tail (l ++ [w]) c4 (by simp; omega) k4

theorem laws_qFracs_self {l : List impl_Frac} (h : l.length ≤ 1048576) : laws_qFracs l l = some true := by
  unfold laws_qFracs
  rw [loop_all (l := l) (fun _ => true) _ (fun k x hx => ?_) (fun _ => ?_)]
  · simp
  · simp only [laws_qFracs_l1, lt_ok hx, cond_true, at_ok hx, Option.bind_some, beq_self_eq_true, Bool.and_self, Bool.not_true, cond_false, nx_ok hx (by omega), if_true]
  · simp only [laws_qFracs_l1, lt_end, cond_false]

theorem laws_FnLossGroups_true (code more : List (K .u8)) (o1 : Rng.ok code) (o2 : Rng.ok more) : laws_FnLossGroups code more = some true := by
  unfold laws_FnLossGroups
  cases hb : decide (1048576 < w64 (goLen code + goLen more)) with
  | true => rfl
  | false =>
    obtain ⟨⟨x, k⟩, d1⟩ := DrawGroupLoss_ok o1.2
    obtain ⟨l, d2, hl⟩ := DrawComposeLosses_ok o2.2
    obtain ⟨⟨rho, ws⟩, d3, hw⟩ := DrawSplitRho_ok o2.2
    have d2' : spec_DrawParallelLoss more = some l := by simp [spec_DrawParallelLoss, d2]
    obtain ⟨g1, g2⟩ := groups x k
    obtain ⟨p, p1, p2, p3⟩ := parallels (l := l) (by omega)
    obtain ⟨q, q1, q2, q3, q4⟩ := splits_back rho (l := ws) hw
    simp only [cond_false, d1, d2', d3, g1, g2, p1, p2, q1, q2, Option.bind_some, bne_self_eq_false, cond_false, beq_self_eq_true, Bool.and_self, Bool.not_true, laws_qFracs_self (show q.1.length ≤ 1048576 by omega)]
    -- parallel losses bound their parts
    have e1 : loopC (laws_FnLossGroups_l1 l p) 0 = some (.inl ()) := by
      rw [loop_all (l := l) (fun _ => true) _ (fun k y hy => ?_) (fun _ => ?_)]
      · simp
      · simp only [laws_FnLossGroups_l1, lt_ok hy, cond_true, at_ok hy, Option.bind_some, impl_IsWithin_eq, nx_ok hy (by omega), if_true]
        cases hp : p.2 with
        | false => simp
        | true =>
          obtain ⟨gp, gy⟩ := p3 hp
          obtain ⟨gy1, gy2⟩ := gy y (List.mem_of_getElem? hy)
          simp [gp, gy1, gy2]
      · simp only [laws_FnLossGroups_l1, lt_end, cond_false]
    rw [e1]
    simp only [Option.bind_some]
    -- what is left when the parts are done
    have e2 : (cond (!(grp x k).2) (some true) ((impl_GroupLoss x 2).bind fun t_43 => ((impl_ComposeLosses ([x, x] : List impl_Loss)).bind fun t_46 => ((impl_GroupLoss x 0).bind fun t_49 => (((cond t_49.2 ((impl_NoLoss).bind fun t_51 => (cond (((t_49.1.Ratio.Num == t_51.Ratio.Num) && ((t_49.1.Ratio.Den == t_51.Ratio.Den) && true)) && (((t_49.1.Rho.Num == t_51.Rho.Num) && ((t_49.1.Rho.Den == t_51.Rho.Den) && true)) && true)) (cond (!t_43.2) (some true) (cond (!t_46.2) (some true) (some ((t_43.1.Ratio.Num == t_46.1.Ratio.Num) && ((t_43.1.Ratio.Den == t_46.1.Ratio.Den) && true))))) (some false))) (some false)) : Option (Bool)).bind fun t_52 => some t_52)))) : Option Bool) = some true := by
      cases hg : (grp x k).2 with
      | false => rfl
      | true =>
        have gx := grp_ok hg
        rw [(groups x 2).2, (groups x 0).2, impl_ComposeLosses_good (by simp) (fun q hq => by simp at hq; rw [hq]; exact gx), grp_zero gx, impl_NoLoss_eq]
        simp only [Option.bind_some, Bool.not_true, cond_false, cond_true, beq_self_eq_true, Bool.and_self]
        cases h1 : (grp x 2).2 with
        | false => simp
        | true =>
          cases h2 : (compL [x, x] ⟨⟨1, 1⟩, ⟨0, 1⟩⟩).2 with
          | false => simp
          | true =>
            rw [pair_ratio gx h1 h2]
            simp
    cases hq : q.2 with
    | false => exact e2
    | true =>
      obtain ⟨gq, sq⟩ := q4 hq
      simp only [cond_true, impl_SumFracs_eq q3 gq, Option.bind_some]
      cases hs : fsums q.1 ⟨0, 1⟩ with
      | none => exact e2
      | some t =>
        have := sq t hs
        subst this
        simp only [Option.elim_some, cond_true, beq_self_eq_true, Bool.and_self, Bool.not_true, Option.bind_some, cond_false]
        exact e2
end Go.Gx.F
