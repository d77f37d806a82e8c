/- Plain laws: FnRounding. -/
import Derived.Test.YtgaeknajcakinaaDoorRPFrac
import Derived.Test.YtgaeknajcakinaaDoorRPTxt
namespace Go.Gx.F
open Go.Gx
set_option linter.all false

theorem fMake_small {n d : Int} (hn : n.natAbs ≤ 9223372036854775806) (hd : d.natAbs ≤ 9223372036854775806) : ∃ r, spec_fMake n d = some r := by
  by_cases h : d = 0
  · subst h; exact ⟨_, spec_fMake_zero n⟩
  · exact ⟨_, spec_fMake_eq h hn hd⟩

theorem tfrac {B : Nat} {c : spec_l1Cur} (h : Cur B c) (hB : B ≤ 1000000 := by omega) : Tot (spec_l1Cur_frac c) fun r => Cur (B + 4) r.2 := by
  unfold spec_l1Cur_frac
  refine tot_bind (tpick h) fun ⟨x, c1⟩ ⟨x0, x1, _, k1⟩ => ?_
  refine tot_bind (tpick k1) fun ⟨y, c2⟩ ⟨y0, y1, _, k2⟩ => ?_
  simp only at x0 x1 y0 y1 k2
  have hx := x1 (by omega)
  have hy := y1 (by omega)
  simp only
  rw [wid (n := x - 20) (by omega) (by omega), wid (n := 1 + y) (by omega) (by omega)]
  obtain ⟨r, e⟩ := fMake_small (n := x - 20) (d := 1 + y) (by omega) (by omega)
  rw [e]
  exact tot_some k2

theorem tanyFrac {B : Nat} {c : spec_l1Cur} (h : Cur B c) (hB : B ≤ 100000 := by omega) : Tot (spec_l1Cur_anyFrac c) fun r => Cur (B + 10) r.2 := by
  unfold spec_l1Cur_anyFrac
  refine tot_bind (tpick h) fun ⟨x, c1⟩ ⟨_, _, _, k1⟩ => ?_
  simp only at k1 ⊢
  refine tot_cond (fun _ => ?_) fun _ => tot_cond (fun _ => ?_) fun _ => tot_cond (fun _ => ?_) fun _ => ?_
  · refine tot_bind (tamong k1) fun ⟨y, c2⟩ ⟨_, k2⟩ => ?_
    exact tot_bind (tamong k2) fun ⟨z, c3⟩ ⟨_, k3⟩ => tot_some (k3.le (by omega))
  · refine tot_bind (tpick k1) fun ⟨y, c2⟩ ⟨_, _, _, k2⟩ => ?_
    exact tot_bind (tpick k2) fun ⟨z, c3⟩ ⟨_, _, _, k3⟩ => tot_some (k3.le (by omega))
  · refine tot_bind (tpick k1) fun ⟨y, c2⟩ ⟨_, _, _, k2⟩ => ?_
    exact tot_bind (tamong k2) fun ⟨z, c3⟩ ⟨_, k3⟩ => tot_some (k3.le (by omega))
  · exact tot_bind (tfrac k1) fun r k2 => tot_some (k2.le (by omega))

theorem tDrawRound {code : List (K .u8)} (ho : ∀ x ∈ code, Rng.ok x) : Tot (spec_DrawRoundFrac code) fun _ => True := by
  unfold spec_DrawRoundFrac
  refine tot_bind (tone (cur0 ho)) fun ⟨b, c1⟩ k1 => ?_
  simp only at k1 ⊢
  refine tot_cond (fun _ => ?_) fun _ => tot_bind (tanyFrac k1) fun _ _ => tot_some trivial
  refine tot_bind (tpick k1) fun ⟨x, c2⟩ ⟨x0, x1, _, k2⟩ => ?_
  have hx := x1 (by omega)
  simp only at x0 hx ⊢
  rw [wid (n := 2 * x) (by omega) (by omega), wid (n := 2 * x - 19) (by omega) (by omega)]
  obtain ⟨r, e⟩ := fMake_small (n := 2 * x - 19) (d := 2) (by omega) (by omega)
  rw [e]
  exact tot_some trivial

theorem tDrawPow {code : List (K .u8)} (ho : ∀ x ∈ code, Rng.ok x) : Tot (spec_DrawPowFrac code) fun r => -10 ≤ r.2 ∧ r.2 ≤ 100 := by
  unfold spec_DrawPowFrac
  refine tot_bind (tanyFrac (cur0 ho)) fun ⟨f, c1⟩ k1 => ?_
  refine tot_bind (tamong k1) fun ⟨x, c2⟩ ⟨hx, _⟩ => tot_some ?_
  simp only [List.mem_cons, List.mem_nil_iff, or_false] at hx ⊢
  omega

theorem tDrawSum {code : List (K .u8)} (ho : ∀ x ∈ code, Rng.ok x) : Tot (spec_DrawSumFracs code) fun r => r.length ≤ 200 := by
  unfold spec_DrawSumFracs
  refine tot_bind (tpick (cur0 ho)) fun ⟨x, c1⟩ ⟨x0, x1, _, k1⟩ => ?_
  have hx := x1 (by omega)
  simp only at x0 hx k1
  refine tot_bind (Q := fun r => r.1.length ≤ 6 ∧ Cur 30 r.2) (tot_loop (fun s => (s.1.length : Int) + s.2.1 ≤ 6 ∧ 0 ≤ s.2.1 ∧ Cur (2 + 4 * s.1.length) s.2.2) (fun s => s.2.1.toNat) ⟨by simp; omega, x0, k1.le (by simp)⟩ ?_) fun ⟨l, c2⟩ ⟨hl, k2⟩ => ?_
  · rintro ⟨l, k, c2⟩ ⟨h1, h2, k2⟩
    simp only at h1 h2 k2
    simp only [spec_DrawSumFracs_l1]
    refine tot_cond (fun hc => ?_) fun hc => tot_some ⟨by simp only; omega, k2.le (by omega)⟩
    have hc' : 0 < k := by simpa using hc
    refine tot_bind (tfrac k2) fun ⟨f, c5⟩ k5 => ?_
    refine tot_bind (tot_app (Q := fun r => r.length = l.length + 1) (by simp; omega) (by simp)) fun r hr => tot_some ⟨⟨?_, ?_, k5.le (by simp only; omega)⟩, ?_⟩ <;> (simp only; rw [wid (by omega) (by omega)]; omega)
  · simp only at hl k2
    refine tot_bind (tpick k2) fun ⟨y, c3⟩ ⟨_, _, _, k3⟩ => ?_
    simp only at k3 ⊢
    refine tot_bind (Q := fun r => r.length ≤ 200) ?_ fun r hr => tot_some hr
    refine tot_cond (fun _ => ?_) fun _ => ?_
    · refine tot_bind (tanyFrac k3) fun ⟨v, c6⟩ k6 => ?_
      exact tot_bind (tot_app (Q := fun r => r.length = l.length + 1) (by simp; omega) (by simp)) fun r hr => tot_some (by omega)
    · refine tot_bind (Q := fun r => r.length ≤ 200) ?_ fun r hr => tot_some hr
      refine tot_cond (fun _ => ?_) fun _ => tot_some (by omega)
      refine tot_bind (Q := fun r => r.length ≤ 200) (tot_loop (fun s => s.1.length ≤ 101 ∧ Cur (40 + 2 * s.1.length) s.2) (fun s => 150 - s.1.length) ⟨by simp only; omega, k3.le (by omega)⟩ ?_) fun r hr => tot_some hr
      rintro ⟨l, c4⟩ ⟨h1, k4⟩
      simp only at h1 k4
      simp only [spec_DrawSumFracs_l2]
      refine tot_bind (tpick k4) fun ⟨z, c5⟩ ⟨z0, z1, _, k5⟩ => ?_
      have hz := z1 (by omega)
      simp only at z0 hz k5 ⊢
      rw [wid (n := 100 + z) (by omega) (by omega)]
      refine tot_cond (fun hc => ?_) fun _ => tot_some (by omega)
      have hc' : goLen l < 100 + z := by simpa using hc
      simp only [goLen] at hc'
      refine tot_bind (Q := fun _ => True) (tot_some trivial) fun t _ => ?_
      exact tot_bind (tot_app (Q := fun r => r.length = l.length + 1) (by simp; omega) (by simp)) fun r hr => tot_some ⟨⟨by simp only; omega, k5.le (by simp only; omega)⟩, by simp only; omega⟩

/-! rounding -/
theorem floor_same {f : impl_Frac} (h : Good f) : ∃ q, impl_floorDiv f.Num f.Den = some q ∧ spec_fFloor f = some q := by
  have hn := good_num h
  have hd : f.Den ≠ 0 := by have := h.1; omega
  unfold impl_floorDiv spec_fFloor
  rw [goQuo_ok hd (by omega) (by omega), goRem_ok hd, show (f.Den == 0) = false by simpa using hd]
  simp only [Option.bind_some, cond_false]
  by_cases hm : f.Num.tmod f.Den < 0
  · rw [decide_eq_true hm]; exact ⟨_, rfl, rfl⟩
  · rw [decide_eq_false hm]; exact ⟨_, rfl, rfl⟩

theorem round_same {f : impl_Frac} (h : Good f) : ∃ q n, impl_floorDiv f.Num f.Den = some q ∧ spec_fFloor f = some q ∧ impl_roundDiv f.Num f.Den = some n ∧ spec_fRound f = some n ∧ (n = q ∨ n = w64 (q + 1)) := by
  obtain ⟨q, e1, e2⟩ := floor_same h
  unfold impl_roundDiv spec_fRound
  rw [e1, e2]
  simp only [Option.bind_some, goRem_ok (show (2 : Int) ≠ 0 by decide)]
  generalize hb : ((cond (decide (f.Den < (w64 (2 * (w64 (f.Num - (w64 (q * f.Den)))))))) (some true) (cond ((w64 (2 * (w64 (f.Num - (w64 (q * f.Den)))))) == f.Den) (some (q.tmod 2 != 0)) (some false))) : Option Bool) = x
  have hx : ∃ b, x = some b := by
    rw [← hb]
    by_cases h1 : f.Den < w64 (2 * w64 (f.Num - w64 (q * f.Den)))
    · exact ⟨true, by rw [decide_eq_true h1]; rfl⟩
    · rw [decide_eq_false h1, cond_false]
      cases hc : (w64 (2 * w64 (f.Num - w64 (q * f.Den))) == f.Den) with
      | true => exact ⟨_, rfl⟩
      | false => exact ⟨_, rfl⟩
  obtain ⟨b, rfl⟩ := hx
  cases b with
  | true => exact ⟨q, _, rfl, rfl, rfl, rfl, .inr rfl⟩
  | false => exact ⟨q, _, rfl, rfl, rfl, rfl, .inl rfl⟩

/-! powers -/
def pstep (f p : impl_Frac) : impl_Frac × Bool := mk (p.Num * f.Num) (p.Den * f.Den)

def pw (f : impl_Frac) : Nat → impl_Frac → impl_Frac × Bool
  | 0, p => (p, true)
  | n + 1, p => if (pstep f p).2 then pw f n (pstep f p).1 else (⟨0, 0⟩, false)

theorem good_den0 {f : impl_Frac} (h : Good f) : f.Den ≠ 0 := by have := h.1; omega

theorem mul_bounds {f p : impl_Frac} (hf : Good f) (hp : Good p) : w64 (p.Num * f.Num) = p.Num * f.Num ∧ w64 (p.Den * f.Den) = p.Den * f.Den ∧ p.Den * f.Den ≠ 0 ∧ (p.Num * f.Num).natAbs ≤ 1000000000000000000 ∧ (p.Den * f.Den).natAbs ≤ 1000000000000000000 := by
  have h1 := prod_bound (good_num hp) (good_num hf)
  have h2 := prod_bound (good_den hp) (good_den hf)
  refine ⟨wid (by omega) (by omega), wid (by omega) (by omega), Int.mul_ne_zero (good_den0 hp) (good_den0 hf), by omega, by omega⟩

theorem iMul_ok {f p : impl_Frac} (hf : Good f) (hp : Good p) : impl_MulFrac p f = some (pstep f p) := by
  obtain ⟨e1, e2, h1, h2, h3⟩ := mul_bounds hf hp
  unfold impl_MulFrac
  rw [impl_IsFrac_eq, impl_IsFrac_eq, decide_eq_true hf, decide_eq_true hp, e1, e2, impl_reduced_eq h1 (by omega) (by omega)]
  rfl

theorem sMul_ok {f p : impl_Frac} (hf : Good f) (hp : Good p) : spec_fMul p f = some (pstep f p) := by
  obtain ⟨e1, e2, h1, h2, h3⟩ := mul_bounds hf hp
  unfold spec_fMul
  rw [e1, e2, spec_fMake_eq h1 (by omega) (by omega)]
  rfl

theorem pstep_good {f p : impl_Frac} (hf : Good f) (hp : Good p) (h : (pstep f p).2 = true) : Good (pstep f p).1 :=
  mk_good (mul_bounds hf hp).2.2.1 h

def fin (r : impl_Frac × Bool) : impl_Frac ⊕ (impl_Frac × Bool) := if r.2 then .inl r.1 else .inr (⟨0, 0⟩, false)

theorem iPow_loop {f : impl_Frac} (hf : Good f) {k : Int} (hk : k ≤ 1000) : ∀ (n : Nat) (t : Int) (p : impl_Frac), Good p → 0 ≤ t → t + n = k → loopC (impl_PowFrac_l1 f k) (t, p) = some (fin (pw f n p))
  | 0, t, p, hp, h0, ht => by
    rw [loopC_eq]
    simp only [impl_PowFrac_l1]
    rw [decide_eq_false (by omega)]; rfl
  | n + 1, t, p, hp, h0, ht => by
    rw [loopC_eq]
    simp only [impl_PowFrac_l1]
    rw [decide_eq_true (by omega), cond_true, iMul_ok hf hp, Option.bind_some, wid (by omega) (by omega)]
    cases hb : (pstep f p).2 with
    | false => simp [pw, hb, fin]
    | true =>
      simp only [Bool.not_true, cond_false]
      rw [iPow_loop hf hk n (t + 1) _ (pstep_good hf hp hb) (by omega) (by omega)]
      simp [pw, hb]

theorem sPow_loop {f : impl_Frac} (hf : Good f) : ∀ (n : Nat) (p : impl_Frac), Good p → n ≤ 1000 → loopC (spec_fPow_l1 f) ((n : Int), p) = some (fin (pw f n p))
  | 0, p, hp, hn => by
    rw [loopC_eq]
    simp only [spec_fPow_l1]
    rfl
  | n + 1, p, hp, hn => by
    rw [loopC_eq]
    simp only [spec_fPow_l1]
    rw [decide_eq_true (by omega), cond_true, sMul_ok hf hp, Option.bind_some, show ((n + 1 : Nat) : Int) - 1 = (n : Int) by omega, wid (by omega) (by omega)]
    cases hb : (pstep f p).2 with
    | false => simp [pw, hb, fin]
    | true =>
      simp only [Bool.not_true, cond_false]
      rw [sPow_loop hf n _ (pstep_good hf hp hb) (by omega)]
      simp [pw, hb]

theorem good_one : Good ⟨1, 1⟩ := by decide
theorem good_zero : Good ⟨0, 1⟩ := by decide

theorem fin_val (r : impl_Frac × Bool) : (match fin r with | .inl p => some (p, true) | .inr o => some o : Option (impl_Frac × Bool)) = some (if r.2 then (r.1, true) else (⟨0, 0⟩, false)) := by
  unfold fin
  cases r.2 <;> rfl

theorem pow_same (f : impl_Frac) {k : Int} (hk : -10 ≤ k ∧ k ≤ 100) : ∃ r, impl_PowFrac f k = some r ∧ spec_PowFrac f k = some r := by
  unfold impl_PowFrac spec_PowFrac
  rw [impl_IsFrac_eq, spec_fGood_eq]
  simp only [Option.bind_some, spec_l1In_eq]
  by_cases hf : Good f
  · rw [decide_eq_true hf]
    simp only [Bool.not_true, cond_false]
    by_cases h1 : 0 ≤ k ∧ k ≤ 60
    · rw [decide_eq_true h1, decide_eq_false (show ¬ k < 0 by omega), decide_eq_false (show ¬ 60 < k by omega)]
      simp only [cond_false, Option.bind_some, Bool.not_true]
      have e1 := iPow_loop hf (show k ≤ 1000 by omega) k.toNat 0 _ good_one (by omega) (by omega)
      have e2 := sPow_loop hf k.toNat _ good_one (by omega)
      rw [show ((k.toNat : Nat) : Int) = k by omega] at e2
      have e3 : spec_fPow f k = some (if (pw f k.toNat ⟨1, 1⟩).2 then ((pw f k.toNat ⟨1, 1⟩).1, true) else (⟨0, 0⟩, false)) := by
        unfold spec_fPow spec_fInt
        rw [Option.bind_some, e2, Option.bind_some]
        exact fin_val _
      rw [e1, e3]
      exact ⟨_, fin_val _, rfl⟩
    · rw [decide_eq_false h1]
      by_cases h2 : k < 0
      · rw [decide_eq_true h2]; exact ⟨_, rfl, rfl⟩
      · rw [decide_eq_false h2, decide_eq_true (show 60 < k by omega)]; exact ⟨_, rfl, rfl⟩
  · rw [decide_eq_false hf]
    exact ⟨_, rfl, rfl⟩

/-! sums -/
def astep (p f : impl_Frac) : impl_Frac × Bool := mk (p.Num * f.Den + f.Num * p.Den) (p.Den * f.Den)

def fsum : List impl_Frac → impl_Frac → impl_Frac × Bool
  | [], p => (p, true)
  | f :: l, p => if (astep p f).2 then fsum l (astep p f).1 else (⟨0, 0⟩, false)

theorem add_bounds {f p : impl_Frac} (hf : Good f) (hp : Good p) : w64 (w64 (p.Num * f.Den) + w64 (f.Num * p.Den)) = p.Num * f.Den + f.Num * p.Den ∧ w64 (p.Den * f.Den) = p.Den * f.Den ∧ p.Den * f.Den ≠ 0 ∧ (p.Num * f.Den + f.Num * p.Den).natAbs ≤ 3000000000000000000 ∧ (p.Den * f.Den).natAbs ≤ 1000000000000000000 := by
  have h1 := prod_bound (good_num hp) (good_den hf)
  have h3 := prod_bound (good_num hf) (good_den hp)
  have h2 := prod_bound (good_den hp) (good_den hf)
  refine ⟨?_, wid (by omega) (by omega), Int.mul_ne_zero (good_den0 hp) (good_den0 hf), by omega, by omega⟩
  rw [wid (n := p.Num * f.Den) (by omega) (by omega), wid (n := f.Num * p.Den) (by omega) (by omega), wid (by omega) (by omega)]

theorem iAdd_ok {f p : impl_Frac} (hf : Good f) (hp : Good p) : impl_AddFrac p f = some (astep p f) := by
  obtain ⟨e1, e2, h1, h2, h3⟩ := add_bounds hf hp
  unfold impl_AddFrac
  rw [impl_IsFrac_eq, impl_IsFrac_eq, decide_eq_true hf, decide_eq_true hp, e1, e2, impl_reduced_eq h1 (by omega) (by omega)]
  rfl

theorem iAdd_bad {f p : impl_Frac} (hf : ¬ Good f) (hp : Good p) : impl_AddFrac p f = some (⟨0, 0⟩, false) := by
  unfold impl_AddFrac
  rw [impl_IsFrac_eq, impl_IsFrac_eq, decide_eq_false hf, decide_eq_true hp]
  rfl

theorem sAdd_ok {f p : impl_Frac} (hf : Good f) (hp : Good p) : spec_fAdd p f = some (astep p f) := by
  obtain ⟨e1, e2, h1, h2, h3⟩ := add_bounds hf hp
  unfold spec_fAdd
  rw [e1, e2, spec_fMake_eq h1 (by omega) (by omega)]
  rfl

theorem astep_good {f p : impl_Frac} (hf : Good f) (hp : Good p) (h : (astep p f).2 = true) : Good (astep p f).1 :=
  mk_good (add_bounds hf hp).2.2.1 h

theorem iSum_loop {l : List impl_Frac} (hl : l.length ≤ 1000) : ∀ (r : List impl_Frac) (k : Nat) (p : impl_Frac), l.drop k = r → k ≤ l.length → Good p →
    loopC (impl_SumFracs_l1 l) ((k : Int), p) = some (if (∀ f ∈ r, Good f) then fin (fsum r p) else .inr (⟨0, 0⟩, false))
  | [], k, p, hr, hk, hp => by
    have : k = l.length := by
      have := congrArg List.length hr
      simp at this; omega
    subst this
    rw [loopC_eq]
    simp only [impl_SumFracs_l1, lt_end, cond_false]
    simp [fsum, fin]
  | f :: r, k, p, hr, hk, hp => by
    have hx : l[k]? = some f := by
      have := congrArg (·[0]?) hr
      simpa using this
    have hd : l.drop (k + 1) = r := by
      have := congrArg (List.drop 1) hr
      simpa using this
    have hkl := (List.getElem?_eq_some_iff.1 hx).1
    rw [loopC_eq]
    simp only [impl_SumFracs_l1, lt_ok hx, at_ok hx, cond_true, Option.bind_some, nx_ok hx (show l.length ≤ 9223372036854775807 by omega)]
    by_cases hf : Good f
    · rw [iAdd_ok hf hp, Option.bind_some]
      cases hb : (astep p f).2 with
      | false =>
        simp only [Bool.not_false, cond_true]
        by_cases ha : ∀ g ∈ f :: r, Good g
        · rw [if_pos ha]; simp [fsum, hb, fin]
        · rw [if_neg ha]
      | true =>
        simp only [Bool.not_true, cond_false]
        rw [iSum_loop hl r (k + 1) _ hd (by omega) (astep_good hf hp hb)]
        by_cases ha : ∀ g ∈ r, Good g
        · rw [if_pos ha, if_pos (fun g hg => (List.mem_cons.1 hg).elim (fun e => e ▸ hf) (ha g))]
          simp [fsum, hb]
        · rw [if_neg ha, if_neg (fun h => ha fun g hg => h g (List.mem_cons_of_mem _ hg))]
    · rw [iAdd_bad hf hp, Option.bind_some, if_neg (fun h => hf (h f List.mem_cons_self))]
      rfl

theorem sSum_loop {l : List impl_Frac} (hl : l.length ≤ 1000) (hg : ∀ f ∈ l, Good f) : ∀ (r : List impl_Frac) (k : Nat) (p : impl_Frac), l.drop k = r → k ≤ l.length → Good p →
    loopC (spec_fSum_l1 l) ((k : Int), p) = some (fin (fsum r p))
  | [], k, p, hr, hk, hp => by
    have : k = l.length := by
      have := congrArg List.length hr
      simp at this; omega
    subst this
    rw [loopC_eq]
    simp only [spec_fSum_l1, lt_end, cond_false]
    simp [fsum, fin]
  | f :: r, k, p, hr, hk, hp => by
    have hx : l[k]? = some f := by
      have := congrArg (·[0]?) hr
      simpa using this
    have hd : l.drop (k + 1) = r := by
      have := congrArg (List.drop 1) hr
      simpa using this
    have hkl := (List.getElem?_eq_some_iff.1 hx).1
    have hf := hg f (List.mem_of_getElem? hx)
    rw [loopC_eq]
    simp only [spec_fSum_l1, lt_ok hx, at_ok hx, cond_true, Option.bind_some, nx_ok hx (show l.length ≤ 9223372036854775807 by omega)]
    rw [sAdd_ok hf hp, Option.bind_some]
    cases hb : (astep p f).2 with
    | false => simp [fsum, hb, fin]
    | true =>
      simp only [Bool.not_true, cond_false]
      rw [sSum_loop hl hg r (k + 1) _ hd (by omega) (astep_good hf hp hb)]
      simp [fsum, hb]

theorem sum_same {l : List impl_Frac} (hl : l.length ≤ 200) : ∃ r, impl_SumFracs l = some r ∧ spec_SumFracs l = some r := by
  unfold impl_SumFracs spec_SumFracs
  by_cases h1 : 100 < goLen l
  · rw [decide_eq_true h1]; exact ⟨_, rfl, rfl⟩
  · rw [decide_eq_false h1]
    simp only [cond_false]
    have e1 := iSum_loop (l := l) (by omega) l 0 _ rfl (by omega) good_zero
    rw [show (((0 : Nat) : Int), (⟨0, 1⟩ : impl_Frac)) = ((0 : Int), (⟨0, 1⟩ : impl_Frac)) from rfl] at e1
    rw [e1]
    have e2 : loopC (spec_SumFracs_l1 l) 0 = some (if l.all (fun f => decide (Good f)) then .inl () else .inr (⟨0, 0⟩, false)) := by
      have hfind : ∀ (r : List impl_Frac) (k : Nat), l.drop k = r → k ≤ l.length → loopC (spec_SumFracs_l1 l) (k : Int) = some (if r.all (fun f => decide (Good f)) then .inl () else .inr (⟨0, 0⟩, false)) := by
        intro r
        induction r with
        | nil =>
          intro k hr hk
          have : k = l.length := by
            have := congrArg List.length hr
            simp at this; omega
          subst this
          rw [loopC_eq]
          simp only [spec_SumFracs_l1, lt_end, cond_false]
          rfl
        | cons f r ih =>
          intro k hr hk
          have hx : l[k]? = some f := by
            have := congrArg (·[0]?) hr
            simpa using this
          have hd : l.drop (k + 1) = r := by
            have := congrArg (List.drop 1) hr
            simpa using this
          have hkl := (List.getElem?_eq_some_iff.1 hx).1
          rw [loopC_eq]
          simp only [spec_SumFracs_l1, lt_ok hx, at_ok hx, cond_true, Option.bind_some, nx_ok hx (show l.length ≤ 9223372036854775807 by omega), spec_fGood_eq]
          by_cases hf : Good f
          · rw [decide_eq_true hf]
            simp only [Bool.not_true, cond_false]
            rw [ih (k + 1) hd (by omega), List.all_cons, decide_eq_true hf, Bool.true_and]
          · rw [decide_eq_false hf, List.all_cons, decide_eq_false hf]
            rfl
      exact hfind l 0 rfl (by omega)
    rw [e2]
    by_cases hg : ∀ f ∈ l, Good f
    · have hall : l.all (fun f => decide (Good f)) = true := by rw [List.all_eq_true]; intro f hf; exact decide_eq_true (hg f hf)
      rw [if_pos hg, hall]
      have e3 := sSum_loop (l := l) (by omega) hg l 0 _ rfl (by omega) good_zero
      rw [show (((0 : Nat) : Int), (⟨0, 1⟩ : impl_Frac)) = ((0 : Int), (⟨0, 1⟩ : impl_Frac)) from rfl] at e3
      have e4 : spec_fSum l = some (if (fsum l ⟨0, 1⟩).2 then ((fsum l ⟨0, 1⟩).1, true) else (⟨0, 0⟩, false)) := by
        unfold spec_fSum spec_fInt
        rw [Option.bind_some, e3, Option.bind_some]
        exact fin_val _
      simp only [if_true, Option.bind_some]
      rw [e4]
      exact ⟨_, fin_val _, rfl⟩
    · have hall : l.all (fun f => decide (Good f)) = false := by
        rw [List.all_eq_false]
        have : ∃ f, f ∈ l ∧ ¬ Good f := by
          apply Classical.byContradiction
          intro hc
          exact hg fun f hf => Classical.byContradiction fun hn => hc ⟨f, hf, hn⟩
        obtain ⟨f, hf, hn⟩ := this
        exact ⟨f, hf, by simp [hn]⟩
      rw [if_neg hg, hall]
      exact ⟨_, rfl, rfl⟩

/-! texts -/
theorem itoa_len {n : Int} (h : n.natAbs ≤ 1000000000) : (Go.Lib.itoa n).length ≤ 1000000002 := by
  unfold Go.Lib.itoa
  split
  · have := digs_len n.natAbs; simp; omega
  · have := digs_len n.toNat; omega

theorem cat_ok {a b : List UInt8} (h : a.length + b.length ≤ 9223372036854775807) : goCat a b = some (a ++ b) := by
  unfold goCat
  rw [decide_eq_true h, cond_true]

theorem digs_len10 : ∀ (k u : Nat), u < 10 ^ (k + 1) → (Go.Lib.decDigits u).length ≤ k + 1
  | 0, u, h => by rw [digs_small (by simpa using h)]; simp
  | k + 1, u, h => by
    by_cases h1 : u < 10
    · rw [digs_small h1]; simp
    · rw [digs_big h1, List.length_append, List.length_singleton]
      have := digs_len10 k (u / 10) (by rw [Nat.pow_succ] at h; omega)
      omega

theorem frac_back {f : impl_Frac} (h : Good f) : ∃ t, impl_FracText f = some (t, true) ∧ impl_ParseFrac t = some (f, true) := by
  obtain ⟨n, d⟩ := f
  have hn := good_num h
  have hd := good_den h
  have hd1 := h.1
  simp only at hn hd hd1
  have hdl : (Go.Lib.itoa d).length ≤ 10 := by
    unfold Go.Lib.itoa
    rw [if_neg (by omega)]
    exact digs_len10 9 d.toNat (by omega)
  have hid : Go.Lib.itoa d = Go.Lib.decDigits d.toNat := by unfold Go.Lib.itoa; rw [if_neg (by omega)]
  unfold impl_FracText impl_ParseFrac impl_readFrac
  rw [impl_IsFrac_eq, decide_eq_true h, Option.bind_some, Bool.not_true, cond_false, itoa_ok (by simp only; omega) (by simp only; omega), itoa_ok (by simp only; omega) (by simp only; omega)]
  simp only [Option.bind_some]
  by_cases h1 : d = 1
  · subst h1
    refine ⟨Go.Lib.itoa n, rfl, ?_⟩
    have hr := readInt_ok (n := n) (r := []) (most := 1000000000) (by omega) (by omega) (by omega) (.inl rfl) (by simp)
    rw [List.append_nil] at hr
    rw [hr]
    simp only [Option.bind_some, Bool.not_true, cond_false]
    rw [decide_eq_false (by simp [goLen])]
    simp only [cond_false, Option.bind_some]
    rw [impl_IsFrac_eq, decide_eq_true h]
    rfl
  · have e1 : (d != 1) = true := by simpa using h1
    rw [e1, cond_true, cat_ok (by simp; omega), Option.bind_some, cat_ok (by have := itoa_len hn; simp; omega), Option.bind_some, Option.bind_some]
    refine ⟨_, rfl, ?_⟩
    have hr := readInt_ok (n := n) (r := [47] ++ Go.Lib.itoa d) (most := 1000000000) (by omega) (by omega) (by omega) (.inr ⟨47, Go.Lib.itoa d, rfl, .inl (by decide)⟩) (by simp; omega)
    rw [hr]
    simp only [Option.bind_some, Bool.not_true, cond_false, List.singleton_append]
    rw [decide_eq_true (by simp [goLen]), cond_true, strAt0, Option.bind_some, show (((47 : UInt8).toNat : Int) == 47) = true from rfl]
    simp only [Option.bind_some, cond_true]
    have hr2 := readNat_ok (u := d.toNat) (r := []) (most := 1000000000) (by omega) (by omega) (.inl rfl) (by simp)
    rw [List.append_nil] at hr2
    rw [sub1, Option.bind_some, hid, hr2]
    simp only [Option.bind_some, Bool.not_true, cond_false]
    rw [show ((d.toNat : Nat) : Int) = d by omega, decide_eq_false (by omega)]
    simp only [Option.bind_some, cond_false]
    rw [impl_IsFrac_eq, decide_eq_true h]
    rfl

theorem laws_FnRounding_true (a b : List (K .u8)) (o1 : Rng.ok a) (o2 : Rng.ok b) : laws_FnRounding a b = some true := by
  refine tot_eq ?_
  unfold laws_FnRounding
  refine tot_cond (fun _ => tot_some rfl) fun _ => ?_
  refine tot_bind (tDrawRound o1.2) fun f _ => ?_
  have hround : ∃ n k ok, impl_RoundFrac f = some (n, ok) ∧ spec_RoundFrac f = some (n, ok) ∧ impl_FloorFrac f = some (k, ok) ∧ spec_FloorFrac f = some (k, ok) ∧ (ok = true ↔ Good f) ∧ (n = k ∨ n = w64 (k + 1)) := by
    unfold impl_RoundFrac spec_RoundFrac impl_FloorFrac spec_FloorFrac
    rw [impl_IsFrac_eq, spec_fGood_eq]
    by_cases hf : Good f
    · obtain ⟨q, n, e1, e2, e3, e4, h⟩ := round_same hf
      rw [decide_eq_true hf]
      simp only [Option.bind_some, Bool.not_true, cond_false, e1, e2, e3, e4]
      exact ⟨n, q, true, rfl, rfl, rfl, rfl, by simp [hf], h⟩
    · rw [decide_eq_false hf]
      exact ⟨0, 0, false, rfl, rfl, rfl, rfl, by simp [hf], .inl rfl⟩
  obtain ⟨n, k, ok, q1, q2, q3, q4, hok, hnk⟩ := hround
  rw [q1, q2, q3, q4]
  simp only [Option.bind_some]
  refine tot_bind (tDrawPow o2.2) fun ⟨g, e⟩ he => ?_
  simp only at he ⊢
  obtain ⟨r, q5, q6⟩ := pow_same g he
  rw [q5, q6]
  simp only [Option.bind_some]
  refine tot_bind (tDrawSum o2.2) fun l hl => ?_
  obtain ⟨s, q7, q8⟩ := sum_same hl
  rw [q7, q8]
  simp only [Option.bind_some, bne_self_eq_false, cond_false, beq_self_eq_true, Bool.and_self, Bool.not_true]
  cases ok with
  | false => exact tot_some rfl
  | true =>
    obtain ⟨t, q9, q10⟩ := frac_back (hok.1 rfl)
    simp only [Bool.not_true, cond_false, q9, q10, Option.bind_some, cond_true, beq_self_eq_true, Bool.and_self]
    rcases hnk with rfl | rfl
    · rw [beq_self_eq_true]; exact tot_some rfl
    · rw [beq_self_eq_true]
      cases (w64 (k + 1) == k) <;> exact tot_some rfl

end Go.Gx.F
