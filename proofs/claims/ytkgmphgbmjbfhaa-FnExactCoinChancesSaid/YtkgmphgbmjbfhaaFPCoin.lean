/- Plain laws: the chances of numbers of heads. -/
import Derived.Test.YtkgmphgbmjbfhaaFPMark
import Derived.Test.YtkgmphgbmjbfhaaFPAcc
import Derived.Test.YtkgmphgbmjbfhaaFPUse
namespace Go.Gx.F
open Go.Gx
set_option linter.all false

/-- a chance -/
def Chance (p : impl_Frac) : Prop := Good p ∧ 0 ≤ p.Num ∧ p.Num ≤ p.Den

instance (p : impl_Frac) : Decidable (Chance p) := by unfold Chance; infer_instance

theorem impl_isChance_eq (p : impl_Frac) : impl_isChance p = some (decide (Chance p)) := by
  unfold impl_isChance
  rw [impl_IsFrac_eq]
  simp only [Option.bind_some]
  by_cases h : Good p
  · by_cases h1 : 0 ≤ p.Num
    · by_cases h2 : p.Num ≤ p.Den
      · simp [h, h1, h2, show Chance p from ⟨h, h1, h2⟩]
      · simp [h, h1, h2, show ¬ Chance p from fun c => h2 c.2.2]
    · simp [h, h1, show ¬ Chance p from fun c => h1 c.2.1]
  · simp [h, show ¬ Chance p from fun c => h c.1]

theorem cmp_one_le {s : impl_Frac} : cmp s ⟨1, 1⟩ ≤ 0 ↔ s.Num ≤ s.Den := by
  rw [cmp_le]; simp

theorem spec_kUnit_eq (p : impl_Frac) : spec_kUnit p 1 = some (decide (Chance p)) := by
  unfold spec_kUnit
  rw [spec_fGood_eq]
  simp only [Option.bind_some]
  by_cases h : Good p
  · by_cases h1 : 0 ≤ p.Num
    · have e : spec_fInt 1 = some ⟨1, 1⟩ := rfl
      simp only [h, h1, decide_true, cond_true, e, Option.bind_some, spec_cmp_good h good_one]
      by_cases h2 : p.Num ≤ p.Den
      · rw [decide_eq_true (cmp_one_le.2 h2), decide_eq_true (show Chance p from ⟨h, h1, h2⟩)]
      · rw [decide_eq_false (fun c => h2 (cmp_one_le.1 c)), decide_eq_false (fun c : Chance p => h2 c.2.2)]
    · simp [h, h1, show ¬ Chance p from fun c => h1 c.2.1]
  · simp [h, show ¬ Chance p from fun c => h c.1]

theorem rest_good {a : impl_Frac} (h : Chance a) : Good ⟨a.Den - a.Num, a.Den⟩ := by
  obtain ⟨hg, h1, h2⟩ := h
  have hn := good_num hg
  have hd := hg.1
  have hd2 := hg.2.1
  refine ⟨by simp; omega, by simp; omega, by simp; omega, by simp; omega, ?_⟩
  have := hg.2.2.2.2
  simp only
  have e : Int.gcd (a.Den - a.Num) a.Den = Int.gcd a.Num a.Den := by
    rw [Int.gcd_comm (a.Den - a.Num), Int.gcd_comm a.Num]
    rw [show a.Den - a.Num = -a.Num + 1 * a.Den by omega, Int.gcd_add_mul_right_right, Int.gcd_neg]
  rw [e]
  exact this

theorem rest_sub {a : impl_Frac} (h : Chance a) : spec_fSub ⟨1, 1⟩ a = some (⟨a.Den - a.Num, a.Den⟩, true) := by
  rw [spec_fSub_eq good_one h.1]
  unfold fsub
  simp only [Int.one_mul, Int.mul_one]
  rw [mk_self (f := ⟨a.Den - a.Num, a.Den⟩) (rest_good h)]

/-! in how many ways -/
def chs : Nat → Nat → Int
  | _, 0 => 1
  | 0, _ + 1 => 0
  | n + 1, i + 1 => chs n i + chs n (i + 1)

set_option maxRecDepth 100000 in
theorem choose_itr : ∀ n : Nat, n < 9 → ∀ i : Nat, i < 9 → i ≤ n → itr (spec_kChoose_l1 n i) 10 (1, 1) = some (chs n i) := by decide +kernel

theorem spec_kChoose_eq {n i : Nat} (hn : n ≤ 8) (hi : i ≤ n) : spec_kChoose (n : Int) (i : Int) = some (chs n i) := by
  unfold spec_kChoose
  rw [loopC_of (choose_itr n (by omega) i (by omega) hi)]
  rfl

set_option maxRecDepth 100000 in
theorem ways_next : ∀ n : Nat, n < 9 → ∀ i : Nat, i < 9 → i ≤ n → goQuo .i64 (w64 (chs n i * w64 ((n : Int) - i))) (w64 ((i : Int) + 1)) = some (chs n (i + 1)) := by decide +kernel

theorem chs_bound : ∀ n : Nat, n < 9 → ∀ i : Nat, i < 10 → 0 ≤ chs n i ∧ chs n i ≤ 70 := by decide +kernel

theorem chs_good {n i : Nat} (hn : n ≤ 8) (hi : i ≤ 9) : Good ⟨chs n i, 1⟩ := by
  have := chs_bound n (by omega) i (by omega)
  exact good_int (by omega) (by omega)

def coinOf (p q : impl_Frac) (n : Nat) (k : Nat) (_ : Nat) : Option impl_Frac :=
  if (pwI p ⟨1, 1⟩ k).2 ∧ (pwI q ⟨1, 1⟩ (n - k)).2 ∧ (fmul (pwI p ⟨1, 1⟩ k).1 (pwI q ⟨1, 1⟩ (n - k)).1).2 ∧ (fmul (fmul (pwI p ⟨1, 1⟩ k).1 (pwI q ⟨1, 1⟩ (n - k)).1).1 ⟨chs n k, 1⟩).2 then
    some (fmul (fmul (pwI p ⟨1, 1⟩ k).1 (pwI q ⟨1, 1⟩ (n - k)).1).1 ⟨chs n k, 1⟩).1 else none

theorem range_get {n k x : Nat} (h : (List.range n)[k]? = some x) : x = k ∧ k < n := by
  by_cases hk : k < n
  · rw [List.getElem?_range hk] at h
    simp at h
    exact ⟨h.symm, hk⟩
  · rw [List.getElem?_eq_none (by simp; omega)] at h
    cases h

theorem zz_1 : zz.1 = ⟨0, 0⟩ := rfl

theorem zz_2 : zz.2 = false := rfl

theorem coins {p : impl_Frac} (hp : Chance p) {n : Nat} (hn : n ≤ 8) :
    loopC (spec_CoinChances_l1 p n ⟨p.Den - p.Num, p.Den⟩) ([], 0) = some ((mapO (coinOf p ⟨p.Den - p.Num, p.Den⟩ n) 0 (List.range (n + 1))).elim (.inr ([], false)) .inl) ∧
    ∀ l5 : List impl_Frac, l5.length = n + 1 → loopC (impl_CoinChances_l1 p n l5) (List.replicate (n + 1) ⟨0, 0⟩, 1, 0) = some ((mapO (coinOf p ⟨p.Den - p.Num, p.Den⟩ n) 0 (List.range (n + 1))).elim (.inr ([], false)) .inl) := by
  have hq := rest_good hp
  constructor
  · refine loop_app (fun k out => (out, k)) (List.range (n + 1)) (coinOf p ⟨p.Den - p.Num, p.Den⟩ n) _ Sum.inl _ (fun k x out hx ho => ?_) (fun out _ => ?_)
    · obtain ⟨rfl, hk⟩ := range_get hx
      have w1 : w64 ((n : Int) - (x : Int)) = ((n - x : Nat) : Int) := by rw [w64_in (by omega) (by omega)]; omega
      have w2 : w64 ((x : Int) + 1) = ((x + 1 : Nat) : Int) := by rw [w64_in (by omega) (by omega)]; omega
      simp only [spec_CoinChances_l1, show decide ((x : Int) ≤ (n : Int)) = true by simp; omega, cond_true, w1, w2]
      rw [spec_fPow_eq hp.1 (by omega), spec_fPow_eq hq (by omega)]
      simp only [Option.bind_some, Int.toNat_natCast, coinOf]
      have ga := fun h => pwI_good hp.1 x ⟨1, 1⟩ good_one h
      have gb := fun h => pwI_good hq (n - x) ⟨1, 1⟩ good_one h
      generalize pwI p ⟨1, 1⟩ x = A at ga ⊢
      generalize pwI ⟨p.Den - p.Num, p.Den⟩ ⟨1, 1⟩ (n - x) = B at gb ⊢
      obtain ⟨A1, A2⟩ := A
      obtain ⟨B1, B2⟩ := B
      cases A2 with
      | false => simp
      | true =>
        cases B2 with
        | false => simp
        | true =>
          have gA : Good A1 := ga rfl
          have gB : Good B1 := gb rfl
          have e : ∀ z : Int, spec_fInt z = some ⟨z, 1⟩ := fun _ => rfl
          simp only [Bool.not_true, cond_false, Option.bind_some, spec_fMul_eq gA gB, spec_kChoose_eq hn (show x ≤ n by omega), e]
          cases hc : (fmul A1 B1).2 with
          | false =>
            rw [fmul_bad hc, zz_1, spec_fMul_zl]
            simp [zz_2]
          | true =>
            have gC := fmul_good gA gB hc
            rw [spec_fMul_eq gC (chs_good hn (show x ≤ 9 by omega))]
            simp only [Option.bind_some, Bool.not_true, cond_false]
            cases hd : (fmul (fmul A1 B1).1 ⟨chs n x, 1⟩).2 with
            | false => simp
            | true => simp [goApp_ok (show (out.length + [(fmul (fmul A1 B1).1 ⟨chs n x, 1⟩).1].length) * 16 ≤ 140737488355328 by simp; omega)]
    · simp only [spec_CoinChances_l1]
      rw [show decide (((List.range (n + 1)).length : Int) ≤ (n : Int)) = false by simp; omega]
      rfl
  · intro l5 h5
    have := loop_set (fun k out => (out, chs n k.toNat, k)) (List.range (n + 1)) (coinOf p ⟨p.Den - p.Num, p.Den⟩ n) (.inr ([], false)) Sum.inl ⟨0, 0⟩ (impl_CoinChances_l1 p n l5) (fun k x out hx ho => ?_) (fun out _ => ?_)
    · simpa [chs] using this
    · obtain ⟨rfl, hk⟩ := range_get hx
      have w1 : w64 ((n : Int) - (x : Int)) = ((n - x : Nat) : Int) := by rw [w64_in (by omega) (by omega)]; omega
      have w2 : w64 ((x : Int) + 1) = ((x + 1 : Nat) : Int) := by rw [w64_in (by omega) (by omega)]; omega
      have w3 : w64 (p.Den - p.Num) = p.Den - p.Num := by
        have h1 := hp.1.1; have h2 := hp.1.2.1; have h3 := hp.2.1; have h4 := hp.2.2
        exact w64_in (by omega) (by omega)
      have hw := ways_next n (by omega) x (by omega) (by omega)
      rw [w1, w2] at hw
      have hxl : x < out.length := by rw [ho]; simpa using hk
      have ho' : out[x]? = some out[x] := by simp [hxl]
      simp only [impl_CoinChances_l1, show decide ((x : Int) < goLen l5) = true by simp [goLen]; omega, cond_true, w1, w2, w3, Int.toNat_natCast, hw, at_ok ho']
      rw [impl_PowFrac_eq hp.1 (by omega) (by omega), impl_PowFrac_eq hq (by omega) (by omega)]
      simp only [Option.bind_some, Int.toNat_natCast, coinOf]
      have ga := fun h => pwI_good hp.1 x ⟨1, 1⟩ good_one h
      have gb := fun h => pwI_good hq (n - x) ⟨1, 1⟩ good_one h
      generalize pwI p ⟨1, 1⟩ x = A at ga ⊢
      generalize pwI ⟨p.Den - p.Num, p.Den⟩ ⟨1, 1⟩ (n - x) = B at gb ⊢
      obtain ⟨A1, A2⟩ := A
      obtain ⟨B1, B2⟩ := B
      cases A2 with
      | false => simp
      | true =>
        cases B2 with
        | false => simp
        | true =>
          have gA : Good A1 := ga rfl
          have gB : Good B1 := gb rfl
          simp only [Bool.not_true, cond_false, Option.bind_some, impl_MulFrac_eq gA gB]
          cases hc : (fmul A1 B1).2 with
          | false => simp
          | true =>
            have gC := fmul_good gA gB hc
            simp only [Bool.not_true, cond_false]
            rw [impl_MulFrac_eq (chs_good hn (show x ≤ 9 by omega)) gC, fmul_comm ⟨chs n x, 1⟩]
            simp only [Option.bind_some]
            cases hd : (fmul (fmul A1 B1).1 ⟨chs n x, 1⟩).2 with
            | false => simp
            | true => simp [goSet]
    · simp only [impl_CoinChances_l1]
      rw [show decide (((List.range (n + 1)).length : Int) < goLen l5) = false by simp [goLen]; omega]
      rfl

theorem coins_same (p : impl_Frac) (n : Int) : ∃ r, spec_CoinChances p n = some r ∧ impl_CoinChances p n = some r ∧ r.1.length ≤ 1048576 := by
  unfold spec_CoinChances impl_CoinChances
  rw [spec_kUnit_eq, impl_isChance_eq]
  simp only [Option.bind_some]
  by_cases hp : Chance p
  · simp only [hp, decide_true, Bool.not_true, cond_false, spec_l1In_eq, Option.bind_some]
    by_cases h0 : n < 0
    · exact ⟨([], false), by simp [show ¬ (0 ≤ n ∧ n ≤ 8) by omega], by simp [h0], by simp⟩
    · by_cases h8 : 8 < n
      · exact ⟨([], false), by simp [show ¬ (0 ≤ n ∧ n ≤ 8) by omega], by simp [h0, h8], by simp⟩
      · obtain ⟨N, rfl⟩ := Int.eq_ofNat_of_zero_le (show 0 ≤ n by omega)
        have hN : N ≤ 8 := by omega
        obtain ⟨c1, c2⟩ := coins hp hN
        have e : spec_fInt 1 = some ⟨1, 1⟩ := rfl
        simp only [show 0 ≤ (N : Int) ∧ (N : Int) ≤ 8 by omega, decide_true, Bool.not_true, cond_false, h0, h8, decide_false, e, Option.bind_some, rest_sub hp, c1]
        rw [show w64 ((N : Int) + 1) = ((N + 1 : Nat) : Int) by rw [w64_in (by omega) (by omega)]; omega, goMake_ok (by omega) (by omega)]
        simp only [Option.bind_some]
        rw [c2 _ (by simp)]
        cases hq : mapO (coinOf p ⟨p.Den - p.Num, p.Den⟩ N) 0 (List.range (N + 1)) with
        | none => exact ⟨([], false), rfl, rfl, by simp⟩
        | some r => exact ⟨(r, true), rfl, rfl, by have := mapO_len hq; simp at this; simp only; omega⟩
  · exact ⟨([], false), by simp [hp], by simp [hp], by simp⟩

theorem laws_FnExactCoinChances_true (a : laws_Frac) (n : Int) (o1 : Rng.ok a) (o2 : Rng.ok n) : laws_FnExactCoinChances a n = some true := by
  unfold laws_FnExactCoinChances
  obtain ⟨p, h1, h2, h3⟩ := coins_same ⟨a.Num, a.Den⟩ n
  obtain ⟨m, m1, m2⟩ := bothFrac h3
  simp only [cond_false, laws_toFrac_eq, Option.bind_some, h1, h2, laws_eqFracS_self h3, m1, m2, Bool.not_true, ok2, bne_self]
  simp
end Go.Gx.F
