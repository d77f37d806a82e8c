/- Fractions: what the functions of both sides return, in plain words. -/
import Derived.Test.YtgaeknajcakinaaDoorRDefs
import Derived.IntWalk
namespace Go.Gx.F
open Go.Gx
set_option linter.all false

theorem w64_in {n : Int} (h1 : -9223372036854775808 ≤ n) (h2 : n ≤ 9223372036854775807) : w64 n = n := Go.IntWalk.i64_in n ⟨h1, h2⟩

theorem goRem_ok {a b : Int} (h : b ≠ 0) : goRem a b = some (a.tmod b) := by
  have hb : (b == 0) = false := by simpa using h
  simp [goRem, hb]

theorem goQuo_ok {a b : Int} (h : b ≠ 0) (h1 : -9223372036854775807 ≤ a) (h2 : a ≤ 9223372036854775807) : goQuo .i64 a b = some (a.tdiv b) := by
  have hb : (b == 0) = false := by simpa using h
  unfold goQuo
  rw [hb]
  have e : (a.tdiv b).natAbs ≤ a.natAbs := by
    rw [Int.natAbs_tdiv]
    exact Nat.div_le_self _ _
  simp only [cond_false]
  congr 1
  exact w64_in (by omega) (by omega)

theorem gcd_tmod (a b : Int) : Int.gcd b (a.tmod b) = Int.gcd a b := by
  unfold Int.gcd
  rw [Int.natAbs_tmod, Nat.gcd_comm a.natAbs b.natAbs, Nat.gcd_rec b.natAbs a.natAbs, Nat.gcd_comm]

theorem natAbs_tmod_lt (a b : Int) (h : b ≠ 0) : (a.tmod b).natAbs < b.natAbs := by
  rw [Int.natAbs_tmod]
  exact Nat.mod_lt _ (by omega)

theorem gcd_loop_nonneg : ∀ (n : Nat) (a b : Int), b.natAbs ≤ n → 0 ≤ a → 0 ≤ b → loopC impl_gcdOf_l1 (a, b) = some (Int.gcd a b : Int) := by
  intro n
  induction n with
  | zero =>
    intro a b hn ha hb
    have : b = 0 := by omega
    subst this
    rw [loopC_eq]
    simp [impl_gcdOf_l1, Int.gcd]
    omega
  | succ n ih =>
    intro a b hn ha hb
    rw [loopC_eq]
    by_cases h0 : b = 0
    · subst h0
      simp [impl_gcdOf_l1, Int.gcd]
      omega
    · have hb' : (b != 0) = true := by simpa using h0
      simp only [impl_gcdOf_l1, hb', cond_true, goRem_ok h0, Option.bind_some]
      have h1 := natAbs_tmod_lt a b h0
      rw [ih b (a.tmod b) (by omega) hb (Int.tmod_nonneg _ ha), gcd_tmod]

theorem impl_gcdOf_eq {a b : Int} (ha : -9223372036854775807 ≤ a) (hb : -9223372036854775807 ≤ b) : impl_gcdOf a b = some (Int.gcd a b : Int) := by
  have e : ∀ x : Int, -9223372036854775807 ≤ x → (cond (decide (x < 0)) (some (w64 (-x))) (some x) : Option Int) = some (x.natAbs : Int) := by
    intro x hx
    by_cases h : x < 0
    · simp only [h, decide_true, cond_true]
      by_cases h2 : x < -9223372036854775807
      · omega
      · rw [w64_in (by omega) (by omega)]
        congr 1
        omega
    · simp only [h, decide_false, cond_false]
      congr 1
      omega
  unfold impl_gcdOf
  rw [e a ha, e b hb]
  simp only [Option.bind_some]
  rw [gcd_loop_nonneg _ _ _ (Nat.le_refl _) (by omega) (by omega)]
  simp [Int.gcd]

theorem spec_l1Abs_eq {a : Int} (ha : -9223372036854775807 ≤ a) (hb : a ≤ 9223372036854775807) : spec_l1Abs a = some (a.natAbs : Int) := by
  unfold spec_l1Abs spec_l1Most
  rw [w64_in (by omega) (by omega)]
  by_cases h : -a < a
  · simp [h]; omega
  · simp [h]; omega

theorem fGcd_loop : ∀ (n : Nat) (a b : Int), b.natAbs ≤ n → ∃ r : Int, loopC spec_fGcd_l1 (a, b) = some r ∧ r.natAbs = Int.gcd a b := by
  intro n
  induction n with
  | zero =>
    intro a b hn
    have : b = 0 := by omega
    subst this
    rw [loopC_eq]
    simp [spec_fGcd_l1, Int.gcd]
  | succ n ih =>
    intro a b hn
    rw [loopC_eq]
    by_cases h0 : b = 0
    · subst h0
      simp [spec_fGcd_l1, Int.gcd]
    · have hb' : (b != 0) = true := by simpa using h0
      simp only [spec_fGcd_l1, hb', cond_true, goRem_ok h0, Option.bind_some]
      have h1 := natAbs_tmod_lt a b h0
      rw [← gcd_tmod]
      exact ih b (a.tmod b) (by omega)

theorem gcd_le_max (a b : Int) : Int.gcd a b ≤ max a.natAbs b.natAbs := by
  by_cases ha : a = 0
  · subst ha; simp [Int.gcd]
  · exact Nat.le_trans (Nat.le_of_dvd (by omega) (Int.gcd_dvd_natAbs_left a b)) (Nat.le_max_left _ _)

theorem spec_fGcd_eq {a b : Int} (ha : a.natAbs ≤ 9223372036854775807) (hb : b.natAbs ≤ 9223372036854775807) : spec_fGcd a b = some (Int.gcd a b : Int) := by
  obtain ⟨r, hr, hn⟩ := fGcd_loop _ a b (Nat.le_refl _)
  unfold spec_fGcd
  have := gcd_le_max a b
  have hm : max a.natAbs b.natAbs ≤ 9223372036854775807 := Nat.max_le.2 ⟨ha, hb⟩
  rw [hr]
  simp only [Option.bind_some]
  rw [spec_l1Abs_eq (by omega) (by omega)]
  simp [hn]

/-! valid fractions -/

def Good (f : impl_Frac) : Prop := 1 ≤ f.Den ∧ f.Den ≤ 1000000000 ∧ -1000000000 ≤ f.Num ∧ f.Num ≤ 1000000000 ∧ Int.gcd f.Num f.Den = 1

instance (f : impl_Frac) : Decidable (Good f) := by unfold Good; infer_instance

theorem dec_iff {b : Bool} {p : Prop} [Decidable p] (h : b = true ↔ p) : some b = some (decide p) := by
  refine congrArg some ?_
  rw [Bool.eq_iff_iff, decide_eq_true_iff]
  exact h

theorem impl_IsFrac_eq (f : impl_Frac) : impl_IsFrac f = some (decide (Good f)) := by
  unfold impl_IsFrac
  by_cases h1 : 1 ≤ f.Den
  · by_cases h2 : f.Den ≤ 1000000000
    · by_cases h3 : -1000000000 ≤ f.Num
      · by_cases h4 : f.Num ≤ 1000000000
        · rw [impl_gcdOf_eq (by omega) (by omega)]
          simp only [h1, h2, h3, h4, decide_true, cond_true, Option.bind_some]
          refine dec_iff ?_
          unfold Good
          simp [h1, h2, h3, h4]
          omega
        · simp only [h1, h2, h3, h4, decide_true, decide_false, cond_true, cond_false, Option.bind_some]
          exact dec_iff ⟨fun h => (by cases h), fun h => absurd h.2.2.2.1 h4⟩
      · simp only [h1, h2, h3, decide_true, decide_false, cond_true, cond_false, Option.bind_some]
        exact dec_iff ⟨fun h => (by cases h), fun h => absurd h.2.2.1 h3⟩
    · simp only [h1, h2, decide_true, decide_false, cond_true, cond_false, Option.bind_some]
      exact dec_iff ⟨fun h => (by cases h), fun h => absurd h.2.1 h2⟩
  · simp only [h1, decide_false, cond_false, Option.bind_some]
    exact dec_iff ⟨fun h => (by cases h), fun h => absurd h.1 h1⟩

theorem spec_l1In_eq (n lo hi : Int) : spec_l1In n lo hi = some (decide (lo ≤ n ∧ n ≤ hi)) := by
  unfold spec_l1In
  by_cases h : lo ≤ n <;> simp [h]

theorem spec_fGood_eq (f : impl_Frac) : spec_fGood f = some (decide (Good f)) := by
  unfold spec_fGood
  simp only [spec_l1In_eq, Option.bind_some]
  by_cases h1 : 1 ≤ f.Den ∧ f.Den ≤ 1000000000
  · by_cases h3 : -1000000000 ≤ f.Num ∧ f.Num ≤ 1000000000
    · rw [spec_fGcd_eq (by omega) (by omega), decide_eq_true h1, decide_eq_true h3]
      simp only [cond_true, Option.bind_some]
      refine dec_iff ?_
      unfold Good
      simp [h1, h3]
      omega
    · rw [decide_eq_true h1, decide_eq_false h3]
      simp only [cond_true, cond_false, Option.bind_some]
      exact dec_iff ⟨fun h => (by cases h), fun h => absurd ⟨h.2.2.1, h.2.2.2.1⟩ h3⟩
  · rw [decide_eq_false h1]
    simp only [cond_false, Option.bind_some]
    exact dec_iff ⟨fun h => (by cases h), fun h => absurd ⟨h.1, h.2.1⟩ h1⟩

/-! the fraction n/d in lowest terms, where it is valid -/

def mk (n d : Int) : impl_Frac × Bool :=
  let g : Int := Int.gcd n d
  let f : impl_Frac := if d < 0 then ⟨-(n.tdiv g), -(d.tdiv g)⟩ else ⟨n.tdiv g, d.tdiv g⟩
  if -1000000000 ≤ f.Num ∧ f.Num ≤ 1000000000 ∧ f.Den ≤ 1000000000 then (f, true) else (⟨0, 0⟩, false)

theorem gcd_pos {n d : Int} (hd : d ≠ 0) : 0 < Int.gcd n d := Nat.pos_of_ne_zero fun h => hd (Int.gcd_eq_zero_iff.1 h).2

theorem natAbs_tdiv_le (a b : Int) : (a.tdiv b).natAbs ≤ a.natAbs := by
  rw [Int.natAbs_tdiv]
  exact Nat.div_le_self _ _

theorem sgn_tdiv {G d : Int} (hG : 0 < G) (hd : G ∣ d) : (d < 0 → d.tdiv G < 0) ∧ (0 < d → 0 < d.tdiv G) ∧ (d.tdiv G < 0 → d < 0) := by
  obtain ⟨k, rfl⟩ := hd
  rw [Int.mul_tdiv_cancel_left _ (by omega)]
  refine ⟨fun h => ?_, fun h => ?_, fun h => ?_⟩
  · rcases Int.lt_or_le k 0 with h' | h'
    · exact h'
    · have := Int.mul_nonneg (Int.le_of_lt hG) h'
      omega
  · rcases Int.lt_or_le 0 k with h' | h'
    · exact h'
    · have := Int.mul_nonpos_of_nonneg_of_nonpos (Int.le_of_lt hG) h'
      omega
  · exact Int.mul_neg_of_pos_of_neg hG h

theorem impl_reduced_eq {n d : Int} (hd : d ≠ 0) (hn : n.natAbs ≤ 9223372036854775806) (hd2 : d.natAbs ≤ 9223372036854775806) : impl_reduced n d = some (mk n d) := by
  have hg := gcd_pos (n := n) hd
  have hgz : ((Int.gcd n d : Nat) : Int) ≠ 0 := by omega
  have h1 := natAbs_tdiv_le n (Int.gcd n d)
  have h2 := natAbs_tdiv_le d (Int.gcd n d)
  have hst := sgn_tdiv (G := Int.gcd n d) (d := d) (by omega) (Int.gcd_dvd_right _ _)
  have hs : d.tdiv (Int.gcd n d) < 0 ↔ d < 0 := ⟨hst.2.2, hst.1⟩
  unfold impl_reduced mk
  rw [impl_gcdOf_eq (by omega) (by omega)]
  simp only [Option.bind_some]
  rw [goQuo_ok hgz (by omega) (by omega), goQuo_ok hgz (by omega) (by omega)]
  simp only [Option.bind_some]
  generalize n.tdiv (Int.gcd n d) = a at *
  generalize d.tdiv (Int.gcd n d) = b at *
  rw [w64_in (n := -a) (by omega) (by omega), w64_in (n := -b) (by omega) (by omega)]
  by_cases hb : b < 0
  · have hd0 : d < 0 := hs.1 hb
    simp only [hb, hd0, decide_true, cond_true, Option.bind_some, if_true]
    by_cases c1 : 1000000000 < -a
    · (simp [c1] <;> omega)
    · by_cases c2 : -a < -1000000000
      · (simp [c1, c2] <;> omega)
      · by_cases c3 : 1000000000 < -b
        · (simp [c1, c2, c3] <;> omega)
        · (simp [c1, c2, c3] <;> omega)
  · have hd0 : ¬ d < 0 := fun h => hb (hs.2 h)
    simp only [hb, hd0, decide_false, cond_false, Option.bind_some, if_false]
    by_cases c1 : 1000000000 < a
    · (simp [c1] <;> omega)
    · by_cases c2 : a < -1000000000
      · (simp [c1, c2] <;> omega)
      · by_cases c3 : 1000000000 < b
        · (simp [c1, c2, c3] <;> omega)
        · (simp [c1, c2, c3] <;> omega)

theorem gcd_tdiv {n d : Int} (hd : d ≠ 0) : Int.gcd (n.tdiv (Int.gcd n d)) (d.tdiv (Int.gcd n d)) = 1 := by
  have hg := gcd_pos (n := n) hd
  unfold Int.gcd
  rw [Int.natAbs_tdiv, Int.natAbs_tdiv]
  have : ((n.natAbs.gcd d.natAbs : Nat) : Int).natAbs = n.natAbs.gcd d.natAbs := by simp
  rw [this]
  show Nat.gcd (n.natAbs / _) (d.natAbs / _) = 1
  rw [Nat.gcd_div (Nat.gcd_dvd_left _ _) (Nat.gcd_dvd_right _ _)]
  exact Nat.div_self hg

theorem tdiv_pos {n d : Int} (hd : d ≠ 0) : (d < 0 → d.tdiv (Int.gcd n d) < 0) ∧ (0 < d → 0 < d.tdiv (Int.gcd n d)) := by
  have hg := gcd_pos (n := n) hd
  have := sgn_tdiv (G := Int.gcd n d) (d := d) (by omega) (Int.gcd_dvd_right _ _)
  exact ⟨this.1, this.2.1⟩

theorem mk_good {n d : Int} (hd : d ≠ 0) (h : (mk n d).2 = true) : Good (mk n d).1 := by
  have hp := tdiv_pos (n := n) hd
  have hg := gcd_tdiv (n := n) hd
  unfold mk at h ⊢
  by_cases h0 : d < 0
  · simp only [h0, if_true] at h ⊢
    split at h
    · rename_i hc
      simp only [hc, and_self, if_true]
      refine ⟨?_, hc.2.2, hc.1, hc.2.1, ?_⟩
      · have := hp.1 h0; simp; omega
      · simpa [Int.gcd_neg, Int.neg_gcd] using hg
    · simp at h
  · simp only [h0, if_false] at h ⊢
    split at h
    · rename_i hc
      simp only [hc, and_self, if_true]
      refine ⟨?_, hc.2.2, hc.1, hc.2.1, hg⟩
      have := hp.2 (by omega); simp; omega
    · simp at h

theorem ite_bad {p : Prop} [Decidable p] {f : impl_Frac} (h : (if p then (f, true) else ((⟨0, 0⟩ : impl_Frac), false)).2 = false) : (if p then (f, true) else ((⟨0, 0⟩ : impl_Frac), false)).1 = ⟨0, 0⟩ := by
  by_cases hp : p
  · simp [hp] at h
  · simp [hp]

theorem mk_bad {n d : Int} (h : (mk n d).2 = false) : (mk n d).1 = ⟨0, 0⟩ := ite_bad h

theorem spec_fMake_eq {n d : Int} (hd : d ≠ 0) (hn : n.natAbs ≤ 9223372036854775806) (hd2 : d.natAbs ≤ 9223372036854775806) : spec_fMake n d = some (mk n d) := by
  have hg := gcd_pos (n := n) hd
  have hgz : ((Int.gcd n d : Nat) : Int) ≠ 0 := by omega
  have hd' : (d == 0) = false := by simpa using hd
  have hgm := gcd_le_max n d
  have hm : max n.natAbs d.natAbs ≤ 9223372036854775806 := Nat.max_le.2 ⟨hn, hd2⟩
  have hp := tdiv_pos (n := n) hd
  have hgc := gcd_tdiv (n := n) hd
  unfold spec_fMake mk
  rw [hd', spec_fGcd_eq (by omega) (by omega)]
  simp only [cond_false, Option.bind_some]
  by_cases h0 : d < 0
  · have hp := hp.1 h0
    simp only [h0, decide_true, cond_true, Option.bind_some, if_true]
    rw [w64_in (n := -(Int.gcd n d : Int)) (by omega) (by omega), goQuo_ok (by omega) (by omega) (by omega), goQuo_ok (by omega) (by omega) (by omega)]
    simp only [Option.bind_some, Int.tdiv_neg, spec_fGood_eq]
    by_cases hc : -1000000000 ≤ -(n.tdiv (Int.gcd n d)) ∧ -(n.tdiv (Int.gcd n d)) ≤ 1000000000 ∧ -(d.tdiv (Int.gcd n d)) ≤ 1000000000
    · have : Good ⟨-(n.tdiv (Int.gcd n d)), -(d.tdiv (Int.gcd n d))⟩ := ⟨by show 1 ≤ -(d.tdiv (Int.gcd n d)); omega, hc.2.2, hc.1, hc.2.1, by simpa [Int.gcd_neg, Int.neg_gcd] using hgc⟩
      simp [this, hc]
    · have : ¬ Good ⟨-(n.tdiv (Int.gcd n d)), -(d.tdiv (Int.gcd n d))⟩ := fun h => hc ⟨h.2.2.1, h.2.2.2.1, h.2.1⟩
      simp only [this, decide_false, Bool.not_false, cond_true, if_neg hc]
  · have hp := hp.2 (by omega)
    simp only [h0, decide_false, cond_false, Option.bind_some, if_false]
    rw [goQuo_ok (by omega) (by omega) (by omega), goQuo_ok (by omega) (by omega) (by omega)]
    simp only [Option.bind_some, spec_fGood_eq]
    by_cases hc : -1000000000 ≤ (n.tdiv (Int.gcd n d)) ∧ (n.tdiv (Int.gcd n d)) ≤ 1000000000 ∧ (d.tdiv (Int.gcd n d)) ≤ 1000000000
    · have : Good ⟨(n.tdiv (Int.gcd n d)), (d.tdiv (Int.gcd n d))⟩ := ⟨by show 1 ≤ (d.tdiv (Int.gcd n d)); omega, hc.2.2, hc.1, hc.2.1, hgc⟩
      simp [this, hc]
    · have : ¬ Good ⟨(n.tdiv (Int.gcd n d)), (d.tdiv (Int.gcd n d))⟩ := fun h => hc ⟨h.2.2.1, h.2.2.2.1, h.2.1⟩
      simp only [this, decide_false, Bool.not_false, cond_true, if_neg hc]

theorem spec_fMake_zero (n : Int) : spec_fMake n 0 = some (⟨0, 0⟩, false) := by simp [spec_fMake]

/-- a common factor falls out -/

theorem mk_scale {k n d : Int} (hk : 0 < k) (hd : d ≠ 0) : mk (k * n) (k * d) = mk n d := by
  have hg := gcd_pos (n := n) hd
  have e : Int.gcd (k * n) (k * d) = k.natAbs * Int.gcd n d := Int.gcd_mul_left k n d
  have ek : ((Int.gcd (k * n) (k * d) : Nat) : Int) = k * (Int.gcd n d : Int) := by
    have ha : (k.natAbs : Int) = k := by omega
    rw [e, Int.natCast_mul, ha]
  have h1 : (k * n).tdiv (k * (Int.gcd n d : Int)) = n.tdiv (Int.gcd n d) := Int.mul_tdiv_mul_of_pos _ _ hk
  have h2 : (k * d).tdiv (k * (Int.gcd n d : Int)) = d.tdiv (Int.gcd n d) := Int.mul_tdiv_mul_of_pos _ _ hk
  have h3 : k * d < 0 ↔ d < 0 := by
    constructor
    · intro h
      rcases Int.lt_or_le d 0 with h' | h'
      · exact h'
      · have := Int.mul_nonneg (Int.le_of_lt hk) h'; omega
    · intro h; exact Int.mul_neg_of_pos_of_neg hk h
  unfold mk
  simp only [ek, h1, h2, h3]

theorem mk_self {f : impl_Frac} (h : Good f) : mk f.Num f.Den = (f, true) := by
  obtain ⟨h1, h2, h3, h4, h5⟩ := h
  unfold mk
  rw [h5]
  simp [show ¬ f.Den < 0 by omega, h2, h3, h4]

/-! comparing -/

def cmp (a b : impl_Frac) : Int := if a.Num * b.Den < b.Num * a.Den then -1 else if b.Num * a.Den < a.Num * b.Den then 1 else 0

theorem prod_bound {a b : Int} {A B : Nat} (ha : a.natAbs ≤ A) (hb : b.natAbs ≤ B) : (a * b).natAbs ≤ A * B := by
  rw [Int.natAbs_mul]
  exact Nat.mul_le_mul ha hb

theorem good_num {f : impl_Frac} (h : Good f) : f.Num.natAbs ≤ 1000000000 := by obtain ⟨_, _, h3, h4, _⟩ := h; omega

theorem good_den {f : impl_Frac} (h : Good f) : f.Den.natAbs ≤ 1000000000 := by obtain ⟨h1, h2, _⟩ := h; omega

/-! what a law asks -/

end Go.Gx.F
