/- Plain laws: draws of keyed data and of swaps, and the law of keys. -/
import Derived.Test.YtebjhiflnemkhaaGreatKPKy2
namespace Go.Gx.F
open Go.Gx
set_option linter.all false

/-! ## readers of streams come to an end -/
theorem goBits_one (t : Int) : 0 ≤ goBits .and .i64 t 1 ∧ goBits .and .i64 t 1 ≤ 1 := by
  have h : (BitVec.ofInt (IntKind.bits .i64) t &&& BitVec.ofInt (IntKind.bits .i64) 1).toNat ≤ 1 := by
    rw [BitVec.toNat_and]
    have e : (BitVec.ofInt (IntKind.bits .i64) 1).toNat = 1 := by decide
    rw [e, Nat.and_one_is_mod]
    omega
  unfold goBits
  simp only
  generalize (BitVec.ofInt (IntKind.bits .i64) t &&& BitVec.ofInt (IntKind.bits .i64) 1).toNat = n at h
  have : n = 0 ∨ n = 1 := by omega
  rcases this with rfl | rfl <;> decide

theorem tot_rem {a b : Int} (hb : b ≠ 0) {R : Int → Prop} (hR : ∀ x, R x) : Tot (goRem a b) R := by
  unfold goRem
  rw [show (b == 0) = false by simpa using hb, cond_false]
  exact tot_some (hR _)

theorem tot_quo {a b : Int} (hb : b ≠ 0) {R : Int → Prop} (hR : ∀ x, R x) : Tot (goQuo .i64 a b) R := by
  unfold goQuo
  rw [show (b == 0) = false by simpa using hb, cond_false]
  exact tot_some (hR _)

theorem wrap_nonneg (x : Int) : 0 ≤ IntKind.wrap .u64 x := by
  have : 0 ≤ IntKind.wrap .u64 x ∧ True := ⟨by unfold IntKind.wrap; simp [IntKind.signed, IntKind.bits]; omega, trivial⟩
  exact this.1

theorem tot_sh {x y : Int} {R : Int → Prop} (h0 : 0 ≤ y) (hR : ∀ z, R z) : Tot (goShl .i64 x y) R ∧ Tot (goShr .i64 x y) R := by
  unfold goShl goShr
  rw [decide_eq_false (show ¬ y < 0 by omega), cond_false, cond_false]
  exact ⟨tot_some (hR _), tot_some (hR _)⟩

theorem tmod (x m : Int) (hm : m ≠ 0) : Tot (spec_hMod x m) fun _ => True := by
  unfold spec_hMod
  exact tot_bind (tot_rem (R := fun _ => True) hm fun _ => trivial) fun a _ => tot_bind (tot_rem (R := fun _ => True) hm fun _ => trivial) fun b _ => tot_some trivial

theorem thInts {l : List Int} (hl : l.length ≤ 1000) : Tot (spec_hInts l) fun _ => True := by
  unfold spec_hInts
  refine tot_bind (Q := fun _ => True) (tot_loop (fun z => ∃ k : Nat, z.2.2 = (k : Int) ∧ k ≤ l.length + 4) (fun z => l.length + 4 - z.2.2.toNat) ⟨0, rfl, by omega⟩ ?_) fun ⟨a, b⟩ _ => ?_
  · rintro ⟨a, b, _⟩ ⟨k, rfl, hk⟩
    simp only [spec_hInts_l1, goLen]
    rw [wid (by omega) (by omega)]
    refine tot_cond (fun hc => ?_) fun hc => tot_some trivial
    have hkl : (k : Int) < (l.length : Int) + 4 := by simpa using hc
    refine tot_bind (Q := fun _ => True) (tot_cond (fun h => tot_bind (tot_at (Q := fun _ => True) (by omega) (by simpa using h) fun _ _ _ => trivial) fun _ _ => tot_some trivial) fun _ => tot_some trivial) fun x _ => ?_
    refine tot_bind (tmod x _ (by decide)) fun t8 _ => tot_bind (tot_rem (R := fun _ => True) (by decide) fun _ => trivial) fun t9 _ => tot_bind (tmod x _ (by decide)) fun t10 _ => tot_bind (tot_rem (R := fun _ => True) (by decide) fun _ => trivial) fun t11 _ => tot_some ?_
    refine ⟨⟨k + 1, ?_, by omega⟩, ?_⟩
    · simp only; rw [wid (by omega) (by omega)]; omega
    · simp only; rw [wid (by omega) (by omega)]; omega
  · exact tot_bind (tot_sh (R := fun _ => True) (by decide) fun _ => trivial).1 fun _ _ => tot_some trivial

theorem tkBit (seed i : Int) : Tot (spec_kBit seed i) fun b => 0 ≤ b ∧ b ≤ 1 := by
  unfold spec_kBit
  refine tot_bind (tot_quo (R := fun _ => True) (by decide) fun _ => trivial) fun t1 _ => ?_
  refine tot_bind (thInts (by simp)) fun t3 _ => ?_
  refine tot_bind (tot_rem (R := fun _ => True) (by decide) fun _ => trivial) fun t5 _ => ?_
  exact tot_bind (tot_sh (R := fun _ => True) (wrap_nonneg _) fun _ => trivial).2 fun t6 _ => tot_some (goBits_one t6)

theorem tbit (r : spec_kReader) : Tot (spec_kReader_bit r) fun z => 0 ≤ z.1 ∧ z.1 ≤ 1 := by
  unfold spec_kReader_bit
  refine tot_bind (Q := fun _ => True) (tot_cond (fun _ => tot_some trivial) fun _ => tot_some trivial) fun r1 _ => ?_
  refine tot_cond (fun _ => tot_some ⟨by simp, by simp⟩) fun _ => ?_
  exact tot_bind (tkBit _ _) fun b hb => tot_some hb

theorem shl_pow : ∀ j : Fin 12, goShl .i64 1 (IntKind.wrap .u64 ((j.val : Nat) : Int)) = some ((2 ^ j.val : Nat) : Int) := by decide

theorem tbelow_n (r : spec_kReader) {n : Int} (h0 : 1 ≤ n) (hn : n ≤ 1000) : Tot (spec_kReader_below r n) fun z => 0 ≤ z.1 ∧ z.1 < n := by
  unfold spec_kReader_below
  refine tot_bind (Q := fun k => ∃ j : Nat, k = (j : Int) ∧ j ≤ 11) (tot_loop (fun k => ∃ j : Nat, k = (j : Int) ∧ j ≤ 11) (fun k => 20 - k.toNat) ⟨0, rfl, by omega⟩ ?_) fun _ ⟨j, hj, hj2⟩ => ?_
  · rintro k ⟨j, rfl, hj⟩
    simp only [spec_kReader_below_l1]
    rw [shl_pow ⟨j, by omega⟩, Option.bind_some]
    refine tot_cond (fun hc => tot_some ?_) fun _ => tot_some ⟨j, rfl, hj⟩
    have hlt : ((2 ^ j : Nat) : Int) < n := by simpa using hc
    have hj10 : j ≤ 10 := by
      refine Classical.byContradiction fun hcon => ?_
      obtain rfl : j = 11 := by omega
      have : ((2 ^ 11 : Nat) : Int) = 2048 := by decide
      omega
    refine ⟨⟨j + 1, ?_, by omega⟩, ?_⟩
    · rw [wid (by omega) (by omega)]; omega
    · rw [wid (by omega) (by omega)]; omega
  · subst hj
    refine tot_bind (Q := fun o => match o with | .inl _ => True | .inr z => 0 ≤ z.1 ∧ z.1 < n) (tot_loop (fun z => ∃ t : Nat, z.1 = (t : Int) ∧ t ≤ 200) (fun z => 200 - z.1.toNat) ⟨0, rfl, by omega⟩ ?_) fun o ho => ?_
    · rintro ⟨_, r1⟩ ⟨t, rfl, ht⟩
      simp only [spec_kReader_below_l2]
      refine tot_cond (fun hc => ?_) fun _ => tot_some trivial
      have htl : (t : Int) < 200 := by simpa using hc
      refine tot_bind (Q := fun z => 0 ≤ z.1) (tot_loop (fun z => ∃ i : Nat, z.2.1 = (i : Int) ∧ i ≤ j ∧ 0 ≤ z.1 ∧ z.1 < 2 ^ i) (fun z => j - z.2.1.toNat) ⟨0, rfl, by omega, by simp, by simp⟩ ?_) fun ⟨x, r2⟩ hx => ?_
      · rintro ⟨x, _, r2⟩ ⟨i, rfl, hi, hx0, hx1⟩
        simp only [spec_kReader_below_l3]
        simp only at hx0 hx1
        refine tot_cond (fun hc => ?_) fun _ => tot_some hx0
        have hij : (i : Int) < (j : Int) := by simpa using hc
        refine tot_bind (tbit r2) fun ⟨b, r3⟩ ⟨hb0, hb1⟩ => ?_
        simp only at hb0 hb1
        have hpow : (2 : Int) ^ i ≤ 2 ^ 11 := by
          have : 2 ^ i ≤ 2 ^ 11 := Nat.pow_le_pow_right (by omega) (by omega)
          exact_mod_cast this
        have hps : (2 : Int) ^ (i + 1) = 2 * 2 ^ i := by rw [Int.pow_succ]; omega
        have hw1 : w64 (2 * x) = 2 * x := wid (by omega) (by omega)
        have hw2 : w64 (2 * x + b) = 2 * x + b := wid (by omega) (by omega)
        have hw3 : w64 ((i : Int) + 1) = ((i + 1 : Nat) : Int) := by rw [wid (by omega) (by omega)]; omega
        rw [hw1, hw2, hw3]
        exact tot_some ⟨⟨i + 1, rfl, by omega, by simp only; omega, by simp only; omega⟩, by simp only; omega⟩
      · simp only at hx
        refine tot_cond (fun _ => tot_some ⟨by simp, by simp only; omega⟩) fun _ => tot_cond (fun hc => tot_some ⟨hx, by simpa using hc⟩) fun _ => tot_some ⟨⟨t + 1, ?_, by omega⟩, ?_⟩
        · simp only; rw [wid (by omega) (by omega)]; omega
        · simp only; rw [wid (by omega) (by omega)]; omega
    · cases o with
      | inl r1 => exact tot_some ⟨by simp, by simp only; omega⟩
      | inr z => exact tot_some ho

/-- all are numbers below n -/
def Below' (n : Nat) (l : List Int) : Prop := ∀ x ∈ l, 0 ≤ x ∧ x < n

theorem tshuffle (r : spec_kReader) {n : Nat} (hn : n ≤ 900) : Tot (spec_kReader_shuffle r (n : Int)) fun z => z.1.length = n ∧ Below' n z.1 := by
  unfold spec_kReader_shuffle
  have h1 := loop_F (fun k (o : List Int) => (o, k)) n (fun k => (List.range k).map Int.ofNat) (body := spec_kReader_shuffle_l1 (n : Int)) (r := (List.range n).map Int.ofNat) (fun k hk => by
    simp only [spec_kReader_shuffle_l1]
    rw [decide_eq_true (by omega), cond_true, goApp_ok (by simp; omega), Option.bind_some, wid (by omega) (by omega), List.range_succ, List.map_append]
    rfl) (by simp only [spec_kReader_shuffle_l1]; rw [decide_eq_false (by omega), cond_false])
  rw [show loopC (spec_kReader_shuffle_l1 (n : Int)) (([] : List Int), 0) = _ from h1, Option.bind_some]
  refine tot_bind (Q := fun z => z.1.length = n ∧ Below' n z.1) (tot_loop (fun z => (z.1.length = n ∧ Below' n z.1) ∧ -1 ≤ z.2.1 ∧ z.2.1 < n) (fun z => (z.2.1 + 1).toNat) ⟨⟨by simp, fun x hx => ?_⟩, ?_, ?_⟩ ?_) fun z hz => tot_some hz
  · obtain ⟨k, hk, rfl⟩ := List.mem_map.1 hx
    have := List.mem_range.1 hk
    simp only [Int.ofNat_eq_natCast]; omega
  · simp only; rw [wid (by omega) (by omega)]; omega
  · simp only; rw [wid (by omega) (by omega)]; omega
  · rintro ⟨out, k, r1⟩ ⟨⟨hl, hb⟩, hk0, hkn⟩
    simp only at hl hb hk0 hkn
    simp only [spec_kReader_shuffle_l2]
    refine tot_cond (fun hc => ?_) fun _ => tot_some ⟨hl, hb⟩
    have hk1 : 1 ≤ k := by simpa using hc
    rw [wid (by omega) (by omega)]
    refine tot_bind (tbelow_n r1 (n := k + 1) (by omega) (by omega)) fun ⟨x, r2⟩ ⟨hx0, hx1⟩ => ?_
    simp only at hx0 hx1
    refine tot_bind (tot_at (l := out) (Q := fun y : Int => 0 ≤ y ∧ y < n) (by omega) (by omega) fun _ _ he => hb _ he) fun e15 h15 => ?_
    refine tot_bind (tot_at (l := out) (Q := fun y : Int => 0 ≤ y ∧ y < n) (by omega) (by omega) fun _ _ he => hb _ he) fun e17 h17 => ?_
    refine tot_bind (tot_at (l := out) (Q := fun _ => True) (by omega) (by omega) fun _ _ _ => trivial) fun _ _ => ?_
    refine tot_bind (tot_at (l := goSet out k e17) (Q := fun _ => True) (by omega) (by simp [goSet]; omega) fun _ _ _ => trivial) fun _ _ => tot_some ⟨⟨⟨by simp [goSet, hl], fun y hy => ?_⟩, ?_, ?_⟩, ?_⟩
    · rcases List.mem_or_eq_of_mem_set hy with hy | rfl
      · rcases List.mem_or_eq_of_mem_set hy with hy | rfl
        · exact hb y hy
        · exact h17
      · exact h15
    · simp only; rw [wid (by omega) (by omega)]; omega
    · simp only; rw [wid (by omega) (by omega)]; omega
    · simp only; rw [wid (by omega) (by omega)]; omega

section
variable {s : List impl_Variable} {vars : List Int} {l : List impl_Record}

theorem tSwapPlan (ht : TameS s) (hl : TameD l) (hv : vars.length ≤ 1000) (most seed : Int) : Tot (spec_SwapPlan s l vars most seed) fun z => z.2 = true → z.1.length ≤ 60 := by
  obtain ⟨b, _, e2, hb⟩ := keyedIn ht hl hv
  unfold spec_SwapPlan
  rw [e2, Option.bind_some]
  refine tot_bind (Q := fun y => y = false → b = true) (tot_cond (fun _ => tot_some fun h => by cases h) fun hb' => ?_) fun y hy => ?_
  · rw [lIn_eq, Option.bind_some]
    refine tot_cond (fun _ => tot_some fun h => by cases h) fun _ => ?_
    obtain ⟨c, ec, _⟩ := lAll_bis (l := [seed]) (lo := 0) (hi := 4611686016279904236) (by simp)
    unfold spec_hDigest
    rw [ec]
    exact tot_some fun _ => by simpa using hb'
  · refine tot_cond (fun _ => tot_some fun h => by cases h) fun hyf => ?_
    obtain ⟨hS, hD, hV⟩ := hb.1 (hy hyf)
    obtain ⟨out, _, f2, h1, h2⟩ := cand_two hS hD hV hv
    rw [f2, Option.bind_some]
    refine tot_cond (fun _ => tot_some fun h => by cases h) fun h60 => ?_
    have ho : out.length ≤ 60 := by
      have : ¬ (60 < goLen out) := by simpa using h60
      simp only [goLen] at this; omega
    simp only [goLen]
    refine tot_bind (tshuffle _ (by omega)) fun ⟨order, r1⟩ ⟨hol, hob⟩ => ?_
    simp only at hol hob
    refine tot_cond (fun _ => tot_some fun h => by cases h) fun _ => ?_
    rw [goMake_ok (by omega) (by omega), Option.bind_some]
    refine tot_bind (Q := fun c => c.length = out.length) (tot_loop (fun z => ∃ k : Nat, z.2.2.2 = (k : Int) ∧ k ≤ order.length ∧ z.1.length ≤ 2 * k ∧ z.2.1.length = out.length) (fun z => order.length - z.2.2.2.toNat) ⟨0, rfl, by omega, by simp, by simp⟩ ?_) fun chosen hch => ?_
    · rintro ⟨used, chosen, n, _⟩ ⟨k, rfl, hk, hu, hc⟩
      simp only at hu hc
      simp only [spec_SwapPlan_l1]
      refine tot_cond (fun hkc => ?_) fun _ => tot_some hc
      have hkl : k < order.length := by have : (k : Int) < (order.length : Int) := by simpa [goLen] using hkc
                                        omega
      refine tot_bind (tot_at (l := order) (Q := fun y : Int => 0 ≤ y ∧ y < out.length) (by omega) (by omega) fun _ _ he => hob _ he) fun e25 h25 => ?_
      refine tot_bind (tot_at (l := out) (Q := fun p => ∃ a b : Nat, p = [(a : Int), (b : Int)]) h25.1 h25.2 fun _ _ he => by obtain ⟨a, b, rfl, _⟩ := h2 _ he; exact ⟨a, b, rfl⟩) fun e27 h27 => ?_
      obtain ⟨a, b', rfl⟩ := h27
      have g0 : goAt [(a : Int), (b' : Int)] 0 = some (a : Int) := rfl
      have g1 : goAt [(a : Int), (b' : Int)] 1 = some (b' : Int) := rfl
      rw [g0, g1]
      obtain ⟨x1, ex1, _⟩ := l1Has_bis (l := used) (x := (a : Int)) (by omega)
      obtain ⟨x2, ex2, _⟩ := l1Has_bis (l := used) (x := (b' : Int)) (by omega)
      simp only [Option.bind_some]
      rw [ex1, ex2]
      simp only [Option.bind_some]
      have hw : w64 ((k : Int) + 1) = ((k + 1 : Nat) : Int) := by rw [wid (by omega) (by omega)]; omega
      refine tot_bind (Q := fun _ => True) (tot_cond (fun _ => tot_cond (fun _ => tot_some trivial) fun _ => tot_some trivial) fun _ => tot_some trivial) fun t38 _ => ?_
      refine tot_bind (Q := fun z => z.1.length ≤ 2 * (k + 1) ∧ z.2.1.length = out.length) (tot_cond (fun _ => ?_) fun _ => tot_some ⟨by simp only; omega, hc⟩) fun ⟨u2, c2, n2⟩ ⟨h3, h4⟩ => ?_
      · rw [goApp_ok (by simp; omega), Option.bind_some]
        refine tot_bind (tot_at (Q := fun _ => True) h25.1 (by rw [hc]; exact h25.2) fun _ _ _ => trivial) fun _ _ => tot_some ⟨by simp; omega, by simp [goSet, hc]⟩
      · simp only at h3 h4 ⊢
        rw [hw]
        exact tot_some ⟨⟨k + 1, rfl, by omega, h3, h4⟩, by simp only; omega⟩
    · refine tot_bind (Q := fun y => y.length ≤ 60) (tot_loop (fun z => ∃ k : Nat, z.2 = (k : Int) ∧ k ≤ out.length ∧ z.1.length ≤ k) (fun z => out.length - z.2.toNat) ⟨0, rfl, by omega, by simp⟩ ?_) fun y hy' => tot_some fun _ => hy'
      rintro ⟨o, _⟩ ⟨k, rfl, hk, ho2⟩
      simp only at ho2
      simp only [spec_SwapPlan_l2]
      refine tot_cond (fun hkc => ?_) fun _ => tot_some (by simp only; omega)
      have hkl : k < out.length := by have : (k : Int) < (out.length : Int) := by simpa [goLen] using hkc
                                      omega
      have hw : w64 ((k : Int) + 1) = ((k + 1 : Nat) : Int) := by rw [wid (by omega) (by omega)]; omega
      refine tot_bind (tot_at (l := out) (Q := fun _ => True) (by omega) (by omega) fun _ _ _ => trivial) fun e54 _ => ?_
      refine tot_bind (tot_at (l := chosen) (Q := fun _ => True) (by omega) (by rw [hch]; omega) fun _ _ _ => trivial) fun e57 _ => ?_
      refine tot_bind (Q := fun z => z.length ≤ k + 1) (tot_cond (fun _ => ?_) fun _ => tot_some (by omega)) fun o2 h3 => ?_
      · rw [goApp_ok (by simp; omega), Option.bind_some]
        exact tot_some (by simp; omega)
      · rw [hw]
        exact tot_some ⟨⟨k + 1, rfl, by omega, h3⟩, by simp only; omega⟩

theorem tswPairs {pairs : List (List Int)} {n : Nat} (hp : pairs.length ≤ 1000) (hn : n ≤ 1000) : Tot (spec_swPairs pairs (n : Int)) fun b => b = true → ∀ p ∈ pairs, ∃ x y : Int, p = [x, y] ∧ 0 ≤ x ∧ x < n ∧ 0 ≤ y ∧ y < n := by
  unfold spec_swPairs
  refine tot_bind (Q := fun o => match o with | .inl _ => ∀ p ∈ pairs, ∃ x y : Int, p = [x, y] ∧ 0 ≤ x ∧ x < n ∧ 0 ≤ y ∧ y < n | .inr b => b = false) (tot_loop (fun t => ∃ k : Nat, t = (k : Int) ∧ k ≤ pairs.length ∧ ∀ i p, i < k → pairs[i]? = some p → ∃ x y : Int, p = [x, y] ∧ 0 ≤ x ∧ x < n ∧ 0 ≤ y ∧ y < n) (fun t => pairs.length - t.toNat) ⟨0, rfl, by omega, fun i p hi => by omega⟩ ?_) fun o ho => ?_
  · rintro t ⟨k, rfl, hk, hall⟩
    simp only [spec_swPairs_l1]
    by_cases hkl : k < pairs.length
    · obtain ⟨p, hp'⟩ := get_of hkl
      simp only [lt_ok hp', at_ok hp', cond_true, Option.bind_some, nx_ok hp' (show pairs.length ≤ 9223372036854775807 by omega)]
      refine tot_bind (Q := fun b => b = false → ∃ x y : Int, p = [x, y] ∧ 0 ≤ x ∧ x < n ∧ 0 ≤ y ∧ y < n) (tot_cond (fun _ => tot_some fun h => by cases h) fun hlen => ?_) fun b hb => ?_
      · have hl2 : p.length = 2 := by
          have : goLen p = 2 := by simpa using hlen
          simp only [goLen] at this; omega
        obtain ⟨x, y, rfl⟩ : ∃ x y, p = [x, y] := by
          match p, hl2 with
          | [x, y], _ => exact ⟨x, y, rfl⟩
        have g0 : goAt [x, y] 0 = some x := rfl
        have g1 : goAt [x, y] 1 = some y := rfl
        rw [g0, g1]
        simp only [Option.bind_some]
        rw [lIn_eq, wid (by omega) (by omega), Option.bind_some]
        refine tot_cond (fun _ => tot_some fun h => by cases h) fun h1 => ?_
        have h1' : 0 ≤ x ∧ x ≤ (n : Int) - 1 := by simpa using h1
        rw [lIn_eq, wid (n := x + 1) (by omega) (by omega), Option.bind_some]
        refine tot_some fun h2 => ?_
        have h2' : x + 1 ≤ y ∧ y ≤ (n : Int) - 1 := by simpa using h2
        exact ⟨x, y, rfl, by omega, by omega, by omega, by omega⟩
      · refine tot_cond (fun _ => tot_some rfl) fun hbf => tot_some ⟨⟨k + 1, rfl, by omega, fun i q hi hq => ?_⟩, by omega⟩
        by_cases hik : i = k
        · subst hik
          rw [hp'] at hq
          obtain rfl := Option.some.inj hq
          exact hb hbf
        · exact hall i q (by omega) hq
    · obtain rfl : k = pairs.length := by omega
      rw [lt_end, cond_false]
      refine tot_some fun p hp' => ?_
      obtain ⟨i, hi⟩ := List.getElem?_of_mem hp'
      exact hall i p (List.getElem?_eq_some_iff.1 hi).1 hi
  · cases o with
    | inl _ => exact tot_some fun _ => ho
    | inr b => exact tot_some fun h => by rw [ho] at h; cases h

theorem tApply (ht : TameS s) (hl : TameD l) {pairs : List (List Int)} (hp : pairs.length ≤ 1000) (hll : l.length ≤ 900) : Tot (spec_ApplySwaps s l pairs) fun z => z.1.length ≤ 900 ∧ ∀ x ∈ z.1, x.Values.length ≤ 1000 := by
  obtain ⟨b, c, _, _, hb, _, hc, e4⟩ := inputs ht hl
  unfold spec_ApplySwaps
  rw [e4, Option.bind_some]
  refine tot_bind (Q := fun y => y = false → (b && c) = true ∧ ∀ p ∈ pairs, ∃ x y : Int, p = [x, y] ∧ 0 ≤ x ∧ x < l.length ∧ 0 ≤ y ∧ y < l.length) (tot_cond (fun _ => tot_some fun h => by cases h) fun h => ?_) fun y hy => ?_
  · exact tot_bind (tswPairs hp (by omega)) fun d hd => tot_some fun h2 => ⟨by simpa using h, hd (by simpa using h2)⟩
  · refine tot_cond (fun _ => tot_some ⟨by simp, fun x hx => by cases hx⟩) fun hyf => ?_
    obtain ⟨hbc, hpp⟩ := hy hyf
    rw [Bool.and_eq_true] at hbc
    have hD := hc.1 hbc.2
    have hS := hb.1 hbc.1
    have hvl : ∀ x ∈ l, x.Values.length ≤ 1000 := fun x hx => by
      have := (hD.2 x hx).2.2.1
      have := hS.2.1
      omega
    unfold spec_swApply spec_swOwn
    have hown := loop_F (fun k (o : List impl_Record) => (o, k)) l.length (fun k => l.take k) (body := spec_swOwn_l1 l) (r := l) (fun k hk => by
      obtain ⟨r, hr⟩ := get_of hk
      simp only [spec_swOwn_l1, lt_ok hr, at_ok hr, cond_true, Option.bind_some, rOwn_eq2 (hvl r (List.mem_of_getElem? hr)), nx_ok hr (show l.length ≤ 9223372036854775807 by omega)]
      rw [goApp_ok (by simp; omega), Option.bind_some]
      have : l.take (k + 1) = l.take k ++ [r] := by rw [List.take_add_one, hr]; rfl
      rw [this]) (by simp only [spec_swOwn_l1, lt_end, cond_false, List.take_length])
    simp only [List.take_zero] at hown
    rw [show loopC (spec_swOwn_l1 l) (([] : List impl_Record), 0) = _ from hown, Option.bind_some, Option.bind_some]
    refine tot_bind (Q := fun z => z.length ≤ 900 ∧ ∀ x ∈ z, x.Values.length ≤ 1000) (tot_bind (Q := fun z => z.length ≤ 900 ∧ ∀ x ∈ z, x.Values.length ≤ 1000) (tot_loop (fun z => ∃ k : Nat, z.2 = (k : Int) ∧ k ≤ pairs.length ∧ z.1.length = l.length ∧ ∀ x ∈ z.1, x.Values.length ≤ 1000) (fun z => pairs.length - z.2.toNat) ⟨0, rfl, by omega, rfl, hvl⟩ ?_) fun z hz => tot_some hz) fun z hz => tot_some hz
    rintro ⟨o, _⟩ ⟨k, rfl, hk, hol, hov⟩
    simp only at hol hov
    simp only [spec_swApply_l1]
    by_cases hkl : k < pairs.length
    · obtain ⟨p, hp'⟩ := get_of hkl
      obtain ⟨x, y, rfl, hx0, hx1, hy0, hy1⟩ := hpp p (List.mem_of_getElem? hp')
      simp only [lt_ok hp', at_ok hp', cond_true, Option.bind_some, nx_ok hp' (show pairs.length ≤ 9223372036854775807 by omega)]
      have g0 : goAt [x, y] 0 = some x := rfl
      have g1 : goAt [x, y] 1 = some y := rfl
      rw [g0, g1]
      simp only [Option.bind_some]
      refine tot_bind (Q := fun z => z.1.Values.length ≤ 1000 ∧ z.2.Values.length ≤ 1000) (tot_bind (tot_at (Q := fun r => r.Values.length ≤ 1000) hx0 (by omega) fun _ _ he => hov _ he) fun r1 h1 => tot_bind (tot_at (Q := fun r => r.Values.length ≤ 1000) hy0 (by omega) fun _ _ he => hov _ he) fun r2 h2 => tot_some ⟨h2, h1⟩) fun ⟨r1, r2⟩ ⟨h1, h2⟩ => ?_
      simp only at h1 h2 ⊢
      refine tot_bind (tot_at (Q := fun _ => True) hx0 (by omega) fun _ _ _ => trivial) fun _ _ => ?_
      refine tot_bind (tot_at (Q := fun _ => True) hy0 (by simp [goSet]; omega) fun _ _ _ => trivial) fun _ _ => tot_some ⟨⟨k + 1, rfl, by omega, by simp [goSet, hol], fun r hr => ?_⟩, by simp only; omega⟩
      rcases List.mem_or_eq_of_mem_set hr with hr | rfl
      · rcases List.mem_or_eq_of_mem_set hr with hr | rfl
        · exact hov r hr
        · exact h2
      · exact h1
    · obtain rfl : k = pairs.length := by omega
      rw [lt_end, cond_false]
      exact tot_some ⟨by omega, hov⟩

/-! ## draws -/
theorem tfixed {B : Nat} {c : spec_l1Cur} (h : Cur B c) (hs : s.length ≤ 100) (hB : B ≤ 100000 := by omega) : Tot (spec_l1Cur_fixed c s) fun r => r.1.length ≤ 200 ∧ Cur (B + 300) r.2 := by
  unfold spec_l1Cur_fixed
  refine tot_bind (Q := fun r => r.1.length ≤ 100 ∧ Cur (B + 200) r.2) (tot_loop (fun z => ∃ k : Nat, z.2.1 = (k : Int) ∧ k ≤ s.length ∧ z.1.length ≤ k ∧ Cur (B + 2 * k) z.2.2) (fun z => s.length - z.2.1.toNat) ⟨0, rfl, by omega, by simp, h.le (by omega)⟩ ?_) fun ⟨out, c1⟩ ⟨h1, k1⟩ => ?_
  · rintro ⟨out, _, c1⟩ ⟨k, rfl, hk, ho, k1⟩
    simp only at ho k1
    simp only [spec_l1Cur_fixed_l1]
    refine tot_cond (fun hc => ?_) fun _ => tot_some ⟨by simp only; omega, k1.le (by omega)⟩
    have hkl : k < s.length := by have : (k : Int) < (s.length : Int) := by simpa [goLen] using hc
                                  omega
    refine tot_bind (tone k1) fun ⟨y, c2⟩ k2 => ?_
    simp only at k2
    have hw : w64 ((k : Int) + 1) = ((k + 1 : Nat) : Int) := by rw [wid (by omega) (by omega)]; omega
    rw [hw]
    refine tot_bind (Q := fun o => o.length ≤ k + 1) (tot_cond (fun _ => ?_) fun _ => tot_some (by omega)) fun o h3 => tot_some ⟨⟨k + 1, rfl, by omega, h3, k2.le (by omega)⟩, by simp only; omega⟩
    rw [goApp_ok (by simp; omega), Option.bind_some]
    exact tot_some (by simp; omega)
  · simp only at h1 k1 ⊢
    refine tot_bind (tone k1) fun ⟨y, c2⟩ k2 => ?_
    simp only at k2
    refine tot_bind (Q := fun o => o.length ≤ 200) (tot_cond (fun _ => ?_) fun _ => tot_some (by omega)) fun o h3 => tot_some ⟨h3, k2.le (by omega)⟩
    rw [goApp_ok (by simp; omega), Option.bind_some]
    exact tot_some (by simp; omega)

/-- what is drawn is tame -/
def TDr (l : List impl_Record) : Prop := l.length ≤ 900 ∧ ∀ x ∈ l, x.Values.length ≤ 1000

theorem TDr.tame {l : List impl_Record} (h : TDr l) : TameD l := ⟨by have := h.1; omega, fun r hr => by have := h.2 r hr; show r.Values.length ≤ 1000000; omega⟩

theorem tkeyed {B : Nat} {c : spec_l1Cur} (h : Cur B c) (hB : B ≤ 10000 := by omega) : Tot (spec_l1Cur_keyed c) fun r => SmallS 8 r.1 ∧ TDr r.2.1 ∧ r.2.2.1.length ≤ 200 ∧ Cur (B + 3000) r.2.2.2 := by
  unfold spec_l1Cur_keyed
  refine tot_bind (tanySchema h) fun ⟨s, c1⟩ ⟨hs, k1⟩ => ?_
  simp only at hs k1
  refine tot_bind (tanyData2 k1 hs) fun ⟨l, c2⟩ ⟨h1, h2, k2⟩ => ?_
  simp only at h1 h2 k2
  have hsl := hs.l
  refine tot_bind (tfixed (s := s) k2 (by omega)) fun ⟨v, c3⟩ ⟨h3, k3⟩ => tot_some ⟨hs, ⟨by simp only; omega, fun x hx => by have := h2 x hx; omega⟩, h3, k3.le (by omega)⟩

theorem tDrawKeyGroups {code : List (K .u8)} (ho : ∀ x ∈ code, Rng.ok x) : Tot (spec_DrawKeyGroups code) fun r => SmallS 8 r.1 ∧ TDr r.2.1 ∧ r.2.2.length ≤ 200 := by
  unfold spec_DrawKeyGroups
  exact tot_bind (tkeyed (cur0 ho)) fun ⟨s, l, v, c⟩ ⟨h1, h2, h3, _⟩ => tot_some ⟨h1, h2, h3⟩

theorem tanySeed {B : Nat} {c : spec_l1Cur} (h : Cur B c) (hB : B ≤ 100000 := by omega) : Tot (spec_l1Cur_anySeed c) fun _ => True := by
  unfold spec_l1Cur_anySeed
  refine tot_bind (tone h) fun ⟨y, c1⟩ k1 => ?_
  simp only at k1
  refine tot_cond (fun _ => tot_bind (tamong k1) fun _ _ => tot_some trivial) fun _ => tot_bind (Q := fun _ => True) ?_ fun _ _ => tot_some trivial
  unfold spec_l1Cur_seed0
  refine tot_bind (tpick k1) fun ⟨z, c2⟩ ⟨_, _, _, k2⟩ => ?_
  simp only at k2
  refine tot_cond (fun _ => tot_some trivial) fun _ => tot_cond (fun _ => tot_bind (tamong k2) fun _ _ => tot_some trivial) fun _ => tot_bind (tpick k2) fun _ _ => tot_some trivial

theorem tDrawSwapPlan {code : List (K .u8)} (ho : ∀ x ∈ code, Rng.ok x) : Tot (spec_DrawSwapPlan code) fun r => SmallS 8 r.1 ∧ TDr r.2.1 ∧ r.2.2.1.length ≤ 200 := by
  unfold spec_DrawSwapPlan
  refine tot_bind (tkeyed (cur0 ho)) fun ⟨s, l, v, c⟩ ⟨h1, h2, h3, k⟩ => ?_
  simp only at h1 h2 h3 k
  refine tot_bind (tamong k) fun ⟨m, c2⟩ hm => ?_
  have k2 : Cur 4000 c2 := by
    obtain ⟨_, k2⟩ := hm
    exact k2.le (by omega)
  exact tot_bind (tanySeed k2) fun _ _ => tot_some ⟨h1, h2, h3⟩

theorem tswaps {B : Nat} {c : spec_l1Cur} {n : Nat} (h : Cur B c) (hn : n ≤ 1000) (hB : B ≤ 1000 := by omega) : Tot (spec_l1Cur_swaps c (n : Int)) fun r => r.1.length ≤ 200 := by
  unfold spec_l1Cur_swaps
  refine tot_bind (tpick h) fun ⟨k, c1⟩ ⟨k0, k1, _, hc1⟩ => ?_
  have hk := k1 (by omega)
  simp only at k0 hk hc1
  obtain ⟨m, rfl⟩ := Int.eq_ofNat_of_zero_le k0
  refine tot_bind (Q := fun r => r.1.length ≤ 10 ∧ Cur (B + 50) r.2) (tot_loop (fun z => ∃ j : Nat, z.2.1 = (j : Int) ∧ j ≤ 4 ∧ z.1.length ≤ 4 - j ∧ Cur (B + 2 + 6 * (4 - j)) z.2.2) (fun z => z.2.1.toNat) ⟨m, rfl, by omega, by simp, hc1.le (by omega)⟩ ?_) fun ⟨out, c2⟩ ⟨h2, k2⟩ => ?_
  · rintro ⟨out, _, c2⟩ ⟨j, rfl, hj, ho, k2⟩
    simp only at ho k2
    simp only [spec_l1Cur_swaps_l1]
    refine tot_bind (Q := fun t => t = true → 0 < j ∧ 1 < n) (tot_cond (fun h1 => tot_some fun h2 => ⟨by simpa using h1, (by have h3 := of_decide_eq_true h2; omega)⟩) fun _ => tot_some fun h => by cases h) fun t ht => ?_
    refine tot_cond (fun htt => ?_) fun _ => tot_some ⟨by simp only; omega, k2.le (by omega)⟩
    obtain ⟨hj0, hn1⟩ := ht htt
    rw [wid (by omega) (by omega)]
    refine tot_bind (tpick k2) fun ⟨x, c3⟩ ⟨x0, x1, _, k3⟩ => ?_
    have hx := x1 (by omega)
    simp only at x0 hx k3
    rw [wid (n := (n : Int) - 1 - x) (by omega) (by omega)]
    refine tot_bind (tpick k3) fun ⟨y, c4⟩ ⟨y0, y1, _, k4⟩ => ?_
    simp only at k4
    rw [goApp_ok (by simp; omega), Option.bind_some]
    have hw : w64 ((j : Int) - 1) = ((j - 1 : Nat) : Int) := by rw [wid (by omega) (by omega)]; omega
    rw [hw]
    exact tot_some ⟨⟨j - 1, rfl, by omega, by simp; omega, k4.le (by omega)⟩, by simp only; omega⟩
  · simp only at h2 k2 ⊢
    refine tot_bind (tpick k2) fun ⟨x, c3⟩ ⟨_, _, _, k3⟩ => ?_
    simp only at k3
    have ret : ∀ {x : Option (List (List Int) × spec_l1Cur)}, Tot x (fun r => r.1.length ≤ 200) → Tot (x.bind fun (p, t) => some (p, t)) (fun r => r.1.length ≤ 200) := fun hx => tot_bind hx fun z hz => tot_some hz
    refine ret (tot_cond (fun _ => ?_) fun _ => ret (tot_cond (fun _ => ?_) fun _ => ret (tot_cond (fun _ => ret ?_) fun _ => tot_some (by simp only; omega))))
    · rw [goApp_ok (by simp; omega), Option.bind_some]
      exact tot_some (by simp; omega)
    · rw [goApp_ok (by simp; omega), Option.bind_some]
      exact tot_some (by simp; omega)
    · refine tot_loop (fun z => z.1.length ≤ 30 ∧ out.length ≤ z.1.length ∧ Cur (B + 52 + 2 * (z.1.length - out.length)) z.2) (fun z => 40 - z.1.length) ⟨by simp only; omega, Nat.le_refl _, k3.le (by simp only; omega)⟩ ?_
      rintro ⟨o, c4⟩ ⟨ho, hoo, k4⟩
      simp only at ho hoo k4
      simp only [spec_l1Cur_swaps_l2]
      refine tot_bind (Q := fun r => (r.1 = true → o.length ≤ 21) ∧ Cur (B + 54 + 2 * (o.length - out.length)) r.2) (tot_bind (tpick k4) fun ⟨y, c5⟩ ⟨y0, y1, _, k5⟩ => ?_) fun ⟨t, c5⟩ ⟨h5, k5⟩ => ?_
      · have hy := y1 (by omega)
        simp only at y0 hy k5
        simp only [goLen]
        rw [wid (by omega) (by omega)]
        refine tot_cond (fun hc => tot_some ⟨fun _ => ?_, k5.le (by omega)⟩) fun _ => tot_some ⟨fun h => by simp at h, k5.le (by omega)⟩
        have : (o.length : Int) < 20 + y := by simpa using hc
        omega
      · simp only at h5 k5 ⊢
        refine tot_cond (fun ht => ?_) fun _ => tot_some (by simp only; omega)
        have := h5 ht
        rw [goApp_ok (by simp; omega), Option.bind_some]
        exact tot_some ⟨⟨by simp; omega, by simp; omega, k5.le (by simp; omega)⟩, by simp; omega⟩

theorem tDrawMovedRecords {code : List (K .u8)} (ho : ∀ x ∈ code, Rng.ok x) : Tot (spec_DrawMovedRecords code) fun r => SmallS 8 r.1 ∧ TDr r.2.1 ∧ TDr r.2.2 := by
  unfold spec_DrawMovedRecords
  have hA : Tot (spec_DrawApplySwaps code) fun r => SmallS 8 r.1 ∧ TDr r.2.1 ∧ r.2.2.length ≤ 200 := by
    unfold spec_DrawApplySwaps
    refine tot_bind (Q := fun r => SmallS 8 r.1 ∧ TDr r.2.1 ∧ r.2.2.2.length ≤ 200) ?_ fun ⟨s, l, v, p⟩ h => tot_some h
    unfold spec_DrawIsSwapPlan
    refine tot_bind (tDrawSwapPlan ho) fun ⟨s, l, v, m, seed⟩ ⟨h1, h2, h3⟩ => ?_
    simp only at h1 h2 h3 ⊢
    have hll := h2.1
    refine tot_bind (tSwapPlan h1.tame h2.tame (by omega) m seed) fun ⟨y, ok⟩ hy => ?_
    simp only at hy
    refine tot_bind (Q := fun r => (r.1 = true → ok = true) ∧ Cur 2 r.2) (tot_cond (fun hok => tot_bind (tone (cur0 ho)) fun ⟨z, c4⟩ k4 => tot_some ⟨fun _ => hok, k4⟩) fun _ => tot_some ⟨fun h => by simp at h, (cur0 ho).le (by omega)⟩) fun ⟨t, c5⟩ ⟨h5, k5⟩ => ?_
    simp only at h5 k5 ⊢
    refine tot_cond (fun ht => tot_some ⟨h1, h2, by have := hy (h5 ht); simp only; omega⟩) fun _ => ?_
    simp only [goLen]
    exact tot_bind (tswaps k5 (by omega)) fun ⟨p, c6⟩ h6 => tot_some ⟨h1, h2, h6⟩
  refine tot_bind hA fun ⟨s, l, p⟩ ⟨h1, h2, h3⟩ => ?_
  simp only at h1 h2 h3 ⊢
  have hll := h2.1
  refine tot_bind (tApply h1.tame h2.tame (by omega) hll) fun ⟨y, ok⟩ hy => ?_
  simp only at hy
  refine tot_bind (Q := fun r => Cur 2 r.2) (tot_cond (fun hok => tot_bind (tone (cur0 ho)) fun ⟨z, c4⟩ k4 => tot_some k4) fun _ => tot_some ((cur0 ho).le (by omega))) fun ⟨t, c5⟩ k5 => ?_
  simp only at k5 ⊢
  refine tot_cond (fun _ => tot_some ⟨h1, h2, hy⟩) fun _ => ?_
  exact tot_bind (tanyData2 k5 h1) fun ⟨l2, c6⟩ ⟨a1, a2, _⟩ => tot_some ⟨h1, h2, by simp only at a1 ⊢; omega, fun x hx => by have := a2 x hx; omega⟩

theorem tDrawKeepsCounts {code : List (K .u8)} (ho : ∀ x ∈ code, Rng.ok x) : Tot (spec_DrawKeepsCounts code) fun r => SmallS 8 r.1 ∧ TDr r.2.1 ∧ TDr r.2.2.1 ∧ r.2.2.2.length ≤ 200 := by
  unfold spec_DrawKeepsCounts
  refine tot_bind (tDrawMovedRecords ho) fun ⟨s, l, b⟩ ⟨h1, h2, h3⟩ => ?_
  simp only at h1 h2 h3 ⊢
  have hsl := h1.l
  exact tot_bind (tfixed (cur0 ho) (by omega)) fun ⟨v, c⟩ ⟨h4, _⟩ => tot_some ⟨h1, h2, h3, h4⟩
end

/-! ## the law -/
theorem sameInts_same3 {l : List Int} (h : l.length ≤ 1000000) : laws_sameInts l l = some true := by
  unfold laws_sameInts
  rw [bne_self_eq_false, cond_false]
  have hl := loop_F (fun k (_ : Unit) => k) l.length (fun _ => ()) (body := laws_sameInts_l1 l l) (r := (.inl () : Unit ⊕ Bool)) (fun k hk => by
    obtain ⟨x, hx⟩ := get_of hk
    simp only [laws_sameInts_l1, lt_ok hx, at_ok hx, cond_true, Option.bind_some, bne_self_eq_false, cond_false, nx_ok hx (show l.length ≤ 9223372036854775807 by omega)]) (by simp only [laws_sameInts_l1, lt_end, cond_false])
  rw [show loopC (laws_sameInts_l1 l l) 0 = _ from hl]
  rfl

theorem sameLists_same3 {y : List (List Int)} (h : y.length ≤ 1000000) (h2 : ∀ t ∈ y, t.length ≤ 1000000) : laws_sameLists y y = some true := by
  unfold laws_sameLists
  rw [bne_self_eq_false, cond_false]
  have hl := loop_F (fun k (_ : Unit) => k) y.length (fun _ => ()) (body := laws_sameLists_l1 y y) (r := (.inl () : Unit ⊕ Bool)) (fun k hk => by
    obtain ⟨x, hx⟩ := get_of hk
    simp only [laws_sameLists_l1, lt_ok hx, at_ok hx, cond_true, Option.bind_some, nx_ok hx (show y.length ≤ 9223372036854775807 by omega)]
    rw [sameInts_same3 (h2 x (List.mem_of_getElem? hx))]
    rfl) (by simp only [laws_sameLists_l1, lt_end, cond_false])
  rw [show loopC (laws_sameLists_l1 y y) 0 = _ from hl]
  rfl

theorem laws_FnKeys_true (a b : List (K .u8)) (o1 : Rng.ok a) (o2 : Rng.ok b) : laws_FnKeys a b = some true := by
  refine tot_eq ?_
  unfold laws_FnKeys
  have hbig : ∃ z : Bool, laws_big a b = some z := by
    unfold laws_big
    by_cases h : 1048576 < goLen a
    · exact ⟨true, by rw [decide_eq_true h]; rfl⟩
    · exact ⟨_, by rw [decide_eq_false h]; rfl⟩
  obtain ⟨z, ez⟩ := hbig
  rw [ez, Option.bind_some]
  refine tot_cond (fun _ => tot_some rfl) fun _ => ?_
  refine tot_bind (tDrawKeyGroups o1.2) fun ⟨s, l, v⟩ ⟨hs, hl, hv⟩ => ?_
  simp only at hs hl hv ⊢
  have hll := hl.1
  have htail : ∀ {R : Bool → Prop}, R true → Tot ((spec_DrawSwapCandidates b).bind fun t_43 => ((impl_SwapCandidates t_43.1 t_43.2.1 t_43.2.2).bind fun t_50 => ((spec_SwapCandidates t_43.1 t_43.2.1 t_43.2.2).bind fun t_53 => (((cond (t_50.2 != t_53.2) (some true) ((laws_sameLists t_50.1 t_53.1).bind fun t_56 => some (!t_56))) : Option (Bool)).bind fun t_58 => (cond t_58 (some false) ((spec_DrawKeepsCounts b).bind fun t_59 => ((impl_KeepsCounts t_59.1 t_59.2.1 t_59.2.2.1 t_59.2.2.2).bind fun t_65 => ((spec_KeepsCounts t_59.1 t_59.2.1 t_59.2.2.1 t_59.2.2.2).bind fun t_67 => (((cond (t_65.2 == t_67.2) (some (t_65.1 == t_67.1)) (some false)) : Option (Bool)).bind fun t_69 => some t_69))))))))) R := by
    intro R hR
    have hDS : Tot (spec_DrawSwapCandidates b) fun r => SmallS 8 r.1 ∧ TDr r.2.1 ∧ r.2.2.length ≤ 200 := by
      unfold spec_DrawSwapCandidates
      exact tot_bind (tDrawKeyGroups o2.2) fun ⟨s, l, v⟩ h => tot_some h
    refine tot_bind hDS fun ⟨s2, l2, v2⟩ ⟨hs2, hl2, hv2⟩ => ?_
    simp only at hs2 hl2 hv2 ⊢
    obtain ⟨y, c, e1, e2, hy1, hy2⟩ := Candidates_same hs2.tame hl2.tame (vars := v2) (by omega)
    rw [e1, e2, Option.bind_some, Option.bind_some]
    simp only [bne_self_eq_false, cond_false]
    rw [sameLists_same3 (by omega) (fun p hp => by have := hy2 p hp; omega)]
    simp only [Option.bind_some, Bool.not_true, cond_false]
    refine tot_bind (tDrawKeepsCounts o2.2) fun ⟨s3, l3, b3, v3⟩ ⟨hs3, hl3, hb3, hv3⟩ => ?_
    simp only at hs3 hl3 hb3 hv3 ⊢
    obtain ⟨y3, e3, e4⟩ := Keeps_same hs3.tame hl3.tame hb3.tame (vars := v3) (by omega)
    rw [e3, e4, Option.bind_some, Option.bind_some]
    simp only [beq_self_eq_true, cond_true, Option.bind_some]
    exact tot_some hR
  rcases KeyGroups_same hs.tame hl.tame (vars := v) (by omega) with ⟨e1, e2⟩ | ⟨ks, hS, hD, hV, e1, e2, h1, h2, h3⟩
  · rw [e1, e2, Option.bind_some, Option.bind_some]
    simp only [bne_self_eq_false, cond_false]
    rw [sameLists_same3 (by simp) (by simp)]
    simp only [Option.bind_some, Bool.not_true, cond_false]
    have h0 : loopC (laws_FnKeys_l1 (s, l, v) (([] : List (List Int)), false)) (0, 0) = some (.inl 0) := by
      rw [loopC_eq]
      simp only [laws_FnKeys_l1]
      rfl
    rw [h0, Option.bind_some]
    simp only [Option.bind_some, cond_false]
    exact htail rfl
  · rw [e1, e2, Option.bind_some, Option.bind_some]
    simp only [bne_self_eq_false, cond_false]
    rw [sameLists_same3 (by simp [grps]; omega) (fun x hx => by
      unfold grps at hx
      obtain ⟨k, _, rfl⟩ := List.mem_map.1 hx
      have := idx_len (K := kK s v l) (t := l.length) (k := k)
      omega)]
    simp only [Option.bind_some, Bool.not_true, cond_false]
    rw [law_groups hS hs.tame hD hl.tame hV (by omega) h1 h2 h3, Option.bind_some]
    simp only [cond_true, goLen, bne_self_eq_false, Option.bind_some, cond_false]
    exact htail rfl

end Go.Gx.F
