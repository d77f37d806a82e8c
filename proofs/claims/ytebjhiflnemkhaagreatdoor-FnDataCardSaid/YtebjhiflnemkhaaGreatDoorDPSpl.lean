/- Plain laws: texts split by the reference; numbers read by it; names found. -/
import Derived.Test.YtebjhiflnemkhaaGreatDoorDPSet
import Derived.Test.YtebjhiflnemkhaaGreatDoorDPTxt
import Derived.Test.YtebjhiflnemkhaaGreatDoorDPSch
namespace Go.Gx.F
open Go.Gx
set_option linter.all false

theorem split_bd (c : UInt8) : ∀ (x : List UInt8), (splitB c x).length ≤ x.length + 1 ∧ ∀ p ∈ splitB c x, p.length ≤ x.length ∧ ∀ b ∈ p, b ∈ x
  | [] => by simp [splitB]
  | a :: r => by
    have ih := split_bd c r
    simp only [splitB]
    split
    · refine ⟨by simp; omega, fun p hp => ?_⟩
      rcases List.mem_cons.1 hp with rfl | hp
      · simp
      · exact ⟨by have := (ih.2 p hp).1; simp; omega, fun b hb => List.mem_cons_of_mem _ ((ih.2 p hp).2 b hb)⟩
    · split
      · simp
      · rename_i y ys hy
        rw [hy] at ih
        refine ⟨by simp only [List.length_cons] at ih ⊢; omega, fun p hp => ?_⟩
        rcases List.mem_cons.1 hp with rfl | hp
        · have := ih.2 y List.mem_cons_self
          refine ⟨by simp only [List.length_cons]; omega, fun b hb => ?_⟩
          rcases List.mem_cons.1 hb with rfl | hb
          · exact List.mem_cons_self
          · exact List.mem_cons_of_mem _ (this.2 b hb)
        · have := ih.2 p (List.mem_cons_of_mem _ hp)
          exact ⟨by simp only [List.length_cons]; omega, fun b hb => List.mem_cons_of_mem _ (this.2 b hb)⟩

theorem strAt_k {x : List UInt8} {k : Nat} {b : UInt8} (h : x[k]? = some b) : goStrAt x (k : Int) = some (b.toNat : Int) := by
  unfold goStrAt
  rw [decide_eq_true (by omega), cond_true, Int.toNat_natCast, h]; rfl

theorem byte_eq {a b : UInt8} : (((a.toNat : Int)) == (b.toNat : Int)) = (a == b) := by
  rw [Bool.eq_iff_iff, beq_iff_eq, beq_iff_eq]
  constructor
  · intro h
    have : a.toNat = b.toNat := by omega
    exact UInt8.toNat_inj.1 this
  · rintro rfl; rfl

/-- the reference's split is the same -/
theorem l1Split_ok {x : List UInt8} {c : UInt8} {z : Int} (hz : z = (c.toNat : Int)) (hx : x.length ≤ 1000000) : spec_l1Split x (⟨z⟩ : K .u8) = some (splitB c x) := by
  subst hz
  unfold spec_l1Split
  have key : ∀ (j i f : Nat) (out : List (List UInt8)), i + j = x.length → f ≤ i → out.length ≤ i → c ∉ (x.drop f).take (i - f) → splitB c x = out ++ splitB c (x.drop f) →
      ∃ (o : List (List UInt8)) (g : Nat), loopC (spec_l1Split_l1 x (⟨(c.toNat : Int)⟩ : K .u8)) (out, (f : Int), (i : Int)) = some (o, (g : Int)) ∧ g ≤ x.length ∧ o.length ≤ x.length ∧ splitB c x = o ++ [x.drop g] := by
    intro j
    induction j with
    | zero =>
      intro i f out hi hf ho hno he
      obtain rfl : i = x.length := by omega
      refine ⟨out, f, ?_, by omega, by omega, ?_⟩
      · rw [loopC_eq]
        simp only [spec_l1Split_l1]
        rw [decide_eq_false (by simp [goLen]), cond_false]
      · rw [List.take_of_length_le (by simp)] at hno
        rw [he, split_no hno]
    | succ j ih =>
      intro i f out hi hf ho hno he
      have hb : x[i]? = some (x[i]'(by omega)) := by simp [show i < x.length by omega]
      have hdf : x.drop f = (x.drop f).take (i - f) ++ x[i]'(by omega) :: x.drop (i + 1) := by
        rw [← List.drop_eq_getElem_cons (show i < x.length by omega)]
        have : x.drop i = (x.drop f).drop (i - f) := by rw [List.drop_drop]; congr 1; omega
        rw [this, List.take_append_drop]
      generalize x[i]'(by omega) = b at hb hdf
      rw [loopC_eq]
      simp only [spec_l1Split_l1]
      rw [decide_eq_true (by simp [goLen]; omega), cond_true, strAt_k hb, Option.bind_some, byte_eq]
      by_cases hbc : b = c
      · subst hbc
        rw [beq_self_eq_true, cond_true]
        have hs : goSub x (f : Int) (i : Int) = some ((x.drop f).take (i - f)) := by
          refine tot_eq (tot_sub (by omega) (by omega) (by omega) ?_)
          rw [Int.toNat_natCast, Int.toNat_natCast]
        rw [hs, Option.bind_some, goApp_ok (by simp; omega), Option.bind_some]
        simp only [Option.bind_some]
        rw [wid (n := (i : Int) + 1) (by omega) (by omega)]
        refine ih (i + 1) (i + 1) (out ++ [(x.drop f).take (i - f)]) (by omega) (by omega) (by simp; omega) (by simp) ?_
        rw [he]
        conv => lhs; rw [hdf]
        rw [split_app hno]
        simp
      · rw [show (b == c) = false by simpa using hbc, cond_false]
        simp only [Option.bind_some]
        rw [wid (n := (i : Int) + 1) (by omega) (by omega)]
        refine ih (i + 1) f out (by omega) (by omega) (by omega) ?_ he
        rw [show i + 1 - f = (i - f) + 1 by omega, List.take_add_one]
        intro hc
        rcases List.mem_append.1 hc with hc | hc
        · exact hno hc
        · have : (x.drop f)[i - f]? = some b := by rw [List.getElem?_drop, show f + (i - f) = i by omega]; exact hb
          rw [this] at hc
          simp at hc
          exact hbc hc.symm
  obtain ⟨o, g, h1, h2, h3, h4⟩ := key x.length 0 0 [] (by omega) (by omega) (by simp) (by simp) (by simp)
  rw [show (((0 : Nat) : Int)) = 0 from rfl] at h1
  rw [h1]
  simp only [Option.bind_some]
  have hs : goSub x (g : Int) (goLen x) = some (x.drop g) := by
    refine tot_eq (tot_sub (by omega) (by simp only [goLen]; omega) (by simp only [goLen]; omega) ?_)
    simp only [goLen, Int.toNat_natCast]
    rw [List.take_of_length_le (by simp)]
  rw [hs, Option.bind_some, goApp_ok (by simp; omega), h4]
  rfl

/-! names -/
theorem sFind_bd {s : List impl_Variable} {n : List UInt8} (hl : s.length ≤ 1000000) : ∃ r : Int, spec_sFind s n = some r ∧ -1 ≤ r ∧ r < s.length := by
  unfold spec_sFind
  have key : ∀ (j k : Nat), k + j = s.length → ∃ r : Int, ((loopC (spec_sFind_l1 s n) (k : Int)).bind fun | .inl () => some (-1) | .inr o => some o) = some r ∧ -1 ≤ r ∧ r < s.length := by
    intro j
    induction j with
    | zero =>
      intro k hk
      obtain rfl : k = s.length := by omega
      rw [loopC_eq]
      simp only [spec_sFind_l1, lt_end, cond_false]
      exact ⟨-1, rfl, by omega, by omega⟩
    | succ j ih =>
      intro k hk
      have hv : s[k]? = some (s[k]'(by omega)) := by simp [show k < s.length by omega]
      generalize s[k]'(by omega) = v at hv
      rw [loopC_eq]
      simp only [spec_sFind_l1, lt_ok hv, at_ok hv, cond_true, Option.bind_some]
      cases v.Name == n with
      | true => exact ⟨(k : Int), rfl, by omega, by omega⟩
      | false =>
        simp only [cond_false, nx_ok hv (show s.length ≤ 9223372036854775807 by omega)]
        exact ih (k + 1) (by omega)
  exact key s.length 0 (by omega)

theorem sFind_ok {s : List impl_Variable} (hs : OkS s) {k : Nat} {v : impl_Variable} (hv : s[k]? = some v) : spec_sFind s v.Name = some (k : Int) := by
  have hl := hs.2.1
  unfold spec_sFind
  have hk := (List.getElem?_eq_some_iff.1 hv).1
  suffices h : ∀ (j i : Nat), i + j = k → loopC (spec_sFind_l1 s v.Name) (i : Int) = some (.inr (k : Int)) by
    have := h k 0 (by omega)
    rw [show ((0 : Nat) : Int) = 0 from rfl] at this
    rw [this]; rfl
  intro j
  induction j with
  | zero =>
    intro i hi
    obtain rfl : i = k := by omega
    rw [loopC_eq]
    simp only [spec_sFind_l1, lt_ok hv, at_ok hv, cond_true, Option.bind_some, beq_self_eq_true]
  | succ j ih =>
    intro i hi
    have hw : s[i]? = some (s[i]'(by omega)) := by simp [show i < s.length by omega]
    generalize s[i]'(by omega) = w at hw
    have hne := (hs.2.2 k v hv).2 i w (by omega) hw
    rw [loopC_eq]
    simp only [spec_sFind_l1, lt_ok hw, at_ok hw, cond_true, Option.bind_some]
    rw [show (w.Name == v.Name) = false by rw [beq_eq_false_iff_ne]; exact hne, cond_false, nx_ok hw (show s.length ≤ 9223372036854775807 by omega)]
    exact ih (i + 1) (by omega)

theorem loopC_nx {σ ρ : Type} {body : σ → Option (Stp σ ρ)} {x y : σ} (h : body x = some (.next y)) : loopC body x = loopC body y := by rw [loopC_eq, h]
theorem loopC_dn {σ ρ : Type} {body : σ → Option (Stp σ ρ)} {x : σ} {r : ρ} (h : body x = some (.done r)) : loopC body x = some r := by rw [loopC_eq, h]

/-! numbers -/
theorem u8dig {b : UInt8} (h1 : 48 ≤ b.toNat) (h2 : b.toNat ≤ 57) : w64 (IntKind.wrap .u8 ((b.toNat : Int) - 48)) = ((b.toNat - 48 : Nat) : Int) := by
  rw [Go.IntWalk.u8_in _ ⟨by omega, by omega⟩, wid (by omega) (by omega)]
  omega

theorem l1Read_bd {x : List UInt8} : ∃ r : Int, spec_l1Read x = some r ∧ -1 ≤ r ∧ r ≤ 1000000 := by
  unfold spec_l1Read
  rw [lIn_eq]
  simp only [Option.bind_some]
  by_cases hl : 1 ≤ goLen x ∧ goLen x ≤ 6
  · rw [decide_eq_true hl]
    simp only [goLen] at hl
    simp only [Bool.not_true, cond_false]
    obtain ⟨b, r, rfl⟩ := List.exists_cons_of_length_pos (show 0 < x.length by omega)
    rw [strAt0]
    simp only [Option.bind_some]
    have h3 : ∃ z : Bool, ((cond (((b.toNat : Int)) == 48) (some (decide (1 < goLen (b :: r)))) (some false)) : Option Bool) = some z := by cases (((b.toNat : Int)) == 48) <;> exact ⟨_, rfl⟩
    obtain ⟨z, hz⟩ := h3
    rw [hz]
    cases z with
    | true => exact ⟨-1, rfl, by omega, by omega⟩
    | false =>
      simp only [Option.bind_some, cond_false]
      have key : ∀ (j i n : Nat), i + j = (b :: r).length → n < 10 ^ i → ∃ q : Int, ((loopC (spec_l1Read_l1 (b :: r)) ((n : Int), (i : Int))).bind fun | .inl n_10 => some n_10 | .inr o => some o) = some q ∧ -1 ≤ q ∧ q ≤ 1000000 := by
        intro j
        induction j with
        | zero =>
          intro i n hi hn
          have h10 : 10 ^ i ≤ 10 ^ 6 := Nat.pow_le_pow_right (by omega) (by omega)
          obtain rfl : i = (b :: r).length := by omega
          rw [loopC_eq]
          simp only [spec_l1Read_l1, lt_end, cond_false]
          exact ⟨(n : Int), rfl, by omega, by omega⟩
        | succ j ih =>
          intro i n hi hn
          have hlt : i < (b :: r).length := by omega
          have h10 : 10 ^ i ≤ 10 ^ 6 := Nat.pow_le_pow_right (by omega) (by omega)
          have hv : (b :: r)[i]? = some (b :: r)[i] := by simp [hlt]
          generalize (b :: r)[i] = d at hv
          rw [loopC_eq]
          simp only [spec_l1Read_l1]
          rw [decide_eq_true (by simp only [goLen]; omega), cond_true, strAt_k hv]
          simp only [Option.bind_some]
          by_cases h1 : (d.toNat : Int) < 48
          · rw [decide_eq_true h1]; exact ⟨-1, rfl, by omega, by omega⟩
          · rw [decide_eq_false h1, cond_false]
            by_cases h2 : 57 < (d.toNat : Int)
            · rw [decide_eq_true h2]; exact ⟨-1, rfl, by omega, by omega⟩
            · rw [decide_eq_false h2]
              simp only [Option.bind_some, cond_false]
              rw [u8dig (by omega) (by omega), wid (n := 10 * (n : Int)) (by omega) (by omega), wid (n := 10 * (n : Int) + ((d.toNat - 48 : Nat) : Int)) (by omega) (by omega), wid (n := (i : Int) + 1) (by omega) (by omega)]
              have := ih (i + 1) (10 * n + (d.toNat - 48)) (by omega) (by rw [Nat.pow_succ]; omega)
              have e1 : (((10 * n + (d.toNat - 48) : Nat)) : Int) = 10 * (n : Int) + ((d.toNat - 48 : Nat) : Int) := by omega
              rw [e1] at this
              exact this
      exact key (b :: r).length 0 0 (by omega) (by simp)
  · rw [decide_eq_false hl]
    exact ⟨-1, rfl, by omega, by omega⟩

theorem read_small : ∀ u : Fin 31, (1 ≤ (Go.Lib.decDigits u.1).length ∧ (Go.Lib.decDigits u.1).length ≤ 2) ∧ (∀ b ∈ Go.Lib.decDigits u.1, 48 ≤ b.toNat ∧ b.toNat ≤ 57) := by
  intro u
  have hu := u.2
  by_cases h : u.1 < 10
  · rw [num_small h]
    refine ⟨by simp, fun b hb => ?_⟩
    obtain rfl := List.mem_singleton.1 hb
    rw [dig_nat h]; omega
  · rw [num_big h, num_small (by omega)]
    refine ⟨by simp, fun b hb => ?_⟩
    simp only [List.cons_append, List.nil_append, List.mem_cons, List.not_mem_nil, or_false] at hb
    rcases hb with rfl | rfl
    · rw [dig_nat (by omega)]; omega
    · rw [dig_nat (by omega)]; omega

theorem l1Read_ok {u : Nat} (hu : u ≤ 30) : spec_l1Read (Go.Lib.decDigits u) = some (u : Int) := by
  unfold spec_l1Read
  rw [lIn_eq]
  have step : ∀ (x : List UInt8) (i d : Nat) (n : Nat), d < 10 → x[i]? = some (UInt8.ofNat (48 + d)) → n ≤ 1000 → i ≤ 1000 → spec_l1Read_l1 x ((n : Int), (i : Int)) = some (.next (((10 * n + d : Nat) : Int), ((i + 1 : Nat) : Int))) := by
    intro x i d n hd hx hn hi
    have hlt := (List.getElem?_eq_some_iff.1 hx).1
    simp only [spec_l1Read_l1]
    rw [decide_eq_true (by simp only [goLen]; omega), cond_true, strAt_k hx, dig_nat hd]
    simp only [Option.bind_some]
    rw [decide_eq_false (by omega), cond_false, decide_eq_false (by omega)]
    simp only [Option.bind_some, cond_false]
    have := u8dig (b := UInt8.ofNat (48 + d)) (by rw [dig_nat hd]; omega) (by rw [dig_nat hd]; omega)
    rw [dig_nat hd] at this
    rw [this, wid (n := 10 * (n : Int)) (by omega) (by omega), wid (by omega) (by omega), wid (by omega) (by omega)]
    congr 3 <;> omega
  by_cases h : u < 10
  · rw [num_small h]
    simp only [Option.bind_some, goLen, List.length_singleton]
    rw [decide_eq_true (by omega)]
    simp only [Bool.not_true, cond_false]
    rw [strAt0, Option.bind_some]
    have hz : ((cond ((((UInt8.ofNat (48 + u)).toNat : Int)) == 48) (some (decide ((1 : Int) < ((1 : Nat) : Int)))) (some false)) : Option Bool) = some false := by cases ((((UInt8.ofNat (48 + u)).toNat : Int)) == 48) <;> rfl
    rw [hz]
    simp only [Option.bind_some, cond_false]
    have := step [UInt8.ofNat (48 + u)] 0 u 0 h rfl (by omega) (by omega)
    rw [show (((0 : Nat) : Int)) = 0 from rfl] at this
    rw [loopC_nx this, loopC_eq]
    simp only [spec_l1Read_l1, goLen, List.length_singleton]
    rw [decide_eq_false (by omega)]
    simp
  · rw [num_big h, num_small (by omega)]
    simp only [List.cons_append, List.nil_append, Option.bind_some, goLen, List.length_cons, List.length_nil]
    rw [decide_eq_true (by omega)]
    simp only [Bool.not_true, cond_false]
    rw [strAt0, Option.bind_some, dig_nat (by omega), show ((((48 + u / 10 : Nat)) : Int) == 48) = false by rw [beq_eq_false_iff_ne]; omega]
    simp only [cond_false, Option.bind_some]
    have s1 := step [UInt8.ofNat (48 + u / 10), UInt8.ofNat (48 + u % 10)] 0 (u / 10) 0 (by omega) rfl (by omega) (by omega)
    have s2 := step [UInt8.ofNat (48 + u / 10), UInt8.ofNat (48 + u % 10)] 1 (u % 10) (10 * 0 + u / 10) (by omega) rfl (by omega) (by omega)
    rw [show (((0 : Nat) : Int)) = 0 from rfl] at s1
    rw [loopC_nx s1]
    simp only [Nat.zero_add] at s2 ⊢
    rw [loopC_nx s2, loopC_eq]
    simp only [spec_l1Read_l1, goLen, List.length_cons, List.length_nil]
    rw [decide_eq_false (by omega)]
    simp only [cond_false, Option.bind_some]
    congr 1; omega

/-- reading of any text comes to an end -/
theorem readNat_tot {x : List UInt8} {most : Int} (hx : x.length ≤ 1000000) (h0 : 0 ≤ most ∧ most ≤ 1000000000) : ∃ n r b, impl_readNatural x most = some (n, r, b) ∧ 0 ≤ n ∧ n ≤ most := by
  unfold impl_readNatural
  have h : Tot (loopC (impl_readNatural_l1 x most) (0, 0)) (fun o => match o with | .inl (n, i) => 0 ≤ n ∧ n ≤ most ∧ 0 ≤ i ∧ i ≤ (x.length : Int) | .inr o => o.1 = 0) := by
    refine tot_loop (fun t => ∃ k : Nat, t.2 = (k : Int) ∧ k ≤ x.length ∧ 0 ≤ t.1 ∧ t.1 ≤ most) (fun t => x.length - t.2.toNat) ⟨0, rfl, by omega, by simp, by simp; omega⟩ ?_
    rintro ⟨n, i⟩ ⟨k, rfl, hk, hn0, hn1⟩
    simp only at hn0 hn1
    simp only [impl_readNatural_l1]
    by_cases hlt : k < x.length
    · have hb : x[k]? = some x[k] := by simp [hlt]
      generalize x[k] = b at hb
      have hb8 := UInt8.toNat_lt b
      rw [decide_eq_true (by simp only [goLen]; omega)]
      simp only [cond_true, strAt_k hb, Option.bind_some]
      by_cases h1 : (48 : Int) ≤ (b.toNat : Int)
      · rw [decide_eq_true h1]
        simp only [cond_true, Option.bind_some]
        by_cases h2 : (b.toNat : Int) ≤ 57
        · rw [decide_eq_true h2]
          simp only [cond_true]
          have hz : ∃ z : Bool, ((cond (decide (0 < (k : Int))) (some (n == 0)) (some false)) : Option Bool) = some z := by cases (decide (0 < (k : Int))) <;> exact ⟨_, rfl⟩
          obtain ⟨z, hz⟩ := hz
          rw [hz]
          simp only [Option.bind_some]
          cases z with
          | true => exact tot_some rfl
          | false =>
            rw [u8dig (by omega) (by omega), wid (n := n * 10) (by omega) (by omega), wid (n := n * 10 + ((b.toNat - 48 : Nat) : Int)) (by omega) (by omega), cond_false]
            by_cases h3 : most < n * 10 + ((b.toNat - 48 : Nat) : Int)
            · rw [decide_eq_true h3]; exact tot_some rfl
            · rw [decide_eq_false h3, cond_false, wid (n := (k : Int) + 1) (by omega) (by omega)]
              exact tot_some ⟨⟨k + 1, by simp only; omega, by omega, by simp only; omega, by simp only; omega⟩, by simp only; omega⟩
        · rw [decide_eq_false h2]
          exact tot_some ⟨hn0, hn1, by omega, by omega⟩
      · rw [decide_eq_false h1]
        exact tot_some ⟨hn0, hn1, by omega, by omega⟩
    · rw [decide_eq_false (by simp only [goLen]; omega)]
      exact tot_some ⟨hn0, hn1, by omega, by omega⟩
  obtain ⟨o, e, ho⟩ := h
  rw [e]
  cases o with
  | inr o => exact ⟨o.1, o.2.1, o.2.2, rfl, by simp only at ho; omega, by simp only at ho; omega⟩
  | inl o =>
    obtain ⟨n, i⟩ := o
    obtain ⟨q1, q2, q3, q4⟩ := ho
    simp only [Option.bind_some]
    cases i == 0 with
    | true => exact ⟨0, [], false, rfl, by omega, by omega⟩
    | false =>
      obtain ⟨l, hl, _⟩ : Tot (goSub x i (goLen x)) (fun _ => True) := tot_sub q3 (by simp only [goLen]; omega) (by simp only [goLen]; omega) trivial
      rw [hl]
      exact ⟨n, l, true, rfl, q1, q2⟩

theorem whole_tot {x : List UInt8} (hx : x.length ≤ 1000000) : ∃ n b, impl_wholeNatural x 30 = some (n, b) ∧ 0 ≤ n ∧ n ≤ 30 := by
  obtain ⟨n, r, b, e, h0, h1⟩ := readNat_tot (most := 30) hx (by omega)
  unfold impl_wholeNatural
  rw [e]
  simp only [Option.bind_some]
  cases b with
  | false => exact ⟨0, false, rfl, by omega, by omega⟩
  | true =>
    simp only [Bool.not_true, cond_false]
    cases r != [] with
    | true => exact ⟨0, false, rfl, by omega, by omega⟩
    | false => exact ⟨n, true, rfl, h0, h1⟩

theorem whole_dig {u : Nat} (h : u ≤ 30) : impl_wholeNatural (Go.Lib.decDigits u) 30 = some ((u : Int), true) := by
  have := readNat_ok (u := u) (r := []) (most := 30) (by omega) (by omega) (.inl rfl) (by simp)
  rw [List.append_nil] at this
  unfold impl_wholeNatural
  rw [this]
  rfl

end Go.Gx.F
