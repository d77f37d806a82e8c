/- Plain laws: sets of cells by their bits; the order of choices. -/
import Derived.Test.YtpjcfmpfiadkgaaGreatSPSp2

namespace Go.Gx.F

open Go.Gx

set_option linter.all false

set_option maxRecDepth 10000

theorem shr_1k {k d : Nat} (hk : k < 1024) (hd : d < 11) : goShr .i64 (k : Int) (d : Int) = some ((k / 2 ^ d : Nat) : Int) := by
  have : ∀ (m : Fin 1024) (d : Fin 11), goShr .i64 (m.1 : Int) (d.1 : Int) = some ((m.1 / 2 ^ d.1 : Nat) : Int) := by decide +kernel
  exact this ⟨k, hk⟩ ⟨d, hd⟩

theorem wrap_11 {d : Nat} (hd : d < 11) : IntKind.wrap .u64 (d : Int) = (d : Int) := by
  have : ∀ (d : Fin 11), IntKind.wrap .u64 (d.1 : Int) = (d.1 : Int) := by decide +kernel
  exact this ⟨d, hd⟩

theorem bit_1k {k : Nat} (hk : k < 1024) : (goBits .and .i64 (k : Int) 1 == 1) = decide (k % 2 = 1) := by
  have : ∀ (m : Fin 1024), (goBits .and .i64 (m.1 : Int) 1 == 1) = decide (m.1 % 2 = 1) := by decide +kernel
  exact this ⟨k, hk⟩

theorem shl_1k {n : Nat} (hn : n < 11) : goShl .i64 1 (n : Int) = some ((2 ^ n : Nat) : Int) := by
  have : ∀ (n : Fin 11), goShl .i64 1 (n.1 : Int) = some ((2 ^ n.1 : Nat) : Int) := by decide +kernel
  exact this ⟨n, hn⟩

def bit (k i : Nat) : Bool := decide (k / 2 ^ i % 2 = 1)

def bitsN (k F : Nat) : List Nat := (List.range F).filter (bit k)

theorem bitsN_succ (k i : Nat) : ints (bitsN k (i + 1)) = ints (bitsN k i) ++ cond (decide (k / 2 ^ i % 2 = 1)) [(i : Int)] [] := by
  unfold ints bitsN
  rw [List.range_succ, List.filter_append, List.map_append]
  congr 1
  have e : bit k i = decide (k / 2 ^ i % 2 = 1) := rfl
  cases h : decide (k / 2 ^ i % 2 = 1) <;> simp [e, h]

theorem bitsN_len (k F : Nat) : (bitsN k F).length ≤ F := Nat.le_trans (List.length_filter_le _ _) (by simp)

theorem ints_len (l : List Nat) : (ints l).length = l.length := by simp [ints]

theorem bitsN_end {k i : Nat} (hk : k < 2 ^ i) : ∀ n, i ≤ n → bitsN k n = bitsN k i := by
  intro n hn
  induction n with
  | zero => obtain rfl : i = 0 := by omega
            rfl
  | succ n ih =>
    by_cases hi : i = n + 1
    · rw [hi]
    · have h1 : k < 2 ^ n := Nat.lt_of_lt_of_le hk (Nat.pow_le_pow_right (by omega) (by omega))
      unfold bitsN at ih ⊢
      rw [List.range_succ, List.filter_append, ih (by omega)]
      have e : bit k n = false := by unfold bit; rw [Nat.div_eq_of_lt h1]; rfl
      simp [e]

theorem members_1k {k F : Nat} (hF : F ≤ 10) (hk : k < 2 ^ F) : impl_membersOf (k : Int) = some (ints (bitsN k F)) := by
  have h1k : k < 1024 := Nat.lt_of_lt_of_le hk (Nat.pow_le_pow_right (n := 2) (by omega) hF)
  unfold impl_membersOf
  have h : loopC (impl_membersOf_l1 (k : Int)) (([] : List Int), 0) = some (ints (bitsN k F)) := by
    refine tot_eq (tot_loop (fun s => ∃ i : Nat, i ≤ F ∧ s = (ints (bitsN k i), (i : Int))) (fun s => F - s.2.toNat) ⟨0, by omega, rfl⟩ ?_)
    rintro _ ⟨i, hi, rfl⟩
    have hbl := bitsN_len k i
    have hil := ints_len (bitsN k i)
    simp only [impl_membersOf_l1]
    rw [shr_1k h1k (by omega), Option.bind_some]
    by_cases h0 : k / 2 ^ i = 0
    · rw [h0]
      rw [show ((((0 : Nat) : Int)) != 0) = false from rfl, cond_false]
      have hki : k < 2 ^ i := by
        rcases Nat.lt_or_ge k (2 ^ i) with h | h
        · exact h
        · have := Nat.div_pos h (Nat.pow_pos (by omega)); omega
      exact tot_some (by rw [bitsN_end hki F hi])
    · have hin : i < F := by
        rcases Nat.lt_or_ge i F with h | h
        · exact h
        · obtain rfl : i = F := by omega
          exact absurd (Nat.div_eq_of_lt hk) h0
      have h1k' : k / 2 ^ i < 1024 := Nat.lt_of_le_of_lt (Nat.div_le_self _ _) h1k
      have hs := bitsN_succ k i
      rw [show (((k / 2 ^ i : Nat) : Int) != 0) = true by rw [bne_iff_ne]; omega, cond_true, Option.bind_some, bit_1k h1k', wid (n := (i : Int) + 1) (by omega) (by omega)]
      cases hb : decide (k / 2 ^ i % 2 = 1) with
      | true =>
        rw [hb] at hs
        rw [cond_true, goApp_ok (by simp only [List.length_cons, List.length_nil]; omega), Option.bind_some, Option.bind_some]
        exact tot_some ⟨⟨i + 1, by omega, by rw [hs]; rfl⟩, by simp only; omega⟩
      | false =>
        rw [hb] at hs
        rw [cond_false, Option.bind_some]
        exact tot_some ⟨⟨i + 1, by omega, by rw [hs, cond_false, List.append_nil]; rfl⟩, by simp only; omega⟩
  rw [h]; rfl

theorem iBits_1k {k F : Nat} (hF : F ≤ 10) (hk : k < 2 ^ F) : spec_iBits (k : Int) = some (ints (bitsN k F)) := by
  have h1k : k < 1024 := Nat.lt_of_lt_of_le hk (Nat.pow_le_pow_right (n := 2) (by omega) hF)
  unfold spec_iBits
  have h : loopC (spec_iBits_l1 (k : Int)) (([] : List Int), 0) = some (ints (bitsN k F)) := by
    refine tot_eq (tot_loop (fun s => ∃ i : Nat, i ≤ F ∧ s = (ints (bitsN k i), (i : Int))) (fun s => F - s.2.toNat) ⟨0, by omega, rfl⟩ ?_)
    rintro _ ⟨i, hi, rfl⟩
    have hbl := bitsN_len k i
    have hil := ints_len (bitsN k i)
    simp only [spec_iBits_l1]
    rw [wrap_11 (by omega), shr_1k h1k (by omega), Option.bind_some]
    by_cases h0 : k / 2 ^ i = 0
    · rw [h0]
      rw [decide_eq_false (by omega), cond_false]
      have hki : k < 2 ^ i := by
        rcases Nat.lt_or_ge k (2 ^ i) with h | h
        · exact h
        · have := Nat.div_pos h (Nat.pow_pos (by omega)); omega
      exact tot_some (by rw [bitsN_end hki F hi])
    · have hin : i < F := by
        rcases Nat.lt_or_ge i F with h | h
        · exact h
        · obtain rfl : i = F := by omega
          exact absurd (Nat.div_eq_of_lt hk) h0
      have h1k' : k / 2 ^ i < 1024 := Nat.lt_of_le_of_lt (Nat.div_le_self _ _) h1k
      have hs := bitsN_succ k i
      rw [decide_eq_true (show (0 : Int) < ((k / 2 ^ i : Nat) : Int) from Int.natCast_pos.2 (Nat.pos_of_ne_zero h0)), cond_true, Option.bind_some, bit_1k h1k', wid (n := (i : Int) + 1) (by omega) (by omega)]
      cases hb : decide (k / 2 ^ i % 2 = 1) with
      | true =>
        rw [hb] at hs
        rw [cond_true, goApp_ok (by simp only [List.length_cons, List.length_nil]; omega), Option.bind_some, Option.bind_some]
        exact tot_some ⟨⟨i + 1, by omega, by rw [hs]; rfl⟩, by simp only; omega⟩
      | false =>
        rw [hb] at hs
        rw [cond_false, Option.bind_some]
        exact tot_some ⟨⟨i + 1, by omega, by rw [hs, cond_false, List.append_nil]; rfl⟩, by simp only; omega⟩
  rw [h]; rfl

def cellsK (fr : List Nat) (k : Nat) : List Nat := (bitsN k fr.length).map fun i => fr.getD i 0

theorem bitsN_lt {k F i : Nat} (h : i ∈ bitsN k F) : i < F := List.mem_range.1 (List.mem_filter.1 h).1

theorem cellsK_mem {fr : List Nat} {k c : Nat} (h : c ∈ cellsK fr k) : c ∈ fr := by
  unfold cellsK at h
  obtain ⟨i, hi, rfl⟩ := List.mem_map.1 h
  have := bitsN_lt hi
  rw [List.getD_eq_getElem?_getD, List.getElem?_eq_getElem this]
  exact List.getElem_mem this

theorem cellsK_len {fr : List Nat} {k : Nat} : (cellsK fr k).length ≤ fr.length := by
  unfold cellsK
  rw [List.length_map]
  exact bitsN_len _ _

theorem sPick_ok {fr : List Nat} {k : Nat} (hF : fr.length ≤ 10) : spec_sPick (ints fr) (ints (bitsN k fr.length)) = some (ints (cellsK fr k)) := by
  have hbl := bitsN_len k fr.length
  unfold spec_sPick
  have hcl : (cellsK fr k).length = (bitsN k fr.length).length := by simp [cellsK]
  have h : loopC (spec_sPick_l1 (ints fr) (ints (bitsN k fr.length))) (([] : List Int), 0) = some (ints (cellsK fr k)) := by
    refine tot_eq (tot_loop (fun s => ∃ a : Nat, a ≤ (bitsN k fr.length).length ∧ s = (ints ((cellsK fr k).take a), (a : Int))) (fun s => (bitsN k fr.length).length - s.2.toNat) ⟨0, by omega, rfl⟩ ?_)
    rintro _ ⟨a, ha', rfl⟩
    by_cases ha : a < (bitsN k fr.length).length
    · have hi : (bitsN k fr.length)[a] < fr.length := bitsN_lt (List.getElem_mem ha)
      have hx : (ints (bitsN k fr.length))[a]? = some ((bitsN k fr.length)[a] : Int) := by simp [ints, ha]
      have hy : (ints fr)[(bitsN k fr.length)[a]]? = some ((fr[(bitsN k fr.length)[a]] : Nat) : Int) := by simp [ints, hi]
      have hc : (cellsK fr k)[a]? = some fr[(bitsN k fr.length)[a]] := by simp [cellsK, ha, hi]
      have hil := ints_len ((cellsK fr k).take a)
      have htl : ((cellsK fr k).take a).length ≤ a := by rw [List.length_take]; omega
      simp only [spec_sPick_l1, lt_ok hx, cond_true, at_ok hx, at_ok hy, Option.bind_some]
      rw [goApp_ok (by simp only [List.length_cons, List.length_nil]; omega), Option.bind_some, wid (by omega) (by omega)]
      refine tot_some ⟨⟨a + 1, by omega, ?_⟩, by simp only; omega⟩
      rw [List.take_succ, hc]
      simp [ints]
    · obtain rfl : a = (bitsN k fr.length).length := by omega
      have e3 : decide ((((bitsN k fr.length).length : Nat) : Int) < goLen (ints (bitsN k fr.length))) = false := decide_eq_false (by simp only [goLen, ints, List.length_map]; omega)
      simp only [spec_sPick_l1, e3, cond_false]
      exact tot_some (by rw [← hcl, List.take_length])
  rw [h]; rfl

theorem pickI_ok {m : Nat} {fr : List Nat} {k : Nat} (hF : fr.length ≤ 10) : loopC (impl_LeastPlan_l2 (fr.map (posI m)) (ints (bitsN k fr.length))) (([] : List (List Int)), 0) = some ((cellsK fr k).map (posI m)) := by
  have hbl := bitsN_len k fr.length
  have hcl : (cellsK fr k).length = (bitsN k fr.length).length := by simp [cellsK]
  refine tot_eq (tot_loop (fun s => ∃ a : Nat, a ≤ (bitsN k fr.length).length ∧ s = (((cellsK fr k).take a).map (posI m), (a : Int))) (fun s => (bitsN k fr.length).length - s.2.toNat) ⟨0, by omega, rfl⟩ ?_)
  rintro _ ⟨a, ha', rfl⟩
  by_cases ha : a < (bitsN k fr.length).length
  · have hi : (bitsN k fr.length)[a] < fr.length := bitsN_lt (List.getElem_mem ha)
    have hx : (ints (bitsN k fr.length))[a]? = some ((bitsN k fr.length)[a] : Int) := by simp [ints, ha]
    have hy : (fr.map (posI m))[(bitsN k fr.length)[a]]? = some (posI m fr[(bitsN k fr.length)[a]]) := by simp [hi]
    have hc : (cellsK fr k)[a]? = some fr[(bitsN k fr.length)[a]] := by simp [cellsK, ha, hi]
    have htl : (((cellsK fr k).take a).map (posI m)).length ≤ a := by rw [List.length_map, List.length_take]; omega
    simp only [impl_LeastPlan_l2, lt_ok hx, cond_true, at_ok hx, at_ok hy, Option.bind_some]
    rw [goApp_ok (by simp only [List.length_cons, List.length_nil]; omega), Option.bind_some, wid (by omega) (by omega)]
    refine tot_some ⟨⟨a + 1, by omega, ?_⟩, by simp only; omega⟩
    rw [List.take_succ, hc]
    simp
  · obtain rfl : a = (bitsN k fr.length).length := by omega
    have e3 : decide ((((bitsN k fr.length).length : Nat) : Int) < goLen (ints (bitsN k fr.length))) = false := decide_eq_false (by simp only [goLen, ints, List.length_map]; omega)
    simp only [impl_LeastPlan_l2, e3, cond_false]
    exact tot_some (by rw [← hcl, List.take_length])

/-! ### the order of choices -/

theorem cmpI_zero {x y : Int} : cmpI x y = 0 ↔ x = y := by unfold cmpI; split <;> (try split) <;> omega

theorem or_le {x y r : Int} : cmpOr (cmpI x y) r ≤ 0 ↔ x < y ∨ (x = y ∧ r ≤ 0) := by
  unfold cmpOr cmpI
  by_cases h1 : x < y
  · rw [if_pos h1]; simp; omega
  · rw [if_neg h1]
    by_cases h2 : y < x
    · rw [if_pos h2]; simp; omega
    · rw [if_neg h2, if_pos rfl]; omega

theorem or_zero {x y r : Int} : cmpOr (cmpI x y) r = 0 ↔ x = y ∧ r = 0 := by
  unfold cmpOr cmpI
  by_cases h1 : x < y
  · rw [if_pos h1]; simp; omega
  · rw [if_neg h1]
    by_cases h2 : y < x
    · rw [if_pos h2]; simp; omega
    · rw [if_neg h2, if_pos rfl]; omega

theorem or_neg {x y r : Int} : cmpOr (cmpI x y) r = - cmpOr (cmpI y x) (-r) := by
  unfold cmpOr cmpI
  by_cases h1 : x < y
  · rw [if_pos h1, if_neg (show ¬ y < x by omega), if_pos h1]; simp
  · rw [if_neg h1]
    by_cases h2 : y < x
    · rw [if_pos h2, if_pos h2]; simp
    · rw [if_neg h2, if_pos rfl, if_neg h2, if_neg h1, if_pos rfl]; omega

theorem cmpL_neg : ∀ a b : List Int, cmpL a b = - cmpL b a
  | [], [] => rfl
  | [], _ :: _ => rfl
  | _ :: _, [] => rfl
  | x :: a, y :: b => by simp only [cmpL]; rw [or_neg, cmpL_neg a b, Int.neg_neg]

theorem cmpL_zero : ∀ {a b : List Int}, cmpL a b = 0 → a = b
  | [], [], _ => rfl
  | [], _ :: _, h => by simp [cmpL] at h
  | _ :: _, [], h => by simp [cmpL] at h
  | x :: a, y :: b, h => by
    simp only [cmpL] at h
    obtain ⟨h1, h2⟩ := or_zero.1 h
    rw [h1, cmpL_zero h2]

theorem cmpL_trans : ∀ {a b c : List Int}, cmpL a b ≤ 0 → cmpL b c ≤ 0 → cmpL a c ≤ 0
  | [], _, [], _, _ => by simp [cmpL]
  | [], _, _ :: _, _, _ => by simp [cmpL]
  | _ :: _, [], _, h, _ => by simp [cmpL] at h
  | _ :: _, _ :: _, [], _, h => by simp [cmpL] at h
  | x :: a, y :: b, z :: c, h1, h2 => by
    simp only [cmpL] at h1 h2 ⊢
    rw [or_le] at h1 h2 ⊢
    rcases h1 with h1 | ⟨h1, g1⟩
    · rcases h2 with h2 | ⟨h2, g2⟩
      · exact .inl (by omega)
      · exact .inl (by omega)
    · rcases h2 with h2 | ⟨h2, g2⟩
      · exact .inl (by omega)
      · exact .inr ⟨by omega, cmpL_trans g1 g2⟩

theorem posI_cmp {m a b : Nat} (hm : 0 < m) : cmpL (posI m a) (posI m b) = cmpI (a : Int) (b : Int) := by
  have e1 := Nat.div_add_mod a m
  have e2 := Nat.div_add_mod b m
  have r1 := Nat.mod_lt a hm
  have r2 := Nat.mod_lt b hm
  have key : (a / m < b / m → a < b) ∧ (b / m < a / m → b < a) ∧ (a / m = b / m → (a < b ↔ a % m < b % m) ∧ (b < a ↔ b % m < a % m)) := by
    refine ⟨fun h => ?_, fun h => ?_, fun h => ?_⟩
    · rcases Nat.lt_or_ge a b with g | g
      · exact g
      · have := Nat.div_le_div_right (c := m) g; omega
    · rcases Nat.lt_or_ge b a with g | g
      · exact g
      · have := Nat.div_le_div_right (c := m) g; omega
    · rw [h] at e1
      generalize m * (b / m) = z at e1 e2
      omega
  obtain ⟨k1, k2, k3⟩ := key
  show cmpOr (cmpI ((a / m : Nat) : Int) ((b / m : Nat) : Int)) (cmpOr (cmpI ((a % m : Nat) : Int) ((b % m : Nat) : Int)) 0) = _
  unfold cmpOr cmpI
  by_cases h1 : a / m < b / m
  · have := k1 h1
    rw [if_pos (show ((a / m : Nat) : Int) < ((b / m : Nat) : Int) by omega), if_pos (show (a : Int) < b by omega)]; simp
  · by_cases h2 : b / m < a / m
    · have := k2 h2
      rw [if_neg (show ¬ ((a / m : Nat) : Int) < ((b / m : Nat) : Int) by omega), if_pos (show ((b / m : Nat) : Int) < ((a / m : Nat) : Int) by omega), if_neg (show ¬ (a : Int) < b by omega), if_pos (show (b : Int) < a by omega)]; simp
    · obtain ⟨g1, g2⟩ := k3 (by omega)
      rw [if_neg (show ¬ ((a / m : Nat) : Int) < ((b / m : Nat) : Int) by omega), if_neg (show ¬ ((b / m : Nat) : Int) < ((a / m : Nat) : Int) by omega), if_pos rfl]
      by_cases h3 : a < b
      · have := g1.1 h3
        rw [if_pos (show ((a % m : Nat) : Int) < ((b % m : Nat) : Int) by omega), if_pos (show (a : Int) < b by omega)]; simp
      · by_cases h4 : b < a
        · have := g2.1 h4
          rw [if_neg (show ¬ ((a % m : Nat) : Int) < ((b % m : Nat) : Int) by omega), if_pos (show ((b % m : Nat) : Int) < ((a % m : Nat) : Int) by omega), if_neg (show ¬ (a : Int) < b by omega), if_pos (show (b : Int) < a by omega)]; simp
        · rw [if_neg (show ¬ ((a % m : Nat) : Int) < ((b % m : Nat) : Int) by omega), if_neg (show ¬ ((b % m : Nat) : Int) < ((a % m : Nat) : Int) by omega), if_neg (show ¬ (a : Int) < b by omega), if_neg (show ¬ (b : Int) < a by omega)]; simp

theorem cmpLL_pos {m : Nat} (hm : 0 < m) : ∀ a b : List Nat, cmpLL (a.map (posI m)) (b.map (posI m)) = cmpL (ints a) (ints b)
  | [], [] => rfl
  | [], _ :: _ => rfl
  | _ :: _, [] => rfl
  | x :: a, y :: b => by
    simp only [List.map_cons, cmpLL, ints, cmpL]
    rw [posI_cmp hm, cmpLL_pos hm a b]
    rfl

def leC (V : List Nat → Int) (a b : List Nat) : Prop := a.length < b.length ∨ (a.length = b.length ∧ (V a < V b ∨ (V a = V b ∧ cmpL (ints a) (ints b) ≤ 0)))

theorem cmpC_le {m : Nat} (hm : 0 < m) (V : List Nat → Int) (a b : List Nat) : cmpC ⟨a.map (posI m), V a⟩ ⟨b.map (posI m), V b⟩ ≤ 0 ↔ leC V a b := by
  unfold cmpC leC
  simp only
  rw [or_le, or_le, cmpLL_pos hm, List.length_map, List.length_map]
  constructor
  · rintro (h | ⟨h1, h⟩)
    · exact .inl (by omega)
    · exact .inr ⟨by omega, h⟩
  · rintro (h | ⟨h1, h⟩)
    · exact .inl (by omega)
    · exact .inr ⟨by omega, h⟩

theorem leC_anti {V : List Nat → Int} {a b : List Nat} (h1 : leC V a b) (h2 : leC V b a) : a = b := by
  unfold leC at h1 h2
  rcases h1 with h1 | ⟨e1, h1⟩
  · rcases h2 with h2 | ⟨e2, h2⟩ <;> omega
  · rcases h2 with h2 | ⟨e2, h2⟩
    · omega
    · rcases h1 with h1 | ⟨v1, h1⟩
      · rcases h2 with h2 | ⟨v2, h2⟩ <;> omega
      · rcases h2 with h2 | ⟨v2, h2⟩
        · omega
        · rw [cmpL_neg] at h2
          have h0 : cmpL (ints a) (ints b) = 0 := by omega
          have := cmpL_zero h0
          unfold ints at this
          exact List.map_inj_right (fun x y h => by exact Int.ofNat.inj h) |>.1 this

theorem leC_total {V : List Nat → Int} (a b : List Nat) : leC V a b ∨ leC V b a := by
  unfold leC
  have := cmpL_neg (ints a) (ints b)
  omega

theorem leC_trans {V : List Nat → Int} {a b c : List Nat} (h1 : leC V a b) (h2 : leC V b c) : leC V a c := by
  unfold leC at *
  rcases h1 with h1 | ⟨e1, h1⟩
  · exact .inl (by omega)
  · rcases h2 with h2 | ⟨e2, h2⟩
    · exact .inl (by omega)
    · refine .inr ⟨by omega, ?_⟩
      rcases h1 with h1 | ⟨v1, h1⟩
      · exact .inl (by omega)
      · rcases h2 with h2 | ⟨v2, h2⟩
        · exact .inl (by omega)
        · exact .inr ⟨by omega, cmpL_trans h1 h2⟩

theorem l1Less_ok {a b : List Int} (ha : a.length ≤ 1000) (hb : b.length ≤ 1000) : spec_l1Less a b = some (cmpL a b) := by
  have h : Tot (loopC (spec_l1Less_l1 a b) 0) fun o => match o with | .inl () => cmpL a b = cmpI a.length b.length | .inr v => v = cmpL a b := by
    refine tot_loop (fun s => ∃ i : Nat, i ≤ a.length ∧ i ≤ b.length ∧ s = (i : Int) ∧ cmpL (a.drop i) (b.drop i) = cmpL a b) (fun s => a.length - s.toNat) ⟨0, by omega, by omega, rfl, rfl⟩ ?_
    rintro _ ⟨i, h1, h2, rfl, h3⟩
    have fin : a.length ≤ i ∨ b.length ≤ i → cmpL a b = cmpI a.length b.length := fun h => by
      rw [← h3]
      by_cases g1 : a.length ≤ i
      · rw [List.drop_eq_nil_of_le g1]
        by_cases g2 : b.length ≤ i
        · rw [List.drop_eq_nil_of_le g2]
          unfold cmpI
          rw [if_neg (by omega), if_neg (by omega)]; rfl
        · rw [List.drop_eq_getElem_cons (show i < b.length by omega)]
          unfold cmpI
          rw [if_pos (by omega)]; rfl
      · have g2 : b.length ≤ i := by omega
        rw [List.drop_eq_nil_of_le g2, List.drop_eq_getElem_cons (show i < a.length by omega)]
        unfold cmpI
        rw [if_neg (by omega), if_pos (by omega)]; rfl
    by_cases ga : i < a.length
    · have ea : decide ((i : Int) < goLen a) = true := decide_eq_true (by simp only [goLen]; omega)
      by_cases gb : i < b.length
      · have eb : decide ((i : Int) < goLen b) = true := decide_eq_true (by simp only [goLen]; omega)
        have xa : a[i]? = some a[i] := by simp [ga]
        have xb : b[i]? = some b[i] := by simp [gb]
        have hd : cmpL a b = cmpOr (cmpI a[i] b[i]) (cmpL (a.drop (i + 1)) (b.drop (i + 1))) := by
          rw [← h3, List.drop_eq_getElem_cons ga, List.drop_eq_getElem_cons gb]; rfl
        simp only [spec_l1Less_l1, ea, eb, cond_true, Option.bind_some, at_ok xa, at_ok xb]
        by_cases he : a[i] = b[i]
        · rw [show (a[i] != b[i]) = false by simp [he], cond_false, wid (by omega) (by omega)]
          refine tot_some ⟨⟨i + 1, by omega, by omega, rfl, ?_⟩, by omega⟩
          rw [hd]
          unfold cmpOr
          rw [if_pos (cmpI_zero.2 he)]
        · rw [show (a[i] != b[i]) = true by simp [he], cond_true]
          have hn : cmpI a[i] b[i] ≠ 0 := fun h => he (cmpI_zero.1 h)
          have hd2 : cmpL a b = cmpI a[i] b[i] := by rw [hd]; unfold cmpOr; rw [if_neg hn]
          by_cases hlt : a[i] < b[i]
          · rw [decide_eq_true hlt, cond_true]
            refine tot_some ?_
            show (-1 : Int) = _
            rw [hd2]; unfold cmpI; rw [if_pos hlt]
          · rw [decide_eq_false hlt, cond_false]
            refine tot_some ?_
            show (1 : Int) = _
            rw [hd2]; unfold cmpI; rw [if_neg hlt, if_pos (by omega)]
      · have eb : decide ((i : Int) < goLen b) = false := decide_eq_false (by simp only [goLen]; omega)
        simp only [spec_l1Less_l1, ea, eb, cond_true, cond_false, Option.bind_some]
        exact tot_some (fin (.inr (by omega)))
    · have ea : decide ((i : Int) < goLen a) = false := decide_eq_false (by simp only [goLen]; omega)
      simp only [spec_l1Less_l1, ea, cond_false, Option.bind_some]
      exact tot_some (fin (.inl (by omega)))
  obtain ⟨o, eo, ho⟩ := h
  unfold spec_l1Less
  rw [eo]
  cases o with
  | inl _ =>
    simp only at ho
    simp only [Option.bind_some, goLen]
    rw [wid (by omega) (by omega), ho]
    unfold spec_l1Sign cmpI
    by_cases h1 : (a.length : Int) < b.length
    · rw [if_pos h1, decide_eq_true (by omega)]; rfl
    · rw [if_neg h1, decide_eq_false (by omega)]
      by_cases h2 : (b.length : Int) < a.length
      · rw [if_pos h2, decide_eq_true (by omega)]; rfl
      · rw [if_neg h2, decide_eq_false (by omega)]; rfl
  | inr v =>
    simp only at ho
    simp only [Option.bind_some, ho]

end Go.Gx.F
