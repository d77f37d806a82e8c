/- Plain laws: lines of data, read and written. -/
import Derived.Test.YtebjhiflnemkhaaGreatDoorDPDat1
import Derived.Test.YtebjhiflnemkhaaGreatDoorDPSpl
namespace Go.Gx.F
open Go.Gx
set_option linter.all false

/-! where a byte first comes -/
theorem firstC (c : UInt8) : ∀ s : List UInt8, c ∉ s ∨ ∃ a r, s = a ++ c :: r ∧ c ∉ a
  | [] => .inl (by simp)
  | x :: s => by
    by_cases h : x = c
    · exact .inr ⟨[], s, by rw [h]; rfl, by simp⟩
    · rcases firstC c s with h1 | ⟨a, r, h1, h2⟩
      · exact .inl (by simp; exact ⟨fun e => h e.symm, h1⟩)
      · exact .inr ⟨x :: a, r, by rw [h1]; rfl, by simp; exact ⟨fun e => h e.symm, h2⟩⟩

theorem first_one {c : UInt8} : ∀ {a a' r r' : List UInt8}, a ++ c :: r = a' ++ c :: r' → c ∉ a → c ∉ a' → a = a' ∧ r = r'
  | [], [], r, r', h, _, _ => by simpa using h
  | [], y :: a', r, r', h, _, h2 => by
    simp at h
    exact absurd (h.1 ▸ List.mem_cons_self) h2
  | x :: a, [], r, r', h, h1, _ => by
    simp at h
    exact absurd (h.1 ▸ List.mem_cons_self) h1
  | x :: a, y :: a', r, r', h, h1, h2 => by
    simp at h
    obtain ⟨e1, e2⟩ := first_one h.2 (fun hc => h1 (List.mem_cons_of_mem _ hc)) (fun hc => h2 (List.mem_cons_of_mem _ hc))
    exact ⟨by rw [h.1, e1], e2⟩

theorem idxB_at {c : UInt8} : ∀ {a r : List UInt8}, c ∉ a → idxB c (a ++ c :: r) = (a.length : Int)
  | [], r, _ => by simp [idxB]
  | x :: a, r, h => by
    have hx : (x == c) = false := by rw [beq_eq_false_iff_ne]; exact fun e => h (e ▸ List.mem_cons_self)
    have ih := idxB_at (r := r) (fun hc => h (List.mem_cons_of_mem x hc))
    simp only [List.cons_append, idxB, hx]
    rw [ih]
    simp

theorem idxB_none {c : UInt8} : ∀ {s : List UInt8}, c ∉ s → idxB c s = -1
  | [], _ => rfl
  | x :: s, h => by
    have hx : (x == c) = false := by rw [beq_eq_false_iff_ne]; exact fun e => h (e ▸ List.mem_cons_self)
    simp [idxB, hx, idxB_none (fun hc => h (List.mem_cons_of_mem x hc))]

theorem splitN_none {c : UInt8} {k : Nat} {s : List UInt8} (h : c ∉ s) : splitBN c k s = [s] := by
  cases k with
  | zero => rfl
  | succ k => simp only [splitBN]; rw [idxB_none h]; rfl

theorem splitN_at {c : UInt8} {k : Nat} {a r : List UInt8} (h : c ∉ a) : splitBN c (k + 1) (a ++ c :: r) = a :: splitBN c k r := by
  simp only [splitBN]
  rw [idxB_at h, if_neg (by omega), Int.toNat_natCast, List.take_left, ← List.drop_drop, List.drop_left]
  rfl

theorem cutYes {b : UInt8} {a r : List UInt8} (h : b ∉ a) (hl : a.length + r.length ≤ 1000000) : strings_Cut (a ++ b :: r) [b] = some (a, r, true) := by
  have hidx : ∀ {a r : List UInt8}, b ∉ a → Go.Lib.index (a ++ b :: r) [b] = (a.length : Int) := by
    intro a
    induction a with
    | nil => intro r _; unfold Go.Lib.index; simp [List.isPrefixOf]
    | cons x a ih =>
      intro r h
      have hx : (b == x) = false := by rw [beq_eq_false_iff_ne]; exact fun hc => h (by rw [hc]; exact List.mem_cons_self)
      have ih := ih (r := r) (fun hc => h (List.mem_cons_of_mem _ hc))
      rw [List.cons_append]
      unfold Go.Lib.index
      rw [ih]
      simp only [List.isPrefixOf, hx, Bool.false_and, Bool.false_eq_true, if_false]
      rw [if_neg (by rw [beq_iff_eq]; omega), List.length_cons]
      omega
  unfold strings_Cut
  rw [decide_eq_true (by simp; omega), cond_true]
  unfold Go.Lib.cut
  rw [hidx h, if_pos (by omega), Int.toNat_natCast, List.take_left]
  congr 3
  rw [← List.drop_drop, List.drop_left]
  rfl

theorem cutNo {b : UInt8} {t : List UInt8} (h : b ∉ t) (hl : t.length ≤ 1000000) : strings_Cut t [b] = some (t, [], false) := by
  have hidx : ∀ {t : List UInt8}, b ∉ t → Go.Lib.index t [b] = -1 := by
    intro t
    induction t with
    | nil => intro _; unfold Go.Lib.index; simp [List.isPrefixOf]
    | cons x t ih =>
      intro h
      have hx : (b == x) = false := by rw [beq_eq_false_iff_ne]; exact fun hc => h (by rw [hc]; exact List.mem_cons_self)
      have ih := ih (fun hc => h (List.mem_cons_of_mem _ hc))
      unfold Go.Lib.index
      rw [ih]
      simp [List.isPrefixOf, hx]
  unfold strings_Cut
  rw [decide_eq_true (by omega), cond_true]
  unfold Go.Lib.cut
  rw [hidx h, if_neg (by omega)]

/-! numbers -/
theorem dd_len {u : Nat} (h : u < 1000) : 1 ≤ (Go.Lib.decDigits u).length ∧ (Go.Lib.decDigits u).length ≤ 3 := by
  by_cases h1 : u < 10
  · rw [num_small h1]; simp
  · rw [num_big h1]
    by_cases h2 : u / 10 < 10
    · rw [num_small h2]; simp
    · rw [num_big h2, num_small (by omega)]; simp

theorem dd_digits (u : Nat) : ∀ b ∈ Go.Lib.decDigits u, 48 ≤ b.toNat ∧ b.toNat ≤ 57 := by
  induction u using Nat.strongRecOn with
  | _ u ih =>
    intro b hb
    by_cases h : u < 10
    · rw [num_small h] at hb
      obtain rfl := List.mem_singleton.1 hb
      rw [dig_nat h]; omega
    · rw [num_big h] at hb
      rcases List.mem_append.1 hb with hb | hb
      · exact ih (u / 10) (by omega) b hb
      · obtain rfl := List.mem_singleton.1 hb
        rw [dig_nat (by omega)]; omega

theorem dd_no {u : Nat} {b : UInt8} (h : b.toNat < 48) : b ∉ Go.Lib.decDigits u := fun hb => by have := dd_digits u b hb; omega

theorem u8_of {b : UInt8} (h : 48 ≤ b.toNat) : UInt8.ofNat (48 + (b.toNat - 48)) = b := by
  rw [show 48 + (b.toNat - 48) = b.toNat by omega]
  simp

theorem readNat_back {x : List UInt8} {most : Int} (hx : x.length ≤ 1000000) (h0 : 0 ≤ most ∧ most ≤ 1000000000) : ∃ n r b, impl_readNatural x most = some (n, r, b) ∧ (b = true → r = [] → ∃ u : Nat, n = (u : Int) ∧ (u : Int) ≤ most ∧ x = Go.Lib.decDigits u) := by
  unfold impl_readNatural
  have h : Tot (loopC (impl_readNatural_l1 x most) (0, 0)) (fun o => match o with | .inl (n, i) => ∃ k u : Nat, i = (k : Int) ∧ n = (u : Int) ∧ (u : Int) ≤ most ∧ k ≤ x.length ∧ (0 < k → x.take k = Go.Lib.decDigits u) | .inr o => o.2.2 = false) := by
    refine tot_loop (fun t => ∃ k u : Nat, t.2 = (k : Int) ∧ t.1 = (u : Int) ∧ (u : Int) ≤ most ∧ k ≤ x.length ∧ (k = 0 → u = 0) ∧ (0 < k → x.take k = Go.Lib.decDigits u)) (fun t => x.length - t.2.toNat) ⟨0, 0, rfl, rfl, by omega, by omega, fun _ => rfl, fun h => by omega⟩ ?_
    rintro ⟨n, i⟩ ⟨k, u, rfl, rfl, hu, hk, hz0, hd⟩
    simp only [impl_readNatural_l1]
    by_cases hlt : k < x.length
    · have hb : x[k]? = some x[k] := by simp [hlt]
      generalize x[k] = b at hb
      have hb8 := UInt8.toNat_lt b
      rw [decide_eq_true (by simp only [goLen]; omega)]
      simp only [cond_true, strAt_k hb, Option.bind_some]
      by_cases h1 : (48 : Int) ≤ (b.toNat : Int)
      · rw [decide_eq_true h1]
        simp only [cond_true, Option.bind_some]
        by_cases h2 : (b.toNat : Int) ≤ 57
        · rw [decide_eq_true h2]
          simp only [cond_true]
          have hz : ((cond (decide (0 < (k : Int))) (some ((u : Int) == 0)) (some false)) : Option Bool) = some (decide (0 < k ∧ u = 0)) := by
            by_cases h4 : 0 < k
            · rw [decide_eq_true (by omega), cond_true]
              congr 1
              by_cases h5 : u = 0
              · subst h5; simp [h4]
              · rw [decide_eq_false (by omega), beq_eq_false_iff_ne]; omega
            · rw [decide_eq_false (by omega), cond_false, decide_eq_false (by omega)]
          rw [hz]
          simp only [Option.bind_some]
          by_cases h6 : 0 < k ∧ u = 0
          · rw [decide_eq_true h6]; exact tot_some rfl
          · rw [decide_eq_false h6, u8dig (by omega) (by omega), wid (n := (u : Int) * 10) (by omega) (by omega), wid (n := (u : Int) * 10 + ((b.toNat - 48 : Nat) : Int)) (by omega) (by omega), cond_false]
            by_cases h3 : most < (u : Int) * 10 + ((b.toNat - 48 : Nat) : Int)
            · rw [decide_eq_true h3]; exact tot_some rfl
            · rw [decide_eq_false h3, cond_false, wid (n := (k : Int) + 1) (by omega) (by omega)]
              refine tot_some ⟨⟨k + 1, u * 10 + (b.toNat - 48), by simp only; omega, by simp only; omega, by omega, by omega, fun h => by omega, fun _ => ?_⟩, by simp only; omega⟩
              rw [List.take_succ, hb]
              show x.take k ++ [b] = _
              by_cases h4 : 0 < k
              · have hu0 : u ≠ 0 := fun e => h6 ⟨h4, e⟩
                rw [hd h4, num_big (u := u * 10 + (b.toNat - 48)) (by omega), show (u * 10 + (b.toNat - 48)) / 10 = u by omega, show (u * 10 + (b.toNat - 48)) % 10 = b.toNat - 48 by omega, u8_of (by omega)]
              · have hk0 : k = 0 := by omega
                have hu0 := hz0 hk0
                subst hk0 hu0
                rw [num_small (by omega), Nat.zero_mul, Nat.zero_add, u8_of (by omega)]
                rfl
        · rw [decide_eq_false h2]
          exact tot_some ⟨k, u, rfl, rfl, hu, hk, hd⟩
      · rw [decide_eq_false h1]
        exact tot_some ⟨k, u, rfl, rfl, hu, hk, hd⟩
    · rw [decide_eq_false (by simp only [goLen]; omega)]
      exact tot_some ⟨k, u, rfl, rfl, hu, hk, hd⟩
  obtain ⟨o, e, ho⟩ := h
  rw [e]
  cases o with
  | inr o => exact ⟨o.1, o.2.1, o.2.2, rfl, fun hb => by simp only at ho; rw [ho] at hb; cases hb⟩
  | inl o =>
    obtain ⟨n, i⟩ := o
    obtain ⟨k, u, rfl, rfl, q1, q2, q3⟩ := ho
    simp only [Option.bind_some]
    by_cases hk : k = 0
    · subst hk
      exact ⟨0, [], false, rfl, fun hb => by cases hb⟩
    · rw [show ((k : Int) == 0) = false by rw [beq_eq_false_iff_ne]; omega, cond_false]
      obtain ⟨l, hl, hq⟩ : Tot (goSub x (k : Int) (goLen x)) (fun l => l = x.drop k) := tot_sub (by omega) (by simp only [goLen]; omega) (by simp only [goLen]; omega) (by
        simp only [goLen, Int.toNat_natCast]
        rw [List.take_of_length_le (by rw [List.length_drop]; omega)])
      rw [hl]
      refine ⟨(u : Int), l, true, rfl, fun _ hr => ⟨u, rfl, q1, ?_⟩⟩
      rw [hq, List.drop_eq_nil_iff] at hr
      have := q3 (by omega)
      rwa [List.take_of_length_le hr] at this

theorem whole_back {x : List UInt8} {most : Int} (hx : x.length ≤ 1000000) (h0 : 0 ≤ most ∧ most ≤ 1000000000) : ∃ n b, impl_wholeNatural x most = some (n, b) ∧ (b = true → ∃ u : Nat, n = (u : Int) ∧ (u : Int) ≤ most ∧ x = Go.Lib.decDigits u) := by
  obtain ⟨n, r, b, e, hb⟩ := readNat_back hx h0
  unfold impl_wholeNatural
  rw [e]
  simp only [Option.bind_some]
  cases b with
  | false => exact ⟨0, false, rfl, fun h => by cases h⟩
  | true =>
    simp only [Bool.not_true, cond_false]
    cases hr : (r != []) with
    | true => exact ⟨0, false, rfl, fun h => by cases h⟩
    | false =>
      have hr' : r = [] := by simpa using hr
      exact ⟨n, true, rfl, fun _ => hb rfl hr'⟩

theorem whole_of {u : Nat} {most : Int} (h : (u : Int) ≤ most) (h0 : most ≤ 1000000000) : impl_wholeNatural (Go.Lib.decDigits u) most = some ((u : Int), true) := by
  have := readNat_ok (u := u) (r := []) (most := most) h h0 (.inl rfl) (by simp)
  rw [List.append_nil] at this
  unfold impl_wholeNatural
  rw [this]
  rfl

theorem read_of {u : Nat} (hu : u < 1000) : spec_l1Read (Go.Lib.decDigits u) = some (u : Int) := by
  unfold spec_l1Read
  rw [lIn_eq]
  have hdl := dd_len hu
  have step : ∀ (x : List UInt8) (i d : Nat) (n : Nat), d < 10 → x[i]? = some (UInt8.ofNat (48 + d)) → n ≤ 1000 → i ≤ 1000 → spec_l1Read_l1 x ((n : Int), (i : Int)) = some (.next (((10 * n + d : Nat) : Int), ((i + 1 : Nat) : Int))) := by
    intro x i d n hd hx hn hi
    have hlt := (List.getElem?_eq_some_iff.1 hx).1
    simp only [spec_l1Read_l1]
    rw [decide_eq_true (by simp only [goLen]; omega), cond_true, strAt_k hx, dig_nat hd]
    simp only [Option.bind_some]
    rw [decide_eq_false (by omega), cond_false, decide_eq_false (by omega)]
    simp only [Option.bind_some, cond_false]
    have := u8dig (b := UInt8.ofNat (48 + d)) (by rw [dig_nat hd]; omega) (by rw [dig_nat hd]; omega)
    rw [dig_nat hd] at this
    rw [this, wid (n := 10 * (n : Int)) (by omega) (by omega), wid (by omega) (by omega), wid (by omega) (by omega)]
    congr 3 <;> omega
  rw [decide_eq_true (show 1 ≤ goLen (Go.Lib.decDigits u) ∧ goLen (Go.Lib.decDigits u) ≤ 6 by simp only [goLen]; omega)]
  simp only [Option.bind_some, Bool.not_true, cond_false]
  by_cases h : u < 10
  · rw [num_small h]
    simp only [goLen, List.length_singleton]
    rw [strAt0, Option.bind_some]
    have hz : ((cond ((((UInt8.ofNat (48 + u)).toNat : Int)) == 48) (some (decide ((1 : Int) < ((1 : Nat) : Int)))) (some false)) : Option Bool) = some false := by cases ((((UInt8.ofNat (48 + u)).toNat : Int)) == 48) <;> rfl
    rw [hz]
    simp only [Option.bind_some, cond_false]
    have := step [UInt8.ofNat (48 + u)] 0 u 0 h rfl (by omega) (by omega)
    rw [show (((0 : Nat) : Int)) = 0 from rfl] at this
    rw [loopC_nx this, loopC_eq]
    simp only [spec_l1Read_l1, goLen, List.length_singleton]
    rw [decide_eq_false (by omega)]
    simp
  · by_cases h2 : u / 10 < 10
    · rw [num_big h, num_small h2]
      simp only [List.cons_append, List.nil_append, goLen, List.length_cons, List.length_nil]
      rw [strAt0, Option.bind_some, dig_nat (by omega), show ((((48 + u / 10 : Nat)) : Int) == 48) = false by rw [beq_eq_false_iff_ne]; omega]
      simp only [cond_false, Option.bind_some]
      have s1 := step [UInt8.ofNat (48 + u / 10), UInt8.ofNat (48 + u % 10)] 0 (u / 10) 0 (by omega) rfl (by omega) (by omega)
      have s2 := step [UInt8.ofNat (48 + u / 10), UInt8.ofNat (48 + u % 10)] 1 (u % 10) (10 * 0 + u / 10) (by omega) rfl (by omega) (by omega)
      rw [show (((0 : Nat) : Int)) = 0 from rfl] at s1
      rw [loopC_nx s1]
      simp only [Nat.zero_add] at s2 ⊢
      rw [loopC_nx s2, loopC_eq]
      simp only [spec_l1Read_l1, goLen, List.length_cons, List.length_nil]
      rw [decide_eq_false (by omega)]
      simp only [cond_false, Option.bind_some]
      congr 1; omega
    · rw [num_big h, num_big h2, num_small (by omega)]
      simp only [List.cons_append, List.nil_append, goLen, List.length_cons, List.length_nil]
      rw [strAt0, Option.bind_some, dig_nat (by omega), show ((((48 + u / 10 / 10 : Nat)) : Int) == 48) = false by rw [beq_eq_false_iff_ne]; omega]
      simp only [cond_false, Option.bind_some]
      have s1 := step [UInt8.ofNat (48 + u / 10 / 10), UInt8.ofNat (48 + u / 10 % 10), UInt8.ofNat (48 + u % 10)] 0 (u / 10 / 10) 0 (by omega) rfl (by omega) (by omega)
      have s2 := step [UInt8.ofNat (48 + u / 10 / 10), UInt8.ofNat (48 + u / 10 % 10), UInt8.ofNat (48 + u % 10)] 1 (u / 10 % 10) (10 * 0 + u / 10 / 10) (by omega) rfl (by omega) (by omega)
      have s3 := step [UInt8.ofNat (48 + u / 10 / 10), UInt8.ofNat (48 + u / 10 % 10), UInt8.ofNat (48 + u % 10)] 2 (u % 10) (10 * (10 * 0 + u / 10 / 10) + u / 10 % 10) (by omega) rfl (by omega) (by omega)
      rw [show (((0 : Nat) : Int)) = 0 from rfl] at s1
      rw [loopC_nx s1]
      simp only [Nat.zero_add] at s2 s3 ⊢
      rw [loopC_nx s2, loopC_nx s3, loopC_eq]
      simp only [spec_l1Read_l1, goLen, List.length_cons, List.length_nil]
      rw [decide_eq_false (by omega)]
      simp only [cond_false, Option.bind_some]
      congr 1; omega

end Go.Gx.F
