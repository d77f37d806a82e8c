/- Plain laws: numbers as texts, and read back. -/
import Derived.Test.YtebjhiflnemkhaaGreatDoorDPDr
namespace Go.Gx.F
open Go.Gx
set_option linter.all false

theorem itoa_ok {n : Int} (h1 : -9223372036854775808 ≤ n) (h2 : n ≤ 9223372036854775807) : strconv_Itoa n = some (Go.Lib.itoa n) := by
  unfold strconv_Itoa
  rw [decide_eq_true ⟨h1, h2⟩, cond_true]

theorem strAt_mid (a r : List UInt8) (b : UInt8) : goStrAt (a ++ b :: r) (a.length : Int) = some (b.toNat : Int) := by
  unfold goStrAt
  rw [decide_eq_true (by omega), cond_true, Int.toNat_natCast, List.getElem?_append_right (Nat.le_refl _), Nat.sub_self]
  rfl

theorem digs_small {u : Nat} (h : u < 10) : Go.Lib.decDigits u = [UInt8.ofNat (48 + u)] := by rw [Go.Lib.decDigits, dif_pos h]
theorem digs_big {u : Nat} (h : ¬ u < 10) : Go.Lib.decDigits u = Go.Lib.decDigits (u / 10) ++ [UInt8.ofNat (48 + u % 10)] := by rw [Go.Lib.decDigits, dif_neg h]

theorem digs_len (u : Nat) : (Go.Lib.decDigits u).length ≤ u + 1 := by
  induction u using Nat.strongRecOn with
  | _ u ih =>
    by_cases h : u < 10
    · rw [digs_small h]; simp
    · rw [digs_big h, List.length_append, List.length_singleton]
      have := ih (u / 10) (by omega)
      omega

theorem dig_nat {d : Nat} (h : d < 10) : (UInt8.ofNat (48 + d)).toNat = 48 + d := by
  rw [UInt8.toNat_ofNat']
  omega

/-- the first of the digits -/
theorem digs_head (u : Nat) : ∃ (b : UInt8) (r : List UInt8), Go.Lib.decDigits u = b :: r ∧ 48 ≤ b.toNat ∧ b.toNat ≤ 57 := by
  induction u using Nat.strongRecOn with
  | _ u ih =>
    by_cases h : u < 10
    · rw [digs_small h]
      exact ⟨_, [], rfl, by rw [dig_nat h]; omega, by rw [dig_nat h]; omega⟩
    · obtain ⟨b, r, e, h1, h2⟩ := ih (u / 10) (by omega)
      rw [digs_big h, e]
      exact ⟨b, r ++ [UInt8.ofNat (48 + u % 10)], by simp, h1, h2⟩

theorem u8_dig {d : Nat} (h : d < 10) : w64 (IntKind.wrap .u8 (((48 + d : Nat) : Int) - 48)) = (d : Int) := by
  rw [show (((48 + d : Nat) : Int) - 48) = (d : Int) by omega, Go.IntWalk.u8_in _ ⟨by omega, by omega⟩, wid (by omega) (by omega)]

/-- one digit more -/
theorem rn_digit {a r : List UInt8} {d m : Nat} {most : Int} (hd : d < 10) (ha : a.length ≤ 2000000000) (hm : a.length = 0 ∨ m ≠ 0) (hm0 : a.length = 0 → m = 0) (hle : ((m * 10 + d : Nat) : Int) ≤ most) (hmo : most ≤ 1000000000) :
    impl_readNatural_l1 (a ++ UInt8.ofNat (48 + d) :: r) most ((m : Int), (a.length : Int)) = some (.next (((m * 10 + d : Nat) : Int), ((a.length + 1 : Nat) : Int))) := by
  have hs := strAt_mid a r (UInt8.ofNat (48 + d))
  rw [dig_nat hd] at hs
  have hlt : decide ((a.length : Int) < goLen (a ++ UInt8.ofNat (48 + d) :: r)) = true := by simp [goLen]; omega
  simp only [impl_readNatural_l1, hlt, cond_true, hs, Option.bind_some]
  rw [decide_eq_true (show (48 : Int) ≤ ((48 + d : Nat) : Int) by omega), cond_true, decide_eq_true (show ((48 + d : Nat) : Int) ≤ 57 by omega), Option.bind_some, cond_true]
  have h6 : ((cond (decide (0 < (a.length : Int))) (some ((m : Int) == 0)) (some false)) : Option Bool) = some false := by
    by_cases h : a.length = 0
    · rw [decide_eq_false (by omega)]; rfl
    · rw [decide_eq_true (by omega), cond_true]
      have : m ≠ 0 := hm.resolve_left h
      have : ((m : Int) == 0) = false := by simp; omega
      rw [this]
  rw [h6, Option.bind_some, cond_false, u8_dig hd, wid (n := (m : Int) * 10) (by omega) (by omega), wid (n := (m : Int) * 10 + d) (by omega) (by omega)]
  rw [decide_eq_false (by omega), cond_false, wid (by omega) (by omega)]
  congr 4 <;> omega

theorem rn_step {most : Int} (hmo : most ≤ 1000000000) (u : Nat) : ∀ (r : List UInt8), (u : Int) ≤ most →
    loopC (impl_readNatural_l1 (Go.Lib.decDigits u ++ r) most) (0, 0) = loopC (impl_readNatural_l1 (Go.Lib.decDigits u ++ r) most) ((u : Int), ((Go.Lib.decDigits u).length : Int)) := by
  induction u using Nat.strongRecOn with
  | _ u ih =>
    intro r hu
    by_cases h : u < 10
    · rw [digs_small h]
      have := rn_digit (a := []) (r := r) (d := u) (m := 0) (most := most) h (by simp) (.inl rfl) (fun _ => rfl) (by simpa using hu) hmo
      simp only [List.nil_append, List.length_nil, Nat.zero_mul, Nat.zero_add] at this
      rw [loopC_eq]
      simp only [List.singleton_append, List.length_singleton]
      rw [show ((0 : Int), (0 : Int)) = (((0 : Nat) : Int), ((0 : Nat) : Int)) from rfl, this]
    · rw [digs_big h, List.append_assoc, List.singleton_append, ih (u / 10) (by omega) (UInt8.ofNat (48 + u % 10) :: r) (by omega)]
      have hl := digs_len (u / 10)
      have hpos : 1 ≤ (Go.Lib.decDigits (u / 10)).length := by
        obtain ⟨b, q, e, _⟩ := digs_head (u / 10)
        rw [e]; simp
      have := rn_digit (a := Go.Lib.decDigits (u / 10)) (r := r) (d := u % 10) (m := u / 10) (most := most) (by omega) (by omega) (.inr (by omega)) (fun h0 => by omega) (by rw [show u / 10 * 10 + u % 10 = u by omega]; exact hu) hmo
      rw [loopC_eq, this]
      simp only [List.length_append, List.length_singleton]
      rw [show u / 10 * 10 + u % 10 = u by omega]

/-- no digit comes next -/
def Stops (r : List UInt8) : Prop := r = [] ∨ ∃ (b : UInt8) (q : List UInt8), r = b :: q ∧ (b.toNat < 48 ∨ 57 < b.toNat)

theorem rn_stop {a r : List UInt8} {most n : Int} (h : Stops r) : impl_readNatural_l1 (a ++ r) most (n, (a.length : Int)) = some (.done (.inl (n, (a.length : Int)))) := by
  rcases h with rfl | ⟨b, q, rfl, hb⟩
  · simp only [impl_readNatural_l1, List.append_nil]
    rw [decide_eq_false (by simp [goLen])]
    rfl
  · have hs := strAt_mid a q b
    have hlt : decide ((a.length : Int) < goLen (a ++ b :: q)) = true := by simp [goLen]; omega
    simp only [impl_readNatural_l1, hlt, cond_true, hs, Option.bind_some]
    by_cases h1 : b.toNat < 48
    · rw [decide_eq_false (show ¬ (48 : Int) ≤ (b.toNat : Int) by omega)]; rfl
    · rw [decide_eq_true (show (48 : Int) ≤ (b.toNat : Int) by omega), cond_true, decide_eq_false (show ¬ (b.toNat : Int) ≤ 57 by omega)]; rfl

theorem readNat_ok {u : Nat} {r : List UInt8} {most : Int} (hu : (u : Int) ≤ most) (hmo : most ≤ 1000000000) (hr : Stops r) (hl : r.length ≤ 1000000) : impl_readNatural (Go.Lib.decDigits u ++ r) most = some ((u : Int), r, true) := by
  unfold impl_readNatural
  have hlen := digs_len u
  have hpos : 1 ≤ (Go.Lib.decDigits u).length := by
    obtain ⟨b, q, e, _⟩ := digs_head u
    rw [e]; simp
  rw [rn_step hmo u r hu, loopC_eq, rn_stop hr]
  simp only [Option.bind_some]
  rw [show (((Go.Lib.decDigits u).length : Int) == 0) = false by rw [beq_eq_false_iff_ne]; omega, cond_false]
  have hsub : goSub (Go.Lib.decDigits u ++ r) ((Go.Lib.decDigits u).length : Int) (goLen (Go.Lib.decDigits u ++ r)) = some r := by
    refine tot_eq (tot_sub (by omega) (by simp only [goLen, List.length_append]; omega) (by simp only [goLen]; omega) ?_)
    simp only [goLen, Int.toNat_natCast, List.drop_left]
    rw [List.take_of_length_le (by simp only [List.length_append]; omega)]
  rw [hsub]; rfl

theorem sub1 (b : UInt8) (r : List UInt8) : goSub (b :: r) 1 (goLen (b :: r)) = some r := by
  refine tot_eq (tot_sub (by omega) (by simp only [goLen, List.length_cons]; omega) (by simp only [goLen]; omega) ?_)
  rw [show (1 : Int).toNat = 1 from rfl, List.drop_succ_cons, List.drop_zero, List.take_of_length_le (by simp [goLen])]

theorem strAt0 (b : UInt8) (r : List UInt8) : goStrAt (b :: r) 0 = some (b.toNat : Int) := strAt_mid [] r b

end Go.Gx.F
