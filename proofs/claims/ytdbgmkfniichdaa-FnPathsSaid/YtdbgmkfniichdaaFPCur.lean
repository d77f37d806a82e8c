/- Plain laws: what is drawn from bytes comes to an end. -/
import Derived.Test.YtdbgmkfniichdaaFPArith
namespace Go.Gx.F
open Go.Gx
set_option linter.all false

/-- a cursor with room for n more bytes -/
def CurOk (n : Nat) (c : spec_l1Cur) : Prop := (∀ x ∈ c.code, 0 ≤ x.v ∧ x.v ≤ 255) ∧ 0 ≤ c.at_ ∧ c.at_ + n ≤ 4611686018427387904

theorem CurOk.le {n m : Nat} {c : spec_l1Cur} (h : CurOk n c) (hm : m ≤ n) : CurOk m c := ⟨h.1, h.2.1, by have := h.2.2; omega⟩

theorem bits255 (t : Int) : 0 ≤ goBits .and .u64 t 255 ∧ goBits .and .u64 t 255 ≤ 255 := by
  have h : (BitVec.ofInt IntKind.u64.bits t &&& BitVec.ofInt IntKind.u64.bits 255).toNat ≤ 255 := by
    rw [BitVec.toNat_and]
    exact Nat.and_le_right
  have e : goBits .and .u64 t 255 = IntKind.wrap .u64 ((BitVec.ofInt IntKind.u64.bits t &&& BitVec.ofInt IntKind.u64.bits 255).toNat) := rfl
  rw [e, Go.IntWalk.u64_in _ ⟨by omega, by omega⟩]
  omega

theorem shr_some (k : IntKind) (x : Int) : ∃ t, goShr k x 40 = some t := ⟨_, rfl⟩

theorem next_ok {n : Nat} {c : spec_l1Cur} (h : CurOk (n + 1) c) : ∃ x c', spec_l1Cur_next c = some (x, c') ∧ 0 ≤ x ∧ x ≤ 255 ∧ CurOk n c' := by
  obtain ⟨h2, h3, h4⟩ := h
  have wat : w64 (c.at_ + 1) = c.at_ + 1 := w64_in (by omega) (by omega)
  obtain ⟨b, hb, b0, b1⟩ : ∃ b : Int, (cond (decide (c.at_ < goLen c.code)) ((goAt c.code c.at_).bind fun e => some (w64 e.v)) (some 0) : Option Int) = some b ∧ 0 ≤ b ∧ b ≤ 255 := by
    by_cases hc : c.at_ < goLen c.code
    · obtain ⟨k, hk⟩ := Int.eq_ofNat_of_zero_le h3
      have hlt : k < c.code.length := by simp only [goLen] at hc; omega
      have hx : c.code[k]? = some c.code[k] := by simp [hlt]
      have hv := h2 _ (List.mem_of_getElem? hx)
      refine ⟨c.code[k].v, ?_, hv.1, hv.2⟩
      rw [decide_eq_true hc, hk, at_ok hx]
      simp only [cond_true, Option.bind_some]
      rw [w64_in (by omega) (by omega)]
    · exact ⟨0, by rw [decide_eq_false hc]; rfl, by omega, by omega⟩
  unfold spec_l1Cur_next
  rw [hb]
  simp only [Option.bind_some, wat]
  by_cases hc : c.at_ + 1 ≤ goLen c.code
  · rw [decide_eq_true hc]
    exact ⟨_, _, rfl, b0, b1, ⟨h2, by simp only; omega, by simp only; omega⟩⟩
  · rw [decide_eq_false hc]
    simp only [cond_false]
    obtain ⟨t, ht⟩ := shr_some .u64 (IntKind.wrap .u64 ((IntKind.wrap .u64 ((IntKind.wrap .u64 (c.seed.v * 6364136223846793005)) + (IntKind.wrap .u64 b))) + 1442695040888963407))
    rw [ht]
    have hbits := bits255 t
    refine ⟨_, _, rfl, ?_, ?_, ⟨h2, by simp only; omega, by simp only; omega⟩⟩
    · rw [w64_in (by omega) (by omega)]; omega
    · rw [w64_in (by omega) (by omega)]; omega

theorem pick_ok {n : Nat} {c : spec_l1Cur} (h : CurOk (n + 2) c) (k : Int) (hk : k ≤ 1000000000) : ∃ x c', spec_l1Cur_pick c k = some (x, c') ∧ 0 ≤ x ∧ (1 ≤ k → x < k) ∧ (k ≤ 1 → x = 0) ∧ CurOk n c' := by
  unfold spec_l1Cur_pick
  by_cases h1 : k ≤ 1
  · rw [decide_eq_true h1]
    exact ⟨0, c, rfl, by omega, by omega, fun _ => rfl, h.le (by omega)⟩
  · rw [decide_eq_false h1]
    obtain ⟨x, c1, e1, x0, x1, k1⟩ := next_ok (n := n + 1) h
    simp only [cond_false, e1, Option.bind_some]
    have fin : ∀ (y : Int), 0 ≤ y → goRem y k = some (y.tmod k) ∧ 0 ≤ y.tmod k ∧ y.tmod k < k := fun y hy => ⟨goRem_ok (by omega), Int.tmod_nonneg _ hy, Int.tmod_lt_of_pos _ (by omega)⟩
    by_cases h2 : 200 < k
    · obtain ⟨y, c2, e2, y0, y1, k2⟩ := next_ok (n := n) k1
      rw [decide_eq_true h2]
      simp only [cond_true, e2, Option.bind_some]
      have w1 : w64 (x * 256) = x * 256 := w64_in (by omega) (by omega)
      have w2 : w64 (x * 256 + y) = x * 256 + y := w64_in (by omega) (by omega)
      obtain ⟨f1, f2, f3⟩ := fin (x * 256 + y) (by omega)
      rw [w1, w2, f1]
      exact ⟨_, c2, rfl, f2, fun _ => f3, by omega, k2⟩
    · rw [decide_eq_false h2]
      simp only [cond_false, Option.bind_some]
      obtain ⟨f1, f2, f3⟩ := fin x x0
      rw [f1]
      exact ⟨_, c1, rfl, f2, fun _ => f3, by omega, k1.le (by omega)⟩

theorem among_ok {n : Nat} {c : spec_l1Cur} (h : CurOk (n + 2) c) (l : List Int) (h1 : 1 ≤ l.length) (h2 : l.length ≤ 1000000000) : ∃ x c', spec_l1Cur_among c l = some (x, c') ∧ x ∈ l ∧ CurOk n c' := by
  obtain ⟨x, c1, e1, x0, x1, _, k1⟩ := pick_ok h (goLen l) (by simp [goLen]; omega)
  have hx := x1 (by simp [goLen]; omega)
  obtain ⟨k, rfl⟩ := Int.eq_ofNat_of_zero_le x0
  have hlt : k < l.length := by simp only [goLen] at hx; omega
  have hg : l[k]? = some l[k] := by simp [hlt]
  exact ⟨l[k], c1, by simp [spec_l1Cur_among, e1, at_ok hg], List.getElem_mem hlt, k1⟩

theorem w64_small {n : Int} (h1 : -1000000000000 ≤ n) (h2 : n ≤ 1000000000000) : w64 n = n := w64_in (by omega) (by omega)

/-- the cursor at its start -/
theorem cur_start {code : List (K .u8)} (ho : ∀ x ∈ code, Rng.ok x) : CurOk 1000000 ⟨code, 0, ⟨0⟩⟩ := by
  refine ⟨fun x hx => ?_, by simp, by simp⟩
  have h : (Lit.int .u8 x.v).wf = true := ho x hx
  simp only [Lit.wf, Bool.and_eq_true, decide_eq_true_eq] at h
  exact h

end Go.Gx.F
