/- Plain laws: the value of a fraction. -/
import Derived.Test.YtdbgmkfniichdaaEPUse
import Derived.Test.YtdbgmkfniichdaaEPAcc
import Derived.Test.YtdbgmkfniichdaaEPSum
namespace Go.Gx.F
open Go.Gx
set_option linter.all false

def val (f : impl_Frac) : Rat := (f.Num : Rat) / (f.Den : Rat)

theorem den_q {f : impl_Frac} (h : Good f) : (f.Den : Rat) ≠ 0 := by
  have := den_pos h
  intro hc
  have : f.Den = 0 := by simpa using hc
  omega

theorem int_q {a b : Int} (h : a = b) : (a : Rat) = (b : Rat) := by rw [h]

theorem mul_ne_q {a b : Rat} (ha : a ≠ 0) (hb : b ≠ 0) : a * b ≠ 0 := by grind

theorem val_mk {n d : Int} (hd : d ≠ 0) (h : (mk n d).2 = true) : val (mk n d).1 = (n : Rat) / (d : Rat) := by
  have hg := mk_good hd h
  have e := int_q (mk_val hd h)
  rw [Rat.intCast_mul, Rat.intCast_mul] at e
  have h1 := den_q hg
  have h2 : (d : Rat) ≠ 0 := by simpa using hd
  unfold val
  grind

theorem val_mul {a b : impl_Frac} (ha : Good a) (hb : Good b) (h : (fmul a b).2 = true) : val (fmul a b).1 = val a * val b := by
  have e := val_mk (den_mul_ne ha hb) h
  have h1 := den_q ha; have h2 := den_q hb
  unfold fmul
  rw [e, Rat.intCast_mul, Rat.intCast_mul]
  unfold val
  grind

theorem val_add {a b : impl_Frac} (ha : Good a) (hb : Good b) (h : (fadd a b).2 = true) : val (fadd a b).1 = val a + val b := by
  have e := val_mk (den_mul_ne ha hb) h
  have h1 := den_q ha; have h2 := den_q hb
  unfold fadd
  rw [e, Rat.intCast_add, Rat.intCast_mul, Rat.intCast_mul, Rat.intCast_mul]
  unfold val
  grind

theorem num_q {f : impl_Frac} (hf : Good f) (h : f.Num ≠ 0) : val f ≠ 0 := by
  have h1 := den_q hf
  have h2 : (f.Num : Rat) ≠ 0 := by simpa using h
  unfold val
  grind

theorem div_num {a b : impl_Frac} (h : (fdiv a b).2 = true) : b.Num ≠ 0 := by
  intro hc
  unfold fdiv at h
  rw [if_pos hc] at h
  cases h

theorem val_div {a b : impl_Frac} (ha : Good a) (hb : Good b) (h : (fdiv a b).2 = true) : val (fdiv a b).1 = val a / val b := by
  have hn := div_num h
  unfold fdiv at h ⊢
  rw [if_neg hn] at h ⊢
  have e := val_mk (den_num_ne ha hn) h
  have h1 := den_q ha; have h2 := den_q hb
  have h3 : (b.Num : Rat) ≠ 0 := by simpa using hn
  rw [e, Rat.intCast_mul, Rat.intCast_mul]
  unfold val
  grind

theorem val_one : val ⟨1, 1⟩ = 1 := by unfold val; grind

theorem val_zero : val ⟨0, 1⟩ = 0 := by unfold val; grind

theorem val_pw {f : impl_Frac} (hf : Good f) : ∀ (n : Nat) (p : impl_Frac), Good p → (pwI f p n).2 = true → val (pwI f p n).1 = val p * val f ^ n
  | 0, p, _, _ => by simp only [pwI]; grind
  | n + 1, p, hp, h => by
    simp only [pwI] at h ⊢
    split at h
    · rename_i hc
      rw [if_pos hc, val_pw hf n _ (fmul_good hp hf hc) h, val_mul hp hf hc]
      grind
    · cases h

theorem cmp_of_val {a b : impl_Frac} (ha : Good a) (hb : Good b) (h : val a ≤ val b) : cmp a b ≤ 0 := by
  rw [cmp_le]
  have h1 := den_q ha; have h2 := den_q hb
  have hp : (0 : Rat) ≤ (a.Den : Rat) * (b.Den : Rat) := by
    rw [← Rat.intCast_mul]
    have : (0 : Int) ≤ a.Den * b.Den := Int.le_of_lt (Int.mul_pos (den_pos ha) (den_pos hb))
    exact_mod_cast this
  have h3 := Rat.mul_le_mul_of_nonneg_right h hp
  have e1 : val a * ((a.Den : Rat) * (b.Den : Rat)) = ((a.Num * b.Den : Int) : Rat) := by rw [Rat.intCast_mul]; unfold val; grind
  have e2 : val b * ((a.Den : Rat) * (b.Den : Rat)) = ((b.Num * a.Den : Int) : Rat) := by rw [Rat.intCast_mul]; unfold val; grind
  rw [e1, e2, Rat.intCast_le_intCast] at h3
  exact h3

theorem cmp_anti' {a b : impl_Frac} (ha : Good a) (hb : Good b) (h1 : cmp a b ≤ 0) (h2 : cmp b a ≤ 0) : a = b := by
  rw [cmp_le] at h1 h2
  have e : a.Num * b.Den = b.Num * a.Den := by omega
  have h := mk_cross (n1 := a.Num) (d1 := a.Den) (n2 := b.Num) (d2 := b.Den) (den_pos ha) (den_pos hb) e
  rw [mk_self ha, mk_self hb] at h
  simpa using h

theorem val_inj {a b : impl_Frac} (ha : Good a) (hb : Good b) (h : val a = val b) : a = b :=
  cmp_anti' ha hb (cmp_of_val ha hb (by rw [h]; exact Rat.le_refl)) (cmp_of_val hb ha (by rw [h]; exact Rat.le_refl))

/-- the values of a list, added up -/
def vsum : List impl_Frac → Rat
  | [] => 0
  | x :: l => val x + vsum l

theorem val_fsums : ∀ (l : List impl_Frac) (s t : impl_Frac), Good s → (∀ x ∈ l, Good x) → fsums l s = some t → val t = val s + vsum l
  | [], s, t, _, _, h => by simp only [fsums, Option.some.injEq] at h; subst h; simp only [vsum]; grind
  | x :: l, s, t, hs, hl, h => by
    simp only [fsums] at h
    split at h
    · rename_i hc
      have hx := hl x (by simp)
      rw [val_fsums l _ t (fadd_good hs hx hc) (fun y hy => hl y (by simp [hy])) h, val_add hs hx hc]
      simp only [vsum]
      grind
    · cases h
end Go.Gx.F
