/- Plain laws: what is taken off and what remains make up the whole. -/
import Derived.Test.YtdbgmkfniichdaaDPUse
import Derived.Test.YtdbgmkfniichdaaDPAcc
import Derived.Test.YtdbgmkfniichdaaDPPar
namespace Go.Gx.F
open Go.Gx
set_option linter.all false

theorem div_mul_back {a x : impl_Frac} (ha : Good a) (hx : Good x) (hx0 : 0 < x.Num) (h1 : (fdiv a x).2 = true) : fmul (fdiv a x).1 x = (a, true) := by
  have hne : x.Num ≠ 0 := by omega
  have hg := fdiv_good ha hx h1
  unfold fdiv at h1 hg ⊢
  rw [if_neg hne] at h1 hg ⊢
  have hd : a.Den * x.Num ≠ 0 := den_num_ne ha hne
  have e := mk_val hd h1
  generalize (mk (a.Num * x.Den) (a.Den * x.Num)).1 = r at e hg ⊢
  unfold fmul
  rw [mk_cross (n2 := a.Num) (d2 := a.Den) (Int.mul_pos (den_pos hg) (den_pos hx)) (den_pos ha) (by
    have h0 : x.Num ≠ 0 := hne
    grind), mk_self ha]

theorem sub_add_back {b x : impl_Frac} (hb : Good b) (hx : Good x) (h1 : (fsub b x).2 = true) : fadd (fsub b x).1 x = (b, true) := by
  have hg := fsub_good hb hx h1
  have hd : b.Den * x.Den ≠ 0 := den_mul_ne hb hx
  unfold fsub at h1 hg ⊢
  have e := mk_val hd h1
  generalize (mk (b.Num * x.Den - x.Num * b.Den) (b.Den * x.Den)).1 = r at e hg ⊢
  unfold fadd
  rw [mk_cross (n2 := b.Num) (d2 := b.Den) (Int.mul_pos (den_pos hg) (den_pos hx)) (den_pos hb) (by grind), mk_self hb]

theorem comp_none {r : impl_Loss} (hr : GoodL r) : comp ⟨⟨1, 1⟩, ⟨0, 1⟩⟩ r = (r, true) := by
  have e1 : fmul ⟨1, 1⟩ r.Ratio = (r.Ratio, true) := by
    unfold fmul
    simp only [Int.one_mul]
    exact mk_self hr.1
  have e2 : fadd ⟨0, 1⟩ r.Rho = (r.Rho, true) := by
    unfold fadd
    simp only [Int.zero_mul, Int.one_mul, Int.mul_one, Int.zero_add]
    exact mk_self hr.2.1
  unfold comp
  rw [e1, e2]
  simp

theorem div_ge {b x : impl_Frac} (hb : Good b) (hx : Good x) (hx0 : 0 < x.Num) (hw : cmp x b ≤ 0) (h : (fdiv b x).2 = true) : (fdiv b x).1.Den ≤ (fdiv b x).1.Num := by
  have hne : x.Num ≠ 0 := by omega
  have hg := fdiv_good hb hx h
  unfold fdiv at h hg ⊢
  rw [if_neg hne] at h hg ⊢
  have hd : b.Den * x.Num ≠ 0 := den_num_ne hb hne
  have e := mk_val hd h
  generalize (mk (b.Num * x.Den) (b.Den * x.Num)).1 = r at e hg ⊢
  rw [cmp_le] at hw
  have pd : 0 < b.Den * x.Num := Int.mul_pos (den_pos hb) hx0
  have pr := den_pos hg
  have h1 : (b.Den * x.Num) * r.Den ≤ (b.Num * x.Den) * r.Den := Int.mul_le_mul_of_nonneg_right (by rw [Int.mul_comm b.Den]; exact hw) (by omega)
  have h2 : r.Den * (b.Den * x.Num) ≤ r.Num * (b.Den * x.Num) := by rw [e, Int.mul_comm r.Den]; exact h1
  exact Int.le_of_mul_le_mul_right h2 pd

theorem sub_ge {b x : impl_Frac} (hb : Good b) (hx : Good x) (hw : cmp x b ≤ 0) (h : (fsub b x).2 = true) : 0 ≤ (fsub b x).1.Num := by
  have hg := fsub_good hb hx h
  have hd : b.Den * x.Den ≠ 0 := den_mul_ne hb hx
  unfold fsub at h hg ⊢
  have e := mk_val hd h
  generalize (mk (b.Num * x.Den - x.Num * b.Den) (b.Den * x.Den)).1 = r at e hg ⊢
  rw [cmp_le] at hw
  have pd : 0 < b.Den * x.Den := Int.mul_pos (den_pos hb) (den_pos hx)
  have pr := den_pos hg
  have h1 : 0 ≤ (b.Num * x.Den - x.Num * b.Den) * r.Den := Int.mul_nonneg (by omega) (by omega)
  rw [← e] at h1
  have h2 : 0 * (b.Den * x.Den) ≤ r.Num * (b.Den * x.Den) := by rw [Int.zero_mul]; exact h1
  exact Int.le_of_mul_le_mul_right h2 pd

/-- what remains -/
def remL (b x : impl_Loss) : impl_Loss × Bool :=
  if GoodL b ∧ GoodL x ∧ within b x = true ∧ (fdiv b.Ratio x.Ratio).2 = true ∧ (fsub b.Rho x.Rho).2 = true then (⟨(fdiv b.Ratio x.Ratio).1, (fsub b.Rho x.Rho).1⟩, true) else (⟨⟨0, 0⟩, ⟨0, 0⟩⟩, false)

theorem within_spec {b x : impl_Loss} (h : within b x = true) : cmp x.Ratio b.Ratio ≤ 0 ∧ cmp x.Rho b.Rho ≤ 0 := by
  unfold within at h
  simpa using h
