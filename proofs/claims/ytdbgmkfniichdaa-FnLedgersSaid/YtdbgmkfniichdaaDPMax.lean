/- Plain laws: the greatest of several losses. -/
import Derived.Test.YtdbgmkfniichdaaDPPar
import Derived.Test.YtdbgmkfniichdaaDPAcc
namespace Go.Gx.F
open Go.Gx
set_option linter.all false

/-! the greatest of several fractions -/
def fmax (s : impl_Frac) (L : List impl_Frac) : impl_Frac := L.foldl fgr s

theorem cmp_trans {a b c : impl_Frac} (ha : Good a) (hb : Good b) (hc : Good c) (h1 : cmp a b ≤ 0) (h2 : cmp b c ≤ 0) : cmp a c ≤ 0 := by
  rw [cmp_le] at h1 h2 ⊢
  have pa := den_pos ha; have pb := den_pos hb; have pc := den_pos hc
  have e1 : a.Num * b.Den * c.Den ≤ b.Num * a.Den * c.Den := Int.mul_le_mul_of_nonneg_right h1 (by omega)
  have e2 : b.Num * c.Den * a.Den ≤ c.Num * b.Den * a.Den := Int.mul_le_mul_of_nonneg_right h2 (by omega)
  have e3 : (a.Num * c.Den) * b.Den ≤ (c.Num * a.Den) * b.Den := by
    have q1 : a.Num * b.Den * c.Den = (a.Num * c.Den) * b.Den := by rw [Int.mul_assoc, Int.mul_comm b.Den, ← Int.mul_assoc]
    have q2 : b.Num * a.Den * c.Den = b.Num * c.Den * a.Den := by rw [Int.mul_assoc, Int.mul_comm a.Den, ← Int.mul_assoc]
    have q3 : c.Num * b.Den * a.Den = (c.Num * a.Den) * b.Den := by rw [Int.mul_assoc, Int.mul_comm b.Den, ← Int.mul_assoc]
    omega
  exact Int.le_of_mul_le_mul_right e3 pb

theorem cmp_self (a : impl_Frac) : cmp a a ≤ 0 := by rw [cmp_le]; omega

theorem cmp_total {a b : impl_Frac} (h : ¬ cmp a b < 0) : cmp b a ≤ 0 := by
  have := cmp_flip a b
  omega

theorem cmp_anti {a b : impl_Frac} (ha : Good a) (hb : Good b) (h1 : cmp a b ≤ 0) (h2 : cmp b a ≤ 0) : a = b := by
  rw [cmp_le] at h1 h2
  have e : a.Num * b.Den = b.Num * a.Den := by omega
  have h := mk_cross (n1 := a.Num) (d1 := a.Den) (n2 := b.Num) (d2 := b.Den) (den_pos ha) (den_pos hb) e
  rw [mk_self ha, mk_self hb] at h
  simpa using h

theorem fgr_le_l {a b : impl_Frac} : cmp a (fgr a b) ≤ 0 := by
  unfold fgr
  split
  · omega
  · exact cmp_self a

theorem fgr_le_r {a b : impl_Frac} : cmp b (fgr a b) ≤ 0 := by
  unfold fgr
  split
  · exact cmp_self b
  · rename_i h; exact cmp_total h

theorem fmax_spec : ∀ (L : List impl_Frac) (s : impl_Frac), Good s → (∀ x ∈ L, Good x) → Good (fmax s L) ∧ fmax s L ∈ s :: L ∧ ∀ x ∈ s :: L, cmp x (fmax s L) ≤ 0
  | [], s, hs, _ => ⟨hs, by simp [fmax], by simp [fmax, cmp_self]⟩
  | y :: L, s, hs, hL => by
    have hy := hL y (by simp)
    have hg := fgr_good hs hy
    obtain ⟨h1, h2, h3⟩ := fmax_spec L (fgr s y) hg (fun x hx => hL x (by simp [hx]))
    have e : fmax s (y :: L) = fmax (fgr s y) L := rfl
    rw [e]
    have hm := h3 (fgr s y) (by simp)
    refine ⟨h1, ?_, fun x hx => ?_⟩
    · rcases List.mem_cons.1 h2 with h2 | h2
      · rw [h2]
        unfold fgr
        split <;> simp
      · simp [h2]
    · rcases List.mem_cons.1 hx with rfl | hx
      · exact cmp_trans hs hg h1 fgr_le_l hm
      · rcases List.mem_cons.1 hx with rfl | hx
        · exact cmp_trans hy hg h1 fgr_le_r hm
        · exact h3 x (by simp [hx])

theorem fmax_set {s : impl_Frac} {L L' : List impl_Frac} (hs : Good s) (hL : ∀ x ∈ L, Good x) (hL' : ∀ x ∈ L', Good x) (h1 : ∀ x ∈ L, x ∈ s :: L') (h2 : ∀ x ∈ L', x ∈ s :: L) : fmax s L = fmax s L' := by
  obtain ⟨g, m, u⟩ := fmax_spec L s hs hL
  obtain ⟨g', m', u'⟩ := fmax_spec L' s hs hL'
  refine cmp_anti g g' (u' _ ?_) (u _ ?_)
  · rcases List.mem_cons.1 m with e | e
    · rw [e]; simp
    · exact h1 _ e
  · rcases List.mem_cons.1 m' with e | e
    · rw [e]; simp
    · exact h2 _ e

theorem foldl_lgr : ∀ (L : List impl_Loss) (s : impl_Loss), L.foldl lgr s = ⟨fmax s.Ratio (L.map (·.Ratio)), fmax s.Rho (L.map (·.Rho))⟩
  | [], s => rfl
  | x :: L, s => by
    rw [List.foldl_cons, foldl_lgr L]
    rfl

theorem foldl_set {s : impl_Loss} {L L' : List impl_Loss} (hs : GoodL s) (hL : ∀ x ∈ L, GoodL x) (hL' : ∀ x ∈ L', GoodL x) (h1 : ∀ x ∈ L, x ∈ s :: L') (h2 : ∀ x ∈ L', x ∈ s :: L) : L.foldl lgr s = L'.foldl lgr s := by
  rw [foldl_lgr, foldl_lgr]
  have sub : ∀ {A B : List impl_Loss} (f : impl_Loss → impl_Frac), (∀ x ∈ A, x ∈ s :: B) → ∀ x ∈ A.map f, x ∈ f s :: B.map f := fun f h x hx => by
    obtain ⟨y, hy, rfl⟩ := List.mem_map.1 hx
    rcases List.mem_cons.1 (h y hy) with rfl | h
    · simp
    · exact List.mem_cons_of_mem _ (List.mem_map.2 ⟨y, h, rfl⟩)
  have gd : ∀ {A : List impl_Loss} (f : impl_Loss → impl_Frac), (∀ x, GoodL x → Good (f x)) → (∀ x ∈ A, GoodL x) → ∀ x ∈ A.map f, Good x := fun f hf h x hx => by
    obtain ⟨y, hy, rfl⟩ := List.mem_map.1 hx
    exact hf y (h y hy)
  rw [fmax_set hs.1 (gd (·.Ratio) (fun _ h => h.1) hL) (gd (·.Ratio) (fun _ h => h.1) hL') (sub (·.Ratio) h1) (sub (·.Ratio) h2),
    fmax_set hs.2.1 (gd (·.Rho) (fun _ h => h.2.1) hL) (gd (·.Rho) (fun _ h => h.2.1) hL') (sub (·.Rho) h1) (sub (·.Rho) h2)]

end Go.Gx.F
