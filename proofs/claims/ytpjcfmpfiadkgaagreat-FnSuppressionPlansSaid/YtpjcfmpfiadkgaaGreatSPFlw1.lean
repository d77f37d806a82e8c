/- Plain laws: sums over ranges,cuts of networks. -/
import Derived.Test.YtpjcfmpfiadkgaaGreatSPLst

namespace Go.Gx.F

open Go.Gx

set_option linter.all false

def sm : Nat→(Nat→Int)→Int
 | 0,_=>0
 | n + 1,f=>sm n f + f n

theorem sm_congr {n : Nat} {f g : Nat→Int} (h : ∀ i,i < n→f i = g i) : sm n f = sm n g:=by
 induction n with
 | zero=>rfl
 | succ n ih=>simp only [sm]; rw [ih fun i hi=>h i (by omega),h n (by omega)]

theorem sm_zero (n : Nat) : sm n (fun _=>0) = 0:=by
 induction n with
 | zero=>rfl
 | succ n ih=>simp only [sm,ih]; rfl

theorem sm_add (n : Nat) (f g : Nat→Int) : sm n (fun i=>f i + g i) = sm n f + sm n g:=by
 induction n with
 | zero=>rfl
 | succ n ih=>simp only [sm,ih]; omega

theorem sm_neg (n : Nat) (f : Nat→Int) : sm n (fun i=>- f i) = - sm n f:=by
 induction n with
 | zero=>rfl
 | succ n ih=>simp only [sm,ih]; omega

theorem sm_sub (n : Nat) (f g : Nat→Int) : sm n (fun i=>f i - g i) = sm n f - sm n g:=by
 induction n with
 | zero=>rfl
 | succ n ih=>simp only [sm,ih]; omega

theorem sm_le {n : Nat} {f g : Nat→Int} (h : ∀ i,i < n→f i ≤ g i) : sm n f ≤ sm n g:=by
 induction n with
 | zero=>exact Int.le_refl _
 | succ n ih =>
  simp only [sm]
  have h1:=ih fun i hi=>h i (by omega)
  have h2:=h n (by omega)
  omega

theorem sm_nonneg {n : Nat} {f : Nat→Int} (h : ∀ i,i < n→0 ≤ f i) : 0 ≤ sm n f:=by
 have:=sm_le (f:=fun _=>0) h
 rw [sm_zero] at this
 exact this

theorem sm_comm (n m : Nat) (f : Nat→Nat→Int) : sm n (fun i=>sm m (f i)) = sm m (fun j=>sm n fun i=>f i j):=by
 induction n with
 | zero=>simp only [sm]; rw [sm_zero]
 | succ n ih=>simp only [sm]; rw [ih,sm_add]

theorem sm_one {n : Nat} {f : Nat→Int} (h : ∀ i,i < n→0 ≤ f i) {k : Nat} (hk : k < n) : f k ≤ sm n f:=by
 induction n with
 | zero=>omega
 | succ n ih =>
  simp only [sm]
  have h0:=sm_nonneg (n:=n) (f:=f) fun i hi=>h i (by omega)
  by_cases hkn : k = n
  ·subst hkn; omega
  ·have h1:=ih (fun i hi=>h i (by omega)) (by omega)
   have h2:=h n (by omega)
   omega

theorem sm_upd {n : Nat} {f g : Nat→Int} {k : Nat} (hk : k < n) (h : ∀ i,i < n→i ≠ k→g i = f i) : sm n g = sm n f + (g k - f k):=by
 induction n with
 | zero=>omega
 | succ n ih =>
  simp only [sm]
  by_cases hkn : k = n
  ·subst hkn
   rw [sm_congr (g:=f) fun i hi=>h i (by omega) (by omega)]
   omega
  ·rw [ih (by omega) fun i hi hne=>h i (by omega) hne,h n (by omega) (by omega)]
   omega

theorem sm_single {n : Nat} {k : Nat} (hk : k < n) (x : Int) : sm n (fun i=>if i = k then x else 0) = x:=by
 have:=sm_upd (f:=fun _=>0) (g:=fun i=>if i = k then x else 0) hk fun i _ hne=>by simp [hne]
 rw [this,sm_zero]
 simp

structure FlowN (N : Nat) (c : Nat→Nat→Int) (a b : Nat) (v : Int) (g : Nat→Nat→Int) : Prop where
 anti : ∀ i j,i < N→j < N→g i j = - g j i
 cap : ∀ i j,i < N→j < N→g i j ≤ c i j
 bal : ∀ i,i < N→i ≠ a→i ≠ b→sm N (g i) = 0
 val : sm N (g a) = v

theorem cut_eq {N : Nat} {c : Nat→Nat→Int} {a b : Nat} {v : Int} {g : Nat→Nat→Int} (h : FlowN N c a b v g) (ha : a < N) {S : Nat→Bool} (hSa : S a = true) (hSb : S b = false) :
  v = sm N fun i=>sm N fun j=>if S i = true∧S j = false then g i j else 0:=by
 have h1 : sm N (fun i=>if S i = true then sm N (g i) else 0) = v:=by
  rw [← h.val,← sm_single ha (sm N (g a))]
  refine sm_congr fun i hi=>?_
  by_cases hia : i = a
  ·subst hia; simp [hSa]
  ·rw [if_neg hia]
   by_cases hS : S i = true
   ·rw [if_pos hS,h.bal i hi hia (by rintro rfl; rw [hSb] at hS; cases hS)]
   ·rw [if_neg hS]
 have h2 : sm N (fun i=>sm N fun j=>if S i = true∧S j = true then g i j else 0) = 0:=by
  have e : sm N (fun i=>sm N fun j=>if S i = true∧S j = true then g i j else 0) = - sm N (fun i=>sm N fun j=>if S i = true∧S j = true then g i j else 0):=by
   conv=>lhs; rw [sm_comm]
   rw [← sm_neg]
   refine sm_congr fun j hj=>?_
   rw [← sm_neg]
   refine sm_congr fun i hi=>?_
   by_cases hS : S i = true∧S j = true
   ·rw [if_pos hS,if_pos ⟨hS.2,hS.1⟩,h.anti i j hi hj]
   ·rw [if_neg hS,if_neg fun hc=>hS ⟨hc.2,hc.1⟩]; rfl
  omega
 have h3 : sm N (fun i=>if S i = true then sm N (g i) else 0) = sm N (fun i=>sm N fun j=>if S i = true∧S j = true then g i j else 0) + sm N (fun i=>sm N fun j=>if S i = true∧S j = false then g i j else 0):=by
  rw [← sm_add]
  refine sm_congr fun i hi=>?_
  rw [← sm_add]
  by_cases hS : S i = true
  ·rw [if_pos hS]
   refine sm_congr fun j hj=>?_
   cases hSj : S j <;> simp [hS,hSj]
  ·rw [if_neg hS]
   exact (sm_zero N).symm.trans (sm_congr fun j hj=>by simp [hS])
 omega

theorem cut_le {N : Nat} {c : Nat→Nat→Int} {a b : Nat} {v : Int} {g : Nat→Nat→Int} (h : FlowN N c a b v g) (ha : a < N) {S : Nat→Bool} (hSa : S a = true) (hSb : S b = false) :
  v ≤ sm N fun i=>sm N fun j=>if S i = true∧S j = false then c i j else 0:=by
 rw [cut_eq h ha hSa hSb]
 refine sm_le fun i hi=>sm_le fun j hj=>?_
 by_cases hS : S i = true∧S j = false
 ·rw [if_pos hS,if_pos hS]; exact h.cap i j hi hj
 ·rw [if_neg hS,if_neg hS]; exact Int.le_refl _

theorem cut_max {N : Nat} {c : Nat→Nat→Int} {a b : Nat} {v w : Int} {g k : Nat→Nat→Int} (h : FlowN N c a b v g) (hk : FlowN N c a b w k) (ha : a < N) {S : Nat→Bool} (hSa : S a = true) (hSb : S b = false)
  (hfull : ∀ i j,i < N→j < N→S i = true→S j = false→g i j = c i j) : w ≤ v:=by
 have h1:=cut_le hk ha hSa hSb
 have h2:=cut_eq h ha hSa hSb
 have h3 : (sm N fun i=>sm N fun j=>if S i = true∧S j = false then g i j else 0) = sm N fun i=>sm N fun j=>if S i = true∧S j = false then c i j else 0:=by
  refine sm_congr fun i hi=>sm_congr fun j hj=>?_
  by_cases hS : S i = true∧S j = false
  ·rw [if_pos hS,if_pos hS,hfull i j hi hj hS.1 hS.2]
  ·rw [if_neg hS,if_neg hS]
 omega

structure IsFl (n m : Nat) (R C : Nat→Int) (lo hi x : Nat→Nat→Int) : Prop where
 lo : ∀ i j,i < n→j < m→lo i j ≤ x i j
 hi : ∀ i j,i < n→j < m→x i j ≤ hi i j
 row : ∀ i,i < n→sm m (x i) = R i
 col : ∀ j,j < m→sm n (fun i=>x i j) = C j

theorem border {n m : Nat} (x : Nat→Nat→Int) (S T : Nat→Bool) :
  sm n (fun i=>if S i = true then sm m (x i) else 0) - sm m (fun j=>if T j = true then sm n (fun i=>x i j) else 0) =
   sm n (fun i=>sm m fun j=>if S i = true∧T j = false then x i j else 0) - sm n (fun i=>sm m fun j=>if S i = false∧T j = true then x i j else 0):=by
 have h1 : sm n (fun i=>if S i = true then sm m (x i) else 0) = sm n (fun i=>sm m fun j=>if S i = true∧T j = true then x i j else 0) + sm n (fun i=>sm m fun j=>if S i = true∧T j = false then x i j else 0):=by
  rw [← sm_add]
  refine sm_congr fun i hi=>?_
  rw [← sm_add]
  by_cases hS : S i = true
  ·rw [if_pos hS]
   refine sm_congr fun j hj=>?_
   cases hT : T j <;> simp [hS,hT]
  ·rw [if_neg hS]
   exact (sm_zero m).symm.trans (sm_congr fun j hj=>by simp [hS])
 have h2 : sm m (fun j=>if T j = true then sm n (fun i=>x i j) else 0) = sm n (fun i=>sm m fun j=>if S i = true∧T j = true then x i j else 0) + sm n (fun i=>sm m fun j=>if S i = false∧T j = true then x i j else 0):=by
  rw [sm_comm n m,sm_comm n m,← sm_add]
  refine sm_congr fun j hj=>?_
  rw [← sm_add]
  by_cases hT : T j = true
  ·rw [if_pos hT]
   refine sm_congr fun i hi=>?_
   cases hS : S i <;> simp [hS,hT]
  ·rw [if_neg hT]
   exact (sm_zero n).symm.trans (sm_congr fun i hi=>by simp [hT])
 omega

theorem stuck {n m : Nat} {R C : Nat→Int} {lo hi x y : Nat→Nat→Int} (hy : IsFl n m R C lo hi y) {L : Nat→Int} {S T : Nat→Bool}
  (hrow : ∀ i,i < n→sm m (x i) = R i - L i) (hcol : ∀ j,j < m→T j = true→sm n (fun i=>x i j) = C j) (hL : ∀ i,i < n→0 ≤ L i) (hS : ∀ i,i < n→S i = false→L i = 0)
  (hup : ∀ i j,i < n→j < m→S i = true→T j = false→x i j = hi i j) (hdn : ∀ i j,i < n→j < m→S i = false→T j = true→x i j = lo i j) : ∀ i,i < n→L i = 0:=by
 have b1:=border (n:=n) (m:=m) y S T
 have b2:=border (n:=n) (m:=m) x S T
 have e1 : sm n (fun i=>if S i = true then sm m (y i) else 0) = sm n (fun i=>if S i = true then R i else 0):=sm_congr fun i hi=>by
  by_cases h : S i = true
  ·rw [if_pos h,if_pos h,hy.row i hi]
  ·rw [if_neg h,if_neg h]
 have e2 : sm m (fun j=>if T j = true then sm n (fun i=>y i j) else 0) = sm m (fun j=>if T j = true then C j else 0):=sm_congr fun j hj=>by
  by_cases h : T j = true
  ·rw [if_pos h,if_pos h,hy.col j hj]
  ·rw [if_neg h,if_neg h]
 have e3 : sm n (fun i=>if S i = true then sm m (x i) else 0) = sm n (fun i=>if S i = true then R i else 0) - sm n L:=by
  rw [← sm_sub]
  refine sm_congr fun i hi=>?_
  by_cases h : S i = true
  ·rw [if_pos h,if_pos h,hrow i hi]
  ·rw [if_neg h,if_neg h,hS i hi (by simpa using h)]; rfl
 have e4 : sm m (fun j=>if T j = true then sm n (fun i=>x i j) else 0) = sm m (fun j=>if T j = true then C j else 0):=sm_congr fun j hj=>by
  by_cases h : T j = true
  ·rw [if_pos h,if_pos h,hcol j hj h]
  ·rw [if_neg h,if_neg h]
 have e5 : sm n (fun i=>sm m fun j=>if S i = true∧T j = false then y i j else 0) ≤ sm n (fun i=>sm m fun j=>if S i = true∧T j = false then x i j else 0):=sm_le fun i hi=>sm_le fun j hj=>by
  by_cases h : S i = true∧T j = false
  ·rw [if_pos h,if_pos h,hup i j hi hj h.1 h.2]; exact hy.hi i j hi hj
  ·rw [if_neg h,if_neg h]; exact Int.le_refl _
 have e6 : sm n (fun i=>sm m fun j=>if S i = false∧T j = true then x i j else 0) ≤ sm n (fun i=>sm m fun j=>if S i = false∧T j = true then y i j else 0):=sm_le fun i hi=>sm_le fun j hj=>by
  by_cases h : S i = false∧T j = true
  ·rw [if_pos h,if_pos h,hdn i j hi hj h.1 h.2]; exact hy.lo i j hi hj
  ·rw [if_neg h,if_neg h]; exact Int.le_refl _
 have h0 : sm n L ≤ 0:=by omega
 intro i hi
 have h1:=sm_one hL hi
 have h2:=hL i hi
 omega

end Go.Gx.F
