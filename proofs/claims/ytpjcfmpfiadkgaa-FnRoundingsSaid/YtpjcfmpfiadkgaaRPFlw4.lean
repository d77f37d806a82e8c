/- Plain laws: filling a matrix up to the sums of rows and columns. -/
import Derived.Test.YtpjcfmpfiadkgaaRPFlw3

namespace Go.Gx.F

open Go.Gx

set_option linter.all false

def fil (n m : Nat) (lo hi : Nat→Nat→Int) (R C : Nat→Int) : Nat→Nat→Int:=fun u v =>
 if u < n∧n ≤ v∧v < n + m then hi u (v - n) - lo u (v - n)
 else if u = n + m∧v < n then R v - sm m (lo v)
 else if n ≤ u∧u < n + m∧v = n + m + 1 then C (u - n) - sm n (fun i=>lo i (u - n)) else 0

section

variable {n m : Nat} {lo hi : Nat→Nat→Int} {R C : Nat→Int}

theorem fil_rc {i j : Nat} (hi' : i < n) (hj : j < m) : fil n m lo hi R C i (n + j) = hi i j - lo i j:=by
 unfold fil
 rw [if_pos ⟨hi',by omega,by omega⟩,show n + j - n = j by omega]

theorem fil_sr {i : Nat} (hi' : i < n) : fil n m lo hi R C (n + m) i = R i - sm m (lo i):=by
 unfold fil
 rw [if_neg (by omega),if_pos ⟨rfl,hi'⟩]

theorem fil_ct {j : Nat} (hj : j < m) : fil n m lo hi R C (n + j) (n + m + 1) = C j - sm n (fun i=>lo i j):=by
 unfold fil
 rw [if_neg (by omega),if_neg (by omega),if_pos ⟨by omega,by omega,rfl⟩,show n + j - n = j by omega]

theorem fil_0 {u v : Nat} (h1 : ¬ (u < n∧n ≤ v∧v < n + m)) (h2 : ¬ (u = n + m∧v < n)) (h3 : ¬ (n ≤ u∧u < n + m∧v = n + m + 1)) : fil n m lo hi R C u v = 0:=by
 unfold fil
 rw [if_neg h1,if_neg h2,if_neg h3]

theorem fil_nn (hlh : ∀ i j,i < n→j < m→lo i j ≤ hi i j) (hR : ∀ i,i < n→sm m (lo i) ≤ R i) (hC : ∀ j,j < m→sm n (fun i=>lo i j) ≤ C j) : ∀ u v,u < n + m + 2→v < n + m + 2→0 ≤ fil n m lo hi R C u v:=by
 intro u v hu hv
 by_cases h1 : u < n∧n ≤ v∧v < n + m
 ·obtain ⟨j,rfl⟩ : ∃ j,v = n + j:=⟨v - n,by omega⟩
  rw [fil_rc h1.1 (by omega)]; have:=hlh u j h1.1 (by omega); omega
 ·by_cases h2 : u = n + m∧v < n
  ·obtain ⟨rfl,h2⟩:=h2
   rw [fil_sr h2]; have:=hR v h2; omega
  ·by_cases h3 : n ≤ u∧u < n + m∧v = n + m + 1
   ·obtain ⟨j,rfl⟩ : ∃ j,u = n + j:=⟨u - n,by omega⟩
    obtain ⟨_,h3,rfl⟩:=h3
    rw [fil_ct (by omega)]; have:=hC j (by omega); omega
   ·rw [fil_0 h1 h2 h3]; exact Int.le_refl _

theorem sm_N (f : Nat→Int) : sm (n + m + 2) f = sm n f + sm m (fun j=>f (n + j)) + f (n + m) + f (n + m + 1):=by
 rw [show n + m + 2 = (n + m + 1) + 1 by omega]
 simp only [sm]
 rw [sm_split]

def fill (n : Nat) (hi : Nat→Nat→Int) (r : Nat→Nat→Int) : Nat→Nat→Int:=fun i j=>hi i j - r i (n + j)

theorem fill_ok {r : Nat→Nat→Int} {v : Int} (h : Res (n + m + 2) (fil n m lo hi R C) r (n + m) (n + m + 1) v) :
  (∀ i j,i < n→j < m→lo i j ≤ fill n hi r i j∧fill n hi r i j ≤ hi i j)∧(∀ i,i < n→0 ≤ r (n + m) i∧sm m (fill n hi r i) = R i - r (n + m) i)∧(∀ j,j < m→sm n (fun i=>fill n hi r i j) ≤ C j) ∧
   v = sm n (fun i=>R i - sm m (lo i)) - sm n (fun i=>r (n + m) i):=by
 have hz : ∀ u w,u < n + m + 2→w < n + m + 2→fil n m lo hi R C u w = 0→fil n m lo hi R C w u = 0→r u w = 0:=fun u w hu hw e1 e2=>by
  have h3:=h.sym u w hu hw; have h4:=h.nn u w hu hw; have h5:=h.nn w u hw hu
  omega
 have rr : ∀ i k,i < n→k < n→r i k = 0:=fun i k h1 h2=>hz i k (by omega) (by omega) (fil_0 (by omega) (by omega) (by omega)) (fil_0 (by omega) (by omega) (by omega))
 have cc : ∀ j k,j < m→k < m→r (n + j) (n + k) = 0:=fun j k h1 h2=>hz _ _ (by omega) (by omega) (fil_0 (by omega) (by omega) (by omega)) (fil_0 (by omega) (by omega) (by omega))
 have rt : ∀ i,i < n→r i (n + m + 1) = 0:=fun i h1=>hz _ _ (by omega) (by omega) (fil_0 (by omega) (by omega) (by omega)) (fil_0 (by omega) (by omega) (by omega))
 have cs : ∀ j,j < m→r (n + j) (n + m) = 0:=fun j h1=>hz _ _ (by omega) (by omega) (fil_0 (by omega) (by omega) (by omega)) (fil_0 (by omega) (by omega) (by omega))
 have sc : ∀ j,j < m→r (n + m) (n + j) = 0:=fun j h1=>hz _ _ (by omega) (by omega) (fil_0 (by omega) (by omega) (by omega)) (fil_0 (by omega) (by omega) (by omega))
 have ss : r (n + m) (n + m) = 0:=hz _ _ (by omega) (by omega) (fil_0 (by omega) (by omega) (by omega)) (fil_0 (by omega) (by omega) (by omega))
 have st : r (n + m) (n + m + 1) = 0:=hz _ _ (by omega) (by omega) (fil_0 (by omega) (by omega) (by omega)) (fil_0 (by omega) (by omega) (by omega))
 have hrow : ∀ i,i < n→sm m (fill n hi r i) = R i - r (n + m) i:=by
  intro i hi'
  have h1:=h.sum i (by omega)
  rw [if_neg (by omega),if_neg (by omega),sm_N,sm_N] at h1
  rw [sm_congr (f:=r i) (g:=fun _=>0) fun k hk=>rr i k hi' hk,sm_zero,rt i hi'] at h1
  rw [sm_congr (f:=fil n m lo hi R C i) (g:=fun _=>0) fun k hk=>fil_0 (by omega) (by omega) (by omega),sm_zero] at h1
  rw [sm_congr (f:=fun j=>fil n m lo hi R C i (n + j)) (g:=fun j=>hi i j - lo i j) fun j hj=>fil_rc hi' hj,sm_sub] at h1
  rw [fil_0 (u:=i) (v:=n + m) (by omega) (by omega) (by omega),fil_0 (u:=i) (v:=n + m + 1) (by omega) (by omega) (by omega)] at h1
  have h2:=h.sym i (n + m) (by omega) (by omega)
  rw [fil_0 (u:=i) (v:=n + m) (by omega) (by omega) (by omega),fil_sr hi'] at h2
  unfold fill
  rw [sm_sub]
  omega
 have hcol : ∀ j,j < m→sm n (fun i=>fill n hi r i j) = C j - r (n + j) (n + m + 1):=by
  intro j hj
  have h1:=h.sum (n + j) (by omega)
  rw [if_neg (by omega),if_neg (by omega),sm_N,sm_N] at h1
  rw [sm_congr (f:=fun k=>r (n + j) (n + k)) (g:=fun _=>0) fun k hk=>cc j k hj hk,sm_zero,cs j hj] at h1
  rw [sm_congr (f:=fil n m lo hi R C (n + j)) (g:=fun _=>0) fun k hk=>fil_0 (by omega) (by omega) (by omega),sm_zero] at h1
  rw [sm_congr (f:=fun k=>fil n m lo hi R C (n + j) (n + k)) (g:=fun _=>0) fun k hk=>fil_0 (by omega) (by omega) (by omega),sm_zero] at h1
  rw [fil_0 (u:=n + j) (v:=n + m) (by omega) (by omega) (by omega),fil_ct hj] at h1
  have e : sm n (fun i=>fill n hi r i j) = sm n (fun i=>lo i j) + sm n (r (n + j)):=by
   rw [← sm_add]
   refine sm_congr fun i hi'=>?_
   have h2:=h.sym i (n + j) (by omega) (by omega)
   rw [fil_rc hi' hj,fil_0 (u:=n + j) (v:=i) (by omega) (by omega) (by omega)] at h2
   unfold fill; omega
  rw [e]; omega
 refine ⟨fun i j hi' hj=>?_,fun i hi'=>⟨h.nn _ _ (by omega) (by omega),hrow i hi'⟩,fun j hj=>?_,?_⟩
 ·have h2:=h.sym i (n + j) (by omega) (by omega)
  have h3:=h.nn i (n + j) (by omega) (by omega)
  have h4:=h.nn (n + j) i (by omega) (by omega)
  rw [fil_rc hi' hj,fil_0 (u:=n + j) (v:=i) (by omega) (by omega) (by omega)] at h2
  unfold fill; omega
 ·have:=h.nn (n + j) (n + m + 1) (by omega) (by omega)
  rw [hcol j hj]; omega
 ·have h1:=h.sum (n + m) (by omega)
  rw [if_pos rfl,if_neg (by omega),sm_N,sm_N,ss,st] at h1
  rw [sm_congr (f:=fun k=>r (n + m) (n + k)) (g:=fun _=>0) fun k hk=>sc k hk,sm_zero] at h1
  rw [sm_congr (f:=fil n m lo hi R C (n + m)) (g:=fun i=>R i - sm m (lo i)) fun i hi'=>fil_sr hi'] at h1
  rw [sm_congr (f:=fun k=>fil n m lo hi R C (n + m) (n + k)) (g:=fun _=>0) fun k hk=>fil_0 (by omega) (by omega) (by omega),sm_zero] at h1
  rw [fil_0 (u:=n + m) (v:=n + m) (by omega) (by omega) (by omega),fil_0 (u:=n + m) (v:=n + m + 1) (by omega) (by omega) (by omega)] at h1
  have e : sm n (fun i=>r (n + m) i) = sm n (r (n + m)):=rfl
  rw [e]
  omega

def yfl (n m : Nat) (lo y : Nat→Nat→Int) (R C : Nat→Int) : Nat→Nat→Int:=fun u v =>
 if u < n∧n ≤ v∧v < n + m then y u (v - n) - lo u (v - n)
 else if v < n∧n ≤ u∧u < n + m then - (y v (u - n) - lo v (u - n))
 else if u = n + m∧v < n then R v - sm m (lo v)
 else if v = n + m∧u < n then - (R u - sm m (lo u))
 else if n ≤ u∧u < n + m∧v = n + m + 1 then C (u - n) - sm n (fun i=>lo i (u - n))
 else if n ≤ v∧v < n + m∧u = n + m + 1 then - (C (v - n) - sm n (fun i=>lo i (v - n))) else 0

theorem yfl_flow {y : Nat→Nat→Int} (hy : IsFl n m R C lo hi y) : FlowN (n + m + 2) (fil n m lo hi R C) (n + m) (n + m + 1) (sm n fun i=>R i - sm m (lo i)) (yfl n m lo y R C):=by
 have hRl : ∀ i,i < n→sm m (lo i) ≤ R i:=fun i hi'=>by rw [← hy.row i hi']; exact sm_le fun j hj=>hy.lo i j hi' hj
 have hCl : ∀ j,j < m→sm n (fun i=>lo i j) ≤ C j:=fun j hj=>by rw [← hy.col j hj]; exact sm_le fun i hi'=>hy.lo i j hi' hj
 have y_rc : ∀ i j,i < n→j < m→yfl n m lo y R C i (n + j) = y i j - lo i j:=fun i j h1 h2=>by
  unfold yfl; rw [if_pos ⟨h1,by omega,by omega⟩,show n + j - n = j by omega]
 have y_cr : ∀ i j,i < n→j < m→yfl n m lo y R C (n + j) i = - (y i j - lo i j):=fun i j h1 h2=>by
  unfold yfl; rw [if_neg (by omega),if_pos ⟨h1,by omega,by omega⟩,show n + j - n = j by omega]
 have y_sr : ∀ i,i < n→yfl n m lo y R C (n + m) i = R i - sm m (lo i):=fun i h1=>by
  unfold yfl; rw [if_neg (by omega),if_neg (by omega),if_pos ⟨rfl,h1⟩]
 have y_rs : ∀ i,i < n→yfl n m lo y R C i (n + m) = - (R i - sm m (lo i)):=fun i h1=>by
  unfold yfl; rw [if_neg (by omega),if_neg (by omega),if_neg (by omega),if_pos ⟨rfl,h1⟩]
 have y_ct : ∀ j,j < m→yfl n m lo y R C (n + j) (n + m + 1) = C j - sm n (fun i=>lo i j):=fun j h1=>by
  unfold yfl; rw [if_neg (by omega),if_neg (by omega),if_neg (by omega),if_neg (by omega),if_pos ⟨by omega,by omega,rfl⟩,show n + j - n = j by omega]
 have y_tc : ∀ j,j < m→yfl n m lo y R C (n + m + 1) (n + j) = - (C j - sm n (fun i=>lo i j)):=fun j h1=>by
  unfold yfl; rw [if_neg (by omega),if_neg (by omega),if_neg (by omega),if_neg (by omega),if_neg (by omega),if_pos ⟨by omega,by omega,rfl⟩,show n + j - n = j by omega]
 have y_0 : ∀ u v,¬ (u < n∧n ≤ v∧v < n + m)→¬ (v < n∧n ≤ u∧u < n + m)→¬ (u = n + m∧v < n)→¬ (v = n + m∧u < n)→¬ (n ≤ u∧u < n + m∧v = n + m + 1)→¬ (n ≤ v∧v < n + m∧u = n + m + 1)→yfl n m lo y R C u v = 0:=fun u v a b c d e f=>by
  unfold yfl; rw [if_neg a,if_neg b,if_neg c,if_neg d,if_neg e,if_neg f]
 have kind : ∀ u,u < n + m + 2→u < n ∨ (∃ j,j < m∧u = n + j) ∨ u = n + m ∨ u = n + m + 1:=fun u hu=>by
  by_cases h1 : u < n
  ·exact .inl h1
  ·by_cases h2 : u < n + m
   ·exact .inr (.inl ⟨u - n,by omega,by omega⟩)
   ·omega
 refine ⟨fun u v hu hv=>?_,fun u v hu hv=>?_,fun u hu h1 h2=>?_,?_⟩
 ·rcases kind u hu with h1 | ⟨j,hj,rfl⟩ | rfl | rfl <;> rcases kind v hv with h2 | ⟨k,hk,rfl⟩ | rfl | rfl
  ·rw [y_0 u v (by omega) (by omega) (by omega) (by omega) (by omega) (by omega),y_0 v u (by omega) (by omega) (by omega) (by omega) (by omega) (by omega)]; rfl
  ·rw [y_rc _ _ h1 hk,y_cr _ _ h1 hk]; omega
  ·rw [y_rs _ h1,y_sr _ h1]
  ·rw [y_0 u _ (by omega) (by omega) (by omega) (by omega) (by omega) (by omega),y_0 _ u (by omega) (by omega) (by omega) (by omega) (by omega) (by omega)]; rfl
  ·rw [y_rc _ _ h2 hj,y_cr _ _ h2 hj]
  ·rw [y_0 _ _ (by omega) (by omega) (by omega) (by omega) (by omega) (by omega),y_0 _ _ (by omega) (by omega) (by omega) (by omega) (by omega) (by omega)]; rfl
  ·rw [y_0 _ _ (by omega) (by omega) (by omega) (by omega) (by omega) (by omega),y_0 _ _ (by omega) (by omega) (by omega) (by omega) (by omega) (by omega)]; rfl
  ·rw [y_ct _ hj,y_tc _ hj]; omega
  ·rw [y_rs _ h2,y_sr _ h2]; omega
  ·rw [y_0 _ _ (by omega) (by omega) (by omega) (by omega) (by omega) (by omega),y_0 _ _ (by omega) (by omega) (by omega) (by omega) (by omega) (by omega)]; rfl
  ·rw [y_0 _ _ (by omega) (by omega) (by omega) (by omega) (by omega) (by omega)]; rfl
  ·rw [y_0 _ _ (by omega) (by omega) (by omega) (by omega) (by omega) (by omega),y_0 _ _ (by omega) (by omega) (by omega) (by omega) (by omega) (by omega)]; rfl
  ·rw [y_0 _ _ (by omega) (by omega) (by omega) (by omega) (by omega) (by omega),y_0 _ _ (by omega) (by omega) (by omega) (by omega) (by omega) (by omega)]; rfl
  ·rw [y_ct _ hk,y_tc _ hk]
  ·rw [y_0 _ _ (by omega) (by omega) (by omega) (by omega) (by omega) (by omega),y_0 _ _ (by omega) (by omega) (by omega) (by omega) (by omega) (by omega)]; rfl
  ·rw [y_0 _ _ (by omega) (by omega) (by omega) (by omega) (by omega) (by omega)]; rfl
 ·have hnn:=fil_nn (R:=R) (C:=C) (fun i j h1 h2=>Int.le_trans (hy.lo i j h1 h2) (hy.hi i j h1 h2)) hRl hCl u v hu hv
  rcases kind u hu with h1 | ⟨j,hj,rfl⟩ | rfl | rfl <;> rcases kind v hv with h2 | ⟨k,hk,rfl⟩ | rfl | rfl
  ·rw [y_0 u v (by omega) (by omega) (by omega) (by omega) (by omega) (by omega)]; exact hnn
  ·rw [y_rc _ _ h1 hk,fil_rc h1 hk]; have:=hy.hi u k h1 hk; omega
  ·rw [y_rs _ h1]; have:=hRl u h1; omega
  ·rw [y_0 u _ (by omega) (by omega) (by omega) (by omega) (by omega) (by omega)]; exact hnn
  ·rw [y_cr _ _ h2 hj]; have:=hy.lo v j h2 hj; omega
  ·rw [y_0 _ _ (by omega) (by omega) (by omega) (by omega) (by omega) (by omega)]; exact hnn
  ·rw [y_0 _ _ (by omega) (by omega) (by omega) (by omega) (by omega) (by omega)]; exact hnn
  ·rw [y_ct _ hj,fil_ct hj]; exact Int.le_refl _
  ·rw [y_sr _ h2,fil_sr h2]; exact Int.le_refl _
  ·rw [y_0 _ _ (by omega) (by omega) (by omega) (by omega) (by omega) (by omega)]; exact hnn
  ·rw [y_0 _ _ (by omega) (by omega) (by omega) (by omega) (by omega) (by omega)]; exact hnn
  ·rw [y_0 _ _ (by omega) (by omega) (by omega) (by omega) (by omega) (by omega)]; exact hnn
  ·rw [y_0 _ _ (by omega) (by omega) (by omega) (by omega) (by omega) (by omega)]; exact hnn
  ·rw [y_tc _ hk]; have:=hCl k hk; omega
  ·rw [y_0 _ _ (by omega) (by omega) (by omega) (by omega) (by omega) (by omega)]; exact hnn
  ·rw [y_0 _ _ (by omega) (by omega) (by omega) (by omega) (by omega) (by omega)]; exact hnn
 ·rcases kind u hu with h | ⟨j,hj,rfl⟩ | rfl | rfl
  ·rw [sm_N,sm_congr (f:=yfl n m lo y R C u) (g:=fun _=>0) fun k hk=>y_0 u k (by omega) (by omega) (by omega) (by omega) (by omega) (by omega),sm_zero,y_rs u h,y_0 u (n + m + 1) (by omega) (by omega) (by omega) (by omega) (by omega) (by omega)]
   rw [sm_congr (f:=fun j=>yfl n m lo y R C u (n + j)) (g:=fun j=>y u j - lo u j) fun j hj=>y_rc u j h hj,sm_sub,hy.row u h]
   omega
  ·rw [sm_N,sm_congr (f:=fun k=>yfl n m lo y R C (n + j) (n + k)) (g:=fun _=>0) fun k hk=>y_0 _ _ (by omega) (by omega) (by omega) (by omega) (by omega) (by omega),sm_zero,y_ct j hj,y_0 (n + j) (n + m) (by omega) (by omega) (by omega) (by omega) (by omega) (by omega)]
   rw [sm_congr (f:=yfl n m lo y R C (n + j)) (g:=fun i=>- (y i j - lo i j)) fun i hi'=>y_cr i j hi' hj,sm_neg,sm_sub,hy.col j hj]
   omega
  ·exact absurd rfl h1
  ·exact absurd rfl h2
 ·rw [sm_N,sm_congr (f:=yfl n m lo y R C (n + m)) (g:=fun i=>R i - sm m (lo i)) fun i hi'=>y_sr i hi']
  rw [sm_congr (f:=fun k=>yfl n m lo y R C (n + m) (n + k)) (g:=fun _=>0) fun k hk=>y_0 _ _ (by omega) (by omega) (by omega) (by omega) (by omega) (by omega),sm_zero,y_0 (n + m) (n + m) (by omega) (by omega) (by omega) (by omega) (by omega) (by omega),y_0 (n + m) (n + m + 1) (by omega) (by omega) (by omega) (by omega) (by omega) (by omega)]
  omega

theorem fill_full {r : Nat→Nat→Int} {v : Int} (h : Res (n + m + 2) (fil n m lo hi R C) r (n + m) (n + m + 1) v) (hmax : ∀ w g,FlowN (n + m + 2) (fil n m lo hi R C) (n + m) (n + m + 1) w g→w ≤ v) {y : Nat→Nat→Int} (hy : IsFl n m R C lo hi y) : ∀ i,i < n→r (n + m) i = 0:=by
 obtain ⟨_,h2,_,h4⟩:=fill_ok h
 have h1:=hmax _ _ (yfl_flow hy)
 intro i hi'
 have h5:=sm_one (f:=fun i=>r (n + m) i) (fun i hi=>(h2 i hi).1) hi'
 have h6:=(h2 i hi').1
 omega

theorem fill_flow {r : Nat→Nat→Int} {v : Int} (h : Res (n + m + 2) (fil n m lo hi R C) r (n + m) (n + m + 1) v) (hfull : ∀ i,i < n→sm m (fill n hi r i) = R i) (htot : sm n R = sm m C) : IsFl n m R C lo hi (fill n hi r):=by
 obtain ⟨h1,_,h3,_⟩:=fill_ok h
 refine ⟨fun i j a b=>(h1 i j a b).1,fun i j a b=>(h1 i j a b).2,hfull,fun j hj=>?_⟩
 have e1 : sm m (fun j=>sm n fun i=>fill n hi r i j) = sm n R:=by
  rw [← sm_comm]
  exact sm_congr hfull
 have e2 : sm m (fun j=>C j - sm n fun i=>fill n hi r i j) = 0:=by rw [sm_sub,e1,htot]; omega
 have e3:=sm_one (f:=fun j=>C j - sm n fun i=>fill n hi r i j) (fun j hj=>by have:=h3 j hj; omega) hj
 have e4:=h3 j hj
 omega

end

end Go.Gx.F
