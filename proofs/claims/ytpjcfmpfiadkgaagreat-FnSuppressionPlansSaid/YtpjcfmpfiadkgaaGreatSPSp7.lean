/- Plain laws: the greedy plan on both sides; what a plan adds. -/
import Derived.Test.YtpjcfmpfiadkgaaGreatSPSp6

namespace Go.Gx.F

open Go.Gx

set_option linter.all false

set_option maxRecDepth 10000

def gN (m : Nat) (q p : List (List Int)) (k : Nat) : Int:=if at1 m (mt p) k = 1∧at1 m (mt q) k = 0 then 1 else 0

def gV (m : Nat) (x q p : List (List Int)) (k : Nat) : Int:=if at1 m (mt p) k = 1∧at1 m (mt q) k = 0 then at1 m (mt x) k else 0

def cntP (n m : Nat) (q p : List (List Int)) : Int:=sm (n * m) (gN m q p)

def valP (n m : Nat) (x q p : List (List Int)) : Int:=sm (n * m) (gV m x q p)

theorem sm_filter (P : Nat→Bool) (h : Nat→Int) : ∀ N,(((List.range N).filter P).map h).sum = sm N fun k=>if P k = true then h k else 0
 | 0=>rfl
 | N + 1=>by
  rw [List.range_succ,List.filter_append,List.map_append,List.sum_append,sm_filter P h N]
  simp only [sm]
  cases hP : P N <;> simp [hP]

section

variable {n m : Nat} {x p q : List (List Int)} {d u : Int}

theorem part_bd (hS : Sup n m x p) {K : Nat} (hK : K ≤ n * m) : (0 ≤ sm K (gN m q p)∧sm K (gN m q p) ≤ 64)∧0 ≤ sm K (gV m x q p)∧sm K (gV m x q p) ≤ 64000:=by
 have hnm : n * m ≤ 64:=Nat.mul_le_mul hS.n8 hS.m8
 have a1 : ∀ k,k < K→0 ≤ gN m q p k∧gN m q p k ≤ 1:=fun k _=>by unfold gN; split <;> omega
 have a2 : ∀ k,k < K→0 ≤ gV m x q p k∧gV m x q p k ≤ 1000:=fun k hk=>by
  have:=hS.x1 (k:=k) (by omega)
  unfold gV; split <;> omega
 have b1:=sm_nonneg (n:=K) (f:=gN m q p) fun k hk=>(a1 k hk).1
 have b2:=(sm_bd (n:=K) (f:=gN m q p) (B:=1) fun k hk=>by have:=a1 k hk; omega).2
 have b3:=sm_nonneg (n:=K) (f:=gV m x q p) fun k hk=>(a2 k hk).1
 have b4:=(sm_bd (n:=K) (f:=gV m x q p) (B:=1000) fun k hk=>by have:=a2 k hk; omega).2
 omega

theorem cnt_upd (hp : Shp n m p) {c : Nat} (hc : c < n * m) (h0 : at1 m (mt p) c = 0) (h1 : at1 m (mt q) c = 0) : cntP n m q (upd p (c / m) (c % m) 1) = cntP n m q p + 1∧valP n m x q (upd p (c / m) (c % m) 1) = valP n m x q p + at1 m (mt x) c:=by
 have e : ∀ k,k < n * m→at1 m (mt (upd p (c / m) (c % m) 1)) k = if k = c then 1 else at1 m (mt p) k:=fun k hk=>at1_updK hp hc hk
 constructor
 ·unfold cntP
  rw [sm_upd (f:=gN m q p) (g:=gN m q (upd p (c / m) (c % m) 1)) hc fun k hk hne=>by unfold gN; rw [e k hk,if_neg hne]]
  have e1 : gN m q (upd p (c / m) (c % m) 1) c = 1:=by unfold gN; rw [e c hc,if_pos rfl,if_pos ⟨rfl,h1⟩]
  have e2 : gN m q p c = 0:=by unfold gN; rw [if_neg (by omega)]
  omega
 ·unfold valP
  rw [sm_upd (f:=gV m x q p) (g:=gV m x q (upd p (c / m) (c % m) 1)) hc fun k hk hne=>by unfold gV; rw [e k hk,if_neg hne]]
  have e1 : gV m x q (upd p (c / m) (c % m) 1) c = at1 m (mt x) c:=by unfold gV; rw [e c hc,if_pos rfl,if_pos ⟨rfl,h1⟩]
  have e2 : gV m x q p c = 0:=by unfold gV; rw [if_neg (by omega)]
  omega

theorem cnt_with : ∀ {C : List Nat} {p : List (List Int)},Shp n m p→(∀ c ∈ C,c < n * m∧at1 m (mt p) c = 0∧at1 m (mt q) c = 0)→C.Nodup→cntP n m q (wthK m p C) = cntP n m q p + C.length∧valP n m x q (wthK m p C) = valP n m x q p + valK m x C
 | [],p,_,_,_=>by simp [wthK,valK]
 | c :: C,p,hp,h,hd=>by
  obtain ⟨h1,h2,h3⟩:=h c (by simp)
  obtain ⟨i1,i2,_⟩:=pos_bd h1
  rw [List.nodup_cons] at hd
  have ih:=cnt_with (C:=C) (p:=upd p (c / m) (c % m) 1) (hp.upd i1) (fun e he=>by
   obtain ⟨g1,g2,g3⟩:=h e (by simp [he])
   refine ⟨g1,?_,g3⟩
   rw [at1_updK hp h1 g1,if_neg (fun hcc : e = c=>hd.1 (by rw [← hcc]; exact he))]
   exact g2) hd.2
  obtain ⟨u1,u2⟩:=cnt_upd (x:=x) hp h1 h2 h3
  have e0 : wthK m p (c :: C) = wthK m (upd p (c / m) (c % m) 1) C:=rfl
  rw [e0,ih.1,ih.2,u1,u2]
  unfold valK
  simp only [List.length_cons,List.map_cons,List.sum_cons]
  omega

theorem cnt_self : cntP n m q q = 0∧valP n m x q q = 0:=by
 constructor
 ·unfold cntP
  refine (sm_congr (g:=fun _=>0) fun k hk=>?_).trans (sm_zero _)
  unfold gN; rw [if_neg (by omega)]
 ·unfold valP
  refine (sm_congr (g:=fun _=>0) fun k hk=>?_).trans (sm_zero _)
  unfold gV; rw [if_neg (by omega)]

theorem vPlan_ok (hS : Sup n m x p) (hq : Shp n m q) : spec_vPlan x q p = some ⟨p,cntP n m q p,valP n m x q p⟩:=by
 have h8:=hS.n8; have m8:=hS.m8; have hpl:=hS.ps.len
 have hnm : n * m ≤ 64:=Nat.mul_le_mul h8 m8
 unfold spec_vPlan
 rw [tOwn_ok hS.ps (by omega) (by omega),Option.bind_some]
 have h : loopC (spec_vPlan_l1 x q p) (0,(impl_Plan.mk p 0 0)) = some ⟨p,cntP n m q p,valP n m x q p⟩:=by
  refine tot_eq (tot_loop (fun s=>∃ i : Nat,i ≤ n∧s = ((i : Int),⟨p,sm (i * m) (gN m q p),sm (i * m) (gV m x q p)⟩)) (fun s=>n - s.1.toNat) ⟨0,by omega,by simp [sm]⟩ ?_)
  rintro _ ⟨i,hi',rfl⟩
  by_cases hi : i < n
  ·obtain ⟨pr,hpr,_,hprl,_,_⟩:=hS.ps.get hi
   obtain ⟨qr,hqr,_,_,_,_⟩:=hq.get hi
   obtain ⟨xr,hxr,_,_,_,_⟩:=hS.xs.get hi
   have him : i * m + m ≤ n * m:=by have:=Nat.mul_le_mul_right m (show i + 1 ≤ n by omega); rw [Nat.succ_mul] at this; exact this
   have h2 : loopC (spec_vPlan_l2 x q (i : Int) pr) (0,⟨p,sm (i * m) (gN m q p),sm (i * m) (gV m x q p)⟩) = some ⟨p,sm (i * m + m) (gN m q p),sm (i * m + m) (gV m x q p)⟩:=by
    refine tot_eq (tot_loop (fun s=>∃ j : Nat,j ≤ m∧s = ((j : Int),⟨p,sm (i * m + j) (gN m q p),sm (i * m + j) (gV m x q p)⟩)) (fun s=>m - s.1.toNat) ⟨0,by omega,rfl⟩ ?_)
    rintro _ ⟨j,hj',rfl⟩
    by_cases hj : j < m
    ·have hy:=hS.ps.el hpr hj
     obtain ⟨⟨b1,b2⟩,b3,b4⟩:=part_bd (q:=q) hS (K:=i * m + j) (by omega)
     have bx:=hS.xb i j hi hj
     simp only [spec_vPlan_l2,lt_ok hy,cond_true,at_ok hy,at_ok hqr,at_ok (hq.el hqr hj),at_ok hxr,at_ok (hS.xs.el hxr hj),Option.bind_some]
     rw [wid (n:=(j : Int) + 1) (by omega) (by omega)]
     have s1 : sm (i * m + (j + 1)) (gN m q p) = sm (i * m + j) (gN m q p) + (if mt p i j = 1∧mt q i j = 0 then 1 else 0):=by
      rw [← Nat.add_assoc]
      show sm (i * m + j) (gN m q p) + gN m q p (i * m + j) = _
      unfold gN
      rw [at1_ij hj,at1_ij hj]
     have s2 : sm (i * m + (j + 1)) (gV m x q p) = sm (i * m + j) (gV m x q p) + (if mt p i j = 1∧mt q i j = 0 then mt x i j else 0):=by
      rw [← Nat.add_assoc]
      show sm (i * m + j) (gV m x q p) + gV m x q p (i * m + j) = _
      unfold gV
      rw [at1_ij hj,at1_ij hj,at1_ij hj]
     by_cases h1 : mt p i j = 1
     ·rw [show (mt p i j == 1) = true by rw [beq_iff_eq]; exact h1]
      simp only [cond_true,Option.bind_some]
      by_cases h0 : mt q i j = 0
      ·rw [show (mt q i j == 0) = true by rw [beq_iff_eq]; exact h0]
       simp only [cond_true,Option.bind_some]
       rw [wid (by omega) (by omega),wid (by omega) (by omega)]
       rw [if_pos ⟨h1,h0⟩] at s1 s2
       exact tot_some ⟨⟨j + 1,by omega,by rw [s1,s2]; rfl⟩,by simp only; omega⟩
      ·rw [show (mt q i j == 0) = false by rw [beq_eq_false_iff_ne]; exact h0]
       simp only [cond_false,Option.bind_some]
       rw [if_neg (fun h=>h0 h.2),Int.add_zero] at s1 s2
       exact tot_some ⟨⟨j + 1,by omega,by rw [s1,s2]; rfl⟩,by simp only; omega⟩
     ·rw [show (mt p i j == 1) = false by rw [beq_eq_false_iff_ne]; exact h1]
      simp only [cond_false,Option.bind_some]
      rw [if_neg (fun h=>h1 h.1),Int.add_zero] at s1 s2
      exact tot_some ⟨⟨j + 1,by omega,by rw [s1,s2]; rfl⟩,by simp only; omega⟩
    ·obtain rfl : j = m:=by omega
     have e3 : decide ((j : Int) < goLen pr) = false:=decide_eq_false (by simp only [goLen]; omega)
     simp only [spec_vPlan_l2,e3,cond_false]
     exact tot_some rfl
   simp only [spec_vPlan_l1,lt_ok hpr,cond_true,at_ok hpr,Option.bind_some]
   rw [h2,Option.bind_some,wid (by omega) (by omega)]
   exact tot_some ⟨⟨i + 1,by omega,by rw [Nat.succ_mul]; rfl⟩,by simp only; omega⟩
  ·obtain rfl : i = n:=by omega
   have e3 : decide ((i : Int) < goLen p) = false:=decide_eq_false (by simp only [goLen]; omega)
   simp only [spec_vPlan_l1,e3,cond_false]
   exact tot_some rfl
 rw [h]; rfl

theorem checkL_ok (hS : Sup n m x p) (hq : Shp n m q) : loopC (impl_CheckPlan_l1 x q (pAll m (is1 p) n)) (0,0,0) = some (cntP n m q p,valP n m x q p):=by
 have h8:=hS.n8; have m8:=hS.m8; have m1:=hS.m1
 have hnm : n * m ≤ 64:=Nat.mul_le_mul h8 m8
 rw [pAll_range (by omega)]
 generalize hP : (fun k=>is1 p (k / m) (k % m)) = P
 have hPk : ∀ k,P k = true ↔ at1 m (mt p) k = 1:=fun k=>by rw [← hP]; exact is1_iff
 have hl : ((List.range (n * m)).filter P).length ≤ n * m:=Nat.le_trans (List.length_filter_le _ _) (by simp)
 have hmem : ∀ k ∈ (List.range (n * m)).filter P,k < n * m:=fun k hk=>List.mem_range.1 (List.mem_filter.1 hk).1
 have e1 : cntP n m q p = (((List.range (n * m)).filter P).map fun k=>if at1 m (mt q) k = 0 then (1 : Int) else 0).sum:=by
  rw [sm_filter]
  unfold cntP
  refine sm_congr fun k hk=>?_
  unfold gN
  by_cases h1 : at1 m (mt p) k = 1
  ·rw [if_pos ((hPk k).2 h1)]
   by_cases h0 : at1 m (mt q) k = 0
   ·rw [if_pos ⟨h1,h0⟩,if_pos h0]
   ·rw [if_neg (fun h=>h0 h.2),if_neg h0]
  ·rw [if_neg (fun h=>h1 h.1),if_neg (fun h=>h1 ((hPk k).1 h))]
 have e2 : valP n m x q p = (((List.range (n * m)).filter P).map fun k=>if at1 m (mt q) k = 0 then at1 m (mt x) k else 0).sum:=by
  rw [sm_filter]
  unfold valP
  refine sm_congr fun k hk=>?_
  unfold gV
  by_cases h1 : at1 m (mt p) k = 1
  ·rw [if_pos ((hPk k).2 h1)]
   by_cases h0 : at1 m (mt q) k = 0
   ·rw [if_pos ⟨h1,h0⟩,if_pos h0]
   ·rw [if_neg (fun h=>h0 h.2),if_neg h0]
  ·rw [if_neg (fun h=>h1 h.1),if_neg (fun h=>h1 ((hPk k).1 h))]
 rw [e1,e2]
 generalize (List.range (n * m)).filter P = L at hl hmem
 have bd : ∀ l : List Nat,(∀ k ∈ l,k < n * m)→l.length ≤ 64→(0 ≤ (l.map fun k=>if at1 m (mt q) k = 0 then (1 : Int) else 0).sum∧(l.map fun k=>if at1 m (mt q) k = 0 then (1 : Int) else 0).sum ≤ l.length)∧0 ≤ (l.map fun k=>if at1 m (mt q) k = 0 then at1 m (mt x) k else 0).sum∧(l.map fun k=>if at1 m (mt q) k = 0 then at1 m (mt x) k else 0).sum ≤ 1000 * l.length:=by
  intro l
  induction l with
  | nil=>intro _ _; simp
  | cons k l ih =>
   intro h1 h2
   have:=ih (fun e he=>h1 e (by simp [he])) (by simp only [List.length_cons] at h2; omega)
   have hx:=hS.x1 (h1 k (by simp))
   simp only [List.map_cons,List.sum_cons,List.length_cons]
   split <;> omega
 refine tot_eq (tot_loop (fun s=>∃ a : Nat,a ≤ L.length∧s = (((L.take a).map fun k=>if at1 m (mt q) k = 0 then (1 : Int) else 0).sum,((L.take a).map fun k=>if at1 m (mt q) k = 0 then at1 m (mt x) k else 0).sum,(a : Int))) (fun s=>L.length - s.2.2.toNat) ⟨0,by omega,rfl⟩ ?_)
 rintro _ ⟨a,ha',rfl⟩
 by_cases ha : a < L.length
 ·have hk : L[a] < n * m:=hmem _ (List.getElem_mem ha)
  obtain ⟨h1,h2,_⟩:=pos_bd hk
  obtain ⟨qr,hqr,_,_,_,_⟩:=hq.get h1
  obtain ⟨xr,hxr,_,_,_,_⟩:=hS.xs.get h1
  have hx : (L.map (posI m))[a]? = some (posI m L[a]):=by simp [ha]
  have g0 : goAt (posI m L[a]) 0 = some ((L[a] / m : Nat) : Int):=rfl
  have g1 : goAt (posI m L[a]) 1 = some ((L[a] % m : Nat) : Int):=rfl
  have tl : (L.take a).length ≤ 64:=by rw [List.length_take]; omega
  obtain ⟨⟨b1,b2⟩,b3,b4⟩:=bd (L.take a) (fun k hk=>hmem k (List.mem_of_mem_take hk)) tl
  have bx:=hS.x1 hk
  have ht : L.take (a + 1) = L.take a ++ [L[a]]:=by rw [List.take_succ,List.getElem?_eq_getElem ha]; rfl
  simp only [impl_CheckPlan_l1,lt_ok hx,cond_true,at_ok hx,Option.bind_some,g0,g1,at_ok hqr,at_ok (hq.el hqr h2),at_ok hxr,at_ok (hS.xs.el hxr h2)]
  rw [wid (n:=(a : Int) + 1) (by omega) (by omega)]
  have hqq : mt q (L[a] / m) (L[a] % m) = at1 m (mt q) L[a]:=rfl
  have hxx : mt x (L[a] / m) (L[a] % m) = at1 m (mt x) L[a]:=rfl
  rw [hqq,hxx]
  by_cases h0 : at1 m (mt q) L[a] = 0
  ·rw [show (at1 m (mt q) L[a] == 0) = true by rw [beq_iff_eq]; exact h0]
   simp only [cond_true,Option.bind_some]
   rw [wid (by omega) (by omega),wid (by omega) (by omega)]
   refine tot_some ⟨⟨a + 1,by omega,?_⟩,by simp only; omega⟩
   rw [ht,List.map_append,List.map_append,List.sum_append,List.sum_append]
   simp only [List.map_cons,List.map_nil,List.sum_cons,List.sum_nil,Int.add_zero]
   rw [if_pos h0,if_pos h0]; rfl
  ·rw [show (at1 m (mt q) L[a] == 0) = false by rw [beq_eq_false_iff_ne]; exact h0]
   simp only [cond_false,Option.bind_some]
   refine tot_some ⟨⟨a + 1,by omega,?_⟩,by simp only; omega⟩
   rw [ht,List.map_append,List.map_append,List.sum_append,List.sum_append]
   simp only [List.map_cons,List.map_nil,List.sum_cons,List.sum_nil,Int.add_zero]
   rw [if_neg h0,if_neg h0,Int.add_zero,Int.add_zero]; rfl
 ·obtain rfl : a = L.length:=by omega
  have e3 : decide (((L.length : Nat) : Int) < goLen (L.map (posI m))) = false:=decide_eq_false (by simp only [goLen,List.length_map]; omega)
  simp only [impl_CheckPlan_l1,e3,cond_false]
  exact tot_some (by rw [List.take_length])

def GrR (n m : Nat) (x q : List (List Int)) (d u : Int) (r : impl_Plan × Bool) : Prop :=
 (r.2 = true∧Sup n m x r.1.Pattern∧Cov n m r.1.Pattern q∧sfB n m x q r.1.Pattern d u = true∧r.1.Added = cntP n m q r.1.Pattern) ∨
 (r = (⟨[],0,0⟩,false)∧∃ p,Sup n m x p∧Cov n m p q∧freeK n m p = []∧sfB n m x q p d u = false)

theorem freeK_upd (hp : Shp n m p) {c : Nat} (hc : c < n * m) : freeK n m (upd p (c / m) (c % m) 1) = (freeK n m p).filter fun k=>k != c:=by
 unfold freeK
 rw [List.filter_filter]
 refine List.filter_congr fun k hk=>?_
 unfold frB
 rw [at1_updK hp hc (List.mem_range.1 hk)]
 by_cases h : k = c
 ·rw [if_pos h,h]; simp
 ·rw [if_neg h,show (k != c) = true by simp [h],Bool.true_and]

theorem sup_upd (hS : Sup n m x p) (hc : Cov n m p q) {c : Nat} (hcn : c < n * m) : Sup n m x (upd p (c / m) (c % m) 1)∧Cov n m (upd p (c / m) (c % m) 1) q:=by
 obtain ⟨s1,s2⟩:=supW hS (C:=[c]) fun k hk=>by rw [List.mem_singleton.1 hk]; exact hcn
 exact ⟨s1,fun i j hi hj h=>s2 i j hi hj (hc i j hi hj h)⟩

theorem greedy_step (hS : Sup n m x p) (hq : Shp n m q) (hc : Cov n m p q) (hd : 0 ≤ d∧d ≤ 1000∧0 ≤ u∧u ≤ 1000) :
  (sfB n m x q p d u = true∧impl_GreedyPlan_l1 x q d u ⟨p,cntP n m q p,valP n m x q p⟩ = some (.done (.inr (⟨p,cntP n m q p,valP n m x q p⟩,true)))∧spec_GreedyPlan_l1 x q d u p = some (.done (.inr (⟨p,cntP n m q p,valP n m x q p⟩,true)))) ∨
  (sfB n m x q p d u = false∧freeK n m p = []∧impl_GreedyPlan_l1 x q d u ⟨p,cntP n m q p,valP n m x q p⟩ = some (.done (.inr (⟨[],0,0⟩,false)))∧spec_GreedyPlan_l1 x q d u p = some (.done (.inr (⟨[],0,0⟩,false)))) ∨
  (∃ k ∈ freeK n m p,impl_GreedyPlan_l1 x q d u ⟨p,cntP n m q p,valP n m x q p⟩ = some (.next ⟨upd p (k / m) (k % m) 1,cntP n m q p + 1,valP n m x q p + at1 m (mt x) k⟩)∧spec_GreedyPlan_l1 x q d u p = some (.next (upd p (k / m) (k % m) 1))):=by
 have h8:=hS.n8; have m8:=hS.m8; have n1:=hS.n1; have m1:=hS.m1
 obtain ⟨⟨b1,b2⟩,b3,b4⟩:=part_bd (q:=q) hS (K:=n * m) (Nat.le_refl _)
 have b1' : 0 ≤ cntP n m q p:=b1
 have b2' : cntP n m q p ≤ 64:=b2
 have b3' : 0 ≤ valP n m x q p:=b3
 have b4' : valP n m x q p ≤ 64000:=b4
 have eU : impl_unprotected_own x p q d u = some (pAll m (opB n m x q p d u) n):=by rw [unprot_own]; exact unprot_ok hS hq hc hd
 have eO:=vOpen_ok hS hq hc hd
 cases hO : pAll m (opB n m x q p d u) n with
 | nil =>
  refine .inl ⟨sf_nil.2 hO,?_,?_⟩
  ·unfold impl_GreedyPlan_l1
   simp only
   rw [eU,hO]; rfl
  ·unfold spec_GreedyPlan_l1
   rw [eO,hO,Option.bind_some,show (goLen ([] : List (List Int)) == 0) = true from rfl,cond_true,vPlan_ok hS hq]; rfl
 | cons e l =>
  have hsf : sfB n m x q p d u = false:=by
   cases h : sfB n m x q p d u with
   | false=>rfl
   | true=>rw [sf_nil.1 h] at hO; cases hO
  obtain ⟨i,j,hi,hj,_,he⟩:=pAll_mem (m:=m) (q:=opB n m x q p d u) (i:=n) (e:=e) (by rw [hO]; simp)
  subst he
  have hlen : (goLen ([(i : Int),(j : Int)] :: l) == 0) = false:=by rw [beq_eq_false_iff_ne]; simp only [goLen,List.length_cons]; omega
  have z0 : goAt ([(i : Int),(j : Int)] :: l) 0 = some [(i : Int),(j : Int)]:=rfl
  have z1 : goAt [(i : Int),(j : Int)] 0 = some (i : Int):=rfl
  have z2 : goAt [(i : Int),(j : Int)] 1 = some (j : Int):=rfl
  have hmt : ∀ b : Option Nat,(optI m b).isEmpty = b.isNone:=fun b=>by cases b <;> rfl
  have hch : ((cond (optI m (bstL m x (fun k=>((k / m : Nat) : Int) == (i : Int)) (freeK n m p))).isEmpty ((impl_cheapestCell_own_of_impl_GreedyPlan_2 x p (j : Int)).bind fun t_35=>some t_35) (some (optI m (bstL m x (fun k=>((k / m : Nat) : Int) == (i : Int)) (freeK n m p)))) : Option (List Int)).bind fun next_37=>(cond next_37.isEmpty ((impl_cheapestCell_own_of_impl_GreedyPlan_3 x p).bind fun t_41=>some t_41) (some next_37) : Option (List Int))) = some (optI m (nextK n m x p i j)):=by
   unfold nextK
   rw [cheap2 hS,cheap3 hS,hmt]
   cases h1 : bstL m x (fun k=>((k / m : Nat) : Int) == (i : Int)) (freeK n m p) with
   | some k=>rfl
   | none =>
    simp only [Option.isNone_none,cond_true,Option.bind_some]
    rw [hmt]
    cases h2 : bstL m x (fun k=>((k % m : Nat) : Int) == (j : Int)) (freeK n m p) with
    | some k=>rfl
    | none=>rfl
  have hI : impl_GreedyPlan_l1 x q d u ⟨p,cntP n m q p,valP n m x q p⟩ = (cond (optI m (nextK n m x p i j)).isEmpty (some (.done (.inr ((impl_Plan.mk ([] : List (List Int)) 0 0),false)))) ((goAt (optI m (nextK n m x p i j)) 0).bind fun e_46=>((goAt p e_46).bind fun e_48=>((goAt (optI m (nextK n m x p i j)) 1).bind fun e_50=>((goAt e_48 e_50).bind fun e_52=>((goAt (optI m (nextK n m x p i j)) 0).bind fun e_55=>((goAt x e_55).bind fun e_57=>((goAt (optI m (nextK n m x p i j)) 1).bind fun e_60=>((goAt e_57 e_60).bind fun e_62=>some (.next (impl_Plan.mk (goSet p e_46 (goSet e_48 e_50 1)) (w64 (cntP n m q p + 1)) (w64 (valP n m x q p + e_62))))))))))))):=by
   unfold impl_GreedyPlan_l1
   simp only
   rw [eU,hO,Option.bind_some,hlen,cond_false,z0]
   simp only [Option.bind_some,z1,z2]
   rw [cheap1 hS,Option.bind_some]
   generalize hA : (cond (optI m (bstL m x (fun k=>((k / m : Nat) : Int) == (i : Int)) (freeK n m p))).isEmpty ((impl_cheapestCell_own_of_impl_GreedyPlan_2 x p (j : Int)).bind fun t_35=>some t_35) (some (optI m (bstL m x (fun k=>((k / m : Nat) : Int) == (i : Int)) (freeK n m p)))) : Option (List Int)) = A at hch ⊢
   cases A with
   | none=>cases hch
   | some v =>
    simp only [Option.bind_some] at hch ⊢
    rw [hch]
    rfl
  have hSp : spec_GreedyPlan_l1 x q d u p = (cond (decide (optS (nextK n m x p i j) < 0)) (some (.done (.inr ((impl_Plan.mk ([] : List (List Int)) 0 0),false)))) ((spec_vWith p ([optS (nextK n m x p i j)] : List Int)).bind fun t_29=>some (.next t_29))):=by
   unfold spec_GreedyPlan_l1
   rw [eO,hO,Option.bind_some,hlen,cond_false,z0]
   simp only [Option.bind_some,z1,z2]
   rw [vNext_ok hS,Option.bind_some]
  cases hk : nextK n m x p i j with
  | none =>
   rw [hk] at hI hSp
   exact .inr (.inl ⟨hsf,nextK_none hk,hI,hSp⟩)
  | some k =>
   have hkm:=nextK_mem hk
   obtain ⟨hkn,hk0⟩:=freeK_mem.1 hkm
   obtain ⟨h1,h2,_⟩:=pos_bd hkn
   obtain ⟨pr,hpr,_,_,_,_⟩:=hS.ps.get h1
   obtain ⟨xr,hxr,_,_,_,_⟩:=hS.xs.get h1
   have bx:=hS.x1 hkn
   rw [hk] at hI hSp
   refine .inr (.inr ⟨k,hkm,?_,?_⟩)
   ·have y0 : goAt (optI m (some k)) 0 = some ((k / m : Nat) : Int):=rfl
    have y1 : goAt (optI m (some k)) 1 = some ((k % m : Nat) : Int):=rfl
    rw [hI,show (optI m (some k)).isEmpty = false from rfl,cond_false,y0,y1]
    simp only [Option.bind_some,at_ok hpr,at_ok (hS.ps.el hpr h2),at_ok hxr,at_ok (hS.xs.el hxr h2),goSet,Int.toNat_natCast]
    have hxx : mt x (k / m) (k % m) = at1 m (mt x) k:=rfl
    rw [set_upd hpr,hxx,wid (by omega) (by omega),wid (by omega) (by omega)]
   ·have hw:=withS_ok hS.ps n1 m1 h8 m8 (C:=[k]) (fun c hc=>by rw [List.mem_singleton.1 hc]; exact hkn) (by simp)
    have e1 : ints [k] = [optS (some k)]:=rfl
    have e2 : wthK m p [k] = upd p (k / m) (k % m) 1:=rfl
    rw [e1,e2] at hw
    rw [hSp,decide_eq_false (show ¬ optS (some k) < 0 by show ¬ (k : Int) < 0; omega),cond_false,hw]
    rfl

theorem greedy_loop (hq : Shp n m q) (hqb : ∀ i j,i < n→j < m→0 ≤ mt q i j∧mt q i j ≤ 1) (hd : 0 ≤ d∧d ≤ 1000∧0 ≤ u∧u ≤ 1000) : ∀ (N : Nat) (p : List (List Int)),(freeK n m p).length ≤ N→Sup n m x p→Cov n m p q →
  ∃ r,loopC (impl_GreedyPlan_l1 x q d u) ⟨p,cntP n m q p,valP n m x q p⟩ = some (.inr r)∧loopC (spec_GreedyPlan_l1 x q d u) p = some (.inr r)∧GrR n m x q d u r:=by
 intro N
 induction N with
 | zero =>
  intro p hl hS hc
  have hf : freeK n m p = []:=List.eq_nil_of_length_eq_zero (by omega)
  rcases greedy_step hS hq hc hd with ⟨h1,h2,h3⟩ | ⟨h1,h2,h3,h4⟩ | ⟨k,hk,_⟩
  ·rw [loopC_eq,h2,loopC_eq (body:=spec_GreedyPlan_l1 x q d u),h3]
   exact ⟨_,rfl,rfl,.inl ⟨rfl,hS,hc,h1,rfl⟩⟩
  ·rw [loopC_eq,h3,loopC_eq (body:=spec_GreedyPlan_l1 x q d u),h4]
   exact ⟨_,rfl,rfl,.inr ⟨rfl,p,hS,hc,h2,h1⟩⟩
  ·rw [hf] at hk; cases hk
 | succ N ih =>
  intro p hl hS hc
  rcases greedy_step hS hq hc hd with ⟨h1,h2,h3⟩ | ⟨h1,h2,h3,h4⟩ | ⟨k,hk,h2,h3⟩
  ·rw [loopC_eq,h2,loopC_eq (body:=spec_GreedyPlan_l1 x q d u),h3]
   exact ⟨_,rfl,rfl,.inl ⟨rfl,hS,hc,h1,rfl⟩⟩
  ·rw [loopC_eq,h3,loopC_eq (body:=spec_GreedyPlan_l1 x q d u),h4]
   exact ⟨_,rfl,rfl,.inr ⟨rfl,p,hS,hc,h2,h1⟩⟩
  ·obtain ⟨hkn,hk0⟩:=freeK_mem.1 hk
   obtain ⟨i1,i2,_⟩:=pos_bd hkn
   have hq0 : at1 m (mt q) k = 0:=by
    have hb:=hS.pb _ _ i1 i2
    by_cases h : at1 m (mt q) k = 1
    ·have : mt p (k / m) (k % m) = 1:=hc _ _ i1 i2 h
     have e : at1 m (mt p) k = mt p (k / m) (k % m):=rfl
     omega
    ·have hb2:=hqb _ _ i1 i2
     have e : at1 m (mt q) k = mt q (k / m) (k % m):=rfl
     omega
   obtain ⟨u1,u2⟩:=cnt_upd (x:=x) hS.ps hkn hk0 hq0
   obtain ⟨s1,s2⟩:=sup_upd hS hc hkn
   have hlt : (freeK n m (upd p (k / m) (k % m) 1)).length ≤ N:=by
    rw [freeK_upd hS.ps hkn]
    have : ((freeK n m p).filter fun e=>e != k).length < (freeK n m p).length:=List.length_filter_lt_length_iff_exists.2 ⟨k,hk,by simp⟩
    omega
   rw [loopC_eq,h2,loopC_eq (body:=spec_GreedyPlan_l1 x q d u),h3]
   simp only
   have:=ih _ hlt s1 s2
   rw [u1,u2] at this
   exact this

end

end Go.Gx.F
