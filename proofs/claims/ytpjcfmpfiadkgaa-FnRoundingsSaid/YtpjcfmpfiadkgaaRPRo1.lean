/- Plain laws: matrices that can be rounded,on both sides; what is drawn. -/
import Derived.Test.YtpjcfmpfiadkgaaRPWi1

namespace Go.Gx.F

open Go.Gx

set_option linter.all false

set_option maxRecDepth 10000

theorem runM {ρ : Type} {f : Int→Option (Stp Int ρ)} {N : Nat} {r : ρ} (hN : N ≤ 100000) (hs : ∀ k : Nat,k < N→f k = some (.next (w64 ((k : Int) + 1)))) (he : f (N : Int) = some (.done r)) : loopC f 0 = some r:=by
 refine tot_eq (tot_loop (fun s=>∃ k : Nat,k ≤ N∧s = (k : Int)) (fun s=>N - s.toNat) ⟨0,by omega,rfl⟩ ?_)
 rintro _ ⟨k,hk,rfl⟩
 by_cases hlt : k < N
 ·rw [hs k hlt,wid (by omega) (by omega)]
  exact tot_some ⟨⟨k + 1,by omega,by omega⟩,by omega⟩
 ·obtain rfl : k = N:=by omega
  rw [he]
  exact tot_some rfl

theorem sameInts_r {l : List Int} (h : l.length ≤ 1000) : laws_sameInts l l = some true:=by
 unfold laws_sameInts
 rw [bne_self_eq_false,cond_false]
 have e : loopC (laws_sameInts_l1 l l) 0 = some (.inl ()):=runM (N:=l.length) (by omega) (fun k hk=>by
  have hx:=vc_at hk
  simp only [laws_sameInts_l1,lt_ok hx,cond_true,at_ok hx,Option.bind_some,bne_self_eq_false,cond_false]) (by simp only [laws_sameInts_l1,lt_end,cond_false])
 rw [e]; rfl

theorem sameLists_r {x : List (List Int)} (h : x.length ≤ 1000) (h2 : ∀ r ∈ x,r.length ≤ 1000) : laws_sameLists x x = some true:=by
 unfold laws_sameLists
 rw [bne_self_eq_false,cond_false]
 have e : loopC (laws_sameLists_l1 x x) 0 = some (.inl ()):=runM (N:=x.length) (by omega) (fun k hk=>by
  have hx : x[k]? = some x[k]:=by simp [hk]
  simp only [laws_sameLists_l1,lt_ok hx,cond_true,at_ok hx,Option.bind_some]
  rw [sameInts_r (h2 _ (List.getElem_mem hk))]
  rfl) (by simp only [laws_sameLists_l1,lt_end,cond_false])
 rw [e]; rfl

theorem sameLists_n {n m : Nat} {x : List (List Int)} (h : Shp n m x) (hn : n ≤ 8) (hm : m ≤ 8) : laws_sameLists x x = some true :=
 sameLists_r (by have:=h.len; omega) fun r hr=>by have:=h.row r hr; omega

structure Mx (n m : Nat) (x : List (List Int)) : Prop where
 n1 : 1 ≤ n
 n7 : n ≤ 7
 m1 : 1 ≤ m
 m7 : m ≤ 7
 sh : Shp n m x
 bd : ∀ i j,i < n→j < m→0 ≤ mt x i j∧mt x i j ≤ 10000

def Gr (x : List (List Int)) : Prop:=1 ≤ x.length∧x.length ≤ 7∧1 ≤ wdt x∧wdt x ≤ 7∧(∀ r ∈ x,r.length = wdt x)∧∀ r ∈ x,∀ v ∈ r,0 ≤ v∧v ≤ 10000

theorem Gr.mx {x : List (List Int)} (h : Gr x) : Mx x.length (wdt x) x:=by
 obtain ⟨a,b,c,d,e,f⟩:=h
 have sh : Shp x.length (wdt x) x:=⟨rfl,e⟩
 refine ⟨a,b,c,d,sh,fun i j hi hj=>?_⟩
 obtain ⟨r,er,hm,hl,hv,_⟩:=sh.get hi
 exact f r hm _ (List.mem_of_getElem? (sh.el er hj))

theorem gridOf_bis {x : List (List Int)} {m : Int} (hx : Sz x) (h1 : 1 ≤ x.length) : Bis (impl_isGridOf x m) (1 ≤ wdt x∧(∀ r ∈ x,r.length = wdt x)∧∀ r ∈ x,∀ v ∈ r,0 ≤ v∧v ≤ m):=by
 unfold impl_isGridOf
 obtain ⟨s1,s2⟩:=hx
 have main : Bis ((cond ((goLen x) == 0) (some true) ((goAt x 0).bind fun e_2=>(cond ((goLen e_2) == 0) (some true) ((goAt x 0).bind fun e_5=>((impl_hasShape x (goLen x) (goLen e_5)).bind fun t_8=>some (!t_8)))))) : Option Bool)
   (¬ (1 ≤ wdt x∧∀ r ∈ x,r.length = wdt x)):=by
  rw [show ((goLen x) == 0) = false by rw [beq_eq_false_iff_ne]; simp only [goLen]; omega,cond_false,head_ok h1]
  simp only [Option.bind_some]
  by_cases h3 : 1 ≤ wdt x
  ·have h3' : 1 ≤ (x.headD []).length:=h3
   rw [show ((goLen (x.headD [])) == 0) = false by rw [beq_eq_false_iff_ne]; simp only [goLen]; omega,cond_false]
   refine bis_iff (bis_not (shape_bis (by omega))) ?_
   simp only [h3,true_and,goLen]
   refine not_congr ⟨fun h r hr=>?_,fun h r hr=>?_⟩
   ·have:=h r hr; unfold wdt; omega
   ·have:=h r hr; unfold wdt at this; omega
  ·have h3' : ¬ 1 ≤ (x.headD []).length:=h3
   rw [show ((goLen (x.headD [])) == 0) = true by rw [beq_iff_eq]; simp only [goLen]; omega,cond_true]
   exact bis_some (by simp only [true_iff]; rintro ⟨h,_⟩; exact h3 h)
 refine bis_iff (bis_cnot main fun hq=>bis_loop (l:=x) (fun _ r=>∀ v ∈ r,0 ≤ v∧v ≤ m) (fun k r hr=>?_) ?_) ?_
 ·have hrl : r.length ≤ 10:=s2 r (List.mem_of_getElem? hr)
  obtain ⟨b,hb,e⟩:=loop_find (l:=r) (fun _ v=>v < 0 ∨ m < v) (.done (.inr false) : Stp Int (Unit ⊕ Bool)) (body:=impl_isGridOf_l2 m r) (fun j v hv=>⟨decide (v < 0) || decide (m < v),by simp,by
   simp only [impl_isGridOf_l2,lt_ok hv,at_ok hv,cond_true,Option.bind_some,nx_ok hv (show r.length ≤ 9223372036854775807 by omega)]
   by_cases h1 : v < 0 <;> by_cases h2 : m < v <;> simp [h1,h2]⟩) (by simp only [impl_isGridOf_l2,lt_end,cond_false])
  refine ⟨!b,?_,?_⟩
  ·rw [Bool.not_eq_true',← Bool.not_eq_true,hb]
   constructor
   ·intro h v hv
    obtain ⟨j,hj⟩:=List.getElem?_of_mem hv
    have : ¬ (v < 0 ∨ m < v):=fun hc=>h ⟨j,v,hj,hc⟩
    omega
   ·rintro h ⟨j,v,hj,hc⟩
    have:=h v (List.mem_of_getElem? hj)
    omega
  ·simp only [impl_isGridOf_l1,lt_ok hr,at_ok hr,cond_true,Option.bind_some,nx_ok hr (show x.length ≤ 9223372036854775807 by omega),e]
   cases b <;> rfl
 ·simp only [impl_isGridOf_l1,lt_end,cond_false]
 ·rw [all_mem_iff]
  constructor
  ·rintro ⟨h1,h2⟩
   have h3:=Classical.not_not.1 h1
   exact ⟨h3.1,h3.2,h2⟩
  ·rintro ⟨a,b,c⟩
   exact ⟨fun h=>h ⟨a,b⟩,c⟩

theorem isMatrix_bis {x : List (List Int)} (hx : Sz x) : Bis (impl_isMatrix x) (Gr x):=by
 unfold impl_isMatrix
 by_cases h1 : 1 ≤ x.length
 ·rw [decide_eq_false (show ¬ goLen x < 1 by simp only [goLen]; omega),cond_false]
  by_cases h2 : x.length ≤ 7
  ·rw [decide_eq_false (show ¬ 7 < goLen x by simp only [goLen]; omega),cond_false,head_ok h1]
   simp only [Option.bind_some]
   by_cases h4 : wdt x ≤ 7
   ·have h4' : (x.headD []).length ≤ 7:=h4
    rw [decide_eq_false (show ¬ 7 < goLen (x.headD []) by simp only [goLen]; omega),cond_false]
    refine bis_iff (bis_ret (gridOf_bis hx h1)) ?_
    unfold Gr
    exact ⟨fun h=>⟨h1,h2,h.1,h4,h.2.1,h.2.2⟩,fun h=>⟨h.2.2.1,h.2.2.2.2.1,h.2.2.2.2.2⟩⟩
   ·have h4' : ¬ (x.headD []).length ≤ 7:=h4
    rw [decide_eq_true (show 7 < goLen (x.headD []) by simp only [goLen]; omega),cond_true]
    exact bis_some (by simp only [Bool.false_eq_true,false_iff]; exact fun h=>h4 h.2.2.2.1)
  ·rw [decide_eq_true (show 7 < goLen x by simp only [goLen]; omega)]
   exact bis_some (by simp only [Bool.false_eq_true,false_iff]; exact fun h=>h2 h.2.1)
 ·rw [decide_eq_true (show goLen x < 1 by simp only [goLen]; omega)]
  exact bis_some (by simp only [Bool.false_eq_true,false_iff]; exact fun h=>h1 h.1)

theorem oMatrix_bis {x : List (List Int)} (hx : Sz x) : Bis (spec_oMatrix x) (Gr x):=by
 unfold spec_oMatrix
 obtain ⟨s1,s2⟩:=hx
 have main : Bis ((spec_l1In (goLen x) 1 7).bind fun t_2=>(cond (!t_2) (some true) ((goAt x 0).bind fun e_3=>((spec_l1In (goLen e_3) 1 7).bind fun t_6=>some (!t_6))))) (¬ (1 ≤ x.length∧x.length ≤ 7∧1 ≤ wdt x∧wdt x ≤ 7)):=by
  rw [lIn_eq,Option.bind_some]
  by_cases h : 1 ≤ goLen x∧goLen x ≤ 7
  ·have h1 : 1 ≤ x.length:=by simp only [goLen] at h; omega
   have h2 : x.length ≤ 7:=by simp only [goLen] at h; omega
   rw [decide_eq_true h,Bool.not_true,cond_false,head_ok h1,Option.bind_some,lIn_eq,Option.bind_some]
   refine bis_some ?_
   have e : goLen (x.headD []) = (wdt x : Int):=rfl
   rw [Bool.not_eq_true',decide_eq_false_iff_not,e]
   refine not_congr ⟨fun g=>⟨h1,h2,by omega,by omega⟩,fun g=>⟨by omega,by omega⟩⟩
  ·rw [decide_eq_false h,Bool.not_false,cond_true]
   refine bis_some ?_
   simp only [true_iff]
   intro g
   exact h (by simp only [goLen]; omega)
 refine bis_iff (bis_cnot main fun hq=>bis_loop (l:=x) (fun _ r=>r.length = wdt x∧∀ v ∈ r,0 ≤ v∧v ≤ 10000) (fun k r hr=>?_) ?_) ?_
 ·have hq:=Classical.not_not.1 hq
  have hrl : r.length ≤ 10:=s2 r (List.mem_of_getElem? hr)
  obtain ⟨c,ec,hc⟩:=lAll_bis (l:=r) (lo:=0) (hi:=10000) (by omega)
  refine ⟨decide (r.length = wdt x) && c,by rw [Bool.and_eq_true,decide_eq_true_iff,hc],?_⟩
  simp only [spec_oMatrix_l1,lt_ok hr,at_ok hr,cond_true,Option.bind_some,nx_ok hr (show x.length ≤ 9223372036854775807 by omega),head_ok hq.1,ec]
  have e : ((goLen r) != (goLen (x.headD []))) = !decide (r.length = wdt x):=by
   have e2 : goLen (x.headD []) = (wdt x : Int):=rfl
   rw [e2]
   by_cases h : r.length = wdt x
   ·simp [goLen,h]
   ·simp only [goLen,h,decide_false,Bool.not_false,bne_iff_ne,ne_eq]; omega
  rw [e]
  cases decide (r.length = wdt x) <;> cases c <;> rfl
 ·simp only [spec_oMatrix_l1,lt_end,cond_false]
 ·rw [all_mem_iff]
  unfold Gr
  constructor
  ·rintro ⟨h1,h2⟩
   have h3:=Classical.not_not.1 h1
   exact ⟨h3.1,h3.2.1,h3.2.2.1,h3.2.2.2,fun r hr=>(h2 r hr).1,fun r hr=>(h2 r hr).2⟩
  ·rintro ⟨a,b,c,d,e,f⟩
   exact ⟨fun h=>h ⟨a,b,c,d⟩,fun r hr=>⟨e r hr,f r hr⟩⟩

theorem valid_r {x : List (List Int)} (base : Int) (hx : Sz x) : ∃ c1 c2 : Bool,impl_isMatrix x = some c1∧impl_isBaseOf base = some c2∧spec_oGood x base = some (c1 && c2)∧(c1 = true→∃ n m,Mx n m x)∧(c2 = true→2 ≤ base∧base ≤ 100):=by
 obtain ⟨c,e1,e2,hc⟩:=bis_same (isMatrix_bis hx) (oMatrix_bis hx)
 refine ⟨c,decide (2 ≤ base∧base ≤ 100),e1,?_,?_,fun h=>⟨_,_,(hc.1 h).mx⟩,fun h=>of_decide_eq_true h⟩
 ·unfold impl_isBaseOf
  by_cases h1 : 2 ≤ base <;> by_cases h2 : base ≤ 100 <;> simp [h1,h2]
 ·unfold spec_oGood
  rw [lIn_eq,e2,Option.bind_some]
  cases decide (2 ≤ base∧base ≤ 100) <;> cases c <;> rfl

def Sm (x : List (List Int)) : Prop:=1 ≤ x.length∧x.length ≤ 8∧∀ r ∈ x,1 ≤ r.length∧r.length ≤ 4

theorem Sm.sz {x : List (List Int)} (h : Sm x) : Sz x:=⟨by have:=h.2.1; omega,fun r hr=>by have:=h.2.2 r hr; omega⟩

theorem tgrid {B : Nat} {c : spec_l1Cur} (hc : Cur B c) (hB : B ≤ 100000:=by omega) : Tot (spec_l1Cur_grid c) fun r=>(1 ≤ r.1.length∧r.1.length ≤ 3∧∀ q ∈ r.1,1 ≤ q.length∧q.length ≤ 3)∧Cur (B + 100) r.2:=by
 unfold spec_l1Cur_grid
 refine tot_bind (tpick hc) fun ⟨m',c1⟩ ⟨x0,x1,_,k1⟩=>?_
 simp only at x0 x1 k1 ⊢
 refine tot_bind (tpick k1) fun ⟨n',c2⟩ ⟨y0,y1,_,k2⟩=>?_
 simp only at y0 y1 k2 ⊢
 have x1:=x1 (by omega)
 have y1:=y1 (by omega)
 obtain ⟨m1,rfl⟩:=Int.eq_ofNat_of_zero_le x0
 obtain ⟨n1,rfl⟩:=Int.eq_ofNat_of_zero_le y0
 have em : w64 (1 + (m1 : Int)) = ((m1 + 1 : Nat) : Int):=by rw [wid (by omega) (by omega)]; omega
 have en : w64 (1 + (n1 : Int)) = ((n1 + 1 : Nat) : Int):=by rw [wid (by omega) (by omega)]; omega
 generalize hm : m1 + 1 = m at em
 generalize hn : n1 + 1 = n at en
 have hrow : ∀ {C : Nat} {c : spec_l1Cur},Cur C c→C ≤ 1000000→Tot (loopC (spec_l1Cur_grid_l2 ((n1 : Int),c2)) (([] : List Int),0,c)) fun r=>r.1.length = n∧Cur (C + 2 * n) r.2:=by
  intro C c hc hC
  refine tot_loop (fun s=>∃ j : Nat,j ≤ n∧s.2.1 = (j : Int)∧s.1.length = j∧Cur (C + 2 * j) s.2.2) (fun s=>n - s.2.1.toNat) ⟨0,by omega,rfl,rfl,hc⟩ ?_
  rintro ⟨l,_,c⟩ ⟨j,hj',rfl,hl,hk⟩
  simp only at hl hk
  by_cases hj : j < n
  ·simp only [spec_l1Cur_grid_l2]
   rw [en,decide_eq_true (by omega),cond_true]
   refine tot_bind (tpick hk) fun ⟨v,c3⟩ ⟨_,_,_,k3⟩=>?_
   simp only at k3 ⊢
   refine tot_bind (tot_app (Q:=fun l=>l.length = j + 1) (by simp; omega) (by simp; omega)) fun l1 g1=>?_
   rw [wid (by omega) (by omega)]
   exact tot_some ⟨⟨j + 1,by omega,by simp only; omega,g1,k3.le (by omega)⟩,by simp only; omega⟩
  ·obtain rfl : j = n:=by omega
   simp only [spec_l1Cur_grid_l2]
   rw [en,decide_eq_false (by omega),cond_false]
   exact tot_some ⟨hl,hk⟩
 have h : Tot (loopC (spec_l1Cur_grid_l1 ((m1 : Int),c1) ((n1 : Int),c2)) (([] : List (List Int)),0,c2)) fun r=>(r.1.length = m∧∀ q ∈ r.1,q.length = n)∧Cur (B + 4 + 10 * m) r.2:=by
  refine tot_loop (fun s=>∃ i : Nat,i ≤ m∧s.2.1 = (i : Int)∧(s.1.length = i∧∀ q ∈ s.1,q.length = n)∧Cur (B + 4 + 10 * i) s.2.2) (fun s=>m - s.2.1.toNat) ⟨0,by omega,rfl,⟨rfl,fun q hq=>by cases hq⟩,k2.le (by omega)⟩ ?_
  rintro ⟨l,_,c⟩ ⟨i,hi',rfl,hl,hk⟩
  simp only at hl hk
  have hll:=hl.1
  by_cases hi : i < m
  ·simp only [spec_l1Cur_grid_l1]
   rw [em,decide_eq_true (by omega),cond_true]
   refine tot_bind (hrow hk (by omega)) fun ⟨r,c3⟩ ⟨g1,k3⟩=>?_
   simp only at g1 k3 ⊢
   refine tot_bind (tot_app (Q:=fun l=>l.length = i + 1∧∀ q ∈ l,q.length = n) (by simp; omega) ⟨by simp; omega,fun q hq=>?_⟩) fun l1 g2=>?_
   ·rcases List.mem_append.1 hq with hq | hq
    ·exact hl.2 q hq
    ·rw [List.mem_singleton.1 hq]; exact g1
   rw [wid (by omega) (by omega)]
   exact tot_some ⟨⟨i + 1,by omega,by simp only; omega,g2,k3.le (by omega)⟩,by simp only; omega⟩
  ·obtain rfl : i = m:=by omega
   simp only [spec_l1Cur_grid_l1]
   rw [em,decide_eq_false (by omega),cond_false]
   exact tot_some ⟨hl,hk⟩
 refine tot_bind h fun ⟨x,c3⟩ ⟨hx,k3⟩=>tot_some ⟨⟨by simp only at hx ⊢; omega,by simp only at hx ⊢; omega,fun q hq=>by have:=hx.2 q hq; omega⟩,?_⟩
 simp only at k3 ⊢
 exact k3.le (by omega)

theorem sz_set2 {x : List (List Int)} {i : Nat} {r : List Int} (h : Sz x) (hr : r.length ≤ 10) : Sz (x.set i r):=by
 refine ⟨by rw [List.length_set]; exact h.1,fun q hq=>?_⟩
 rcases List.mem_or_eq_of_mem_set hq with hq | rfl
 ·exact h.2 q hq
 ·exact hr

theorem tanyGrid {B : Nat} {c : spec_l1Cur} (hc : Cur B c) (hB : B ≤ 10000:=by omega) : Tot (spec_l1Cur_anyGrid c) fun r=>Sz r.1∧Cur (B + 200) r.2:=by
 unfold spec_l1Cur_anyGrid
 refine tot_bind (tgrid hc) fun ⟨x,c1⟩ ⟨⟨h1,h2,h3⟩,k1⟩=>?_
 simp only at h1 h2 h3 k1 ⊢
 have hsz : Sz x:=⟨by omega,fun r hr=>by have:=h3 r hr; omega⟩
 refine tot_bind (tpick k1) fun ⟨b,c2⟩ ⟨_,_,_,k2⟩=>?_
 simp only at k2 ⊢
 have P : ((List (List Int)) × spec_l1Cur→Prop):=fun r=>Sz r.1∧Cur (B + 200) r.2
 refine tot_bind (Q:=fun o : ((List (List Int)) × spec_l1Cur) ⊕ ((List (List Int)) × spec_l1Cur)=>match o with | .inl r=>Sz r.1∧Cur (B + 200) r.2 | .inr r=>Sz r.1∧Cur (B + 200) r.2) (tot_cond (fun _=>?_) fun _=>tot_bind (Q:=fun o : ((List (List Int)) × spec_l1Cur) ⊕ (((List (List Int)) × spec_l1Cur) ⊕ ((List (List Int)) × spec_l1Cur))=>match o with | .inl r=>Sz r.1∧Cur (B + 200) r.2 | .inr (.inl r)=>Sz r.1∧Cur (B + 200) r.2 | .inr (.inr r)=>Sz r.1∧Cur (B + 200) r.2) (tot_cond (fun _=>?_) fun _=>tot_cond (fun _=>?_) fun _=>tot_bind (Q:=fun r : (List (List Int)) × spec_l1Cur=>Sz r.1∧Cur (B + 200) r.2) (tot_cond (fun _=>?_) fun _=>tot_some ⟨hsz,k2.le (by omega)⟩) fun ⟨y,c9⟩ hy=>tot_some hy) fun o ho=>?_) fun o ho=>?_
 ·refine tot_bind (Q:=fun r : (List (List Int)) × spec_l1Cur=>Sz r.1∧Cur (B + 200) r.2) ?_ fun ⟨y,c9⟩ hy=>tot_some hy
  refine tot_bind (tot_at (Q:=fun e=>e ∈ x) (by omega) (by omega) fun e _ he=>he) fun e1 m1=>?_
  have:=h3 e1 m1
  refine tot_bind (tamong k2) fun ⟨v,c3⟩ ⟨_,k3⟩=>?_
  refine tot_bind (tot_at (Q:=fun _=>True) (by omega) (by omega) fun _ _ _=>trivial) fun e2 _=>?_
  exact tot_some ⟨sz_set2 hsz (by simp only [goSet,List.length_set]; omega),k3.le (by omega)⟩
 ·refine tot_bind (tot_at (Q:=fun e=>e ∈ x) (by omega) (by omega) fun e _ he=>he) fun e1 m1=>?_
  have:=h3 e1 m1
  refine tot_bind (tot_app (Q:=fun l=>l.length ≤ 10) (by simp; omega) (by simp; omega)) fun l1 g1=>?_
  refine tot_bind (tot_at (Q:=fun _=>True) (by omega) (by omega) fun _ _ _=>trivial) fun e2 _=>?_
  exact tot_some ⟨sz_set2 hsz g1,k2.le (by omega)⟩
 ·exact tot_some ⟨⟨by simp,fun r hr=>by cases hr⟩,k2.le (by omega)⟩
 ·have h : Tot (loopC (spec_l1Cur_anyGrid_l1) (x,c2)) fun r=>Sz r.1∧Cur (B + 200) r.2:=by
   refine tot_loop (fun s=>((1 ≤ s.1.length∧s.1.length ≤ 8)∧∀ q ∈ s.1,q.length ≤ 3)∧Cur (B + 102 + 2 * s.1.length) s.2) (fun s=>9 - s.1.length) ⟨⟨⟨h1,by simp only; omega⟩,fun q hq=>(h3 q hq).2⟩,k2.le (by omega)⟩ ?_
   rintro ⟨y,c⟩ ⟨⟨g1,g2⟩,k⟩
   simp only at g1 g2 k
   simp only [spec_l1Cur_anyGrid_l1]
   refine tot_bind (tpick k) fun ⟨v,c3⟩ ⟨v0,v1,_,k3⟩=>?_
   simp only at v0 v1 k3 ⊢
   have v1:=v1 (by omega)
   rw [wid (by omega) (by omega)]
   refine tot_cond (fun hlt=>?_) fun _=>tot_some ⟨⟨by simp only; omega,fun r hr=>by have:=g2 r hr; omega⟩,k3.le (by omega)⟩
   have hlt:=of_decide_eq_true hlt
   simp only [goLen] at hlt
   refine tot_bind (tot_at (Q:=fun e=>e ∈ y) (by omega) (by omega) fun e _ he=>he) fun e1 m1=>?_
   have hl:=g2 e1 m1
   rw [own_eq (by omega),Option.bind_some]
   refine tot_bind (tot_app (Q:=fun l=>l.length = y.length + 1∧∀ q ∈ l,q.length ≤ 3) (by simp; omega) ⟨by simp,fun q hq=>?_⟩) fun l1 q1=>?_
   ·rcases List.mem_append.1 hq with hq | hq
    ·exact g2 q hq
    ·rw [List.mem_singleton.1 hq]; exact hl
   have:=q1.1
   exact tot_some ⟨⟨⟨⟨by simp only; omega,by simp only; omega⟩,q1.2⟩,k3.le (by simp only; omega)⟩,by simp only; omega⟩
  exact tot_bind h fun ⟨y,c9⟩ hy=>tot_some hy
 ·rcases o with ⟨y,c9⟩ | ⟨y,c9⟩ | ⟨y,c9⟩
  ·exact tot_some ho
  ·exact tot_some ho
  ·exact tot_some ho
 ·rcases o with ⟨y,c9⟩ | ⟨y,c9⟩
  ·exact tot_some ho
  ·exact tot_some ho

theorem tDrawR {code : List (K .u8)} (ho : ∀ x ∈ code,Rng.ok x) : Tot (spec_DrawFirstRounding code) fun r=>Sz r.1:=by
 unfold spec_DrawFirstRounding spec_DrawRoundingNetwork
 refine tot_bind (Q:=fun r=>Sz r.1) ?_ fun r hr=>tot_some hr
 refine tot_bind (tanyGrid (cur0 ho)) fun ⟨x,c1⟩ ⟨hx,k1⟩=>?_
 simp only at hx k1 ⊢
 refine tot_bind (Q:=fun _=>True) (by unfold spec_l1Cur_base; exact tot_bind (tamong k1) fun r _=>tot_some trivial) fun r _=>tot_some hx

theorem tDrawRR {code : List (K .u8)} (ho : ∀ x ∈ code,Rng.ok x) : Tot (spec_DrawRoundingRange code) fun r=>Sz r.1:=by
 unfold spec_DrawRoundingRange
 refine tot_bind (tanyGrid (cur0 ho)) fun ⟨x,c1⟩ ⟨hx,k1⟩=>?_
 simp only at hx k1 ⊢
 refine tot_bind (Q:=fun r=>Cur 202 r.2) (by unfold spec_l1Cur_base; exact tot_bind (tamong k1) fun r hr=>tot_some (hr.2.le (by omega))) fun ⟨b,c2⟩ k2=>?_
 simp only at k2 ⊢
 refine tot_bind (tpick k2) fun ⟨i,c3⟩ ⟨_,_,_,k3⟩=>?_
 simp only at k3 ⊢
 refine tot_bind (tpick k3) fun ⟨j,c4⟩ ⟨_,_,_,k4⟩=>?_
 simp only at k4 ⊢
 refine tot_bind (tpick k4) fun ⟨v,c5⟩ _=>?_
 exact tot_bind (tot_quo (Q:=fun _=>True) (by omega) trivial) fun w _=>tot_some hx

end Go.Gx.F
