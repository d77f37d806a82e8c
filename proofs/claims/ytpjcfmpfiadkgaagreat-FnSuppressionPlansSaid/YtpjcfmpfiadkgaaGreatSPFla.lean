/- Plain laws: the reference's filling along paths. -/
import Derived.Test.YtpjcfmpfiadkgaaGreatSPFlw9

namespace Go.Gx.F

open Go.Gx

set_option linter.all false

theorem tSum_ok {l : List Int} (hl : l.length ≤ 20) (hb : ∀ i,i < l.length→-1000000 ≤ vc l i∧vc l i ≤ 1000000) : spec_tSum l = some (sm l.length (vc l)):=by
 unfold spec_tSum
 have h : loopC (spec_tSum_l1 l) (0,0) = some (sm l.length (vc l)):=by
  refine tot_eq (tot_loop (fun s=>∃ k : Nat,k ≤ l.length∧s = (sm k (vc l),(k : Int))) (fun s=>l.length - s.2.toNat) ⟨0,by omega,rfl⟩ ?_)
  rintro _ ⟨k,hk,rfl⟩
  by_cases hlt : k < l.length
  ·have hx:=vc_at hlt
   have h1:=sm_bd8 (n:=k + 1) (f:=vc l) (B:=1000000) (by omega) (by omega) fun i hi=>hb i (by omega)
   simp only [sm] at h1
   simp only [spec_tSum_l1,lt_ok hx,cond_true,at_ok hx,Option.bind_some]
   rw [wid (n:=sm k (vc l) + vc l k) (by omega) (by omega),wid (by omega) (by omega)]
   exact tot_some ⟨⟨k + 1,by omega,rfl⟩,by simp only; omega⟩
  ·obtain rfl : k = l.length:=by omega
   simp only [spec_tSum_l1,lt_end,cond_false]
   exact tot_some rfl
 rw [h]; rfl

theorem rowSum_ok {n m i : Nat} {x : List (List Int)} {row : List Int} (hs : Shp n m x) (hm : m ≤ 20) (hrow : x[i]? = some row) (hi : i < n) (hb : ∀ j,j < m→-1000000 ≤ mt x i j∧mt x i j ≤ 1000000) : spec_tSum row = some (sm m (mt x i)):=by
 obtain ⟨r,e,_,hl,hv,_⟩:=hs.get hi
 rw [hrow] at e
 obtain rfl:=Option.some.inj e
 rw [tSum_ok (by omega) (fun j hj=>by rw [hv j]; exact hb j (by omega)),hl,sm_congr fun j _=>hv j]

theorem tColumn_ok {n m j : Nat} {x : List (List Int)} (hs : Shp n m x) (hn : n ≤ 1000) (hj : j < m) : ∃ l,spec_tColumn x (j : Int) = some l∧l.length = n∧∀ i,i < n→vc l i = mt x i j:=by
 have hl:=hs.len
 unfold spec_tColumn
 have h : Tot (loopC (spec_tColumn_l1 x (j : Int)) (([] : List Int),0)) fun l=>l.length = n∧∀ i,i < n→vc l i = mt x i j:=by
  refine tot_loop (fun s=>∃ k : Nat,k ≤ n∧s.2 = (k : Int)∧s.1.length = k∧∀ i,i < k→vc s.1 i = mt x i j) (fun s=>n - s.2.toNat) ⟨0,by omega,rfl,rfl,fun i hi=>by omega⟩ ?_
  rintro ⟨l,_⟩ ⟨k,hk,rfl,hll,hv⟩
  simp only at hll hv
  by_cases hlt : k < n
  ·obtain ⟨row,hrow,_,_,_,_⟩:=hs.get hlt
   simp only [spec_tColumn_l1,lt_ok hrow,cond_true,at_ok hrow,at_ok (hs.el hrow hj),Option.bind_some]
   rw [goApp_ok (by simp; omega),Option.bind_some,wid (by omega) (by omega)]
   refine tot_some ⟨⟨k + 1,by omega,by simp only; omega,by simp; omega,fun i hi=>?_⟩,by simp only; omega⟩
   simp only
   by_cases hik : i = k
   ·subst hik
    unfold vc
    rw [List.getD_eq_getElem?_getD,List.getElem?_append_right (by omega),hll,Nat.sub_self]; rfl
   ·rw [← hv i (by omega)]
    unfold vc
    rw [List.getD_eq_getElem?_getD,List.getElem?_append_left (by omega),← List.getD_eq_getElem?_getD]
  ·obtain rfl : k = n:=by omega
   have e3 : decide ((k : Int) < goLen x) = false:=decide_eq_false (by simp only [goLen]; omega)
   simp only [spec_tColumn_l1,e3,cond_false]
   exact tot_some ⟨hll,hv⟩
 obtain ⟨l,e,h1,h2⟩:=h
 rw [e]
 exact ⟨l,rfl,h1,h2⟩

theorem tOwn_ok {n m : Nat} {x : List (List Int)} (hs : Shp n m x) (hn : n ≤ 1000) (hm : m ≤ 1000) : spec_tOwn x = some x:=by
 have hl:=hs.len
 unfold spec_tOwn
 have h:=app_loop (τ:=Unit) x id (spec_tOwn_l1 x) (fun k r out hr ho=>by
  have hk:=(List.getElem?_eq_some_iff.1 hr).1
  have hrl:=hs.row r (List.mem_of_getElem? hr)
  simp only [spec_tOwn_l1,lt_ok hr,cond_true,at_ok hr,Option.bind_some,own_eq (show r.length ≤ 1000000 by omega)]
  rw [goApp_ok (by simp; omega),Option.bind_some,nx_ok hr (by omega)]
  rfl) (fun out=>by simp only [spec_tOwn_l1,lt_end,cond_false])
 rw [h]
 simp

structure FS (n m : Nat) (t : impl_Transport) (f : spec_tFill) : Prop where
 te : f.t = t
 x : Shp n m f.x
 bd : ∀ i j,i < n→j < m→mt t.Lo i j ≤ mt f.x i j∧mt f.x i j ≤ mt t.Hi i j
 rl : f.rows.length = n
 cl : f.cols.length = m
 rv : ∀ i,i < n→vc f.rows i = vc t.Rows i - sm m (mt f.x i)
 cv : ∀ j,j < m→vc f.cols j = vc t.Cols j - sm n (fun i=>mt f.x i j)
 r0 : ∀ i,i < n→0 ≤ vc f.rows i
 c0 : ∀ j,j < m→0 ≤ vc f.cols j

section

variable {n m : Nat} {t : impl_Transport} {f : spec_tFill}

theorem FS.rb (h : FS n m t f) (hT : Tr n m t) {i : Nat} (hi : i < n) : vc f.rows i ≤ 100000:=by
 have h1:=h.rv i hi
 have h2:=(hT.rb i hi).2
 have h3:=sm_nonneg (n:=m) (f:=mt f.x i) fun j hj=>by have:=(h.bd i j hi hj).1; have:=(hT.bd i j hi hj).1; omega
 omega

theorem FS.cb (h : FS n m t f) (hT : Tr n m t) {j : Nat} (hj : j < m) : vc f.cols j ≤ 100000:=by
 have h1:=h.cv j hj
 have h2:=(hT.cb j hj).2
 have h3:=sm_nonneg (n:=n) (f:=fun i=>mt f.x i j) fun i hi=>by have:=(h.bd i j hi hj).1; have:=(hT.bd i j hi hj).1; omega
 omega

theorem FS.xb (h : FS n m t f) (hT : Tr n m t) {i j : Nat} (hi : i < n) (hj : j < m) : 0 ≤ mt f.x i j∧mt f.x i j ≤ 100000:=by
 have h1:=h.bd i j hi hj; have h2:=hT.bd i j hi hj
 omega

theorem vc_app {l : List Int} {y : Int} (i : Nat) : vc (l ++ [y]) i = if i = l.length then y else vc l i:=by
 unfold vc
 by_cases h : i = l.length
 ·subst h
  rw [if_pos rfl,List.getD_eq_getElem?_getD,List.getElem?_append_right (Nat.le_refl _),Nat.sub_self]; rfl
 ·rw [if_neg h,List.getD_eq_getElem?_getD,List.getD_eq_getElem?_getD]
  by_cases h2 : i < l.length
  ·rw [List.getElem?_append_left h2]
  ·rw [List.getElem?_eq_none (l:=l ++ [y]) (by simp; omega),List.getElem?_eq_none (by omega)]

theorem all_vc {l : List Int} {P : Int→Prop} : (∀ v ∈ l,P v) ↔ ∀ i,i < l.length→P (vc l i) :=
 ⟨fun h i hi=>h _ (List.mem_of_getElem? (vc_at hi)),fun h v hv=>by
  obtain ⟨i,hi⟩:=List.getElem?_of_mem hv
  have hlt:=(List.getElem?_eq_some_iff.1 hi).1
  have:=h i hlt
  rw [vc_at hlt] at hi
  rwa [Option.some.inj hi] at this⟩

theorem start_ok (hT : Tr n m t) : ∃ (f : spec_tFill) (b : Bool),spec_tStart t = some (f,b)∧(b = true→FS n m t f)∧(b = false→∀ y,¬ IsF n m t y):=by
 have h1:=hT.rl; have h2:=hT.cl; have h3:=hT.n8; have h4:=hT.m8
 have hlb : ∀ i j,i < n→j < m→-1000000 ≤ mt t.Lo i j∧mt t.Lo i j ≤ 1000000:=fun i j hi hj=>by have:=hT.bd i j hi hj; omega
 have hrs : ∀ i,i < n→0 ≤ sm m (mt t.Lo i)∧sm m (mt t.Lo i) ≤ 100000 * 20:=fun i hi=>by
  have a1:=sm_nonneg (n:=m) (f:=mt t.Lo i) fun j hj=>(hT.bd i j hi hj).1
  have a2:=sm_bd8 (n:=m) (f:=mt t.Lo i) (B:=100000) (by omega) (by omega) fun j hj=>by have:=hT.bd i j hi hj; omega
  omega
 have hcs : ∀ j,j < m→0 ≤ sm n (fun i=>mt t.Lo i j)∧sm n (fun i=>mt t.Lo i j) ≤ 100000 * 20:=fun j hj=>by
  have a1:=sm_nonneg (n:=n) (f:=fun i=>mt t.Lo i j) fun i hi=>(hT.bd i j hi hj).1
  have a2:=sm_bd8 (n:=n) (f:=fun i=>mt t.Lo i j) (B:=100000) (by omega) (by omega) fun i hi=>by have:=hT.bd i j hi hj; omega
  omega
 unfold spec_tStart
 rw [tOwn_ok hT.lo (by omega) (by omega),Option.bind_some]
 have L1 : Tot (loopC (spec_tStart_l1 t) (0,spec_tFill.mk t t.Lo [] [])) fun f=>f.t = t∧f.x = t.Lo∧f.cols = []∧f.rows.length = n∧∀ i,i < n→vc f.rows i = vc t.Rows i - sm m (mt t.Lo i):=by
  refine tot_loop (fun s=>∃ k : Nat,k ≤ n∧s.1 = (k : Int)∧s.2.t = t∧s.2.x = t.Lo∧s.2.rows.length = k∧∀ i,i < k→vc s.2.rows i = vc t.Rows i - sm m (mt t.Lo i)) (fun s=>n - s.1.toNat) ⟨0,by omega,rfl,rfl,rfl,rfl,fun i hi=>by omega⟩ ?_
  rintro ⟨_,f⟩ ⟨k,hk,rfl,g1,g2,g3,g4⟩
  simp only at g1 g2 g3 g4
  by_cases hlt : k < n
  ·have hx:=vc_at (l:=t.Rows) (i:=k) (by omega)
   obtain ⟨row,hrow,_,_,_,_⟩:=hT.lo.get hlt
   have b1:=hrs k hlt; have b2:=hT.rb k hlt
   simp only [spec_tStart_l1,lt_ok hx,cond_true,at_ok hx,at_ok hrow,Option.bind_some,rowSum_ok hT.lo (by omega) hrow hlt (fun j hj=>hlb k j hlt hj)]
   rw [wid (n:=vc t.Rows k - sm m (mt t.Lo k)) (by omega) (by omega),goApp_ok (by simp; omega),Option.bind_some,wid (by omega) (by omega)]
   refine tot_some ⟨⟨k + 1,by omega,by simp only; omega,g1,g2,by simp; omega,fun i hi=>?_⟩,by simp only; omega⟩
   simp only
   rw [vc_app]
   by_cases hik : i = f.rows.length
   ·rw [if_pos hik,hik,g3]
   ·rw [if_neg hik]; exact g4 i (by omega)
  ·obtain rfl : k = n:=by omega
   have e3 : decide ((k : Int) < goLen t.Rows) = false:=decide_eq_false (by simp only [goLen]; omega)
   simp only [spec_tStart_l1,e3,cond_false]
   exact tot_some ⟨g1,g2,rfl,g3,g4⟩
 obtain ⟨f1,e1,a1,a2,a3,a4,a5⟩:=L1
 rw [e1,Option.bind_some]
 have L2 : Tot (loopC (spec_tStart_l2 t) (0,spec_tFill.mk f1.t f1.x f1.rows [])) fun f=>f.t = t∧f.x = t.Lo∧f.rows = f1.rows∧f.cols.length = m∧∀ j,j < m→vc f.cols j = vc t.Cols j - sm n (fun i=>mt t.Lo i j):=by
  refine tot_loop (fun s=>∃ k : Nat,k ≤ m∧s.1 = (k : Int)∧s.2.t = t∧s.2.x = t.Lo∧s.2.rows = f1.rows∧s.2.cols.length = k∧∀ j,j < k→vc s.2.cols j = vc t.Cols j - sm n (fun i=>mt t.Lo i j)) (fun s=>m - s.1.toNat) ⟨0,by omega,rfl,a1,a2,rfl,rfl,fun i hi=>by omega⟩ ?_
  rintro ⟨_,f⟩ ⟨k,hk,rfl,g1,g2,g3,g4,g5⟩
  simp only at g1 g2 g3 g4 g5
  by_cases hlt : k < m
  ·have hx:=vc_at (l:=t.Cols) (i:=k) (by omega)
   obtain ⟨col,hcol,hcl,hcv⟩:=tColumn_ok hT.lo (by omega) hlt
   have b1:=hcs k hlt; have b2:=hT.cb k hlt
   simp only [spec_tStart_l2,lt_ok hx,cond_true,at_ok hx,Option.bind_some,hcol]
   rw [tSum_ok (l:=col) (by omega) (fun i hi=>by rw [hcv i (by omega)]; exact hlb i k (by omega) hlt),hcl,sm_congr hcv]
   simp only [Option.bind_some]
   rw [wid (n:=vc t.Cols k - sm n (fun i=>mt t.Lo i k)) (by omega) (by omega),goApp_ok (by simp; omega),Option.bind_some,wid (by omega) (by omega)]
   refine tot_some ⟨⟨k + 1,by omega,by simp only; omega,g1,g2,g3,by simp; omega,fun i hi=>?_⟩,by simp only; omega⟩
   simp only
   rw [vc_app]
   by_cases hik : i = f.cols.length
   ·rw [if_pos hik,hik,g4]
   ·rw [if_neg hik]; exact g5 i (by omega)
  ·obtain rfl : k = m:=by omega
   have e3 : decide ((k : Int) < goLen t.Cols) = false:=decide_eq_false (by simp only [goLen]; omega)
   simp only [spec_tStart_l2,e3,cond_false]
   exact tot_some ⟨g1,g2,g3,g4,g5⟩
 obtain ⟨f2,e2,b1,b2,b3,b4,b5⟩:=L2
 rw [e2,Option.bind_some]
 obtain ⟨c1,k1,q1⟩:=lAll_bis (l:=f2.rows) (lo:=0) (hi:=100000) (by rw [b3]; omega)
 obtain ⟨c2,k2,q2⟩:=lAll_bis (l:=f2.cols) (lo:=0) (hi:=100000) (by omega)
 rw [k1,k2]
 have hc : ((cond c1 (some c2) (some false)) : Option Bool) = some (c1 && c2):=by cases c1 <;> rfl
 refine ⟨f2,c1 && c2,?_,fun h=>?_,fun h y hy=>?_⟩
 ·cases c1 <;> rfl
 ·rw [Bool.and_eq_true] at h
  have r1:=all_vc.1 (q1.1 h.1)
  have r2:=all_vc.1 (q2.1 h.2)
  rw [b3] at r1
  refine ⟨b1,by rw [b2]; exact hT.lo,fun i j hi hj=>by rw [b2]; have:=hT.bd i j hi hj; omega,by rw [b3]; exact a4,b4,fun i hi=>by rw [b3,b2]; exact a5 i hi,fun j hj=>by rw [b2]; exact b5 j hj,fun i hi=>by rw [b3]; exact (r1 i (by omega)).1,fun j hj=>(r2 j (by omega)).1⟩
 ·have w1 : c1 = true:=q1.2 (all_vc.2 fun i hi=>by
   rw [b3] at hi ⊢
   have hi' : i < n:=by omega
   rw [a5 i hi']
   have z1:=sm_le (n:=m) (f:=mt t.Lo i) (g:=y i) fun j hj=>hy.lo i j hi' hj
   rw [hy.row i hi'] at z1
   have:=hrs i hi'; have:=hT.rb i hi'
   omega)
  have w2 : c2 = true:=q2.2 (all_vc.2 fun j hj=>by
   have hj' : j < m:=by omega
   rw [b5 j hj']
   have z1:=sm_le (n:=n) (f:=fun i=>mt t.Lo i j) (g:=fun i=>y i j) fun i hi=>hy.lo i j hi hj'
   rw [hy.col j hj'] at z1
   have:=hcs j hj'; have:=hT.cb j hj'
   omega)
  rw [w1,w2] at h
  cases h

abbrev rm (n : Nat) (f : spec_tFill) : Nat→Nat→Int:=rsd n (mt f.t.Lo) (mt f.t.Hi) (mt f.x) tt

theorem room_ok (hT : Tr n m t) (h : FS n m t f) {v k : Nat} (hv : v < n + m) (hk : k < n + m) : spec_tFill_room f (v : Int) (k : Int) = some (rm n f v k):=by
 have h3:=hT.n8; have h4:=hT.m8
 have gR : goLen f.rows = (n : Int):=by simp only [goLen]; rw [h.rl]
 unfold spec_tFill_room rm
 rw [gR,h.te]
 by_cases h1 : v < n∧n ≤ k
 ·have hb:=hT.bd v (k - n) h1.1 (by omega); have hx:=h.xb hT (i:=v) (j:=k - n) h1.1 (by omega)
  obtain ⟨hr,hhr,_,_,_,_⟩:=hT.hi.get h1.1
  obtain ⟨xr,hxr,_,_,_,_⟩:=h.x.get h1.1
  rw [rsd_tt_up h1.1 h1.2,decide_eq_true (by omega),decide_eq_true (show (n : Int) ≤ k by omega),cond_true,Option.bind_some,cond_true,at_ok hhr,Option.bind_some,wid (n:=(k : Int) - n) (by omega) (by omega),show (k : Int) - n = ((k - n : Nat) : Int) by omega,at_ok (hT.hi.el hhr (show k - n < m by omega)),Option.bind_some,at_ok hxr,Option.bind_some,at_ok (h.x.el hxr (show k - n < m by omega)),Option.bind_some,wid (by omega) (by omega)]
 ·by_cases h2 : k < n∧n ≤ v
  ·have hb:=hT.bd k (v - n) h2.1 (by omega); have hx:=h.xb hT (i:=k) (j:=v - n) h2.1 (by omega)
   obtain ⟨lr,hlr,_,_,_,_⟩:=hT.lo.get h2.1
   obtain ⟨xr,hxr,_,_,_,_⟩:=h.x.get h2.1
   rw [rsd_tt_dn h2.1 h2.2,decide_eq_false (by omega),cond_false,Option.bind_some,cond_false,decide_eq_true (show (n : Int) ≤ v by omega),decide_eq_true (show (k : Int) < n by omega),cond_true,Option.bind_some,cond_true,at_ok hxr,Option.bind_some,wid (n:=(v : Int) - n) (by omega) (by omega),show (v : Int) - n = ((v - n : Nat) : Int) by omega,at_ok (h.x.el hxr (show v - n < m by omega)),Option.bind_some,at_ok hlr,Option.bind_some,at_ok (hT.lo.el hlr (show v - n < m by omega)),Option.bind_some,wid (by omega) (by omega)]
  ·rw [rsd_tt_0 (by omega)]
   by_cases h5 : v < n
   ·rw [decide_eq_true (by omega),decide_eq_false (show ¬ (n : Int) ≤ k by omega),cond_true,Option.bind_some,cond_false,decide_eq_false (show ¬ (n : Int) ≤ v by omega),cond_false,Option.bind_some,cond_false]
   ·rw [decide_eq_false (by omega),cond_false,Option.bind_some,cond_false,decide_eq_true (show (n : Int) ≤ v by omega),decide_eq_false (show ¬ (k : Int) < n by omega),cond_true,Option.bind_some,cond_false]

end

end Go.Gx.F
