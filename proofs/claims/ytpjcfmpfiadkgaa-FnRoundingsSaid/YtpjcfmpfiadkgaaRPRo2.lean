/- Plain laws: a matrix with its sums,on both sides; quotients that are rounded down and up; the network of roundings as the program builds it. -/
import Derived.Test.YtpjcfmpfiadkgaaRPRo1

namespace Go.Gx.F

open Go.Gx

set_option linter.all false

set_option maxRecDepth 10000

theorem mt_app {y : List (List Int)} {r : List Int} (a b : Nat) : mt (y ++ [r]) a b = if a = y.length then vc r b else mt y a b:=by
 have e : (y ++ [r]).getD a [] = if a = y.length then r else y.getD a []:=by
  rw [List.getD_eq_getElem?_getD]
  by_cases h : a = y.length
  ·subst h
   rw [if_pos rfl,List.getElem?_append_right (Nat.le_refl _),Nat.sub_self]; rfl
  ·rw [if_neg h]
   by_cases hlt : a < y.length
   ·rw [List.getElem?_append_left hlt,← List.getD_eq_getElem?_getD]
   ·rw [List.getElem?_eq_none (by simp; omega),List.getD_eq_getElem?_getD,List.getElem?_eq_none (by omega)]
 unfold mt
 rw [e]
 split <;> rfl

section

variable {n m : Nat} {x : List (List Int)} {b : Int}

theorem margins_ok (hs : Shp n m x) (hn1 : 1 ≤ n) (hn : n ≤ 8) (hm : m ≤ 8) (hb : ∀ i j,i < n→j < m→0 ≤ mt x i j∧mt x i j ≤ 20000) :
  ∃ rs cs,impl_summed x = some ⟨x,rs,cs,sm n fun i=>sm m (mt x i)⟩∧spec_oMargins x = some ⟨x,rs,cs,sm n fun i=>sm m (mt x i)⟩∧impl_rowSums x = some rs∧impl_colSums x = some cs∧impl_total rs = some (sm n fun i=>sm m (mt x i)) ∧
   rs.length = n∧cs.length = m∧(∀ i,i < n→vc rs i = sm m (mt x i))∧(∀ j,j < m→vc cs j = sm n fun i=>mt x i j)∧(∀ i,i < n→0 ≤ sm m (mt x i)∧sm m (mt x i) ≤ 400000)∧(∀ j,j < m→0 ≤ sm n (fun i=>mt x i j)∧sm n (fun i=>mt x i j) ≤ 400000)∧(0 ≤ sm n fun i=>sm m (mt x i))∧(sm n fun i=>sm m (mt x i)) ≤ 8000000:=by
 have hl:=hs.len
 have hb' : ∀ i j,i < n→j < m→-1000000 ≤ mt x i j∧mt x i j ≤ 1000000:=fun i j hi hj=>by have:=hb i j hi hj; omega
 obtain ⟨rs,ers,rsl,rsv⟩:=rowSums_ok hs (by omega) (by omega) hb'
 obtain ⟨cs,ecs,csl,csv⟩:=colSums_ok hs hn1 (by omega) (by omega) hb'
 have rbd : ∀ i,i < n→0 ≤ sm m (mt x i)∧sm m (mt x i) ≤ 400000:=fun i hi=>by
  have a1:=sm_nonneg (n:=m) (f:=mt x i) fun j hj=>(hb i j hi hj).1
  have a2:=sm_bd8 (n:=m) (f:=mt x i) (B:=20000) (by omega) (by omega) fun j hj=>by have:=hb i j hi hj; omega
  omega
 have cbd : ∀ j,j < m→0 ≤ sm n (fun i=>mt x i j)∧sm n (fun i=>mt x i j) ≤ 400000:=fun j hj=>by
  have a1:=sm_nonneg (n:=n) (f:=fun i=>mt x i j) fun i hi=>(hb i j hi hj).1
  have a2:=sm_bd8 (n:=n) (f:=fun i=>mt x i j) (B:=20000) (by omega) (by omega) fun i hi=>by have:=hb i j hi hj; omega
  omega
 have tbd : (0 ≤ sm n fun i=>sm m (mt x i))∧(sm n fun i=>sm m (mt x i)) ≤ 8000000:=by
  have a1:=sm_nonneg (n:=n) (f:=fun i=>sm m (mt x i)) fun i hi=>(rbd i hi).1
  have a2:=sm_bd8 (n:=n) (f:=fun i=>sm m (mt x i)) (B:=400000) (by omega) (by omega) fun i hi=>by have:=rbd i hi; omega
  omega
 have et:=total_ok (l:=rs) (by omega) (fun i hi=>by rw [rsv i (by omega)]; have:=rbd i (by omega); omega)
 have es:=tSum_ok (l:=rs) (by omega) (fun i hi=>by rw [rsv i (by omega)]; have:=rbd i (by omega); omega)
 rw [rsl,sm_congr fun i hi=>rsv i hi] at et es
 refine ⟨rs,cs,?_,?_,ers,ecs,et,rsl,csl,rsv,csv,rbd,cbd,tbd⟩
 ·unfold impl_summed
  rw [ers,Option.bind_some,copy_eq (hs.sz (by omega) (by omega)) (by omega),Option.bind_some,ecs,Option.bind_some,et]
  rfl
 ·have L1 : loopC (spec_oMargins_l1 x) (0,(impl_Rounding.mk x ([] : List Int) ([] : List Int) 0)) = some ⟨x,rs,[],0⟩:=by
   obtain ⟨o,eo,o1,o2,o3⟩ : Tot (loopC (spec_oMargins_l1 x) (0,(impl_Rounding.mk x ([] : List Int) ([] : List Int) 0))) fun o=>o = ⟨x,o.Rows,[],0⟩∧o.Rows.length = n∧∀ i,i < n→vc o.Rows i = sm m (mt x i):=by
    refine tot_loop (fun s=>∃ k : Nat,k ≤ n∧s.1 = (k : Int)∧s.2 = ⟨x,s.2.Rows,[],0⟩∧s.2.Rows.length = k∧∀ i,i < k→vc s.2.Rows i = sm m (mt x i)) (fun s=>n - s.1.toNat) ⟨0,by omega,rfl,rfl,rfl,fun i hi=>by omega⟩ ?_
    rintro ⟨_,o⟩ ⟨k,hk',rfl,o1,o2,o3⟩
    simp only at o1 o2 o3
    by_cases hk : k < n
    ·obtain ⟨row,hrow,_,_,_,_⟩:=hs.get hk
     simp only [spec_oMargins_l1,lt_ok hrow,cond_true,at_ok hrow,Option.bind_some]
     rw [rowSum_ok hs (by omega) hrow hk fun j hj=>hb' k j hk hj,Option.bind_some,goApp_ok (by simp; omega),Option.bind_some,wid (by omega) (by omega)]
     refine tot_some ⟨⟨k + 1,by omega,by simp only; omega,by rw [o1],by simp; omega,fun i hi=>?_⟩,by simp only; omega⟩
     simp only
     rw [vc_app]
     by_cases hik : i = k
     ·rw [if_pos (by omega),hik]
     ·rw [if_neg (by omega)]; exact o3 i (by omega)
    ·obtain rfl : k = n:=by omega
     have e3 : decide ((k : Int) < goLen x) = false:=decide_eq_false (by simp only [goLen]; omega)
     simp only [spec_oMargins_l1,e3,cond_false]
     exact tot_some ⟨by rw [o1],o2,o3⟩
   rw [eo,o1,vc_ext (a:=o.Rows) (b:=rs) (by omega) fun i hi=>by rw [o3 i (by omega),rsv i (by omega)]]
  obtain ⟨row0,hrow0,_,hrow0l,_,_⟩:=hs.get (i:=0) (by omega)
  have L2 : loopC (spec_oMargins_l2 x row0) (0,(impl_Rounding.mk x rs ([] : List Int) 0)) = some ⟨x,rs,cs,0⟩:=by
   obtain ⟨o,eo,o1,o2,o3⟩ : Tot (loopC (spec_oMargins_l2 x row0) (0,(impl_Rounding.mk x rs ([] : List Int) 0))) fun o=>o = ⟨x,rs,o.Cols,0⟩∧o.Cols.length = m∧∀ j,j < m→vc o.Cols j = sm n fun i=>mt x i j:=by
    refine tot_loop (fun s=>∃ k : Nat,k ≤ m∧s.1 = (k : Int)∧s.2 = ⟨x,rs,s.2.Cols,0⟩∧s.2.Cols.length = k∧∀ j,j < k→vc s.2.Cols j = sm n fun i=>mt x i j) (fun s=>m - s.1.toNat) ⟨0,by omega,rfl,rfl,rfl,fun i hi=>by omega⟩ ?_
    rintro ⟨_,o⟩ ⟨k,hk',rfl,o1,o2,o3⟩
    simp only at o1 o2 o3
    by_cases hk : k < m
    ·have e3 : decide ((k : Int) < goLen row0) = true:=decide_eq_true (by simp only [goLen]; omega)
     obtain ⟨col,ecol,hcl,hcv⟩:=tColumn_ok hs (by omega) hk
     have ts:=tSum_ok (l:=col) (by omega) (fun i hi=>by rw [hcv i (by omega)]; exact hb' i k (by omega) hk)
     rw [hcl,sm_congr fun i hi=>hcv i hi] at ts
     simp only [spec_oMargins_l2,e3,cond_true]
     rw [ecol,Option.bind_some,ts,Option.bind_some,goApp_ok (by simp; omega),Option.bind_some,wid (by omega) (by omega)]
     refine tot_some ⟨⟨k + 1,by omega,by simp only; omega,by rw [o1],by simp; omega,fun i hi=>?_⟩,by simp only; omega⟩
     simp only
     rw [vc_app]
     by_cases hik : i = k
     ·rw [if_pos (by omega),hik]
     ·rw [if_neg (by omega)]; exact o3 i (by omega)
    ·obtain rfl : k = m:=by omega
     have e3 : decide ((k : Int) < goLen row0) = false:=decide_eq_false (by simp only [goLen]; omega)
     simp only [spec_oMargins_l2,e3,cond_false]
     exact tot_some ⟨o1,o2,o3⟩
   rw [eo,o1,vc_ext (a:=o.Cols) (b:=cs) (by omega) fun j hj=>by rw [o3 j (by omega),csv j (by omega)]]
  have g0 : goAt x 0 = some row0:=at_ok (k:=0) hrow0
  unfold spec_oMargins
  rw [tOwn_ok hs (by omega) (by omega),Option.bind_some,L1,Option.bind_some,g0,Option.bind_some]
  simp only
  rw [L2,Option.bind_some]
  simp only
  rw [es]
  rfl

def dn (b v : Int) : Int:=v / b

def up (b v : Int) : Int:=(v + b - 1) / b

theorem dnup (hb : 2 ≤ b∧b ≤ 100) {v : Int} (hv : 0 ≤ v) : 0 ≤ dn b v∧dn b v ≤ v∧dn b v ≤ up b v∧up b v ≤ dn b v + 1∧b * dn b v ≤ v∧v < b * dn b v + b∧v ≤ b * up b v∧b * up b v ≤ v + b - 1:=by
 have h1:=Int.mul_ediv_add_emod v b
 have h2:=Int.emod_nonneg v (show b ≠ 0 by omega)
 have h3:=Int.emod_lt_of_pos v (show 0 < b by omega)
 have h4:=Int.mul_ediv_add_emod (v + b - 1) b
 have h5:=Int.emod_nonneg (v + b - 1) (show b ≠ 0 by omega)
 have h6:=Int.emod_lt_of_pos (v + b - 1) (show 0 < b by omega)
 have h7 : 0 ≤ v / b:=Int.ediv_nonneg hv (by omega)
 have h8 : v / b ≤ v:=Int.ediv_le_self _ hv
 have e1 : dn b v = v / b:=rfl
 have e2 : up b v = (v + b - 1) / b:=rfl
 rw [e1,e2]
 generalize hp : v / b = p at h1 h7 h8
 generalize hq : (v + b - 1) / b = q at h4
 have g1 : b * p ≤ v:=by omega
 have g2 : v < b * p + b:=by omega
 have g3 : v ≤ b * q:=by omega
 have g4 : b * q ≤ v + b - 1:=by omega
 refine ⟨h7,h8,?_,?_,g1,g2,g3,g4⟩
 ·exact Int.le_of_mul_le_mul_left (a:=b) (by omega) (by omega)
 ·have : b * (p + 2) = b * p + (b + b):=by rw [Int.mul_add]; omega
  have g5 : b * q < b * (p + 2):=by omega
  have:=Int.lt_of_mul_lt_mul_left g5 (by omega)
  omega

theorem quo_dn (hb : 2 ≤ b∧b ≤ 100) {v : Int} (hv : 0 ≤ v) (hv2 : v ≤ 1000000000) : goQuo .i64 v b = some (v / b):=by
 refine tot_eq (tot_quo (by omega) ?_)
 rw [Int.tdiv_eq_ediv_of_nonneg hv]
 have h7 : 0 ≤ v / b:=Int.ediv_nonneg hv (by omega)
 have h8 : v / b ≤ v:=Int.ediv_le_self _ hv
 exact wid (by omega) (by omega)

theorem iDown (hb : 2 ≤ b∧b ≤ 100) {v : Int} (hv : 0 ≤ v) (hv2 : v ≤ 100000000) : impl_roundingNetwork_1 v b = some (dn b v):=by
 unfold impl_roundingNetwork_1
 rw [quo_dn hb hv (by omega)]; rfl

theorem iUp (hb : 2 ≤ b∧b ≤ 100) {v : Int} (hv : 0 ≤ v) (hv2 : v ≤ 100000000) : impl_roundingNetwork_2 v b = some (up b v):=by
 unfold impl_roundingNetwork_2
 rw [wid (n:=v + b) (by omega) (by omega),wid (by omega) (by omega),quo_dn hb (by omega) (by omega)]; rfl

theorem sDown (hb : 2 ≤ b∧b ≤ 100) {v : Int} (hv : 0 ≤ v) (hv2 : v ≤ 100000000) : spec_oDown v b = some (dn b v):=by
 unfold spec_oDown
 rw [quo_dn hb hv (by omega)]; rfl

theorem sUp (hb : 2 ≤ b∧b ≤ 100) {v : Int} (hv : 0 ≤ v) (hv2 : v ≤ 100000000) : spec_oUp v b = some (up b v):=by
 unfold spec_oUp
 rw [wid (n:=v + b) (by omega) (by omega),wid (by omega) (by omega),quo_dn hb (by omega) (by omega)]; rfl

def rR (m : Nat) (x : List (List Int)) (i : Nat) : Int:=sm m (mt x i)

def rC (n : Nat) (x : List (List Int)) (j : Nat) : Int:=sm n fun i=>mt x i j

def rT (n m : Nat) (x : List (List Int)) : Int:=sm n fun i=>sm m (mt x i)

def rlo (n m : Nat) (x : List (List Int)) (b : Int) (i j : Nat) : Int:=if i < n∧j < m then dn b (mt x i j) else 0

def rhi (n m : Nat) (x : List (List Int)) (b : Int) (i j : Nat) : Int:=if i < n then (if j < m then up b (mt x i j) else up b (rR m x i) - dn b (rR m x i)) else (if j < m then up b (rC n x j) - dn b (rC n x j) else up b (rT n m x) - dn b (rT n m x))

structure NetR (n m : Nat) (x : List (List Int)) (b : Int) (t : impl_Transport) : Prop where
 rl : t.Rows.length = n + 1
 cl : t.Cols.length = m + 1
 lo : Shp (n + 1) (m + 1) t.Lo
 hi : Shp (n + 1) (m + 1) t.Hi
 rv : ∀ i,i < n + 1→vc t.Rows i = if i < n then up b (rR m x i) else (sm m fun j=>up b (rC n x j)) - dn b (rT n m x)
 cv : ∀ j,j < m + 1→vc t.Cols j = if j < m then up b (rC n x j) else (sm n fun i=>up b (rR m x i)) - dn b (rT n m x)
 lv : ∀ i j,i < n + 1→j < m + 1→mt t.Lo i j = rlo n m x b i j
 hv : ∀ i j,i < n + 1→j < m + 1→mt t.Hi i j = rhi n m x b i j

theorem NetR.one {t u : impl_Transport} (h : NetR n m x b t) (g : NetR n m x b u) : t = u:=by
 have e1 : t.Rows = u.Rows:=vc_ext (by rw [h.rl,g.rl]) fun i hi=>by rw [h.rv i (by rw [← h.rl]; exact hi),g.rv i (by rw [← h.rl]; exact hi)]
 have e2 : t.Cols = u.Cols:=vc_ext (by rw [h.cl,g.cl]) fun i hi=>by rw [h.cv i (by rw [← h.cl]; exact hi),g.cv i (by rw [← h.cl]; exact hi)]
 have e3 : t.Lo = u.Lo:=h.lo.ext g.lo fun i j hi hj=>by rw [h.lv i j hi hj,g.lv i j hi hj]
 have e4 : t.Hi = u.Hi:=h.hi.ext g.hi fun i j hi hj=>by rw [h.hv i j hi hj,g.hv i j hi hj]
 cases t; cases u
 simp only at e1 e2 e3 e4
 subst e1 e2 e3 e4
 rfl

structure RB (n m : Nat) (x : List (List Int)) : Prop where
 r : ∀ i,i < n→0 ≤ rR m x i∧rR m x i ≤ 70000
 c : ∀ j,j < m→0 ≤ rC n x j∧rC n x j ≤ 70000
 t0 : 0 ≤ rT n m x
 t1 : rT n m x ≤ 490000
 tc : rT n m x = sm m (rC n x)

theorem Mx.rb (h : Mx n m x) : RB n m x:=by
 have h1:=h.n7; have h2:=h.m7
 have hr : ∀ i,i < n→0 ≤ rR m x i∧rR m x i ≤ 70000:=fun i hi=>by
  have a1:=sm_nonneg (n:=m) (f:=mt x i) fun j hj=>(h.bd i j hi hj).1
  have a2:=(sm_bd (n:=m) (f:=mt x i) (B:=10000) fun j hj=>by have:=h.bd i j hi hj; omega).2
  unfold rR
  omega
 have hc : ∀ j,j < m→0 ≤ rC n x j∧rC n x j ≤ 70000:=fun j hj=>by
  have a1:=sm_nonneg (n:=n) (f:=fun i=>mt x i j) fun i hi=>(h.bd i j hi hj).1
  have a2:=(sm_bd (n:=n) (f:=fun i=>mt x i j) (B:=10000) fun i hi=>by have:=h.bd i j hi hj; omega).2
  unfold rC
  omega
 have a1:=sm_nonneg (n:=n) (f:=rR m x) fun i hi=>(hr i hi).1
 have a2:=(sm_bd (n:=n) (f:=rR m x) (B:=70000) fun i hi=>by have:=hr i hi; omega).2
 have e : sm n (rR m x) = rT n m x:=rfl
 exact ⟨hr,hc,by omega,by omega,sm_comm n m (mt x)⟩

theorem ups (hb : 2 ≤ b∧b ≤ 100) : ∀ (k : Nat) (f : Nat→Int),(∀ i,i < k→0 ≤ f i)→sm k f ≤ b * (sm k fun i=>up b (f i))∧b * (sm k fun i=>up b (f i)) ≤ sm k f + (b - 1) * k
 | 0,f,_=>by simp [sm]
 | k + 1,f,h=>by
  have h1:=ups hb k f fun i hi=>h i (by omega)
  have h2:=dnup hb (h k (by omega))
  simp only [sm]
  rw [Int.mul_add]
  have e : (b - 1) * ((k + 1 : Nat) : Int) = (b - 1) * (k : Int) + (b - 1):=by rw [Int.natCast_succ,Int.mul_add,Int.mul_one]
  rw [e]
  omega

theorem last_bd (hb : 2 ≤ b∧b ≤ 100) {k : Nat} (hk : k ≤ 7) {f : Nat→Int} (h : ∀ i,i < k→0 ≤ f i) : 0 ≤ (sm k fun i=>up b (f i)) - dn b (sm k f)∧(sm k fun i=>up b (f i)) - dn b (sm k f) ≤ 8:=by
 have h1:=ups hb k f h
 have h2:=dnup hb (sm_nonneg h)
 generalize (sm k fun i=>up b (f i)) = u at h1 ⊢
 generalize dn b (sm k f) = d at h2 ⊢
 generalize sm k f = T at h1 h2
 have e : b * (u - d) = b * u - b * d:=Int.mul_sub _ _ _
 constructor
 ·have : b * (-1) < b * (u - d):=by omega
  have:=Int.lt_of_mul_lt_mul_left this (by omega)
  omega
 ·have g : (b - 1) * (k : Int) ≤ (b - 1) * 7:=Int.mul_le_mul_of_nonneg_left (by omega) (by omega)
  have g2 : (b - 1) * 7 = b * 7 - 7:=by rw [Int.sub_mul,Int.one_mul]
  have e9 : b * 9 = b * 7 + (b + b):=by omega
  have : b * (u - d) < b * 9:=by omega
  have:=Int.lt_of_mul_lt_mul_left this (by omega)
  omega

theorem NetR.tr {t : impl_Transport} (hb : 2 ≤ b∧b ≤ 100) (hx : Mx n m x) (h : NetR n m x b t) : Tr (n + 1) (m + 1) t:=by
 have h1:=hx.n7; have h2:=hx.m7
 have B:=hx.rb
 refine ⟨h.rl,h.cl,by omega,by omega,by omega,by omega,h.lo,h.hi,fun i hi=>?_,fun j hj=>?_,fun i j hi hj=>?_⟩
 ·rw [h.rv i hi]
  by_cases hc : i < n
  ·rw [if_pos hc]
   have:=B.r i hc
   have:=dnup hb this.1
   omega
  ·rw [if_neg hc,B.tc]
   have:=last_bd hb h2 (f:=rC n x) fun j hj=>(B.c j hj).1
   omega
 ·rw [h.cv j hj]
  by_cases hc : j < m
  ·rw [if_pos hc]
   have:=B.c j hc
   have:=dnup hb this.1
   omega
  ·rw [if_neg hc]
   have:=last_bd hb h1 (f:=rR m x) fun i hi=>(B.r i hi).1
   have e : sm n (rR m x) = rT n m x:=rfl
   rw [e] at this
   omega
 ·rw [h.lv i j hi hj,h.hv i j hi hj]
  unfold rlo rhi
  by_cases hi' : i < n
  ·rw [if_pos hi']
   by_cases hj' : j < m
   ·rw [if_pos ⟨hi',hj'⟩,if_pos hj']
    have a:=hx.bd i j hi' hj'
    have:=dnup hb a.1
    omega
   ·rw [if_neg (fun h=>hj' h.2),if_neg hj']
    have:=dnup hb (B.r i hi').1
    omega
  ·rw [if_neg (fun h=>hi' h.1),if_neg hi']
   by_cases hj' : j < m
   ·rw [if_pos hj']
    have:=dnup hb (B.c j hj').1
    omega
   ·rw [if_neg hj']
    have:=dnup hb B.t0
    omega

end

end Go.Gx.F
