/- Plain laws: FnAudits. -/
import Derived.Test.YtpjcfmpfiadkgaaGreatSPFld

namespace Go.Gx.F

open Go.Gx

set_option linter.all false

set_option maxRecDepth 10000

def Sz5 (x : List (List Int)) : Prop:=x.length ≤ 5∧∀ r ∈ x,r.length ≤ 5

theorem Two.sz5 {x : List (List Int)} (h : Two x) : Sz5 x:=⟨by have:=h.2.1; omega,fun r hr=>by have:=(h.2.2 r hr).2; omega⟩

theorem sz5_set {x : List (List Int)} {i : Nat} {r : List Int} (h : Sz5 x) (hr : r.length ≤ 5) : Sz5 (x.set i r):=by
 refine ⟨by rw [List.length_set]; exact h.1,fun q hq=>?_⟩
 rcases List.mem_or_eq_of_mem_set hq with h1 | rfl
 ·exact h.2 q h1
 ·exact hr

theorem Sz5.sz {x : List (List Int)} (h : Sz5 x) : Sz x:=⟨by have:=h.1; omega,fun r hr=>by have:=h.2 r hr; omega⟩

theorem tanyTwo5 {B : Nat} {c : spec_l1Cur} (h : Cur B c) (hB : B ≤ 100000:=by omega) : Tot (spec_l1Cur_anyTwoWay c) fun r=>Sz5 r.1∧Cur (B + 110) r.2:=by
 unfold spec_l1Cur_anyTwoWay
 refine tot_bind (ttwo h) fun ⟨x,c1⟩ ⟨hx,k1⟩=>?_
 refine tot_bind (tpick k1) fun ⟨y,c2⟩ ⟨_,_,_,k2⟩=>?_
 simp only at hx k1 k2 ⊢
 obtain ⟨r0,e0,l1,l2⟩:=hx.at0
 have e1 : ∃ v,goAt r0 0 = some v:=by
  cases r0 with
  | nil=>simp at l1
  | cons v r=>exact ⟨v,rfl⟩
 obtain ⟨v0,e1⟩:=e1
 refine tot_bind (Q:=fun r : ((List (List Int)) × spec_l1Cur) ⊕ ((List (List Int)) × spec_l1Cur)=>match r with | .inl s=>Sz5 s.1∧Cur (B + 110) s.2 | .inr s=>Sz5 s.1∧Cur (B + 110) s.2) ?_ fun r hr=>?_
 ·refine tot_cond (fun _=>?_) fun _=>?_
  ·rw [e0,Option.bind_some]
   refine tot_bind (Q:=fun r=>Sz5 r.1∧Cur (B + 110) r.2) ?_ fun r hr=>tot_some hr
   refine tot_bind (tamong k2) fun ⟨z,c3⟩ ⟨_,k3⟩=>?_
   rw [e1,Option.bind_some]
   exact tot_some ⟨sz5_set hx.sz5 (by simp only [List.length_set]; omega),k3.le (by omega)⟩
  ·refine tot_bind (Q:=fun r : (List (List Int)) ⊕ (((List (List Int)) × spec_l1Cur) ⊕ ((List (List Int)) × spec_l1Cur))=>match r with | .inl s=>Sz5 s | .inr (.inl s)=>Sz5 s.1∧Cur (B + 110) s.2 | .inr (.inr s)=>Sz5 s.1∧Cur (B + 110) s.2) ?_ fun r hr=>?_
   ·refine tot_cond (fun _=>?_) fun _=>tot_cond (fun _=>tot_some ⟨⟨by simp,fun r hr=>by simp at hr⟩,k2.le (by omega)⟩) fun _=>tot_cond (fun _=>?_) fun _=>tot_some hx.sz5
    ·rw [e0,Option.bind_some]
     refine tot_bind (tot_app (Q:=fun l=>l.length ≤ 5) (by simp; omega) (by simp; omega)) fun l hl=>?_
     rw [Option.bind_some]
     exact tot_some (sz5_set hx.sz5 hl)
    ·refine tot_bind (tpick k2) fun ⟨z,c3⟩ ⟨z0,z1,_,k3⟩=>?_
     have hz:=z1 (by omega)
     simp only at z0 hz k3
     refine tot_bind (tot_make (n:=(1 + z).toNat) (Q:=fun l=>Sz5 l) ?_ (by omega) (by omega) ⟨by simp; omega,fun r hr=>by rw [List.mem_replicate] at hr; rw [hr.2]; simp⟩) fun l hl=>tot_some ⟨hl,k3.le (by omega)⟩
     rw [wid (by omega) (by omega)]; omega
   ·rcases r with r | r | r
    ·exact tot_some ⟨hr,k2.le (by omega)⟩
    ·exact tot_some hr
    ·exact tot_some hr
 ·rcases r with r | r
  ·exact tot_some hr
  ·exact tot_some hr

structure Sup (n m : Nat) (x p : List (List Int)) : Prop where
 n1 : 1 ≤ n
 n8 : n ≤ 8
 m1 : 1 ≤ m
 m8 : m ≤ 8
 xs : Shp n m x
 ps : Shp n m p
 xb : ∀ i j,i < n→j < m→0 ≤ mt x i j∧mt x i j ≤ 1000
 pb : ∀ i j,i < n→j < m→0 ≤ mt p i j∧mt p i j ≤ 1

theorem Grid.shp {c : Int} {x : List (List Int)} (h : Grid c x) : Shp x.length (wdt x) x∧∀ i j,i < x.length→j < wdt x→0 ≤ mt x i j∧mt x i j ≤ c:=by
 have hs : Shp x.length (wdt x) x:=⟨rfl,h.2.2.2.2.1⟩
 refine ⟨hs,fun i j hi hj=>?_⟩
 obtain ⟨r,e,hm,_,_,_⟩:=hs.get hi
 exact h.2.2.2.2.2 r hm _ (List.mem_of_getElem? (hs.el e hj))

theorem sup_bis {x p : List (List Int)} (hx : Sz x) (hp : Sz p) : ∃ b : Bool,impl_areSuppressed x p = some b∧spec_qPattern x p = some b∧(b = true→∃ n m,Sup n m x p):=by
 obtain ⟨a1,e1,h1⟩:=grid_bis (m:=1000) hx
 obtain ⟨a2,e2,h2⟩:=form_bis (m:=1000) hx
 obtain rfl : a1 = a2:=by cases a1 <;> cases a2 <;> simp_all
 unfold impl_areSuppressed spec_qPattern impl_IsTwoWay spec_qTable
 rw [e1,e2]
 simp only [Option.bind_some]
 cases a1 with
 | false=>exact ⟨false,rfl,rfl,fun h=>by cases h⟩
 | true =>
  have g1:=h1.1 rfl
  obtain ⟨b1,e3,h3⟩:=grid_bis (m:=1) hp
  obtain ⟨b2,e4,h4⟩:=form_bis (m:=1) hp
  obtain rfl : b1 = b2:=by cases b1 <;> cases b2 <;> simp_all
  unfold impl_isPattern
  rw [e3,e4]
  simp only [Option.bind_some,cond_true]
  cases b1 with
  | false=>exact ⟨false,rfl,rfl,fun h=>by cases h⟩
  | true =>
   have g2:=h3.1 rfl
   simp only [cond_true]
   rw [head_ok g1.1,Option.bind_some]
   obtain ⟨c,e5,h5⟩:=shape_bis (x:=p) (n:=goLen x) (w:=goLen (x.headD [])) (by have:=hp.1; omega)
   rw [e5]
   simp only [Option.bind_some]
   by_cases hl : p.length = x.length
   ·rw [show (goLen p == goLen x) = true by simp only [goLen]; rw [beq_iff_eq]; omega,cond_true,head_ok g2.1]
    simp only [Option.bind_some]
    have hc : c = (goLen (p.headD []) == goLen (x.headD [])):=by
     rw [Bool.eq_iff_iff,h5,beq_iff_eq]
     simp only [goLen]
     constructor
     ·rintro ⟨_,h⟩
      exact h _ (head_mem g2.1)
     ·intro h
      refine ⟨by omega,fun r hr=>?_⟩
      have e6:=g2.2.2.2.2.1 r hr
      rw [e6]; exact h
    rw [← hc]
    refine ⟨c,rfl,rfl,fun hct=>?_⟩
    have hw : wdt p = wdt x:=by
     rw [hc,beq_iff_eq] at hct
     simp only [goLen] at hct
     unfold wdt
     omega
    obtain ⟨s1,s2⟩:=g1.shp
    obtain ⟨s3,s4⟩:=g2.shp
    rw [hl,hw] at s3 s4
    exact ⟨x.length,wdt x,g1.1,g1.2.1,g1.2.2.1,g1.2.2.2.1,s1,s3,s2,s4⟩
   ·rw [show (goLen p == goLen x) = false by simp only [goLen]; rw [beq_eq_false_iff_ne]; omega,cond_false]
    have hc : c = false:=by
     cases c with
     | false=>rfl
     | true=>have:=(h5.1 rfl).1; simp only [goLen] at this; omega
    rw [hc]
    exact ⟨false,rfl,rfl,fun h=>by cases h⟩

section

variable {n m : Nat} {x p : List (List Int)}

def nlo (x p : List (List Int)) : Nat→Nat→Int:=fun i j=>if mt p i j = 1 then 0 else mt x i j

def nhi (x p : List (List Int)) : Nat→Nat→Int:=fun i j=>if mt p i j = 1 then 100000 else mt x i j

structure Net (n m : Nat) (x p : List (List Int)) (t : impl_Transport) : Prop where
 rl : t.Rows.length = n
 cl : t.Cols.length = m
 lo : Shp n m t.Lo
 hi : Shp n m t.Hi
 rv : ∀ i,i < n→vc t.Rows i = sm m (mt x i)
 cv : ∀ j,j < m→vc t.Cols j = sm n (fun i=>mt x i j)
 lv : ∀ i j,i < n→j < m→mt t.Lo i j = nlo x p i j
 hv : ∀ i j,i < n→j < m→mt t.Hi i j = nhi x p i j

theorem Net.one {t t' : impl_Transport} (h : Net n m x p t) (h' : Net n m x p t') : t = t':=by
 have e1 : t.Rows = t'.Rows:=vc_ext (by rw [h.rl,h'.rl]) fun i hi=>by rw [h.rl] at hi; rw [h.rv i hi,h'.rv i hi]
 have e2 : t.Cols = t'.Cols:=vc_ext (by rw [h.cl,h'.cl]) fun i hi=>by rw [h.cl] at hi; rw [h.cv i hi,h'.cv i hi]
 have e3 : t.Lo = t'.Lo:=h.lo.ext h'.lo fun i j hi hj=>by rw [h.lv i j hi hj,h'.lv i j hi hj]
 have e4 : t.Hi = t'.Hi:=h.hi.ext h'.hi fun i j hi hj=>by rw [h.hv i j hi hj,h'.hv i j hi hj]
 cases t; cases t'
 simp only at e1 e2 e3 e4
 subst e1 e2 e3 e4
 rfl

theorem Sup.rb (hS : Sup n m x p) {i : Nat} (hi : i < n) : 0 ≤ sm m (mt x i)∧sm m (mt x i) ≤ 1000 * 20:=by
 have h1:=hS.m8
 have a1:=sm_nonneg (n:=m) (f:=mt x i) fun j hj=>(hS.xb i j hi hj).1
 have a2:=sm_bd8 (n:=m) (f:=mt x i) (B:=1000) (by omega) (by omega) fun j hj=>by have:=hS.xb i j hi hj; omega
 omega

theorem Sup.cb (hS : Sup n m x p) {j : Nat} (hj : j < m) : 0 ≤ sm n (fun i=>mt x i j)∧sm n (fun i=>mt x i j) ≤ 1000 * 20:=by
 have h1:=hS.n8
 have a1:=sm_nonneg (n:=n) (f:=fun i=>mt x i j) fun i hi=>(hS.xb i j hi hj).1
 have a2:=sm_bd8 (n:=n) (f:=fun i=>mt x i j) (B:=1000) (by omega) (by omega) fun i hi=>by have:=hS.xb i j hi hj; omega
 omega

theorem Net.tr {t : impl_Transport} (hS : Sup n m x p) (h : Net n m x p t) : Tr n m t :=
 ⟨h.rl,h.cl,hS.n1,hS.n8,hS.m1,hS.m8,h.lo,h.hi,fun i hi=>by rw [h.rv i hi]; have:=hS.rb hi; omega,fun j hj=>by rw [h.cv j hj]; have:=hS.cb hj; omega,fun i j hi hj=>by
  rw [h.lv i j hi hj,h.hv i j hi hj]
  have:=hS.xb i j hi hj
  unfold nlo nhi
  split <;> omega⟩

theorem Net.fl {t : impl_Transport} (hS : Sup n m x p) (h : Net n m x p t) : IsF n m t (mt x) :=
 ⟨fun i j hi hj=>by rw [h.lv i j hi hj]; have:=hS.xb i j hi hj; unfold nlo; split <;> omega,fun i j hi hj=>by rw [h.hv i j hi hj]; have:=hS.xb i j hi hj; unfold nhi; split <;> omega,fun i hi=>(h.rv i hi).symm,fun j hj=>(h.cv j hj).symm⟩

theorem impl_net (hS : Sup n m x p) : ∃ t,impl_attackNetwork x p = some t∧Net n m x p t:=by
 have h3:=hS.n8; have h4:=hS.m8; have h5:=hS.n1; have hpl:=hS.ps.len; have hxl:=hS.xs.len
 have hb : ∀ i j,i < n→j < m→-1000000 ≤ mt x i j∧mt x i j ≤ 1000000:=fun i j hi hj=>by have:=hS.xb i j hi hj; omega
 obtain ⟨rs,ers,rsl,rsv⟩:=rowSums_ok hS.xs (by omega) (by omega) hb
 obtain ⟨cs,ecs,csl,csv⟩:=colSums_ok hS.xs h5 (by omega) (by omega) hb
 unfold impl_attackNetwork
 rw [ers,Option.bind_some,ecs,Option.bind_some,copy_eq (hS.xs.sz (by omega) (by omega)) (by omega),Option.bind_some,Option.bind_some]
 have h : Tot (loopC (impl_attackNetwork_l1 p) (0,impl_Transport.mk rs cs x x)) fun t=>Net n m x p t:=by
  refine tot_loop (fun s=>∃ i : Nat,i ≤ n∧s.1 = (i : Int)∧s.2.Rows = rs∧s.2.Cols = cs∧Shp n m s.2.Lo∧Shp n m s.2.Hi∧∀ a b,a < n→b < m→mt s.2.Lo a b = (if a < i then nlo x p a b else mt x a b)∧mt s.2.Hi a b = (if a < i then nhi x p a b else mt x a b)) (fun s=>n - s.1.toNat) ⟨0,by omega,rfl,rfl,rfl,hS.xs,hS.xs,fun a b _ _=>⟨by simp,by simp⟩⟩ ?_
  rintro ⟨_,t⟩ ⟨i,hi',rfl,g1,g2,g3,g4,g5⟩
  simp only at g1 g2 g3 g4 g5
  by_cases hi : i < n
  ·obtain ⟨prow,hprow,_,hprl,_,_⟩:=hS.ps.get hi
   simp only [impl_attackNetwork_l1,lt_ok hprow,cond_true,at_ok hprow,Option.bind_some]
   have h2 : Tot (loopC (impl_attackNetwork_l2 (i : Int) prow) (0,t)) fun t'=>t'.Rows = rs∧t'.Cols = cs∧Shp n m t'.Lo∧Shp n m t'.Hi∧∀ a b,a < n→b < m→mt t'.Lo a b = (if a < i + 1 then nlo x p a b else mt x a b)∧mt t'.Hi a b = (if a < i + 1 then nhi x p a b else mt x a b):=by
    refine tot_loop (fun s=>∃ j : Nat,j ≤ m∧s.1 = (j : Int)∧s.2.Rows = rs∧s.2.Cols = cs∧Shp n m s.2.Lo∧Shp n m s.2.Hi∧∀ a b,a < n→b < m→mt s.2.Lo a b = (if a < i ∨ a = i∧b < j then nlo x p a b else mt x a b)∧mt s.2.Hi a b = (if a < i ∨ a = i∧b < j then nhi x p a b else mt x a b)) (fun s=>m - s.1.toNat) ⟨0,by omega,rfl,g1,g2,g3,g4,fun a b ha hb'=>?_⟩ ?_
    ·have:=g5 a b ha hb'
     by_cases hai : a < i
     ·rw [if_pos (.inl hai),if_pos (.inl hai)]; rw [if_pos hai,if_pos hai] at this; exact this
     ·rw [if_neg (by omega),if_neg (by omega)]; rw [if_neg hai,if_neg hai] at this; exact this
    rintro ⟨_,t2⟩ ⟨j,hj',rfl,k1,k2,k3,k4,k5⟩
    simp only at k1 k2 k3 k4 k5
    by_cases hj : j < m
    ·have hy:=hS.ps.el hprow hj
     simp only [impl_attackNetwork_l2,lt_ok hy,cond_true,at_ok hy,Option.bind_some]
     rw [wid (n:=(j : Int) + 1) (by omega) (by omega)]
     by_cases h1 : mt p i j = 1
     ·obtain ⟨lr,hlr,_,_,_,_⟩:=k3.get hi
      obtain ⟨hr,hhr,_,_,_,_⟩:=k4.get hi
      rw [show (mt p i j == 1) = true by rw [beq_iff_eq]; exact h1,cond_true]
      simp only [at_ok hlr,at_ok hhr,at_ok (k3.el hlr hj),at_ok (k4.el hhr hj),Option.bind_some,goSet,Int.toNat_natCast]
      rw [set_upd hlr,set_upd hhr]
      refine tot_some ⟨⟨j + 1,by omega,by simp only; omega,k1,k2,k3.upd hi,k4.upd hi,fun a b ha hb'=>?_⟩,by simp only; omega⟩
      simp only
      rw [mt_upd k3 hi hj,mt_upd k4 hi hj,(k5 a b ha hb').1,(k5 a b ha hb').2]
      by_cases hab : a = i∧b = j
      ·rw [if_pos hab,if_pos hab,if_pos (by omega),if_pos (by omega)]
       obtain ⟨rfl,rfl⟩:=hab
       unfold nlo nhi
       rw [if_pos h1,if_pos h1]; exact ⟨rfl,rfl⟩
      ·rw [if_neg hab,if_neg hab]
       by_cases hc : a < i ∨ a = i∧b < j
       ·rw [if_pos hc,if_pos hc,if_pos (by omega),if_pos (by omega)]; exact ⟨rfl,rfl⟩
       ·rw [if_neg hc,if_neg hc,if_neg (by omega),if_neg (by omega)]; exact ⟨rfl,rfl⟩
     ·rw [show (mt p i j == 1) = false by rw [beq_eq_false_iff_ne]; exact h1,cond_false,Option.bind_some]
      refine tot_some ⟨⟨j + 1,by omega,by simp only; omega,k1,k2,k3,k4,fun a b ha hb'=>?_⟩,by simp only; omega⟩
      simp only
      rw [(k5 a b ha hb').1,(k5 a b ha hb').2]
      by_cases hab : a = i∧b = j
      ·obtain ⟨rfl,rfl⟩:=hab
       have hN : ¬ (a < a ∨ a = a∧b < b):=by omega
       have hP : a < a ∨ a = a∧b < b + 1:=by omega
       rw [if_neg hN,if_neg hN,if_pos hP,if_pos hP]
       unfold nlo nhi
       rw [if_neg h1,if_neg h1]; exact ⟨rfl,rfl⟩
      ·by_cases hc : a < i ∨ a = i∧b < j
       ·rw [if_pos hc,if_pos hc,if_pos (by omega),if_pos (by omega)]; exact ⟨rfl,rfl⟩
       ·rw [if_neg hc,if_neg hc,if_neg (by omega),if_neg (by omega)]; exact ⟨rfl,rfl⟩
    ·obtain rfl : j = m:=by omega
     have e3 : decide ((j : Int) < goLen prow) = false:=decide_eq_false (by simp only [goLen]; omega)
     simp only [impl_attackNetwork_l2,e3,cond_false]
     refine tot_some ⟨k1,k2,k3,k4,fun a b ha hb'=>?_⟩
     have:=k5 a b ha hb'
     by_cases hc : a < i + 1
     ·rw [if_pos (by omega),if_pos (by omega)] at this; rw [if_pos hc,if_pos hc]; exact this
     ·rw [if_neg (by omega),if_neg (by omega)] at this; rw [if_neg hc,if_neg hc]; exact this
   obtain ⟨t',e',q1,q2,q3,q4,q5⟩:=h2
   rw [e',Option.bind_some,wid (by omega) (by omega)]
   exact tot_some ⟨⟨i + 1,by omega,by simp only; omega,q1,q2,q3,q4,q5⟩,by simp only; omega⟩
  ·obtain rfl : i = n:=by omega
   have e3 : decide ((i : Int) < goLen p) = false:=decide_eq_false (by simp only [goLen]; omega)
   simp only [impl_attackNetwork_l1,e3,cond_false]
   exact tot_some ⟨by rw [g1]; exact rsl,by rw [g2]; exact csl,g3,g4,fun a ha=>by rw [g1]; exact rsv a ha,fun b hb'=>by rw [g2]; exact csv b hb',fun a b ha hb'=>by rw [(g5 a b ha hb').1,if_pos ha],fun a b ha hb'=>by rw [(g5 a b ha hb').2,if_pos ha]⟩
 obtain ⟨t,e,ht⟩:=h
 rw [e]
 exact ⟨t,rfl,ht⟩

theorem shp_app {k : Nat} {y : List (List Int)} {row : List Int} (h : Shp k m y) (hr : row.length = m) : Shp (k + 1) m (y ++ [row])∧∀ a b,mt (y ++ [row]) a b = if a = k then vc row b else mt y a b:=by
 have hl:=h.len
 refine ⟨⟨by simp [hl],fun r hr'=>?_⟩,fun a b=>?_⟩
 ·rcases List.mem_append.1 hr' with h1 | h1
  ·exact h.row r h1
  ·rw [List.mem_singleton.1 h1]; exact hr
 ·by_cases ha : a = k
  ·subst ha
   rw [if_pos rfl]
   have e : (y ++ [row])[a]? = some row:=by rw [List.getElem?_append_right (by omega),hl,Nat.sub_self]; rfl
   exact mt_of e b
  ·rw [if_neg ha]
   unfold mt
   congr 1
   rw [List.getD_eq_getElem?_getD,List.getD_eq_getElem?_getD]
   by_cases h2 : a < k
   ·rw [List.getElem?_append_left (by omega)]
   ·rw [List.getElem?_eq_none (l:=y ++ [row]) (by simp; omega),List.getElem?_eq_none (by omega)]

theorem spec_net (hS : Sup n m x p) : ∃ t,spec_qNetwork x p = some t∧Net n m x p t:=by
 have h3:=hS.n8; have h4:=hS.m8; have h5:=hS.n1; have hpl:=hS.ps.len; have hxl:=hS.xs.len
 have hb : ∀ i j,i < n→j < m→-1000000 ≤ mt x i j∧mt x i j ≤ 1000000:=fun i j hi hj=>by have:=hS.xb i j hi hj; omega
 unfold spec_qNetwork
 have L1 : Tot (loopC (spec_qNetwork_l1 x p) (0,impl_Transport.mk [] [] [] [])) fun t=>t.Cols = []∧t.Rows.length = n∧Shp n m t.Lo∧Shp n m t.Hi∧(∀ i,i < n→vc t.Rows i = sm m (mt x i))∧∀ a b,a < n→b < m→mt t.Lo a b = nlo x p a b∧mt t.Hi a b = nhi x p a b:=by
  refine tot_loop (fun s=>∃ i : Nat,i ≤ n∧s.1 = (i : Int)∧s.2.Rows.length = i∧Shp i m s.2.Lo∧Shp i m s.2.Hi∧(∀ a,a < i→vc s.2.Rows a = sm m (mt x a))∧∀ a b,a < i→b < m→mt s.2.Lo a b = nlo x p a b∧mt s.2.Hi a b = nhi x p a b) (fun s=>n - s.1.toNat) ⟨0,by omega,rfl,rfl,⟨rfl,by simp⟩,⟨rfl,by simp⟩,fun a ha=>by omega,fun a b ha=>by omega⟩ ?_
  rintro ⟨_,t⟩ ⟨i,hi',rfl,g1,g2,g3,g4,g5⟩
  simp only at g1 g2 g3 g4 g5
  by_cases hi : i < n
  ·obtain ⟨xrow,hxrow,_,hxrl,_,_⟩:=hS.xs.get hi
   obtain ⟨prow,hprow,_,hprl,_,_⟩:=hS.ps.get hi
   simp only [spec_qNetwork_l1,lt_ok hxrow,cond_true,at_ok hxrow,Option.bind_some,rowSum_ok hS.xs (by omega) hxrow hi (fun j hj=>hb i j hi hj)]
   have hll:=g2.len; have hhl:=g3.len
   rw [goApp_ok (by simp; omega),Option.bind_some]
   have h2 : Tot (loopC (spec_qNetwork_l2 p (i : Int) xrow) ([],[],0)) fun o=>o.1.length = m∧o.2.length = m∧∀ b,b < m→vc o.1 b = nlo x p i b∧vc o.2 b = nhi x p i b:=by
    refine tot_loop (fun s=>∃ j : Nat,j ≤ m∧s.2.2 = (j : Int)∧s.1.length = j∧s.2.1.length = j∧∀ b,b < j→vc s.1 b = nlo x p i b∧vc s.2.1 b = nhi x p i b) (fun s=>m - s.2.2.toNat) ⟨0,by omega,rfl,rfl,rfl,fun b hb'=>by omega⟩ ?_
    rintro ⟨l1,l2,_⟩ ⟨j,hj',rfl,k1,k2,k3⟩
    simp only at k1 k2 k3
    by_cases hj : j < m
    ·have hy:=hS.xs.el hxrow hj
     simp only [spec_qNetwork_l2,lt_ok hy,cond_true,at_ok hy,at_ok hprow,at_ok (hS.ps.el hprow hj),Option.bind_some]
     rw [wid (n:=(j : Int) + 1) (by omega) (by omega)]
     have fin : ∀ u v : Int,u = nlo x p i j→v = nhi x p i j→∀ b,b < j + 1→vc (l1 ++ [u]) b = nlo x p i b∧vc (l2 ++ [v]) b = nhi x p i b:=fun u v hu hv b hb'=>by
      rw [vc_app,vc_app,k1,k2]
      by_cases hbj : b = j
      ·rw [if_pos hbj,if_pos hbj,hbj]; exact ⟨hu,hv⟩
      ·rw [if_neg hbj,if_neg hbj]; exact k3 b (by omega)
     by_cases h1 : mt p i j = 1
     ·rw [show (mt p i j == 1) = true by rw [beq_iff_eq]; exact h1,cond_true,goApp_ok (by simp; omega),Option.bind_some,goApp_ok (by simp; omega),Option.bind_some,Option.bind_some]
      exact tot_some ⟨⟨j + 1,by omega,by simp only; omega,by simp [k1],by simp [k2],fin 0 100000 (by unfold nlo; rw [if_pos h1]) (by unfold nhi; rw [if_pos h1])⟩,by simp only; omega⟩
     ·rw [show (mt p i j == 1) = false by rw [beq_eq_false_iff_ne]; exact h1,cond_false,goApp_ok (by simp; omega),Option.bind_some,goApp_ok (by simp; omega),Option.bind_some,Option.bind_some]
      exact tot_some ⟨⟨j + 1,by omega,by simp only; omega,by simp [k1],by simp [k2],fin (mt x i j) (mt x i j) (by unfold nlo; rw [if_neg h1]) (by unfold nhi; rw [if_neg h1])⟩,by simp only; omega⟩
    ·obtain rfl : j = m:=by omega
     have e3 : decide ((j : Int) < goLen xrow) = false:=decide_eq_false (by simp only [goLen]; omega)
     simp only [spec_qNetwork_l2,e3,cond_false]
     exact tot_some ⟨k1,k2,k3⟩
   obtain ⟨⟨l1,l2⟩,e',q1,q2,q3⟩:=h2
   simp only at q1 q2 q3
   rw [e',Option.bind_some]
   simp only
   rw [goApp_ok (by simp; omega),Option.bind_some,goApp_ok (by simp; omega),Option.bind_some,wid (by omega) (by omega)]
   obtain ⟨s1,s2⟩:=shp_app g2 q1
   obtain ⟨s3,s4⟩:=shp_app g3 q2
   refine tot_some ⟨⟨i + 1,by omega,by simp only; omega,by simp [g1],s1,s3,fun a ha=>?_,fun a b ha hb'=>?_⟩,by simp only; omega⟩
   ·simp only
    rw [vc_app,g1]
    by_cases hai : a = i
    ·rw [if_pos hai,hai]
    ·rw [if_neg hai]; exact g4 a (by omega)
   ·simp only
    rw [s2,s4]
    by_cases hai : a = i
    ·rw [if_pos hai,if_pos hai,hai]; exact q3 b hb'
    ·rw [if_neg hai,if_neg hai]; exact g5 a b (by omega) hb'
  ·obtain rfl : i = n:=by omega
   have e3 : decide ((i : Int) < goLen x) = false:=decide_eq_false (by simp only [goLen]; omega)
   simp only [spec_qNetwork_l1,e3,cond_false]
   exact tot_some ⟨rfl,g1,g2,g3,g4,g5⟩
 obtain ⟨t1,e1,a1,a2,a3,a4,a5,a6⟩:=L1
 rw [e1,Option.bind_some]
 obtain ⟨r0,hr0,_,hr0l,_,_⟩:=hS.xs.get (i:=0) (by omega)
 have g0 : goAt x 0 = some r0:=at_ok (k:=0) hr0
 rw [g0,Option.bind_some]
 have L3 : Tot (loopC (spec_qNetwork_l3 x r0) (0,impl_Transport.mk t1.Rows [] t1.Lo t1.Hi)) fun t=>t.Rows = t1.Rows∧t.Lo = t1.Lo∧t.Hi = t1.Hi∧t.Cols.length = m∧∀ j,j < m→vc t.Cols j = sm n (fun i=>mt x i j):=by
  refine tot_loop (fun s=>∃ j : Nat,j ≤ m∧s.1 = (j : Int)∧s.2.Rows = t1.Rows∧s.2.Lo = t1.Lo∧s.2.Hi = t1.Hi∧s.2.Cols.length = j∧∀ b,b < j→vc s.2.Cols b = sm n (fun i=>mt x i b)) (fun s=>m - s.1.toNat) ⟨0,by omega,rfl,rfl,rfl,rfl,rfl,fun b hb'=>by omega⟩ ?_
  rintro ⟨_,t⟩ ⟨j,hj',rfl,k1,k2,k3,k4,k5⟩
  simp only at k1 k2 k3 k4 k5
  by_cases hj : j < m
  ·have e0 : decide ((j : Int) < goLen r0) = true:=decide_eq_true (by simp only [goLen]; omega)
   obtain ⟨col,ecol,hcl,hcv⟩:=tColumn_ok hS.xs (by omega) hj
   simp only [spec_qNetwork_l3,e0,cond_true,ecol,Option.bind_some]
   rw [tSum_ok (l:=col) (by omega) (fun i hi=>by rw [hcv i (by omega)]; exact hb i j (by omega) hj),hcl,sm_congr hcv,Option.bind_some,goApp_ok (by simp; omega),Option.bind_some,wid (by omega) (by omega)]
   refine tot_some ⟨⟨j + 1,by omega,by simp only; omega,k1,k2,k3,by simp [k4],fun b hb'=>?_⟩,by simp only; omega⟩
   simp only
   rw [vc_app,k4]
   by_cases hbj : b = j
   ·rw [if_pos hbj,hbj]
   ·rw [if_neg hbj]; exact k5 b (by omega)
  ·obtain rfl : j = m:=by omega
   have e3 : decide ((j : Int) < goLen r0) = false:=decide_eq_false (by simp only [goLen]; omega)
   simp only [spec_qNetwork_l3,e3,cond_false]
   exact tot_some ⟨k1,k2,k3,k4,k5⟩
 obtain ⟨t,e,b1,b2,b3,b4,b5⟩:=L3
 rw [e]
 exact ⟨t,rfl,by rw [b1]; exact a2,b4,by rw [b2]; exact a3,by rw [b3]; exact a4,fun i hi=>by rw [b1]; exact a5 i hi,b5,fun i j hi hj=>by rw [b2]; exact (a6 i j hi hj).1,fun i j hi hj=>by rw [b3]; exact (a6 i j hi hj).2⟩

theorem nets (hS : Sup n m x p) : ∃ t,impl_attackNetwork x p = some t∧spec_qNetwork x p = some t∧Net n m x p t∧Tr n m t∧IsF n m t (mt x):=by
 obtain ⟨t,e,h⟩:=impl_net hS
 obtain ⟨t',e',h'⟩:=spec_net hS
 obtain rfl:=h.one h'
 exact ⟨t,e,e',h,h.tr hS,h.fl hS⟩

end

end Go.Gx.F
