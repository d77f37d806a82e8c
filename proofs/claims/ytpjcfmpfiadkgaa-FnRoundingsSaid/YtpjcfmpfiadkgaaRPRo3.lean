/- Plain laws: the network of roundings as the program builds it. -/
import Derived.Test.YtpjcfmpfiadkgaaRPRo2

namespace Go.Gx.F

open Go.Gx

set_option linter.all false

set_option maxRecDepth 10000

theorem vc_take {l : List Int} {k i : Nat} (h : i < k) : vc (l.take k) i = vc l i:=by
 unfold vc
 rw [List.getD_eq_getElem?_getD,List.getElem?_take_of_lt h,← List.getD_eq_getElem?_getD]

section

variable {n m : Nat} {x : List (List Int)} {b : Int}

theorem netL1 {row0 R0 C0 : List Int} (hn : n ≤ 20) (hm : m ≤ 20) (hl : row0.length = m) : loopC (impl_roundingNetwork_l1 row0 ⟨R0,C0,List.replicate (n + 1) [],List.replicate (n + 1) []⟩) (0,⟨R0,C0,List.replicate (n + 1) [],List.replicate (n + 1) []⟩) =
  some ⟨R0,C0,List.replicate (n + 1) (List.replicate (m + 1) 0),List.replicate (n + 1) (List.replicate (m + 1) 0)⟩:=by
 have em : w64 (goLen row0 + 1) = ((m + 1 : Nat) : Int):=by simp only [goLen]; rw [hl,wid (by omega) (by omega)]; omega
 have hlen : (List.replicate (n + 1) ([] : List Int)).length = (List.replicate (n + 1) (List.replicate (m + 1) (0 : Int))).length:=by simp
 generalize hN : List.replicate (n + 1) (List.replicate (m + 1) (0 : Int)) = N at hlen
 generalize hE : List.replicate (n + 1) ([] : List Int) = E at hlen
 have hNl : N.length = n + 1:=by rw [← hN]; simp
 refine tot_eq (tot_loop (fun s=>∃ k : Nat,k ≤ n + 1∧s = ((k : Int),⟨R0,C0,mx k N E,mx k N E⟩)) (fun s=>n + 1 - s.1.toNat) ⟨0,by omega,by rw [mx0]; rfl⟩ ?_)
 rintro _ ⟨k,hk',rfl⟩
 by_cases hk : k < n + 1
 ·have e0 : decide ((k : Int) < goLen E) = true:=decide_eq_true (by simp only [goLen]; omega)
  have hEk : E[k]? = some []:=by rw [← hE,List.getElem?_replicate,if_pos hk]
  have hNk : N[k]? = some (List.replicate (m + 1) 0):=by rw [← hN,List.getElem?_replicate,if_pos hk]
  have hat : (mx k N E)[k]? = some []:=by rw [mx_at hlen (by omega)]; exact hEk
  simp only [impl_roundingNetwork_l1,e0,cond_true]
  rw [em,goMake_ok (by omega) (by omega)]
  simp only [Option.bind_some,at_ok hat,goSet,Int.toNat_natCast]
  rw [mx_set hlen hNk,wid (by omega) (by omega)]
  exact tot_some ⟨⟨k + 1,by omega,rfl⟩,by simp only; omega⟩
 ·obtain rfl : k = n + 1:=by omega
  have e0 : decide (((n + 1 : Nat) : Int) < goLen E) = false:=decide_eq_false (by simp only [goLen]; omega)
  simp only [impl_roundingNetwork_l1,e0,cond_false]
  refine tot_some ?_
  have:=mx_end hlen
  rw [hNl] at this
  simp only
  rw [this]

theorem netL2 (hb : 2 ≤ b∧b ≤ 100) (hx : Mx n m x) {R0 C0 : List Int} {L0 H0 : List (List Int)} (hL : Shp (n + 1) (m + 1) L0) (hH : Shp (n + 1) (m + 1) H0) (hL0 : ∀ i j,mt L0 i j = 0) (hH0 : ∀ i j,mt H0 i j = 0) :
  Tot (loopC (impl_roundingNetwork_l2 x b) (0,⟨R0,C0,L0,H0⟩)) fun t=>t.Rows = R0∧t.Cols = C0∧Shp (n + 1) (m + 1) t.Lo∧Shp (n + 1) (m + 1) t.Hi∧∀ a c,mt t.Lo a c = (if a < n∧c < m then dn b (mt x a c) else 0)∧mt t.Hi a c = (if a < n∧c < m then up b (mt x a c) else 0):=by
 have h7:=hx.n7; have m7:=hx.m7; have hxl:=hx.sh.len
 refine tot_loop (fun s=>∃ i : Nat,i ≤ n∧s.1 = (i : Int)∧s.2.Rows = R0∧s.2.Cols = C0∧Shp (n + 1) (m + 1) s.2.Lo∧Shp (n + 1) (m + 1) s.2.Hi∧∀ a c,mt s.2.Lo a c = (if a < i∧c < m then dn b (mt x a c) else 0)∧mt s.2.Hi a c = (if a < i∧c < m then up b (mt x a c) else 0)) (fun s=>n - s.1.toNat)
  ⟨0,by omega,rfl,rfl,rfl,hL,hH,fun a c=>⟨by rw [if_neg (by omega)]; exact hL0 a c,by rw [if_neg (by omega)]; exact hH0 a c⟩⟩ ?_
 rintro ⟨_,t⟩ ⟨i,hi',rfl,g1,g2,g3,g4,g5⟩
 simp only at g1 g2 g3 g4 g5
 by_cases hi : i < n
 ·obtain ⟨row,hrow,_,hrl,_,_⟩:=hx.sh.get hi
  simp only [impl_roundingNetwork_l2,lt_ok hrow,cond_true,at_ok hrow,Option.bind_some]
  have h3 : Tot (loopC (impl_roundingNetwork_l3 b (i : Int) row) (0,t)) fun t'=>t'.Rows = R0∧t'.Cols = C0∧Shp (n + 1) (m + 1) t'.Lo∧Shp (n + 1) (m + 1) t'.Hi∧∀ a c,mt t'.Lo a c = (if a < i + 1∧c < m then dn b (mt x a c) else 0)∧mt t'.Hi a c = (if a < i + 1∧c < m then up b (mt x a c) else 0):=by
   refine tot_loop (fun s=>∃ j : Nat,j ≤ m∧s.1 = (j : Int)∧s.2.Rows = R0∧s.2.Cols = C0∧Shp (n + 1) (m + 1) s.2.Lo∧Shp (n + 1) (m + 1) s.2.Hi∧∀ a c,mt s.2.Lo a c = (if (a < i ∨ a = i∧c < j)∧c < m then dn b (mt x a c) else 0)∧mt s.2.Hi a c = (if (a < i ∨ a = i∧c < j)∧c < m then up b (mt x a c) else 0)) (fun s=>m - s.1.toNat)
    ⟨0,by omega,rfl,g1,g2,g3,g4,fun a c=>?_⟩ ?_
   ·have:=g5 a c
    by_cases hc : a < i∧c < m
    ·rw [if_pos hc,if_pos hc] at this
     rw [if_pos ⟨.inl hc.1,hc.2⟩,if_pos ⟨.inl hc.1,hc.2⟩]; exact this
    ·rw [if_neg hc,if_neg hc] at this
     rw [if_neg (by omega),if_neg (by omega)]; exact this
   ·rintro ⟨_,t2⟩ ⟨j,hj',rfl,k1,k2,k3,k4,k5⟩
    simp only at k1 k2 k3 k4 k5
    by_cases hj : j < m
    ·have hy:=hx.sh.el hrow hj
     have hv:=hx.bd i j hi hj
     obtain ⟨lr,hlr,_,_,_,_⟩:=k3.get (i:=i) (by omega)
     obtain ⟨hr,hhr,_,_,_,_⟩:=k4.get (i:=i) (by omega)
     simp only [impl_roundingNetwork_l3,lt_ok hy,cond_true,at_ok hy,at_ok hlr,at_ok hhr,Option.bind_some]
     rw [iDown hb hv.1 (by omega),Option.bind_some,iUp hb hv.1 (by omega)]
     simp only [Option.bind_some,at_ok (k3.el hlr (show j < m + 1 by omega)),at_ok (k4.el hhr (show j < m + 1 by omega)),goSet,Int.toNat_natCast]
     rw [set_upd hlr,set_upd hhr,wid (by omega) (by omega)]
     refine tot_some ⟨⟨j + 1,by omega,by simp only; omega,k1,k2,k3.upd (by omega),k4.upd (by omega),fun a c=>?_⟩,by simp only; omega⟩
     simp only
     rw [mt_upd k3 (by omega) (by omega),mt_upd k4 (by omega) (by omega),(k5 a c).1,(k5 a c).2]
     by_cases hac : a = i∧c = j
     ·rw [if_pos hac,if_pos hac,if_pos (by omega),if_pos (by omega),hac.1,hac.2]; exact ⟨rfl,rfl⟩
     ·rw [if_neg hac,if_neg hac]
      by_cases hc : (a < i ∨ a = i∧c < j)∧c < m
      ·rw [if_pos hc,if_pos hc,if_pos (by omega),if_pos (by omega)]; exact ⟨rfl,rfl⟩
      ·rw [if_neg hc,if_neg hc,if_neg (by omega),if_neg (by omega)]; exact ⟨rfl,rfl⟩
    ·obtain rfl : j = m:=by omega
     have e3 : decide ((j : Int) < goLen row) = false:=decide_eq_false (by simp only [goLen]; omega)
     simp only [impl_roundingNetwork_l3,e3,cond_false]
     refine tot_some ⟨k1,k2,k3,k4,fun a c=>?_⟩
     have:=k5 a c
     by_cases hc : (a < i ∨ a = i∧c < j)∧c < j
     ·rw [if_pos hc,if_pos hc] at this
      rw [if_pos (by omega),if_pos (by omega)]; exact this
     ·rw [if_neg hc,if_neg hc] at this
      rw [if_neg (by omega),if_neg (by omega)]; exact this
  obtain ⟨t',et,q1,q2,q3,q4,q5⟩:=h3
  rw [et,Option.bind_some,wid (by omega) (by omega)]
  exact tot_some ⟨⟨i + 1,by omega,by simp only; omega,q1,q2,q3,q4,q5⟩,by simp only; omega⟩
 ·obtain rfl : i = n:=by omega
  have e3 : decide ((i : Int) < goLen x) = false:=decide_eq_false (by simp only [goLen]; omega)
  simp only [impl_roundingNetwork_l2,e3,cond_false]
  exact tot_some ⟨g1,g2,g3,g4,g5⟩

theorem netL4 (hb : 2 ≤ b∧b ≤ 100) (hx : Mx n m x) {row0 rs C0 : List Int} {L0 : List (List Int)} {t0 : impl_Transport} (hl : row0.length = m) (hrl : rs.length = n) (hrv : ∀ i,i < n→vc rs i = rR m x i)
  (a1 : t0.Rows.length = n + 1) (a2 : ∀ i,vc t0.Rows i = 0) (a3 : t0.Cols = C0) (a4 : t0.Lo = L0) (a5 : Shp (n + 1) (m + 1) t0.Hi) (a6 : ∀ a c,mt t0.Hi a c = if a < n∧c < m then up b (mt x a c) else 0) :
  Tot (loopC (impl_roundingNetwork_l4 b row0 rs) (0,t0)) fun t=>t.Rows.length = n + 1∧(∀ i,vc t.Rows i = if i < n then up b (rR m x i) else 0)∧t.Cols = C0∧t.Lo = L0∧Shp (n + 1) (m + 1) t.Hi∧∀ a c,mt t.Hi a c = if a < n∧c < m then up b (mt x a c) else if a < n∧c = m then up b (rR m x a) - dn b (rR m x a) else 0:=by
 have h7:=hx.n7; have m7:=hx.m7; have B:=hx.rb
 have gm : goLen row0 = (m : Int):=by simp only [goLen]; rw [hl]
 refine tot_loop (fun s=>∃ i : Nat,i ≤ n∧s.1 = (i : Int)∧s.2.Rows.length = n + 1∧(∀ k,vc s.2.Rows k = if k < i then up b (rR m x k) else 0)∧s.2.Cols = C0∧s.2.Lo = L0∧Shp (n + 1) (m + 1) s.2.Hi∧∀ a c,mt s.2.Hi a c = if a < n∧c < m then up b (mt x a c) else if a < i∧c = m then up b (rR m x a) - dn b (rR m x a) else 0) (fun s=>n - s.1.toNat)
  ⟨0,by omega,rfl,a1,fun k=>by rw [if_neg (by omega)]; exact a2 k,a3,a4,a5,fun a c=>by
   rw [a6 a c]
   by_cases hc : a < n∧c < m
   ·rw [if_pos hc,if_pos hc]
   ·rw [if_neg hc,if_neg hc,if_neg (by omega)]⟩ ?_
 rintro ⟨_,t⟩ ⟨i,hi',rfl,g1,g2,g3,g4,g5,g6⟩
 simp only at g1 g2 g3 g4 g5 g6
 by_cases hi : i < n
 ·have hy:=vc_at (l:=rs) (i:=i) (by omega)
  rw [hrv i hi] at hy
  have hr:=B.r i hi
  have hd:=dnup hb hr.1
  obtain ⟨hrow,hhr,_,_,_,_⟩:=g5.get (i:=i) (by omega)
  simp only [impl_roundingNetwork_l4,lt_ok hy,cond_true,at_ok hy,Option.bind_some]
  rw [iUp hb hr.1 (by omega),iDown hb hr.1 (by omega),gm]
  simp only [Option.bind_some,at_ok (vc_at (l:=t.Rows) (i:=i) (by omega)),at_ok hhr,at_ok (g5.el hhr (show m < m + 1 by omega)),goSet,Int.toNat_natCast]
  rw [set_upd hhr,wid (n:=(i : Int) + 1) (by omega) (by omega),wid (by omega) (by omega)]
  refine tot_some ⟨⟨i + 1,by omega,by simp only; omega,by simp only [List.length_set]; exact g1,fun k=>?_,g3,g4,g5.upd (by omega),fun a c=>?_⟩,by simp only; omega⟩
  ·simp only
   rw [vc_set (by omega),g2 k]
   by_cases hk : k = i
   ·rw [if_pos hk,if_pos (by omega),hk]
   ·rw [if_neg hk]
    by_cases hk2 : k < i
    ·rw [if_pos hk2,if_pos (by omega)]
    ·rw [if_neg hk2,if_neg (by omega)]
  ·simp only
   rw [mt_upd g5 (by omega) (by omega),g6 a c]
   by_cases hac : a = i∧c = m
   ·rw [if_pos hac,if_neg (by omega),if_pos (by omega),hac.1]
   ·rw [if_neg hac]
    by_cases hc : a < n∧c < m
    ·rw [if_pos hc,if_pos hc]
    ·rw [if_neg hc,if_neg hc]
     by_cases hd2 : a < i∧c = m
     ·rw [if_pos hd2,if_pos (by omega)]
     ·rw [if_neg hd2,if_neg (by omega)]
 ·obtain rfl : i = n:=by omega
  have e3 : decide ((i : Int) < goLen rs) = false:=decide_eq_false (by simp only [goLen]; omega)
  simp only [impl_roundingNetwork_l4,e3,cond_false]
  exact tot_some ⟨g1,g2,g3,g4,g5,g6⟩

theorem netL5 (hb : 2 ≤ b∧b ≤ 100) (hx : Mx n m x) {cs R0 : List Int} {L0 : List (List Int)} {t0 : impl_Transport} (hcl : cs.length = m) (hcv : ∀ j,j < m→vc cs j = rC n x j)
  (a1 : t0.Cols.length = m + 1) (a2 : ∀ i,vc t0.Cols i = 0) (a3 : t0.Rows = R0) (a4 : t0.Lo = L0) (a5 : Shp (n + 1) (m + 1) t0.Hi) (a6 : ∀ a c,mt t0.Hi a c = if a < n∧c < m then up b (mt x a c) else if a < n∧c = m then up b (rR m x a) - dn b (rR m x a) else 0) :
  Tot (loopC (impl_roundingNetwork_l5 x b cs) (0,t0)) fun t=>t.Cols.length = m + 1∧(∀ j,vc t.Cols j = if j < m then up b (rC n x j) else 0)∧t.Rows = R0∧t.Lo = L0∧Shp (n + 1) (m + 1) t.Hi∧∀ a c,mt t.Hi a c = if a < n∧c < m then up b (mt x a c) else if a < n∧c = m then up b (rR m x a) - dn b (rR m x a) else if a = n∧c < m then up b (rC n x c) - dn b (rC n x c) else 0:=by
 have h7:=hx.n7; have m7:=hx.m7; have B:=hx.rb; have hxl:=hx.sh.len
 have gn : goLen x = (n : Int):=by simp only [goLen]; rw [hxl]
 refine tot_loop (fun s=>∃ j : Nat,j ≤ m∧s.1 = (j : Int)∧s.2.Cols.length = m + 1∧(∀ k,vc s.2.Cols k = if k < j then up b (rC n x k) else 0)∧s.2.Rows = R0∧s.2.Lo = L0∧Shp (n + 1) (m + 1) s.2.Hi∧∀ a c,mt s.2.Hi a c = if a < n∧c < m then up b (mt x a c) else if a < n∧c = m then up b (rR m x a) - dn b (rR m x a) else if a = n∧c < j then up b (rC n x c) - dn b (rC n x c) else 0) (fun s=>m - s.1.toNat)
  ⟨0,by omega,rfl,a1,fun k=>by rw [if_neg (by omega)]; exact a2 k,a3,a4,a5,fun a c=>by
   rw [a6 a c]
   by_cases hc : a < n∧c < m
   ·rw [if_pos hc,if_pos hc]
   ·rw [if_neg hc,if_neg hc]
    by_cases hc2 : a < n∧c = m
    ·rw [if_pos hc2,if_pos hc2]
    ·rw [if_neg hc2,if_neg hc2,if_neg (by omega)]⟩ ?_
 rintro ⟨_,t⟩ ⟨j,hj',rfl,g1,g2,g3,g4,g5,g6⟩
 simp only at g1 g2 g3 g4 g5 g6
 by_cases hj : j < m
 ·have hy:=vc_at (l:=cs) (i:=j) (by omega)
  rw [hcv j hj] at hy
  have hr:=B.c j hj
  have hd:=dnup hb hr.1
  obtain ⟨hrow,hhr,_,_,_,_⟩:=g5.get (i:=n) (by omega)
  simp only [impl_roundingNetwork_l5,lt_ok hy,cond_true,at_ok hy,Option.bind_some]
  rw [iUp hb hr.1 (by omega),iDown hb hr.1 (by omega),gn]
  simp only [Option.bind_some,at_ok (vc_at (l:=t.Cols) (i:=j) (by omega)),at_ok hhr,at_ok (g5.el hhr (show j < m + 1 by omega)),goSet,Int.toNat_natCast]
  rw [set_upd hhr,wid (n:=(j : Int) + 1) (by omega) (by omega),wid (by omega) (by omega)]
  refine tot_some ⟨⟨j + 1,by omega,by simp only; omega,by simp only [List.length_set]; exact g1,fun k=>?_,g3,g4,g5.upd (by omega),fun a c=>?_⟩,by simp only; omega⟩
  ·simp only
   rw [vc_set (by omega),g2 k]
   by_cases hk : k = j
   ·rw [if_pos hk,if_pos (by omega),hk]
   ·rw [if_neg hk]
    by_cases hk2 : k < j
    ·rw [if_pos hk2,if_pos (by omega)]
    ·rw [if_neg hk2,if_neg (by omega)]
  ·simp only
   rw [mt_upd g5 (by omega) (by omega),g6 a c]
   by_cases hac : a = n∧c = j
   ·rw [if_pos hac,if_neg (by omega),if_neg (by omega),if_pos (by omega),hac.2]
   ·rw [if_neg hac]
    by_cases hc : a < n∧c < m
    ·rw [if_pos hc,if_pos hc]
    ·rw [if_neg hc,if_neg hc]
     by_cases hc2 : a < n∧c = m
     ·rw [if_pos hc2,if_pos hc2]
     ·rw [if_neg hc2,if_neg hc2]
      by_cases hd2 : a = n∧c < j
      ·rw [if_pos hd2,if_pos (by omega)]
      ·rw [if_neg hd2,if_neg (by omega)]
 ·obtain rfl : j = m:=by omega
  have e3 : decide ((j : Int) < goLen cs) = false:=decide_eq_false (by simp only [goLen]; omega)
  simp only [impl_roundingNetwork_l5,e3,cond_false]
  exact tot_some ⟨g1,g2,g3,g4,g5,g6⟩

theorem impl_netR (hb : 2 ≤ b∧b ≤ 100) (hx : Mx n m x) : ∃ t,impl_roundingNetwork x b = some t∧NetR n m x b t:=by
 have h7:=hx.n7; have m7:=hx.m7; have B:=hx.rb; have hxl:=hx.sh.len; have n1:=hx.n1; have m1:=hx.m1
 obtain ⟨rs,cs,_,_,ers,ecs,et,rsl,csl,rsv,csv,_,_,_,_⟩:=margins_ok hx.sh hx.n1 (by omega) (by omega) (fun i j hi hj=>by have:=hx.bd i j hi hj; omega)
 obtain ⟨row0,hrow0,_,hrow0l,_,_⟩:=hx.sh.get (i:=0) (by omega)
 have g0 : goAt x 0 = some row0:=at_ok (k:=0) hrow0
 have gn : goLen x = (n : Int):=by simp only [goLen]; rw [hxl]
 have gm : goLen row0 = (m : Int):=by simp only [goLen]; rw [hrow0l]
 have en : w64 ((n : Int) + 1) = ((n + 1 : Nat) : Int):=by rw [wid (by omega) (by omega)]; omega
 have em : w64 ((m : Int) + 1) = ((m + 1 : Nat) : Int):=by rw [wid (by omega) (by omega)]; omega
 have et : impl_total rs = some (rT n m x):=et
 obtain ⟨t2,e2,p1,p2,p3,p4,p5⟩:=netL2 hb hx (R0:=List.replicate (n + 1) 0) (C0:=List.replicate (m + 1) 0) shp_rep shp_rep (fun i j=>mt_rep) (fun i j=>mt_rep)
 obtain ⟨t4,e4,q1,q2,q3,q4,q5,q6⟩:=netL4 hb hx (row0:=row0) (rs:=rs) (t0:=t2) hrow0l rsl rsv (by rw [p1]; simp) (fun i=>by rw [p1]; exact vc_rep) p2 rfl p4 (fun a c=>(p5 a c).2)
 obtain ⟨t5,e5,r1,r2,r3,r4,r5,r6⟩:=netL5 hb hx (cs:=cs) (t0:=t4) csl csv (by rw [q3]; simp) (fun i=>by rw [q3]; exact vc_rep) rfl rfl q5 q6
 have hT:=dnup hb B.t0
 have T1:=B.t1
 obtain ⟨hrow,hhr,_,_,_,_⟩:=r5.get (i:=n) (by omega)
 have hrl : t5.Rows.length = n + 1:=by rw [r3]; exact q1
 have cb : ∀ j,j < m + 1→-1000000 ≤ vc t5.Cols j∧vc t5.Cols j ≤ 1000000:=fun j hj=>by
  rw [r2 j]
  by_cases hc : j < m
  ·rw [if_pos hc]
   have a:=B.c j hc
   have:=dnup hb a.1
   omega
  ·rw [if_neg hc]; omega
 have ub : ∀ i,i < n→0 ≤ up b (rR m x i)∧up b (rR m x i) ≤ 70001:=fun i hi=>by
  have a:=B.r i hi
  have:=dnup hb a.1
  omega
 have ec:=total_ok (l:=t5.Cols) (by omega) (fun j hj=>cb j (by omega))
 have ecv : sm (m + 1) (vc t5.Cols) = sm m fun j=>up b (rC n x j):=by
  simp only [sm]
  rw [r2 m,if_neg (by omega),Int.add_zero]
  exact sm_congr fun j hj=>by rw [r2 j,if_pos hj]
 rw [r1,ecv] at ec
 have hl1:=last_bd hb m7 (f:=rC n x) fun j hj=>(B.c j hj).1
 have hl1' : sm m (rC n x) = rT n m x:=B.tc.symm
 rw [hl1'] at hl1
 have hl2:=last_bd hb h7 (f:=rR m x) fun i hi=>(B.r i hi).1
 have hl2' : sm n (rR m x) = rT n m x:=rfl
 rw [hl2'] at hl2
 generalize hu1 : (sm m fun j=>up b (rC n x j)) = u1 at ec hl1
 have hset : ∀ v : Int,∃ l,goSub (t5.Rows.set n v) 0 (n : Int) = some l∧impl_total l = some (sm n fun i=>up b (rR m x i)):=fun v=>by
  obtain ⟨l,el,hl⟩:=tot_sub (l:=t5.Rows.set n v) (i:=0) (j:=(n : Int)) (Q:=fun l=>l = (t5.Rows.set n v).take n) (by omega) (by omega) (by rw [List.length_set]; omega) (by simp)
  refine ⟨l,el,?_⟩
  have hll : l.length = n:=by rw [hl,List.length_take,List.length_set]; omega
  have hlv : ∀ i,i < n→vc l i = up b (rR m x i):=fun i hi=>by
   rw [hl,vc_take hi,vc_set (by omega),if_neg (by omega),r3,q2 i,if_pos hi]
  rw [total_ok (by omega) (fun i hi=>by rw [hlv i (by omega)]; have:=ub i (by omega); omega),hll,sm_congr hlv]
 obtain ⟨l,el,etl⟩:=hset (w64 (u1 - dn b (rT n m x)))
 generalize hu2 : (sm n fun i=>up b (rR m x i)) = u2 at etl hl2
 unfold impl_roundingNetwork
 rw [g0]
 simp only [Option.bind_some,gn,gm]
 rw [en,em,goMake_ok (n:=n + 1) (by omega) (by omega),goMake_ok (n:=m + 1) (by omega) (by omega),goMake_ok (n:=n + 1) (by omega) (by omega)]
 simp only [Option.bind_some]
 rw [netL1 (by omega) (by omega) hrow0l,Option.bind_some,e2,Option.bind_some,ers,Option.bind_some,ecs,Option.bind_some,e4,Option.bind_some,e5,Option.bind_some,et,Option.bind_some,at_ok hhr,Option.bind_some,iUp hb B.t0 (by omega),Option.bind_some,iDown hb B.t0 (by omega),Option.bind_some,at_ok (r5.el hhr (show m < m + 1 by omega)),Option.bind_some,ec,Option.bind_some,Option.bind_some,at_ok (vc_at (l:=t5.Rows) (i:=n) (by omega)),Option.bind_some]
 simp only [goSet,Int.toNat_natCast]
 rw [el,Option.bind_some,etl,Option.bind_some,Option.bind_some,at_ok (vc_at (l:=t5.Cols) (i:=m) (by omega)),Option.bind_some,set_upd hhr,wid (n:=u1 - dn b (rT n m x)) (by omega) (by omega),wid (n:=u2 - dn b (rT n m x)) (by omega) (by omega),wid (by omega) (by omega)]
 refine ⟨_,rfl,by simp only [List.length_set]; exact hrl,by simp only [List.length_set]; exact r1,by simp only; rw [r4,q4]; exact p3,r5.upd (by omega),fun i hi=>?_,fun j hj=>?_,fun i j hi hj=>?_,fun i j hi hj=>?_⟩
 ·simp only
  rw [vc_set (by omega)]
  by_cases hc : i = n
  ·rw [if_pos hc,if_neg (by omega),hu1]
  ·rw [if_neg hc,if_pos (by omega),r3,q2 i,if_pos (by omega)]
 ·simp only
  rw [vc_set (by omega)]
  by_cases hc : j = m
  ·rw [if_pos hc,if_neg (by omega),hu2]
  ·rw [if_neg hc,if_pos (by omega),r2 j,if_pos (by omega)]
 ·simp only
  rw [r4,q4,(p5 i j).1]; rfl
 ·simp only
  rw [mt_upd r5 (by omega) (by omega),r6 i j]
  unfold rhi
  by_cases hi' : i < n
  ·rw [if_neg (by omega),if_pos hi']
   by_cases hj' : j < m
   ·rw [if_pos ⟨hi',hj'⟩,if_pos hj']
   ·rw [if_neg (fun h=>hj' h.2),if_pos (by omega),if_neg hj']
  ·rw [if_neg hi']
   by_cases hj' : j < m
   ·rw [if_neg (by omega),if_neg (by omega),if_neg (by omega),if_pos (by omega),if_pos hj']
   ·rw [if_pos (by omega),if_neg hj']

end

end Go.Gx.F
