/- Plain laws: first,next and counted flows of the program; which matrices are flows. -/
import Derived.Test.YtpjcfmpfiadkgaaRPFlc

namespace Go.Gx.F

open Go.Gx

set_option linter.all false

set_option maxRecDepth 10000

section

variable {n m : Nat} {t : impl_Transport} {x : List (List Int)}

theorem firstFlow_ok (hT : Tr n m t) : ∃ x,impl_firstFlow t = some x∧((x = []∧∀ y,¬ IsF n m t y) ∨ (Shp n m x∧Fst n m (IsF n m t) 0 (fun _ _=>0) (mt x))):=by
 unfold impl_firstFlow
 obtain ⟨x,e,h⟩:=anyFlow_ok hT
 rw [e,Option.bind_some]
 rcases h with ⟨rfl,hno⟩ | ⟨hx,hF⟩
 ·exact ⟨[],rfl,.inl ⟨rfl,hno⟩⟩
 ·obtain ⟨y,ey,hy,hf⟩:=firstFrom_ok (k:=0) hT hx hF (by omega)
  rw [show (((0 : Nat)) : Int) - 1 = -1 from rfl] at ey
  rw [(ne_ok hx hT.n1).2,cond_false,ey]
  exact ⟨y,rfl,.inr ⟨hy,hf.isF,fun p hp=>by omega,hf.least⟩⟩

structure Nxt (n m : Nat) (t : impl_Transport) (x y : Nat→Nat→Int) (k : Nat) : Prop where
 lt : k < n * m
 none : ∀ k',k < k'→k' < n * m→∀ z,IsF n m t z→Agr m k' x z→at1 m z k' ≤ at1 m x k'
 isF : IsF n m t y
 agr : Agr m k x y
 one : at1 m y k = at1 m x k + 1
 least : ∀ q,k < q→q < n * m→∀ z,IsF n m t z→Agr m q y z→at1 m y q ≤ at1 m z q

theorem nextFlow_ok (hT : Tr n m t) (hx : Shp n m x) (hF : IsF n m t (mt x)) : ∃ y,impl_nextFlow t x = some y∧((y = []∧∀ k,k < n * m→∀ z,IsF n m t z→Agr m k (mt x) z→at1 m z k ≤ at1 m (mt x) k) ∨ (Shp n m y∧∃ k,Nxt n m t (mt x) (mt y) k)):=by
 have h1:=hT.rl; have h2:=hT.cl; have h3:=hT.n8; have h4:=hT.m8; have h5:=hT.m1; have h6:=hT.n1
 have gR : goLen t.Rows = (n : Int):=by simp only [goLen]; rw [h1]
 have gC : goLen t.Cols = (m : Int):=by simp only [goLen]; rw [h2]
 have hnm : n * m ≤ 64:=Nat.mul_le_mul h3 h4
 have hnm1 : 1 ≤ n * m:=Nat.mul_le_mul h6 h5
 have eN : w64 ((n : Int) * m) = ((n * m : Nat) : Int):=by rw [← Int.natCast_mul,wid (by omega) (by omega)]
 have hb : ∀ i j,i < n→j < m→mt t.Lo i j ≤ mt x i j∧mt x i j ≤ mt t.Hi i j:=fun i j a b=>⟨hF.lo i j a b,hF.hi i j a b⟩
 unfold impl_nextFlow
 rw [gR,gC,eN,wid (by omega) (by omega)]
 have h : Tot (loopC (impl_nextFlow_l1 t x) (((n * m : Nat) : Int) - 1)) fun o=>match o with
   | .inl ()=>∀ k,k < n * m→∀ z,IsF n m t z→Agr m k (mt x) z→at1 m z k ≤ at1 m (mt x) k
   | .inr y=>Shp n m y∧∃ k,Nxt n m t (mt x) (mt y) k:=by
  refine tot_loop (fun s=>∃ k : Nat,k ≤ n * m∧s = (k : Int) - 1∧∀ k',k ≤ k'→k' < n * m→∀ z,IsF n m t z→Agr m k' (mt x) z→at1 m z k' ≤ at1 m (mt x) k') (fun s=>(s + 1).toNat) ⟨n * m,Nat.le_refl _,rfl,fun k' a b=>by omega⟩ ?_
  rintro _ ⟨k,hk,rfl,hno⟩
  cases k with
  | zero =>
   simp only [impl_nextFlow_l1]
   rw [decide_eq_false (by omega),cond_false]
   exact tot_some fun k hk=>hno k (by omega) hk
  | succ p =>
   have hp : p < n * m:=by omega
   obtain ⟨hi,hj,hpos⟩:=pos_bd hp
   have haf:=aft_self hp
   have e0 : ((p + 1 : Nat) : Int) - 1 = (p : Int):=by omega
   simp only [impl_nextFlow_l1,e0]
   rw [decide_eq_true (show (0 : Int) ≤ p by omega),cond_true,gC,quo_nat (by omega) (by omega),rem_nat (by omega),gR]
   simp only [Option.bind_some]
   generalize hie : p / m = i at hi hpos haf
   generalize hje : p % m = j at hj hpos haf
   have hat : ∀ z : Nat→Nat→Int,at1 m z p = z i j:=fun z=>by unfold at1; rw [hie,hje]
   have hbt:=hT.bd i j hi hj; have hbx:=hb i j hi hj
   obtain ⟨row,hrow,_,_,_,_⟩:=hx.get hi
   obtain ⟨hrow',hhrow,_,_,_,_⟩:=hT.hi.get hi
   simp only [at_ok hrow,at_ok (hx.el hrow hj),at_ok hhrow,at_ok (hT.hi.el hhrow hj),Option.bind_some]
   have down : (∀ z,IsF n m t z→Agr m p (mt x) z→z i j ≤ mt x i j)→∃ k : Nat,k ≤ n * m∧w64 ((p : Int) - 1) = (k : Int) - 1∧∀ k',k ≤ k'→k' < n * m→∀ z,IsF n m t z→Agr m k' (mt x) z→at1 m z k' ≤ at1 m (mt x) k':=fun hz=>by
    refine ⟨p,by omega,by rw [wid (by omega) (by omega)],fun k' a b z c d=>?_⟩
    by_cases hkp : k' = p
    ·subst hkp
     rw [hat,hat]; exact hz z c d
    ·exact hno k' (by omega) b z c d
   have dwn : (w64 ((p : Int) - 1) + 1).toNat < ((p : Int) + 1).toNat:=by rw [wid (by omega) (by omega)]; omega
   by_cases heq : mt x i j = mt t.Hi i j
   ·rw [show (mt x i j == mt t.Hi i j) = true by rw [beq_iff_eq]; exact heq,cond_true]
    simp only [Option.bind_some]
    exact tot_some ⟨down fun z hz _=>by have:=hz.hi i j hi hj; omega,by first | exact dwn | (simp only; omega)⟩
   ·rw [show (mt x i j == mt t.Hi i j) = false by rw [beq_eq_false_iff_ne]; exact heq,cond_false]
    obtain ⟨r,er,hr,hrv⟩:=residual_ok (f:=(p : Int)) hT hx hb ⟨by omega,by omega⟩
    have hrv : ∀ u v,u < n + m→v < n + m→mt r u v = rsd n (mt t.Lo) (mt t.Hi) (mt x) (aft m p) u v:=fun u v hu hv=>by
     rw [hrv u v hu hv]
     exact rsd_same (fun a b _ _=>okf_aft) hu hv
    have hr0 : ∀ u v,u < n + m→v < n + m→0 ≤ mt r u v∧mt r u v ≤ 1000000:=fun u v hu hv=>by
     rw [hrv u v hu hv]
     have:=rsd_bd hT hb (ok:=aft m p) hu hv
     omega
    obtain ⟨w,y1,p1,q1,p2,p3,p4,p5⟩:=push_ok (f:=n + j) (t:=i) (limit:=1) hr hr0 (by omega) (by omega) (by omega) (by omega) ⟨by omega,by omega⟩
    have hR:=p2.of hrv
    rw [er]
    simp only [Option.bind_some]
    rw [wid (n:=(n : Int) + j) (by omega) (by omega),show (n : Int) + j = ((n + j : Nat) : Int) by omega,p1]
    simp only [Option.bind_some]
    by_cases hw : w = 0
    ·rw [show (w == 0) = true by rw [beq_iff_eq]; exact hw,cond_true]
     simp only [Option.bind_some]
     refine tot_some ⟨down fun z hz hza=>?_,by first | exact dwn | (simp only; omega)⟩
     have hmx : ∀ v g,FlowN (n + m) (rsd n (mt t.Lo) (mt t.Hi) (mt x) (aft m p)) (n + j) i v g→v ≤ 0:=fun v g hg=>by
      rcases p5 with p5 | p5
      ·omega
      ·have:=p5 v g (hg.of fun a b ha hb=>(hrv a b ha hb).symm); omega
     have:=high_bound hF hi hj haf hz (by have:=agr_aft (n:=n) hza; rw [hie,hje] at this; exact this) hmx
     omega
    ·rw [show (w == 0) = false by rw [beq_eq_false_iff_ne]; exact hw,cond_false]
     obtain rfl : w = 1:=by omega
     obtain ⟨out,eo,ho,hov⟩:=restore_ok (f:=(p : Int)) hT hx q1 (Nat.le_refl _) (fun u v hu hv=>res_bd p2 hr0 hu hv) ⟨by omega,by omega⟩
     obtain ⟨orow,horow,_,_,_,_⟩:=ho.get hi
     obtain ⟨g1,g2,g3⟩:=moved_flow hF hi hj haf (z:=1) (by omega) (by omega) hR (.inr ⟨rfl,rfl,rfl⟩)
     have hoij : mt out i j = mt x i j:=by
      rw [hov i j hi hj,okf_aft,haf]; simp
     have hmv : ∀ a b,a < n→b < m→mt (upd out i j (mt x i j + 1)) a b = moved n (mt t.Lo) (mt t.Hi) (mt x) (aft m p) (mt y1) i j 1 a b:=fun a b ha hb'=>by
      rw [mt_upd ho hi hj]
      unfold moved
      by_cases hc : a = i∧b = j
      ·rw [if_pos hc,if_pos hc]
      ·rw [if_neg hc,if_neg hc,dlt_eq hR ha hb',hov a b ha hb',okf_aft]
     have hFl:=g1.congr hmv
     obtain ⟨y,ey,hy,hf⟩:=firstFrom_ok (k:=p + 1) hT (ho.upd (j:=j) (v:=mt x i j + 1) hi) hFl (by omega)
     rw [e0] at ey
     have e6:=at_ok (ho.el horow hj)
     rw [hoij] at e6
     rw [eo]
     simp only [Option.bind_some,at_ok horow,e6,goSet,Int.toNat_natCast]
     rw [wid (n:=mt x i j + 1) (by omega) (by omega),set_upd horow,ey]
     simp only [Option.bind_some]
     have ha : Agr m p (mt x) (mt (upd out i j (mt x i j + 1))):=aft_agr hp fun a b ha hb' hf' hc=>by
      rw [hie,hje] at hc
      rw [hmv a b ha hb']
      exact g3 a b ha hb' hf' hc
     refine tot_some ⟨hy,p,hp,fun k' a b z c d=>hno k' (by omega) b z c d,hf.isF,ha.trans (hf.agr.le (by omega)),?_,fun q a b z c d=>hf.least q (by omega) b z c d⟩
     rw [hf.agr p (by omega),hat,hat,mt_upd ho hi hj,if_pos ⟨rfl,rfl⟩]
 obtain ⟨o,e,ho⟩:=h
 rw [e]
 cases o with
 | inl u=>exact ⟨[],rfl,.inl ⟨rfl,ho⟩⟩
 | inr y=>exact ⟨y,rfl,.inr ho⟩

theorem count_ok (hT : Tr n m t) : ∃ (k : Int) (b : Bool),impl_countFlows t = some (k,b)∧(b = true→(∃ y,IsF n m t y)→0 < k):=by
 have h1:=hT.rl; have h2:=hT.cl; have h3:=hT.n8; have h4:=hT.m8
 have gR : goLen t.Rows = (n : Int):=by simp only [goLen]; rw [h1]
 have gC : goLen t.Cols = (m : Int):=by simp only [goLen]; rw [h2]
 unfold impl_countFlows
 rw [gR,gC]
 cases decide (16 < w64 ((n : Int) * m)) with
 | true=>exact ⟨0,false,rfl,fun h=>by cases h⟩
 | false =>
  rw [cond_false]
  obtain ⟨x,e,hx⟩:=firstFlow_ok hT
  rw [e,Option.bind_some]
  have h : Tot (loopC (impl_countFlows_l1 t) (0,x)) fun o=>match o with | .inl k=>(∃ y,IsF n m t y)→0 < k | .inr o=>o.2 = false:=by
   refine tot_loop (fun s=>0 ≤ s.1∧s.1 ≤ 2000∧((s.2 = []∧((∃ y,IsF n m t y)→0 < s.1)) ∨ (Shp n m s.2∧IsF n m t (mt s.2)))) (fun s=>(2001 - s.1).toNat) ⟨Int.le_refl _,by simp only; omega,?_⟩ ?_
   ·rcases hx with ⟨rfl,hno⟩ | ⟨hx,hf⟩
    ·exact .inl ⟨rfl,fun ⟨y,hy⟩=>absurd hy (hno y)⟩
    ·exact .inr ⟨hx,hf.isF⟩
   ·rintro ⟨k,y⟩ ⟨k0,k1,hy⟩
    simp only at k0 k1 hy
    simp only [impl_countFlows_l1]
    rcases hy with ⟨rfl,hk⟩ | ⟨hy,hf⟩
    ·exact tot_some hk
    ·rw [(ne_ok hy hT.n1).2,Bool.not_false,cond_true,wid (by omega) (by omega)]
     by_cases hc : 2000 < k + 1
     ·rw [decide_eq_true hc]
      exact tot_some rfl
     ·rw [decide_eq_false hc,cond_false]
      obtain ⟨z,ez,hz⟩:=nextFlow_ok hT hy hf
      rw [ez,Option.bind_some]
      refine tot_some ⟨⟨by simp only; omega,by simp only; omega,?_⟩,by simp only; omega⟩
      rcases hz with ⟨rfl,_⟩ | ⟨hz,_,hn⟩
      ·exact .inl ⟨rfl,fun _=>by simp only; omega⟩
      ·exact .inr ⟨hz,hn.isF⟩
  obtain ⟨o,eo,ho⟩:=h
  rw [eo]
  cases o with
  | inl k=>exact ⟨k,true,rfl,fun _=>ho⟩
  | inr o =>
   obtain ⟨k,b⟩:=o
   simp only at ho
   subst ho
   exact ⟨k,false,rfl,fun h=>by cases h⟩

theorem sums_ok {l : List Int} {n : Nat} (hl : l.length = n) (h1 : 1 ≤ n) (h8 : n ≤ 8) (hb : ∀ i,i < n→0 ≤ vc l i∧vc l i ≤ 100000) : impl_areSums l = some true:=by
 unfold impl_areSums
 rw [decide_eq_false (show ¬ goLen l < 1 by simp only [goLen]; omega),cond_false,decide_eq_false (show ¬ 8 < goLen l by simp only [goLen]; omega),Option.bind_some,cond_false]
 have h : loopC (impl_areSums_l1 l) 0 = some (.inl ()):=by
  refine tot_eq (tot_loop (fun s=>∃ k : Nat,k ≤ n∧s = (k : Int)) (fun s=>n - s.toNat) ⟨0,by omega,rfl⟩ ?_)
  rintro _ ⟨k,hk,rfl⟩
  by_cases hlt : k < n
  ·have hx:=vc_at (l:=l) (i:=k) (by omega)
   have:=hb k hlt
   simp only [impl_areSums_l1,lt_ok hx,cond_true,at_ok hx,Option.bind_some]
   rw [decide_eq_false (by omega),cond_false,decide_eq_false (by omega)]
   simp only [Option.bind_some,cond_false]
   rw [wid (by omega) (by omega)]
   exact tot_some ⟨⟨k + 1,by omega,by omega⟩,by omega⟩
  ·obtain rfl : k = n:=by omega
   have e3 : decide ((k : Int) < goLen l) = false:=decide_eq_false (by simp only [goLen]; omega)
   simp only [impl_areSums_l1,e3,cond_false]
   exact tot_some rfl
 rw [h]; rfl

theorem shape_t (hx : Shp n m x) (hn : n ≤ 100) : impl_hasShape x (n : Int) (m : Int) = some true:=by
 have hl:=hx.len
 obtain ⟨b,e,hb⟩:=shape_bis (x:=x) (n:=(n : Int)) (w:=(m : Int)) (by omega)
 rw [e,hb.2 ⟨by omega,fun r hr=>by have:=hx.row r hr; omega⟩]

theorem isTr_ok (hT : Tr n m t) : impl_IsTransport t = some true:=by
 have h1:=hT.rl; have h2:=hT.cl; have h3:=hT.n8; have h4:=hT.m8; have hll:=hT.lo.len
 have gR : goLen t.Rows = (n : Int):=by simp only [goLen]; rw [h1]
 have gC : goLen t.Cols = (m : Int):=by simp only [goLen]; rw [h2]
 unfold impl_IsTransport
 rw [sums_ok h1 hT.n1 h3 hT.rb,sums_ok h2 hT.m1 h4 hT.cb,gR,gC,shape_t hT.lo (by omega),shape_t hT.hi (by omega)]
 simp only [Option.bind_some,Bool.not_true,cond_false]
 have h : loopC (impl_IsTransport_l1 t) 0 = some (.inl ()):=by
  refine tot_eq (tot_loop (fun s=>∃ k : Nat,k ≤ n∧s = (k : Int)) (fun s=>n - s.toNat) ⟨0,by omega,rfl⟩ ?_)
  rintro _ ⟨i,hi',rfl⟩
  by_cases hi : i < n
  ·obtain ⟨row,hrow,_,hrl,_,_⟩:=hT.lo.get hi
   obtain ⟨hr,hhr,_,_,_,_⟩:=hT.hi.get hi
   simp only [impl_IsTransport_l1,lt_ok hrow,cond_true,at_ok hrow,Option.bind_some]
   have h2 : loopC (impl_IsTransport_l2 t (i : Int) row) 0 = some (.inl ()):=by
    refine tot_eq (tot_loop (fun s=>∃ k : Nat,k ≤ m∧s = (k : Int)) (fun s=>m - s.toNat) ⟨0,by omega,rfl⟩ ?_)
    rintro _ ⟨j,hj',rfl⟩
    by_cases hj : j < m
    ·have hy:=hT.lo.el hrow hj
     have hb:=hT.bd i j hi hj
     simp only [impl_IsTransport_l2,lt_ok hy,cond_true,at_ok hy,at_ok hhr,at_ok (hT.hi.el hhr hj),Option.bind_some]
     rw [decide_eq_false (by omega),cond_false,decide_eq_false (by omega),cond_false,decide_eq_false (by omega)]
     simp only [Option.bind_some,cond_false]
     rw [wid (by omega) (by omega)]
     exact tot_some ⟨⟨j + 1,by omega,by omega⟩,by omega⟩
    ·obtain rfl : j = m:=by omega
     have e3 : decide ((j : Int) < goLen row) = false:=decide_eq_false (by simp only [goLen]; omega)
     simp only [impl_IsTransport_l2,e3,cond_false]
     exact tot_some rfl
   rw [h2]
   simp only [Option.bind_some]
   rw [wid (by omega) (by omega)]
   exact tot_some ⟨⟨i + 1,by omega,by omega⟩,by omega⟩
  ·obtain rfl : i = n:=by omega
   have e3 : decide ((i : Int) < goLen t.Lo) = false:=decide_eq_false (by simp only [goLen]; omega)
   simp only [impl_IsTransport_l1,e3,cond_false]
   exact tot_some rfl
 rw [h]; rfl

end

end Go.Gx.F
