/- Plain laws: the reference's first flow; hidden cells; protected cells; margins; the witnesses. -/
import Derived.Test.YtpjcfmpfiadkgaaRPAun

namespace Go.Gx.F

open Go.Gx

set_option linter.all false

set_option maxRecDepth 10000

section

variable {n m : Nat} {t : impl_Transport} {x p : List (List Int)}

structure Fxd (n m : Nat) (t : impl_Transport) (k : Nat) (u : impl_Transport) : Prop where
 tr : Tr n m u
 sub : ∀ z,IsF n m u z→IsF n m t z
 ex : ∃ z,IsF n m u z
 meet : ∀ q,q < k→at1 m (mt u.Lo) q = at1 m (mt u.Hi) q
 least : ∀ q,q < k→∀ z,IsF n m t z→Agr m q (mt u.Lo) z→at1 m (mt u.Lo) q ≤ at1 m z q
 back : ∀ z,IsF n m t z→Agr m k (mt u.Lo) z→IsF n m u z

theorem Fxd.step {u : impl_Transport} {i j : Nat} {v : Int} (h : Fxd n m t (i * m + j) u) (hi : i < n) (hj : j < m) (hv : Lst (IsF n m u) i j v) : Fxd n m t (i * m + j + 1) (wth u i j v v):=by
 obtain ⟨⟨y,hy,hyv⟩,hl⟩:=hv
 have hT:=h.tr
 have b1:=hy.lo i j hi hj; have b2:=hy.hi i j hi hj
 rw [hyv] at b1 b2
 have bt:=hT.bd i j hi hj
 have hiff:=fun z=>with_iff hT hi hj (l:=v) (h:=v) b1 b2 (y:=z)
 have hlo : ∀ q,q < i * m + j→at1 m (mt (wth u i j v v).Lo) q = at1 m (mt u.Lo) q:=fun q hq=>by
  obtain ⟨g1,g2,g3⟩:=pos_bd (n:=n) (m:=m) (p:=q) (by have:=pos_lt hi hj; omega)
  unfold at1
  show mt (upd u.Lo i j v) _ _ = _
  rw [mt_upd hT.lo hi hj,if_neg]
  rintro ⟨e1,e2⟩
  rw [e1,e2] at g3; omega
 have hhi : ∀ q,q < i * m + j→at1 m (mt (wth u i j v v).Hi) q = at1 m (mt u.Hi) q:=fun q hq=>by
  obtain ⟨g1,g2,g3⟩:=pos_bd (n:=n) (m:=m) (p:=q) (by have:=pos_lt hi hj; omega)
  unfold at1
  show mt (upd u.Hi i j v) _ _ = _
  rw [mt_upd hT.hi hi hj,if_neg]
  rintro ⟨e1,e2⟩
  rw [e1,e2] at g3; omega
 have elo : at1 m (mt (wth u i j v v).Lo) (i * m + j) = v:=by
  rw [at1_ij hj]
  show mt (upd u.Lo i j v) i j = v
  rw [mt_upd hT.lo hi hj,if_pos ⟨rfl,rfl⟩]
 have ehi : at1 m (mt (wth u i j v v).Hi) (i * m + j) = v:=by
  rw [at1_ij hj]
  show mt (upd u.Hi i j v) i j = v
  rw [mt_upd hT.hi hi hj,if_pos ⟨rfl,rfl⟩]
 have agr : ∀ k,k ≤ i * m + j→∀ z,Agr m k (mt (wth u i j v v).Lo) z→Agr m k (mt u.Lo) z:=fun k hk z hz q hq=>by rw [hz q hq,hlo q (by omega)]
 refine ⟨with_tr hT hi hj ⟨by omega,by omega,by omega⟩,fun z hz=>h.sub z ((hiff z).1 hz).1,⟨y,(hiff y).2 ⟨hy,by omega,by omega⟩⟩,fun q hq=>?_,fun q hq z hz ha=>?_,fun z hz ha=>?_⟩
 ·by_cases hq1 : q = i * m + j
  ·rw [hq1,elo,ehi]
  ·rw [hlo q (by omega),hhi q (by omega)]; exact h.meet q (by omega)
 ·by_cases hq1 : q = i * m + j
  ·rw [hq1,elo,at1_ij hj]
   rw [hq1] at ha
   exact hl z (h.back z hz (agr _ (Nat.le_refl _) z ha))
  ·rw [hlo q (by omega)]
   exact h.least q (by omega) z hz (agr q (by omega) z ha)
 ·have e1 : z i j = v:=by
   have:=ha (i * m + j) (by omega)
   rw [elo,at1_ij hj] at this
   exact this
  exact (hiff z).2 ⟨h.back z hz (agr _ (Nat.le_refl _) z (ha.le (by omega))),by omega,by omega⟩

theorem tFirst_ok (hT : Tr n m t) : ∃ (x : List (List Int)) (b : Bool),spec_tFirst t = some (x,b)∧(b = true→Shp n m x∧Fst n m (IsF n m t) 0 (fun _ _=>0) (mt x))∧(b = false→x = []∧∀ y,¬ IsF n m t y):=by
 have h3:=hT.n8; have h4:=hT.m8; have h5:=hT.rl
 unfold spec_tFirst
 obtain ⟨x0,b,e,g1,g2⟩:=feas_ok hT
 rw [e,Option.bind_some]
 cases b with
 | false=>exact ⟨[],false,rfl,fun h=>(by cases h),fun _=>⟨rfl,(g2 rfl).2⟩⟩
 | true =>
  simp only [Bool.not_true,cond_false]
  have hex:=(g1 rfl).2
  have h : Tot (loopC (spec_tFirst_l1 t) (0,t)) fun u=>Fxd n m t (n * m) u:=by
   refine tot_loop (fun s=>∃ i : Nat,i ≤ n∧s.1 = (i : Int)∧Fxd n m t (i * m) s.2) (fun s=>n - s.1.toNat) ⟨0,by omega,rfl,⟨hT,fun z hz=>hz,⟨_,hex⟩,fun q hq=>by omega,fun q hq=>by omega,fun z hz _=>hz⟩⟩ ?_
   rintro ⟨_,u⟩ ⟨i,hi',rfl,hu⟩
   simp only at hu
   by_cases hi : i < n
   ·have e0 : decide ((i : Int) < goLen t.Rows) = true:=decide_eq_true (by simp only [goLen]; omega)
    have hc:=hu.tr.cl
    simp only [spec_tFirst_l1,e0,cond_true]
    have h2 : Tot (loopC (spec_tFirst_l2 (i : Int) u) (0,u)) fun w=>Fxd n m t (i * m + m) w:=by
     refine tot_loop (fun s=>∃ j : Nat,j ≤ m∧s.1 = (j : Int)∧Fxd n m t (i * m + j) s.2) (fun s=>m - s.1.toNat) ⟨0,by omega,rfl,hu⟩ ?_
     rintro ⟨_,w⟩ ⟨j,hj',rfl,hw⟩
     simp only at hw
     by_cases hj : j < m
     ·have e1 : decide ((j : Int) < goLen u.Cols) = true:=decide_eq_true (by simp only [goLen]; omega)
      obtain ⟨v,ev,hv⟩:=low_ok hw.tr hi hj hw.ex
      simp only [spec_tFirst_l2,e1,cond_true]
      rw [ev,Option.bind_some,with_ok hw.tr hi hj,Option.bind_some,wid (by omega) (by omega)]
      exact tot_some ⟨⟨j + 1,by omega,by simp only; omega,hw.step hi hj hv⟩,by simp only; omega⟩
     ·obtain rfl : j = m:=by omega
      have e1 : decide ((j : Int) < goLen u.Cols) = false:=decide_eq_false (by simp only [goLen]; omega)
      simp only [spec_tFirst_l2,e1,cond_false]
      exact tot_some hw
    obtain ⟨w,ew,hw⟩:=h2
    rw [ew,Option.bind_some,wid (by omega) (by omega)]
    exact tot_some ⟨⟨i + 1,by omega,by simp only; omega,by rw [Nat.succ_mul]; exact hw⟩,by simp only; omega⟩
   ·obtain rfl : i = n:=by omega
    have e0 : decide ((i : Int) < goLen t.Rows) = false:=decide_eq_false (by simp only [goLen]; omega)
    simp only [spec_tFirst_l1,e0,cond_false]
    exact tot_some hu
  obtain ⟨u,eu,hu⟩:=h
  rw [eu,Option.bind_some,tOwn_ok hu.tr.lo (by omega) (by omega),Option.bind_some]
  refine ⟨_,true,rfl,fun _=>⟨hu.tr.lo,?_⟩,fun h=>(by cases h)⟩
  obtain ⟨y,hy⟩:=hu.ex
  have hyl : ∀ i j,i < n→j < m→mt u.Lo i j = y i j:=fun i j hi hj=>by
   have a1:=hy.lo i j hi hj; have a2:=hy.hi i j hi hj
   have a3:=hu.meet _ (pos_lt hi hj)
   rw [at1_ij hj,at1_ij hj] at a3
   omega
  exact ⟨(hu.sub y hy).congr hyl,fun q hq=>by omega,fun q _ hq z hz ha=>hu.least q hq z hz ha⟩

theorem firsts (hT : Tr n m t) (hex : ∃ y,IsF n m t y) : ∃ x,impl_firstFlow t = some x∧spec_tFirst t = some (x,true)∧Shp n m x∧IsF n m t (mt x):=by
 obtain ⟨y,hy⟩:=hex
 obtain ⟨x,e,h⟩:=firstFlow_ok hT
 rcases h with ⟨_,hno⟩ | ⟨hx,hf⟩
 ·exact absurd hy (hno y)
 ·obtain ⟨x',b,e',g1,g2⟩:=tFirst_ok hT
  cases b with
  | false=>exact absurd hy ((g2 rfl).2 y)
  | true =>
   obtain ⟨hx',hf'⟩:=g1 rfl
   obtain rfl : x = x':=hx.ext hx' fun i j hi hj=>((Fst.one hf hf').all hi hj).symm
   exact ⟨x,e,e',hx,hf.isF⟩

end

end Go.Gx.F
