/- Plain laws: FnSuppressionPlans. -/
import Derived.Test.YtpjcfmpfiadkgaaGreatSPSp8
namespace Go.Gx.F
open Go.Gx
set_option linter.all false
set_option maxRecDepth 10000

theorem least_same {x q : List (List Int)} {d u : Int} (hx : Sz x) (hq : Sz q) : ∃ r,impl_LeastPlan x q d u = some r∧spec_LeastPlan x q d u = some r ∧
  (r = (⟨[],0,0⟩,false) ∨ ∃ n m,Sup n m x q∧(0 ≤ d∧d ≤ 1000∧0 ≤ u∧u ≤ 1000)∧impl_areSuppressed x q = some true∧impl_areMargins d u = some true∧LeastR n m x q d u (some r)):=by
 obtain ⟨c,e1,e2,hc⟩:=sup_bis hx hq
 obtain ⟨lb,m1,m2,m3⟩:=levels_ok d u
 by_cases hcl : (c && lb) = true
 ·rw [Bool.and_eq_true] at hcl
  obtain ⟨rfl,rfl⟩:=hcl
  obtain ⟨n,m,hS⟩:=hc rfl
  have hd:=m3 rfl
  by_cases hF : (freeK n m q).length ≤ 10
  ·have hI:=leastI hS hF hd e1 m1
   have hSp:=leastS hS hF hd e2 m2
   have he:=hI.one hSp
   have hr : ∃ r,impl_LeastPlan x q d u = some r:=by
    rcases hI with ⟨k,_,_,_,h⟩ | ⟨_,h⟩ <;> exact ⟨_,h⟩
   obtain ⟨r,er⟩:=hr
   rw [er] at hI
   exact ⟨r,er,by rw [← he,er],.inr ⟨n,m,hS,hd,e1,m1,hI⟩⟩
  ·obtain ⟨h1,h2⟩:=many_eq (d:=d) (u:=u) hS (by omega) e1 m1 e2 m2
   exact ⟨_,h1,h2,.inl rfl⟩
 ·have hcl' : (c && lb) = false:=by cases h : (c && lb) with | false=>rfl | true=>exact absurd h hcl
  unfold impl_LeastPlan spec_LeastPlan
  rw [e1,e2,m1,m2]
  cases c with
  | false=>exact ⟨_,rfl,rfl,.inl rfl⟩
  | true =>
   cases lb with
   | true=>cases hcl'
   | false=>exact ⟨_,rfl,rfl,.inl rfl⟩

section
variable {n m : Nat} {x p q : List (List Int)} {d u : Int}

theorem cells_free (k : Nat) : ∀ c ∈ cellsK (freeK n m q) k,c < n * m∧at1 m (mt q) c = 0∧at1 m (mt q) c = 0:=fun c hc=>by
 obtain ⟨h1,h2⟩:=freeK_mem.1 (cellsK_mem hc)
 exact ⟨h1,h2,h2⟩

theorem cnt_cells (hS : Sup n m x q) (k : Nat) : cntP n m q (wthK m q (cellsK (freeK n m q) k)) = (cellsK (freeK n m q) k).length∧valP n m x q (wthK m q (cellsK (freeK n m q) k)) = valK m x (cellsK (freeK n m q) k):=by
 obtain ⟨h1,h2⟩:=cnt_with (x:=x) (q:=q) (p:=q) hS.ps (cells_free k) (cellsK_nodup k)
 have c0:=cnt_self (n:=n) (m:=m) (x:=x) (q:=q)
 rw [h1,h2,c0.1,c0.2]
 omega

theorem full_of (hP : Sup n m x p) (h : freeK n m p = []) : ∀ i j,i < n→j < m→mt p i j = 1:=fun i j hi hj=>by
 have hb:=hP.pb i j hi hj
 by_cases h0 : mt p i j = 0
 ·have : i * m + j ∈ freeK n m p:=freeK_mem.2 ⟨pos_lt hi hj,by rw [at1_ij hj]; exact h0⟩
  rw [h] at this
  cases this
 ·omega

theorem shp_q (h : Shp n m p) (hn : n ≤ 8) (hm : m ≤ 8) : laws_qLists p p = some true :=
 qLists_same (by have:=h.len; omega) fun r hr=>by have:=h.row r hr; omega
end

theorem laws_FnSuppressionPlans_true (a b : List (K .u8)) (o1 : Rng.ok a) (o2 : Rng.ok b) : laws_FnSuppressionPlans a b = some true:=by
 refine tot_eq ?_
 unfold laws_FnSuppressionPlans
 refine tot_cond (fun _=>tot_some rfl) fun _=>?_
 obtain ⟨⟨x,q,d,u⟩,ed,hx,hq⟩:=tDrawLeast o1.2
 obtain ⟨⟨y,q2,lo,hi,pl⟩,ed2,hy,hq2,hpl⟩:=tDrawCheck o2.2
 simp only at hx hq hy hq2 hpl
 obtain ⟨rc,k1,k2,_⟩:=check_same (d:=lo) (u:=hi) hy hq2 pl hpl
 obtain ⟨g,g1,g2,g3,g4⟩:=greedy_same (d:=d) (u:=u) hx hq
 obtain ⟨r,r1,r2,r3⟩:=least_same (d:=d) (u:=u) hx hq
 rw [ed,Option.bind_some]
 simp only
 rw [r1,r2,ed2]
 simp only [Option.bind_some]
 rw [k1,k2,g1,g2]
 have q0 : laws_qLists [] [] = some true:=qLists_same (by simp) (fun r hr=>by cases hr)
 have qg : laws_qLists g.1.Pattern g.1.Pattern = some true:=by
  rcases g3 with rfl | ⟨n,m,_,h⟩
  ·exact q0
  ·rcases h with ⟨_,hP,_⟩ | ⟨h,_⟩
   ·exact shp_q hP.ps hP.n8 hP.m8
   ·rw [h]; exact q0
 rcases r3 with rfl | ⟨n,m,hS,hd,s1,s2,hL⟩
 ·simp only [bne_self_eq_false,cond_false,Option.bind_some,q0,qg,Bool.not_true,Bool.not_false,cond_true]
  exact tot_some rfl
 ·rcases hL with ⟨k,hk,hsf,hmin,hr⟩ | ⟨_,hr⟩
  ·obtain rfl:=Option.some.inj hr
   have h8:=hS.n8; have m8:=hS.m8
   obtain ⟨hW,hC⟩:=supW hS (cells_lt (n:=n) (m:=m) (q:=q) k)
   have qr:=shp_q hW.ps h8 m8
   obtain ⟨c1,c2⟩:=cnt_cells hS k
   have hszW : Sz (wthK m q (cellsK (freeK n m q) k)):=hW.ps.sz (by omega) (by omega)
   have hg : g.2 = true∧((cellsK (freeK n m q) k).length : Int) ≤ g.1.Added:=by
    rcases g4 n m hS s1 s2 with ⟨h1,hP,hCP,hsP,hA⟩ | ⟨_,p,hP,hCP,hf,hsP⟩
    ·refine ⟨h1,?_⟩
     obtain ⟨k',hk',ew⟩:=cells_of hS hP hCP
     have hs' : sfK n m x q d u (cellsK (freeK n m q) k') = true:=by unfold sfK; rw [ew]; exact hsP
     have hle:=hmin k' hk' hs'
     have:=(cnt_cells hS k').1
     rw [ew] at this
     rw [hA,this]
     unfold leC at hle
     omega
    ·have hfull:=full_of hP hf
     have:=sf_mono (p':=p) hW (fun i j hi hj _=>hfull i j hi hj) hsf
     rw [hsP] at this
     cases this
   obtain ⟨rk,t1,_,t3⟩:=check_same (d:=d) (u:=u) hx hq ⟨wthK m q (cellsK (freeK n m q) k),(cellsK (freeK n m q) k).length,valK m x (cellsK (freeK n m q) k)⟩ hszW
   obtain ⟨cb,f1,f2,_⟩:=sup_bis hx hszW
   have htw:=twoWay_of s1
   have hcb : cb = true:=by
    have hpat:=pattern_of htw f1
    cases cb with
    | true=>rfl
    | false =>
     exfalso
     have hgr : Bis (impl_isGrid (wthK m q (cellsK (freeK n m q) k)) 1) _:=grid_bis (m:=1) hszW
     obtain ⟨gb,ge,gh⟩:=hgr
     have hwl:=hW.ps.len
     have hn1:=hW.n1
     obtain ⟨w0,hw0,_,hw0l,_,_⟩:=hW.ps.get (i:=0) (by omega)
     have hwd : wdt (wthK m q (cellsK (freeK n m q) k)) = m:=by
      unfold wdt
      cases hl : wthK m q (cellsK (freeK n m q) k) with
      | nil=>rw [hl] at hwl; simp at hwl; omega
      | cons a l =>
       rw [hl] at hw0
       simp only [List.getElem?_cons_zero,Option.some.injEq] at hw0
       rw [List.headD_cons,hw0]; exact hw0l
     have hG : Grid 1 (wthK m q (cellsK (freeK n m q) k)):=by
      refine ⟨by rw [hwl]; exact hW.n1,by rw [hwl]; exact h8,by rw [hwd]; exact hW.m1,by rw [hwd]; exact m8,fun r hr=>by rw [hwd]; exact hW.ps.row r hr,fun r hr v hv=>?_⟩
      obtain ⟨i,hi,ei⟩:=List.mem_iff_getElem.1 hr
      obtain ⟨j,hj,ej⟩:=List.mem_iff_getElem.1 hv
      have hi' : i < n:=by omega
      have hrl:=hW.ps.row r hr
      have hj' : j < m:=by omega
      have hre : (wthK m q (cellsK (freeK n m q) k))[i]? = some r:=by rw [List.getElem?_eq_getElem hi,ei]
      have:=hW.ps.el hre hj'
      rw [List.getElem?_eq_getElem hj,ej] at this
      rw [Option.some.inj this]
      exact hW.pb i j hi' hj'
     obtain rfl:=gh.2 hG
     unfold impl_isPattern at hpat
     rw [ge] at hpat
     have hxl:=hW.xs.len
     obtain ⟨x0,hx0,_,hx0l,_,_⟩:=hW.xs.get (i:=0) (by omega)
     have gz : goAt x 0 = some x0:=at_ok (k:=0) hx0
     simp only [Option.bind_some,cond_true,gz] at hpat
     have gn : goLen x = (n : Int):=by simp only [goLen]; rw [hxl]
     have gm : goLen x0 = (m : Int):=by simp only [goLen]; rw [hx0l]
     obtain ⟨sb,se,sh⟩:=shape_bis (x:=wthK m q (cellsK (freeK n m q) k)) (n:=(n : Int)) (w:=(m : Int)) (by omega)
     rw [gn,gm,se] at hpat
     obtain rfl:=sh.2 ⟨by omega,fun r hr=>by rw [hW.ps.row r hr]⟩
     cases hpat
   subst hcb
   obtain rfl:=t3 n m hS hW hC hd s2 s1 f1 hsf c1.symm c2.symm
   have hU : impl_UnprotectedCells x (wthK m q (cellsK (freeK n m q) k)) q d u = some ([],true):=by
    unfold impl_UnprotectedCells
    rw [f1,pattern_of htw s1,s2,covers_ok hW.ps hS.ps h8 m8,(cov_of hS.ps hW.pb).2 hC]
    simp only [Option.bind_some,Bool.not_true,cond_false]
    rw [unprot_ok hW hS.ps hC hd,sf_nil.1 hsf]
    rfl
   obtain ⟨hg1,hg2⟩:=hg
   simp only [bne_self_eq_false,cond_false,cond_true,Option.bind_some,qr,qg,Bool.not_true,hg1]
   rw [decide_eq_false (show ¬ g.1.Added < ((cellsK (freeK n m q) k).length : Int) by omega)]
   simp only [cond_false]
   rw [t1,hU]
   exact tot_some rfl
  ·obtain rfl:=Option.some.inj hr
   simp only [bne_self_eq_false,cond_false,Option.bind_some,q0,qg,Bool.not_true,Bool.not_false,cond_true]
   exact tot_some rfl

end Go.Gx.F
