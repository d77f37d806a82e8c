/- Plain laws: the reference's augmenting,and whether there is a flow. -/
import Derived.Test.YtpjcfmpfiadkgaaGreatSPFla

namespace Go.Gx.F

open Go.Gx

set_option linter.all false

theorem xP_congr {n : Nat} {s : Int} : ∀ {path : List Nat} {x x' : Nat→Nat→Int},(∀ a b,x a b = x' a b)→∀ a b,xP n s x path a b = xP n s x' path a b
 | [],_,_,h,a,b=>h a b
 | [_],_,_,h,a,b=>h a b
 | v0 :: v1 :: rest,x,x',h,a,b=>xP_congr (path:=v1 :: rest) (fun a b=>by unfold stX; rw [h]) a b

structure SrS (N : Nat) (r : Nat→Nat→Int) (root : Nat→Prop) (b : List Int) (ord : List Nat) : Prop where
 bl : b.length = N
 sr : Srch N r root (bk b) ord
 vis : ∀ v,v < N→(v ∈ ord ↔ bk b v ≠ -2)
 rt : ∀ v,v < N→root v→v ∈ ord∧bk b v = -1

theorem SrS.push {N : Nat} {r : Nat→Nat→Int} {root : Nat→Prop} {b : List Int} {ord : List Nat} (h : SrS N r root b ord) {u v : Nat} (hv : v < N) (hn : bk b v = -2) (hu : u ∈ ord) (hr : 0 < r u v) : SrS N r root (b.set v (u : Int)) (ord ++ [v]):=by
 have hbl:=h.bl
 have hnm : v ∉ ord:=fun hc=>(h.vis v hv).1 hc hn
 have hnr : ¬ root v:=fun hc=>hnm (h.rt v hv hc).1
 refine ⟨by rw [List.length_set]; exact h.bl,h.sr.push hv hnm hnr hu hr fun w=>bk_set (by omega) w,fun w hw=>?_,fun w hw hrw=>?_⟩
 ·rw [bk_set (by omega)]
  by_cases hwv : w = v
  ·subst hwv
   rw [if_pos rfl]
   simp <;> omega
  ·rw [if_neg hwv,← h.vis w hw]
   simp [hwv]
 ·rw [bk_set (by omega),if_neg (fun e : w = v=>hnr (e ▸ hrw))]
  exact ⟨List.mem_append_left _ (h.rt w hw hrw).1,(h.rt w hw hrw).2⟩

section

variable {n m : Nat} {t : impl_Transport} {f : spec_tFill}

theorem aug_in (hT : Tr n m t) (hF : FS n m t f) {u : Nat} (hu' : u < n + m) {root : Nat→Prop} {b : List Int} {ord : List Nat} (h : SrS (n + m) (rm n f) root b ord) (hu : u ∈ ord) :
  Tot (loopC (spec_tFill_augment_l3 f (u : Int)) (b,qn ord,0)) fun o=>∃ new : List Nat,o.2 = qn (ord ++ new)∧SrS (n + m) (rm n f) root o.1 (ord ++ new)∧∀ v,v < n + m→0 < rm n f u v→v ∈ ord ++ new:=by
 have h3:=hT.n8; have h4:=hT.m8
 have gN : w64 (goLen f.rows + goLen f.cols) = ((n + m : Nat) : Int):=by
  have h1:=hF.rl; have h2:=hF.cl
  simp only [goLen]
  rw [h1,h2,wid (by omega) (by omega)]; omega
 have hol:=h.sr.len
 refine tot_loop (fun s=>∃ (k : Nat) (new : List Nat),k ≤ n + m∧s.2.2 = (k : Int)∧s.2.1 = qn (ord ++ new)∧new.length ≤ k∧SrS (n + m) (rm n f) root s.1 (ord ++ new)∧∀ v,v < k→0 < rm n f u v→v ∈ ord ++ new) (fun s=>n + m - s.2.2.toNat)
  ⟨0,[],by omega,rfl,by simp,by simp,by simpa using h,fun v hv=>by omega⟩ ?_
 rintro ⟨b',_,_⟩ ⟨k,new,hk,rfl,rfl,hnl,hI,hc⟩
 simp only at hI
 simp only [spec_tFill_augment_l3,gN]
 by_cases hlt : k < n + m
 ·have hbl:=hI.bl
  have hb:=bk_at (b:=b') (v:=k) (by omega)
  rw [decide_eq_true (by omega),cond_true,at_ok hb]
  simp only [Option.bind_some]
  by_cases h1 : bk b' k = -2
  ·rw [show (bk b' k == -2) = true by rw [beq_iff_eq]; exact h1,cond_true,room_ok hT hF hu' hlt]
   simp only [Option.bind_some]
   by_cases h2 : 0 < rm n f u k
   ·rw [decide_eq_true h2,cond_true,goApp_ok (by simp [qn]; omega)]
    simp only [Option.bind_some,goSet,Int.toNat_natCast]
    rw [wid (by omega) (by omega)]
    refine tot_some ⟨⟨k + 1,new ++ [k],by omega,by simp only; omega,by simp [qn],by simp; omega,?_,?_⟩,by simp only; omega⟩
    ·rw [← List.append_assoc]
     exact hI.push hlt h1 (List.mem_append_left _ hu) h2
    ·intro v hv hr
     rw [← List.append_assoc]
     by_cases hvk : v = k
     ·subst hvk; simp
     ·exact List.mem_append_left _ (hc v (by omega) hr)
   ·rw [decide_eq_false h2,cond_false]
    simp only [Option.bind_some]
    rw [wid (by omega) (by omega)]
    refine tot_some ⟨⟨k + 1,new,by omega,by simp only; omega,rfl,by omega,hI,fun v hv hr=>?_⟩,by simp only; omega⟩
    by_cases hvk : v = k
    ·subst hvk; omega
    ·exact hc v (by omega) hr
  ·rw [show (bk b' k == -2) = false by rw [beq_eq_false_iff_ne]; exact h1,cond_false]
   simp only [Option.bind_some,cond_false]
   rw [wid (by omega) (by omega)]
   refine tot_some ⟨⟨k + 1,new,by omega,by simp only; omega,rfl,by omega,hI,fun v hv hr=>?_⟩,by simp only; omega⟩
   by_cases hvk : v = k
   ·subst hvk; exact (hI.vis v hlt).2 h1
   ·exact hc v (by omega) hr
 ·obtain rfl : k = n + m:=by omega
  rw [decide_eq_false (by omega),cond_false]
  exact tot_some ⟨new,rfl,hI,hc⟩

theorem aug_min (hT : Tr n m t) (hF : FS n m t f) {root : Nat→Prop} {b : List Int} (hb : b.length = n + m) : ∀ (path : List Nat) (v a : Nat) (s : Int),path.head? = some v→path.getLast? = some a→bk b a = -1→(∀ w ∈ path,w < n + m)→WayB root (bk b) path →
  loopC (spec_tFill_push_l1 f b) (s,(v : Int)) = some (minE (rm n f) s path,(a : Int))
 | [],v,a,s,h,_,_,_,_=>by simp at h
 | [v0],v,a,s,h,h2,ha,hlt,hw=>by
  simp only [List.head?_cons,Option.some.injEq,List.getLast?_singleton] at h h2
  subst h; subst h2
  have h0:=hlt v0 (by simp)
  have hbv:=bk_at (b:=b) (v:=v0) (by omega)
  rw [ha] at hbv
  refine fl_dn ?_
  simp only [spec_tFill_push_l1,at_ok hbv,Option.bind_some]
  rfl
 | v0 :: v1 :: rest,v,a,s,h,h2,ha,hlt,hw=>by
  simp only [List.head?_cons,Option.some.injEq] at h
  subst h
  obtain ⟨hn,hb1,hw2⟩:=hw
  have h0:=hlt v0 (by simp)
  have h1:=hlt v1 (by simp)
  have hbv:=bk_at (b:=b) (v:=v0) (by omega)
  rw [hb1] at hbv
  have e : spec_tFill_push_l1 f b (s,(v0 : Int)) = some (.next (min s (rm n f v1 v0),(v1 : Int))):=by
   simp only [spec_tFill_push_l1,at_ok hbv,Option.bind_some]
   rw [decide_eq_true (by omega),cond_true,room_ok hT hF h1 h0,Option.bind_some,lLeast_eq]
   rfl
  rw [fl_nx e]
  exact aug_min hT hF hb (v1 :: rest) v1 a _ rfl (by rw [List.getLast?_cons_cons] at h2; exact h2) ha (fun w hw=>hlt w (List.mem_cons_of_mem _ hw)) hw2

theorem aug_upd (hT : Tr n m t) (hrl : f.rows.length = n) {root : Nat→Prop} {b : List Int} {st : Int} (hb : b.length = n + m) (hst : 0 ≤ st∧st ≤ 10000000000) : ∀ (path : List Nat) (g : spec_tFill) (v a : Nat) (B : Int),path.head? = some v→path.getLast? = some a→bk b a = -1→(∀ w ∈ path,w < n + m)→WayB root (bk b) path→Opp n path→Shp n m g.x →
  (∀ i j,i < n→j < m→-B ≤ mt g.x i j∧mt g.x i j ≤ B)→B + st * path.length ≤ 1000000000000000 →
  ∃ y,loopC (spec_tFill_push_l2 f b st) ((v : Int),g) = some ⟨g.t,y,g.rows,g.cols⟩∧Shp n m y∧∀ i j,mt y i j = xP n st (mt g.x) path i j
 | [],g,v,a,B,h,_,_,_,_,_,_,_,_=>by simp at h
 | [v0],g,v,a,B,h,h2,ha,hlt,hw,_,hs,_,_=>by
  simp only [List.head?_cons,Option.some.injEq,List.getLast?_singleton] at h h2
  subst h; subst h2
  have h0:=hlt v0 (by simp)
  have hbv:=bk_at (b:=b) (v:=v0) (by omega)
  rw [ha] at hbv
  refine ⟨g.x,fl_dn ?_,hs,fun _ _=>rfl⟩
  simp only [spec_tFill_push_l2,at_ok hbv,Option.bind_some]
  rfl
 | v0 :: v1 :: rest,g,v,a,B,h,h2,ha,hlt,hw,hop,hs,hB,hBl=>by
  simp only [List.head?_cons,Option.some.injEq] at h
  subst h
  obtain ⟨hn,hb1,hw2⟩:=hw
  have h0:=hlt v0 (by simp)
  have h1:=hlt v1 (by simp)
  have hbv:=bk_at (b:=b) (v:=v0) (by omega)
  rw [hb1] at hbv
  have h3:=hT.n8; have h4:=hT.m8
  have gR : goLen f.rows = (n : Int):=by simp only [goLen]; rw [hrl]
  have hl : (path : List Nat)→path = v0 :: v1 :: rest→st * (path.length : Int) = st * ((v1 :: rest).length : Int) + st:=fun path hp=>by
   subst hp
   rw [List.length_cons (a:=v0),Int.natCast_add,Int.mul_add]
   simp
  have hl:=hl _ rfl
  have hnn : 0 ≤ st * ((v1 :: rest).length : Int):=Int.mul_nonneg hst.1 (by omega)
  have key : ∃ y,spec_tFill_push_l2 f b st ((v0 : Int),g) = some (.next ((v1 : Int),⟨g.t,y,g.rows,g.cols⟩))∧Shp n m y∧(∀ i j,mt y i j = stX n (mt g.x) v1 v0 st i j)∧∀ i j,i < n→j < m→-(B + st) ≤ mt y i j∧mt y i j ≤ B + st:=by
   rcases hop.1 with hc | hc
   ·-- a column v0,from the row v1
    obtain ⟨row,hrow,_,_,_,_⟩:=hs.get hc.1
    have hj : v0 - n < m:=by omega
    have hel:=hs.el hrow hj
    have hbd:=hB v1 (v0 - n) hc.1 hj
    have hm : ∀ i j,mt (upd g.x v1 (v0 - n) (mt g.x v1 (v0 - n) + st)) i j = stX n (mt g.x) v1 v0 st i j:=fun i j=>by
     rw [mt_upd hs hc.1 hj]
     unfold stX
     rw [if_pos hc.2]
     by_cases hij : i = v1∧j = v0 - n
     ·rw [if_pos hij,if_pos hij]; obtain ⟨rfl,rfl⟩:=hij; rfl
     ·rw [if_neg hij,if_neg hij]
    refine ⟨upd g.x v1 (v0 - n) (mt g.x v1 (v0 - n) + st),?_,hs.upd hc.1,hm,fun i j hi hj'=>?_⟩
    ·simp only [spec_tFill_push_l2,at_ok hbv,Option.bind_some,gR]
     rw [decide_eq_true (by omega),cond_true,decide_eq_true (show (n : Int) ≤ v0 by omega),cond_true,wid (n:=(v0 : Int) - n) (by omega) (by omega),show (v0 : Int) - n = ((v0 - n : Nat) : Int) by omega]
     simp only [at_ok hrow,at_ok hel,Option.bind_some,goSet,Int.toNat_natCast]
     rw [wid (n:=mt g.x v1 (v0 - n) + st) (by omega) (by omega),set_upd hrow]
    ·rw [mt_upd hs hc.1 hj]
     split
     ·omega
     ·have:=hB i j hi hj'; omega
   ·obtain ⟨row,hrow,_,_,_,_⟩:=hs.get hc.1
    have hj : v1 - n < m:=by omega
    have hel:=hs.el hrow hj
    have hbd:=hB v0 (v1 - n) hc.1 hj
    have hm : ∀ i j,mt (upd g.x v0 (v1 - n) (mt g.x v0 (v1 - n) - st)) i j = stX n (mt g.x) v1 v0 st i j:=fun i j=>by
     rw [mt_upd hs hc.1 hj]
     unfold stX
     rw [if_neg (show ¬ n ≤ v0 by omega)]
     by_cases hij : i = v0∧j = v1 - n
     ·rw [if_pos hij,if_pos hij]; obtain ⟨rfl,rfl⟩:=hij; rfl
     ·rw [if_neg hij,if_neg hij]
    refine ⟨upd g.x v0 (v1 - n) (mt g.x v0 (v1 - n) - st),?_,hs.upd hc.1,hm,fun i j hi hj'=>?_⟩
    ·simp only [spec_tFill_push_l2,at_ok hbv,Option.bind_some,gR]
     rw [decide_eq_true (by omega),cond_true,decide_eq_false (show ¬ (n : Int) ≤ v0 by omega),cond_false,wid (n:=(v1 : Int) - n) (by omega) (by omega),show (v1 : Int) - n = ((v1 - n : Nat) : Int) by omega]
     simp only [at_ok hrow,at_ok hel,Option.bind_some,goSet,Int.toNat_natCast]
     rw [wid (n:=mt g.x v0 (v1 - n) - st) (by omega) (by omega),set_upd hrow]
    ·rw [mt_upd hs hc.1 hj]
     split
     ·omega
     ·have:=hB i j hi hj'; omega
  obtain ⟨y,e,hy,hm,hyb⟩:=key
  rw [fl_nx e]
  obtain ⟨z,e2,hz,hz2⟩:=aug_upd hT hrl hb hst (v1 :: rest) ⟨g.t,y,g.rows,g.cols⟩ v1 a (B + st) rfl (by rw [List.getLast?_cons_cons] at h2; exact h2) ha (fun w hw=>hlt w (List.mem_cons_of_mem _ hw)) hw2 hop.2 hy hyb (by omega)
  refine ⟨z,e2,hz,fun i j=>?_⟩
  rw [hz2]
  show xP n st (mt y) (v1 :: rest) i j = xP n st (stX n (mt g.x) v1 v0 st) (v1 :: rest) i j
  exact xP_congr hm i j

theorem push_s (hT : Tr n m t) (hF : FS n m t f) {b : List Int} {ord : List Nat} (h : SrS (n + m) (rm n f) (fun v=>v < n∧0 < vc f.rows v) b ord) {j : Nat} (hj : j < m) (hjo : n + j ∈ ord) (hc : 0 < vc f.cols j) :
  ∃ g,spec_tFill_push f b ((n + j : Nat) : Int) = some g∧FS n m t g∧sm n (vc g.rows) < sm n (vc f.rows):=by
 have h3:=hT.n8; have h4:=hT.m8
 obtain ⟨k,hk⟩:=List.getElem?_of_mem hjo
 obtain ⟨path,a,p1,p2,⟨han,hra⟩,p3,p4,p5,p6⟩:=h.sr.path k (n + j) hk
 have hplt : ∀ v ∈ path,v < n + m:=fun v hv=>by
  obtain ⟨i,_,hi⟩:=p4 v hv
  exact h.sr.lt v (List.mem_of_getElem? hi)
 have hpl:=nd_len (n + m) path p3 hplt
 have hba:=(h.rt a (by omega) ⟨han,hra⟩).2
 have hbl:=h.bl
 have hrl:=hF.rl; have hcl:=hF.cl
 have gR : goLen f.rows = (n : Int):=by simp only [goLen]; rw [hF.rl]
 have ec:=vc_at (l:=f.cols) (i:=j) (by omega)
 have er:=vc_at (l:=f.rows) (i:=a) (by omega)
 have hcb:=hF.cb hT hj
 have hrb:=hF.rb hT han
 have e1:=aug_min hT hF hbl path (n + j) a (vc f.cols j) p1 p2 hba hplt p5
 have q1:=minE_le (rm n f) path (vc f.cols j)
 have q2 : 1 ≤ minE (rm n f) (vc f.cols j) path:=minE_pos (by omega) p6
 have q3:=minE_edges (rm n f) path (vc f.cols j)
 generalize minE (rm n f) (vc f.cols j) path = s0 at e1 q1 q2 q3
 have hst : 1 ≤ min s0 (vc f.rows a):=by omega
 have q4 : EdgesOk (rm n f) (min s0 (vc f.rows a)) path:=q3.mono (by omega)
 have hsb : min s0 (vc f.rows a) ≤ 100000:=by omega
 have hsc : min s0 (vc f.rows a) ≤ vc f.cols j:=by omega
 have hsr : min s0 (vc f.rows a) ≤ vc f.rows a:=by omega
 have hlm : spec_l1Least s0 (vc f.rows a) = some (min s0 (vc f.rows a)):=lLeast_eq _ _
 generalize min s0 (vc f.rows a) = st at hst q4 hsb hsc hsr hlm
 have hmul : st * (path.length : Int) ≤ 100000 * 20:=by
  have h1 : st * (path.length : Int) ≤ st * 20:=Int.mul_le_mul_of_nonneg_left (by omega) (by omega)
  omega
 obtain ⟨y,e2,hy,hym⟩:=aug_upd hT hrl hbl (st:=st) ⟨by omega,by omega⟩ path f (n + j) a 100000 p1 p2 hba hplt p5 (opp_of p6) hF.x (fun i j hi hj=>by have:=hF.xb hT hi hj; omega) (by omega)
 have hte:=hF.te
 have hX:=xP_ok (lo:=mt f.t.Lo) (hi:=mt f.t.Hi) (x:=mt f.x) (fun i j hi hj=>by rw [hte]; exact (hF.bd i j hi hj).1) (fun i j hi hj=>by rw [hte]; exact (hF.bd i j hi hj).2) (s:=st) (by omega) p3 hplt p6 q4 p1 p2 han hj
 obtain ⟨x1,x2,x3⟩:=hX
 have hrow : ∀ i,i < n→sm m (mt y i) = sm m (mt f.x i) + if i = a then st else 0:=fun i hi=>by
  rw [← x2 i hi]; exact sm_congr fun b _=>hym i b
 have hcol : ∀ b,b < m→sm n (fun i=>mt y i b) = sm n (fun i=>mt f.x i b) + if b = j then st else 0:=fun b hb=>by
  rw [← x3 b hb]; exact sm_congr fun i _=>hym i b
 refine ⟨⟨f.t,y,f.rows.set a (vc f.rows a - st),f.cols.set j (vc f.cols j - st)⟩,?_,⟨hte,hy,fun i b hi hb=>?_,by simp only [List.length_set]; exact hrl,by simp only [List.length_set]; exact hcl,fun i hi=>?_,fun b hb=>?_,fun i hi=>?_,fun b hb=>?_⟩,?_⟩
 ·unfold spec_tFill_push
  rw [gR,wid (n:=((n + j : Nat) : Int) - n) (by omega) (by omega),show ((n + j : Nat) : Int) - n = ((j : Nat) : Int) by omega,at_ok ec,Option.bind_some,e1,Option.bind_some]
  simp only [at_ok er,Option.bind_some,hlm,e2,at_ok ec,goSet,Int.toNat_natCast]
  rw [wid (n:=vc f.rows a - st) (by omega) (by omega),wid (n:=vc f.cols j - st) (by omega) (by omega)]
 ·have:=x1 i b hi hb
  rw [hte] at this
  simp only
  rw [hym i b]; exact this
 ·simp only
  rw [vc_set (by omega),hrow i hi]
  have:=hF.rv i hi
  by_cases hia : i = a
  ·subst hia; rw [if_pos rfl,if_pos rfl]; omega
  ·rw [if_neg hia,if_neg hia]; omega
 ·simp only
  rw [vc_set (by omega),hcol b hb]
  have:=hF.cv b hb
  by_cases hbj : b = j
  ·subst hbj; rw [if_pos rfl,if_pos rfl]; omega
  ·rw [if_neg hbj,if_neg hbj]; omega
 ·simp only
  rw [vc_set (by omega)]
  have:=hF.r0 i hi
  split <;> omega
 ·simp only
  rw [vc_set (by omega)]
  have:=hF.c0 b hb
  split <;> omega
 ·simp only
  rw [sm_upd (f:=vc f.rows) (g:=vc (f.rows.set a (vc f.rows a - st))) han fun i _ hne=>by rw [vc_set (by omega),if_neg hne],vc_set (by omega),if_pos rfl]
  omega

theorem augment_ok (hT : Tr n m t) (hF : FS n m t f) : ∃ (b : Bool) (g : spec_tFill),spec_tFill_augment f = some (b,g)∧FS n m t g∧(b = true→sm n (vc g.rows) < sm n (vc f.rows))∧(b = false→∀ y,IsF n m t y→∀ i,i < n→vc g.rows i = 0):=by
 have h3:=hT.n8; have h4:=hT.m8
 have hrl:=hF.rl; have hcl:=hF.cl
 have gR : goLen f.rows = (n : Int):=by simp only [goLen]; rw [hrl]
 have gN : w64 (goLen f.rows + goLen f.cols) = ((n + m : Nat) : Int):=by
  simp only [goLen]
  rw [hrl,hcl,wid (by omega) (by omega)]; omega
 unfold spec_tFill_augment
 rw [gN,goMake_ok (by omega) (by omega),Option.bind_some]
 have hinit : Tot (loopC (spec_tFill_augment_l1 f (List.replicate (n + m) 0)) (List.replicate (n + m) 0,[],0)) fun o=>∃ ord,o.2 = qn ord∧SrS (n + m) (rm n f) (fun v=>v < n∧0 < vc f.rows v) o.1 ord:=by
  refine tot_loop (fun s=>∃ (k : Nat) (ord : List Nat),k ≤ n + m∧s.2.2 = (k : Int)∧s.2.1 = qn ord∧ord.length ≤ k∧s.1.length = n + m∧ord.Nodup∧(∀ v,v ∈ ord ↔ v < k∧v < n∧0 < vc f.rows v)∧∀ v,v < k→bk s.1 v = if v < n∧0 < vc f.rows v then -1 else -2) (fun s=>n + m - s.2.2.toNat)
   ⟨0,[],by omega,rfl,rfl,by simp,by simp,by simp,fun v=>by simp,fun v hv=>by omega⟩ ?_
  rintro ⟨b,_,_⟩ ⟨k,ord,hk,rfl,rfl,hol,hbl,hnd,hmem,hbk⟩
  simp only at hbl hbk
  by_cases hlt : k < n + m
  ·have hx : (List.replicate (n + m) (0 : Int))[k]? = some 0:=by simp [hlt]
   have hb:=bk_at (b:=b) (v:=k) (by omega)
   have hb2 : (b.set k (-2))[k]? = some (-2):=by rw [List.getElem?_set_self (by omega)]
   simp only [spec_tFill_augment_l1,lt_ok hx,cond_true,at_ok hb,Option.bind_some,gR,goSet,Int.toNat_natCast]
   have hz : ((cond (decide ((k : Int) < n)) ((goAt f.rows (k : Int)).bind fun e=>some (decide (0 < e))) (some false)) : Option Bool) = some (decide (k < n∧0 < vc f.rows k)):=by
    by_cases hkn : k < n
    ·rw [decide_eq_true (by omega),cond_true,at_ok (vc_at (l:=f.rows) (i:=k) (by omega)),Option.bind_some]
     congr 1
     rw [decide_eq_decide]
     exact ⟨fun h=>⟨hkn,h⟩,fun h=>h.2⟩
    ·rw [decide_eq_false (by omega),cond_false,decide_eq_false (fun h=>hkn h.1)]
   rw [hz]
   simp only [Option.bind_some]
   by_cases hroot : k < n∧0 < vc f.rows k
   ·rw [decide_eq_true hroot,cond_true,at_ok hb2]
    simp only [Option.bind_some]
    rw [goApp_ok (by simp [qn]; omega)]
    simp only [Option.bind_some]
    rw [wid (by omega) (by omega)]
    refine tot_some ⟨⟨k + 1,ord ++ [k],by omega,by simp only; omega,by simp [qn],by simp; omega,by simp [hbl],?_,fun v=>?_,fun v hv=>?_⟩,by simp only; omega⟩
    ·refine List.nodup_append.2 ⟨hnd,by simp,fun a ha b hb'=>?_⟩
     obtain rfl:=List.mem_singleton.1 hb'
     rintro rfl
     have:=((hmem a).1 ha).1
     omega
    ·rw [List.mem_append,hmem,List.mem_singleton]
     constructor
     ·rintro (h | rfl)
      ·exact ⟨by omega,h.2⟩
      ·exact ⟨by omega,hroot⟩
     ·rintro ⟨h1,h2⟩
      by_cases hvk : v = k
      ·exact .inr hvk
      ·exact .inl ⟨by omega,h2⟩
    ·simp only
     rw [List.set_set,bk_set (by omega)]
     by_cases hvk : v = k
     ·subst hvk; rw [if_pos rfl,if_pos hroot]
     ·rw [if_neg hvk]; exact hbk v (by omega)
   ·rw [decide_eq_false hroot,cond_false]
    simp only [Option.bind_some]
    rw [wid (by omega) (by omega)]
    refine tot_some ⟨⟨k + 1,ord,by omega,by simp only; omega,rfl,by omega,by simp [hbl],hnd,fun v=>?_,fun v hv=>?_⟩,by simp only; omega⟩
    ·rw [hmem]
     constructor
     ·rintro h; exact ⟨by omega,h.2⟩
     ·rintro ⟨h1,h2⟩
      refine ⟨?_,h2⟩
      have : v ≠ k:=fun e=>hroot (e ▸ h2)
      omega
    ·simp only
     rw [bk_set (by omega)]
     by_cases hvk : v = k
     ·subst hvk; rw [if_pos rfl,if_neg hroot]
     ·rw [if_neg hvk]; exact hbk v (by omega)
  ·obtain rfl : k = n + m:=by omega
   have e3 : decide (((n + m : Nat) : Int) < goLen (List.replicate (n + m) (0 : Int))) = false:=decide_eq_false (by simp [goLen])
   simp only [spec_tFill_augment_l1,e3,cond_false]
   refine tot_some ⟨ord,rfl,hbl,⟨hnd,fun v hv=>((hmem v).1 hv).1,fun k v hk=>.inl ((hmem v).1 (List.mem_of_getElem? hk)).2⟩,fun v hv=>?_,fun v hv hr=>⟨(hmem v).2 ⟨hv,hr⟩,by simp only; rw [hbk v hv,if_pos hr]⟩⟩
   simp only
   rw [hmem,hbk v hv]
   by_cases hroot : v < n∧0 < vc f.rows v
   ·rw [if_pos hroot]; simp [hroot,hv]
   ·rw [if_neg hroot]
    simp only [ne_eq,not_true_eq_false,iff_false]
    exact fun h=>hroot h.2
 obtain ⟨⟨b0,q0⟩,e0,ord0,hq0,hI0⟩:=hinit
 simp only at hq0 hI0
 rw [e0,Option.bind_some]
 simp only
 rw [hq0]
 have main : ∀ (k at_ : Nat) (b : List Int) (ord : List Nat),n + m - at_ ≤ k→at_ ≤ ord.length→SrS (n + m) (rm n f) (fun v=>v < n∧0 < vc f.rows v) b ord→(∀ u ∈ ord.take at_,(∀ v,v < n + m→0 < rm n f u v→v ∈ ord)∧(n ≤ u→¬ 0 < vc f.cols (u - n))) →
   ∃ o,loopC (spec_tFill_augment_l2 f) (b,qn ord,(at_ : Int)) = some o∧match o with | .inl ()=>∀ y,IsF n m t y→∀ i,i < n→vc f.rows i = 0 | .inr o=>o.1 = true∧FS n m t o.2∧sm n (vc o.2.rows) < sm n (vc f.rows):=by
  have fin : ∀ (b : List Int) (ord : List Nat),SrS (n + m) (rm n f) (fun v=>v < n∧0 < vc f.rows v) b ord→(∀ u ∈ ord,(∀ v,v < n + m→0 < rm n f u v→v ∈ ord)∧(n ≤ u→¬ 0 < vc f.cols (u - n))) →
    ∃ o,loopC (spec_tFill_augment_l2 f) (b,qn ord,(ord.length : Int)) = some o∧match o with | .inl ()=>∀ y,IsF n m t y→∀ i,i < n→vc f.rows i = 0 | .inr o=>o.1 = true∧FS n m t o.2∧sm n (vc o.2.rows) < sm n (vc f.rows):=by
   intro b ord hI hcl2
   have e : spec_tFill_augment_l2 f (b,qn ord,(ord.length : Int)) = some (.done (.inl ())):=by
    simp only [spec_tFill_augment_l2]
    rw [decide_eq_false (by simp [goLen,qn])]
    rfl
   refine ⟨.inl (),fl_dn e,fun y hy=>?_⟩
   exact stuck (x:=mt f.x) (S:=fun i=>decide (i ∈ ord)) (T:=fun j=>decide (n + j ∈ ord)) (L:=vc f.rows) hy (fun i hi=>by have:=hF.rv i hi; omega) (fun j hj hjt=>by
     have hjt : n + j ∈ ord:=by simpa using hjt
     have h1:=(hcl2 _ hjt).2 (by omega)
     rw [show n + j - n = j by omega] at h1
     have h2:=hF.c0 j hj; have h5:=hF.cv j hj
     omega) (fun i hi=>hF.r0 i hi) (fun i hi hs=>by
     have hs : i ∉ ord:=by simpa using hs
     have h1:=hF.r0 i hi
     by_cases h2 : 0 < vc f.rows i
     ·exact absurd (hI.rt i (by omega) ⟨hi,h2⟩).1 hs
     ·omega) (fun i j hi hj hs ht=>by
     have hs : i ∈ ord:=by simpa using hs
     have ht : n + j ∉ ord:=by simpa using ht
     have h1 : ¬ 0 < rm n f i (n + j):=fun h=>ht ((hcl2 i hs).1 (n + j) (by omega) h)
     have h2:=hF.bd i j hi hj
     unfold rm at h1
     rw [rsd_tt_up hi (by omega),show n + j - n = j by omega,hF.te] at h1
     omega) (fun i j hi hj hs ht=>by
     have hs : i ∉ ord:=by simpa using hs
     have ht : n + j ∈ ord:=by simpa using ht
     have h1 : ¬ 0 < rm n f (n + j) i:=fun h=>hs ((hcl2 _ ht).1 i (by omega) h)
     have h2:=hF.bd i j hi hj
     unfold rm at h1
     rw [rsd_tt_dn hi (by omega),show n + j - n = j by omega,hF.te] at h1
     omega)
  intro k
  induction k with
  | zero =>
   intro at_ b ord hk hat hI hcl2
   have hlen:=hI.sr.len
   have hate : at_ = ord.length:=by omega
   subst hate
   rw [List.take_length] at hcl2
   exact fin b ord hI hcl2
  | succ k ih =>
   intro at_ b ord hk hat hI hcl2
   have hlen:=hI.sr.len
   by_cases hate : at_ = ord.length
   ·subst hate
    rw [List.take_length] at hcl2
    exact fin b ord hI hcl2
   ·have hlt : at_ < ord.length:=by omega
    have hx : ord[at_]? = some ord[at_]:=by simp [hlt]
    have hum : ord[at_] ∈ ord:=List.getElem_mem hlt
    generalize ord[at_] = u at hx hum
    have hu:=hI.sr.lt u hum
    have hqx : (qn ord)[at_]? = some (u : Int):=by simp [qn,hx]
    have hz : ((cond (decide ((n : Int) ≤ (u : Int))) ((goAt f.cols (w64 ((u : Int) - n))).bind fun e=>some (decide (0 < e))) (some false)) : Option Bool) = some (decide (n ≤ u∧0 < vc f.cols (u - n))):=by
     by_cases hun : n ≤ u
     ·rw [decide_eq_true (by omega),cond_true,wid (by omega) (by omega),show (u : Int) - n = ((u - n : Nat) : Int) by omega,at_ok (vc_at (l:=f.cols) (i:=u - n) (by omega)),Option.bind_some]
      congr 1
      rw [decide_eq_decide]
      exact ⟨fun h=>⟨hun,h⟩,fun h=>h.2⟩
     ·rw [decide_eq_false (by omega),cond_false,decide_eq_false (fun h=>hun h.1)]
    by_cases hend : n ≤ u∧0 < vc f.cols (u - n)
    ·obtain ⟨g,eg,hg,hgs⟩:=push_s hT hF hI (j:=u - n) (by omega) (by rw [show n + (u - n) = u by omega]; exact hum) hend.2
     rw [show n + (u - n) = u by omega] at eg
     have e : spec_tFill_augment_l2 f (b,qn ord,(at_ : Int)) = some (.done (.inr (true,g))):=by
      simp only [spec_tFill_augment_l2,lt_ok hqx,cond_true,at_ok hqx,Option.bind_some,gR]
      rw [hz,decide_eq_true hend]
      simp only [Option.bind_some,cond_true,eg]
     exact ⟨_,fl_dn e,rfl,hg,hgs⟩
    ·obtain ⟨⟨b2,q2⟩,e2,new,hq2,hI2,hc2⟩:=aug_in hT hF hu hI hum
     simp only at hq2 hI2
     have e : spec_tFill_augment_l2 f (b,qn ord,(at_ : Int)) = some (.next (b2,q2,((at_ + 1 : Nat) : Int))):=by
      simp only [spec_tFill_augment_l2,lt_ok hqx,cond_true,at_ok hqx,Option.bind_some,gR]
      rw [hz,decide_eq_false hend]
      simp only [Option.bind_some,cond_false,e2]
      rw [wid (by omega) (by omega)]
      rfl
     rw [fl_nx e,hq2]
     refine ih (at_ + 1) b2 (ord ++ new) (by omega) (by simp; omega) hI2 fun w hw=>?_
     rw [List.take_append_of_le_length (by omega),List.take_succ,hx,List.mem_append] at hw
     rcases hw with hw | hw
     ·exact ⟨fun v hv hr=>List.mem_append_left _ ((hcl2 w hw).1 v hv hr),(hcl2 w hw).2⟩
     ·obtain rfl : w = u:=by simpa using hw
      exact ⟨hc2,fun h1 h2=>hend ⟨h1,h2⟩⟩
 obtain ⟨o,eo,ho⟩:=main (n + m) 0 b0 ord0 (by omega) (by omega) hI0 (by simp)
 rw [show (((0 : Nat)) : Int) = 0 from rfl] at eo
 rw [eo]
 cases o with
 | inl u =>
  refine ⟨false,f,rfl,hF,fun h=>(by cases h),fun _=>ho⟩
 | inr o =>
  obtain ⟨o1,o2⟩:=o
  obtain ⟨h1,h2,h5⟩:=ho
  simp only at h1 h2 h5
  subst h1
  exact ⟨true,o2,rfl,h2,fun _=>h5,fun h=>(by cases h)⟩

theorem filled_ok (hT : Tr n m t) : ∃ (f : spec_tFill) (b : Bool),spec_tFilled t = some (f,b)∧(b = true→FS n m t f∧∀ y,IsF n m t y→∀ i,i < n→vc f.rows i = 0)∧(b = false→∀ y,¬ IsF n m t y):=by
 obtain ⟨f0,b,e,h1,h2⟩:=start_ok hT
 unfold spec_tFilled
 rw [e,Option.bind_some]
 cases b with
 | false=>exact ⟨f0,false,rfl,fun h=>(by cases h),h2⟩
 | true =>
  have h1:=h1 rfl
  simp only [Bool.not_true,cond_false]
  have h : Tot (loopC spec_tFilled_l1 f0) fun f=>FS n m t f∧∀ y,IsF n m t y→∀ i,i < n→vc f.rows i = 0:=by
   refine tot_loop (fun s=>FS n m t s) (fun s=>(sm n (vc s.rows)).toNat) h1 ?_
   intro s hs
   obtain ⟨b,g,eg,hg,hb1,hb2⟩:=augment_ok hT hs
   unfold spec_tFilled_l1
   rw [eg,Option.bind_some]
   have h0:=sm_nonneg (n:=n) (f:=vc g.rows) fun i hi=>hg.r0 i hi
   cases b with
   | true=>exact tot_some ⟨hg,by have:=hb1 rfl; simp only; omega⟩
   | false=>exact tot_some ⟨hg,hb2 rfl⟩
  obtain ⟨f,ef,hf⟩:=h
  rw [ef]
  exact ⟨f,true,rfl,fun _=>hf,fun h=>(by cases h)⟩

theorem feas_ok (hT : Tr n m t) : ∃ (x : List (List Int)) (b : Bool),spec_tFeasible t = some (x,b)∧(b = true→Shp n m x∧IsF n m t (mt x))∧(b = false→x = []∧∀ y,¬ IsF n m t y):=by
 have h1:=hT.rl; have h2:=hT.cl; have h3:=hT.n8; have h4:=hT.m8
 unfold spec_tFeasible
 rw [tSum_ok (l:=t.Rows) (by omega) (fun i hi=>by have:=hT.rb i (by omega); omega),Option.bind_some,tSum_ok (l:=t.Cols) (by omega) (fun i hi=>by have:=hT.cb i (by omega); omega),Option.bind_some,h1,h2]
 have htot : ∀ y,IsF n m t y→sm n (vc t.Rows) = sm m (vc t.Cols):=fun y hy=>by
  rw [← sm_congr hy.row,← sm_congr hy.col]
  exact sm_comm n m y
 by_cases hs : sm n (vc t.Rows) = sm m (vc t.Cols)
 ·rw [show (sm n (vc t.Rows) != sm m (vc t.Cols)) = false by rw [bne_eq_false_iff_eq]; exact hs,cond_false]
  obtain ⟨f,b,e,g1,g2⟩:=filled_ok hT
  rw [e,Option.bind_some]
  cases b with
  | false=>exact ⟨[],false,rfl,fun h=>(by cases h),fun _=>⟨rfl,g2 rfl⟩⟩
  | true =>
   obtain ⟨hF,g3⟩:=g1 rfl
   have hrl:=hF.rl; have hcl:=hF.cl
   simp only [Bool.not_true,cond_false]
   rw [tSum_ok (l:=f.rows) (by omega) (fun i hi=>by have:=hF.rb hT (i:=i) (by omega); have:=hF.r0 i (by omega); omega),hrl]
   simp only [Option.bind_some]
   by_cases h0 : 0 < sm n (vc f.rows)
   ·rw [decide_eq_true h0,cond_true]
    refine ⟨[],false,rfl,fun h=>(by cases h),fun _=>⟨rfl,fun y hy=>?_⟩⟩
    rw [sm_congr (g:=fun _=>0) fun i hi=>g3 y hy i hi,sm_zero] at h0
    omega
   ·rw [decide_eq_false h0,cond_false]
    refine ⟨f.x,true,rfl,fun _=>⟨hF.x,fun i j hi hj=>(hF.bd i j hi hj).1,fun i j hi hj=>(hF.bd i j hi hj).2,fun i hi=>?_,fun j hj=>?_⟩,fun h=>(by cases h)⟩
    ·have a1:=sm_one (f:=vc f.rows) (fun i hi=>hF.r0 i hi) hi
     have a2:=hF.r0 i hi; have a3:=hF.rv i hi
     omega
    ·have b1 : ∀ i,i < n→sm m (mt f.x i) = vc t.Rows i:=fun i hi=>by
      have a1:=sm_one (f:=vc f.rows) (fun i hi=>hF.r0 i hi) hi
      have a2:=hF.r0 i hi; have a3:=hF.rv i hi
      omega
     have b2 : sm m (vc f.cols) = 0:=by
      rw [sm_congr (g:=fun j=>vc t.Cols j - sm n (fun i=>mt f.x i j)) fun j hj=>hF.cv j hj,sm_sub,← sm_comm,sm_congr b1,hs]
      have : sm m (fun i=>vc t.Cols i) = sm m (vc t.Cols):=rfl
      omega
     have a1:=sm_one (f:=vc f.cols) (fun j hj=>hF.c0 j hj) hj
     have a2:=hF.c0 j hj; have a3:=hF.cv j hj
     omega
 ·rw [show (sm n (vc t.Rows) != sm m (vc t.Cols)) = true by rw [bne_iff_ne]; exact hs,cond_true]
  exact ⟨[],false,rfl,fun h=>(by cases h),fun _=>⟨rfl,fun y hy=>hs (htot y hy)⟩⟩

def wth (t : impl_Transport) (i j : Nat) (l h : Int) : impl_Transport:=⟨t.Rows,t.Cols,upd t.Lo i j l,upd t.Hi i j h⟩

theorem with_tr (hT : Tr n m t) {i j : Nat} (hi : i < n) (hj : j < m) {l h : Int} (h1 : 0 ≤ l∧l ≤ h∧h ≤ 100000) : Tr n m (wth t i j l h) :=
 ⟨hT.rl,hT.cl,hT.n1,hT.n8,hT.m1,hT.m8,hT.lo.upd hi,hT.hi.upd hi,hT.rb,hT.cb,fun a b ha hb=>by
  show 0 ≤ mt (upd t.Lo i j l) a b∧mt (upd t.Lo i j l) a b ≤ mt (upd t.Hi i j h) a b∧mt (upd t.Hi i j h) a b ≤ 100000
  rw [mt_upd hT.lo hi hj,mt_upd hT.hi hi hj]
  have:=hT.bd a b ha hb
  split <;> omega⟩

theorem with_ok (hT : Tr n m t) {i j : Nat} (hi : i < n) (hj : j < m) (l h : Int) : spec_tWith t (i : Int) (j : Int) l h = some (wth t i j l h):=by
 have h3:=hT.n8; have h4:=hT.m8
 obtain ⟨lr,hlr,_,_,_,_⟩:=hT.lo.get hi
 obtain ⟨hr,hhr,_,_,_,_⟩:=hT.hi.get hi
 unfold spec_tWith wth
 rw [tOwn_ok hT.lo (by omega) (by omega),Option.bind_some,tOwn_ok hT.hi (by omega) (by omega)]
 simp only [Option.bind_some,at_ok hlr,at_ok hhr,at_ok (hT.lo.el hlr hj),at_ok (hT.hi.el hhr hj),goSet,Int.toNat_natCast]
 rw [set_upd hlr,set_upd hhr]

theorem with_iff (hT : Tr n m t) {i j : Nat} (hi : i < n) (hj : j < m) {l h : Int} (h1 : mt t.Lo i j ≤ l) (h2 : h ≤ mt t.Hi i j) {y : Nat→Nat→Int} : IsF n m (wth t i j l h) y ↔ IsF n m t y∧l ≤ y i j∧y i j ≤ h :=
 fl_with (lo:=mt t.Lo) (hi:=mt t.Hi) hi hj h1 h2 (fun a b=>mt_upd hT.lo hi hj a b) (fun a b=>mt_upd hT.hi hi hj a b)

end

end Go.Gx.F
