/- Plain laws: what the program's push sends. -/
import Derived.Test.YtpjcfmpfiadkgaaGreatSPFlw6

namespace Go.Gx.F

open Go.Gx

set_option linter.all false

def bk (b : List Int) : Nat→Int:=fun v=>b.getD v (-1)

def qn (l : List Nat) : List Int:=l.map fun (x : Nat)=>(x : Int)

theorem bk_at {b : List Int} {v : Nat} (h : v < b.length) : b[v]? = some (bk b v):=by simp [bk,h]

theorem bk_set {b : List Int} {v : Nat} {x : Int} (h : v < b.length) (w : Nat) : bk (b.set v x) w = if w = v then x else bk b w:=by
 unfold bk
 by_cases hw : w = v
 ·subst hw
  rw [if_pos rfl,List.getD_eq_getElem?_getD,List.getElem?_set_self h]; rfl
 ·rw [if_neg hw,List.getD_eq_getElem?_getD,List.getElem?_set_ne (fun e=>hw e.symm),← List.getD_eq_getElem?_getD]

structure SrI (N : Nat) (r : Nat→Nat→Int) (f : Nat) (b : List Int) (ord : List Nat) : Prop where
 bl : b.length = N
 sr : Srch N r (fun v=>v = f) (bk b) ord
 vis : ∀ v,v < N→(v ∈ ord ↔ 0 ≤ bk b v)
 fr : f ∈ ord

theorem SrI.push {N : Nat} {r : Nat→Nat→Int} {f : Nat} {b : List Int} {ord : List Nat} (h : SrI N r f b ord) {u v : Nat} (hv : v < N) (hn : bk b v < 0) (hu : u ∈ ord) (hr : 0 < r u v) : SrI N r f (b.set v (u : Int)) (ord ++ [v]):=by
 have hbl:=h.bl
 have hnm : v ∉ ord:=fun hc=>by have:=(h.vis v hv).1 hc; omega
 refine ⟨by rw [List.length_set]; exact h.bl,h.sr.push hv hnm (fun e=>hnm (e ▸ h.fr)) hu hr fun w=>bk_set (by omega) w,fun w hw=>?_,List.mem_append_left _ h.fr⟩
 rw [bk_set (by omega)]
 by_cases hwv : w = v
 ·subst hwv
  rw [if_pos rfl]
  simp
 ·rw [if_neg hwv,← h.vis w hw]
  simp [hwv]

theorem push_in {N u f : Nat} {x : List (List Int)} {row b : List Int} {ord qu : List Nat} (hs : Shp N N x) (hN : N ≤ 1000) (hrow : x[u]? = some row) (h : SrI N (mt x) f b ord) (hu : u ∈ ord) (hq : qu.length ≤ 1000) :
  Tot (loopC (impl_push_l4 (u : Int) row) (b,qn qu,0)) fun o=>∃ new : List Nat,o.2 = qn (qu ++ new)∧SrI N (mt x) f o.1 (ord ++ new)∧∀ v,v < N→0 < mt x u v→v ∈ ord ++ new:=by
 have hrl : row.length = N:=hs.row _ (List.mem_of_getElem? hrow)
 refine tot_loop (fun s=>∃ (k : Nat) (new : List Nat),k ≤ N∧s.2.2 = (k : Int)∧s.2.1 = qn (qu ++ new)∧new.length ≤ k∧SrI N (mt x) f s.1 (ord ++ new)∧∀ v,v < k→0 < mt x u v→v ∈ ord ++ new) (fun s=>N - s.2.2.toNat)
  ⟨0,[],by omega,rfl,by simp,by simp,by simpa using h,fun v hv=>by omega⟩ ?_
 rintro ⟨b',_,_⟩ ⟨k,new,hk,rfl,rfl,hnl,hI,hc⟩
 simp only at hI
 simp only [impl_push_l4]
 by_cases hlt : k < N
 ·have hx:=hs.el hrow hlt
  have hbl:=hI.bl
  have hb:=bk_at (b:=b') (v:=k) (by omega)
  rw [lt_ok hx,cond_true,at_ok hx]
  simp only [Option.bind_some]
  by_cases h1 : 0 < mt x u k
  ·rw [decide_eq_true h1,cond_true,at_ok hb]
   simp only [Option.bind_some]
   by_cases h2 : bk b' k < 0
   ·rw [decide_eq_true h2,cond_true,goApp_ok (by simp [qn]; omega)]
    simp only [Option.bind_some,goSet,Int.toNat_natCast]
    rw [wid (by omega) (by omega)]
    refine tot_some ⟨⟨k + 1,new ++ [k],by omega,by simp only; omega,by simp [qn],by simp; omega,?_,?_⟩,by simp only; omega⟩
    ·rw [← List.append_assoc]
     exact hI.push hlt h2 (List.mem_append_left _ hu) h1
    ·intro v hv hr
     rw [← List.append_assoc]
     by_cases hvk : v = k
     ·subst hvk; simp
     ·exact List.mem_append_left _ (hc v (by omega) hr)
   ·rw [decide_eq_false h2,cond_false]
    simp only [Option.bind_some]
    rw [wid (by omega) (by omega)]
    refine tot_some ⟨⟨k + 1,new,by omega,by simp only; omega,rfl,by omega,hI,fun v hv hr=>?_⟩,by simp only; omega⟩
    by_cases hvk : v = k
    ·subst hvk
     exact (hI.vis v hlt).2 (by omega)
    ·exact hc v (by omega) hr
  ·rw [decide_eq_false h1,cond_false]
   simp only [Option.bind_some,cond_false]
   rw [wid (by omega) (by omega)]
   refine tot_some ⟨⟨k + 1,new,by omega,by simp only; omega,rfl,by omega,hI,fun v hv hr=>?_⟩,by simp only; omega⟩
   by_cases hvk : v = k
   ·subst hvk; omega
   ·exact hc v (by omega) hr
 ·obtain rfl : k = N:=by omega
  rw [show decide ((k : Int) < goLen row) = false from decide_eq_false (by simp only [goLen]; omega),cond_false]
  exact tot_some ⟨new,rfl,hI,hc⟩

theorem fl_nx {σ ρ : Type} {body : σ→Option (Stp σ ρ)} {x y : σ} (h : body x = some (.next y)) : loopC body x = loopC body y:=by rw [loopC_eq,h]

theorem fl_dn {σ ρ : Type} {body : σ→Option (Stp σ ρ)} {x : σ} {r : ρ} (h : body x = some (.done r)) : loopC body x = some r:=by rw [loopC_eq,h]

theorem push_bfs {N f t : Nat} {x : List (List Int)} (hs : Shp N N x) (hN : N ≤ 500) (ht : t < N) : ∀ (n : Nat) (dn qu : List Nat) (b : List Int),N - dn.length ≤ n→SrI N (mt x) f b (dn ++ qu)→(∀ u ∈ dn,∀ v,v < N→0 < mt x u v→v ∈ dn ++ qu) →
  Tot (loopC (impl_push_l3 (t : Int) x) (b,qn qu)) fun b'=>∃ ord,SrI N (mt x) f b' ord∧(bk b' t < 0→∀ u ∈ ord,∀ v,v < N→0 < mt x u v→v ∈ ord):=by
 intro n
 induction n with
 | zero =>
  intro dn qu b hn h hc
  have hlen:=h.sr.len
  rw [List.length_append] at hlen
  obtain rfl : qu = []:=List.eq_nil_of_length_eq_zero (by omega)
  have e : impl_push_l3 (t : Int) x (b,qn []) = some (.done b):=by
   simp only [impl_push_l3,qn,List.map_nil]
   rfl
  rw [fl_dn e]
  rw [List.append_nil] at h hc
  exact tot_some ⟨dn,h,fun _=>hc⟩
 | succ n ih =>
  intro dn qu b hn h hc
  have hlen:=h.sr.len
  rw [List.length_append] at hlen
  have hbl:=h.bl
  cases qu with
  | nil =>
   have e : impl_push_l3 (t : Int) x (b,qn []) = some (.done b):=by
    simp only [impl_push_l3,qn,List.map_nil]
    rfl
   rw [fl_dn e]
   rw [List.append_nil] at h hc
   exact tot_some ⟨dn,h,fun _=>hc⟩
  | cons u qu =>
   have hb:=bk_at (b:=b) (v:=t) (by omega)
   by_cases hbt : bk b t < 0
   ·have hu : u < N:=h.sr.lt u (by simp)
    obtain ⟨row,hrow,_,hrl,_,_⟩:=hs.get hu
    obtain ⟨⟨b2,q2⟩,e2,new,hq2,hI2,hc2⟩:=push_in (qu:=qu) hs (by omega) hrow h (by simp) (by simp at hlen; omega)
    simp only at hq2 hI2
    have e : impl_push_l3 (t : Int) x (b,qn (u :: qu)) = some (.next (b2,q2)):=by
     simp only [impl_push_l3]
     rw [show decide (0 < goLen (qn (u :: qu))) = true from decide_eq_true (by simp [goLen,qn] <;> omega),cond_true,at_ok hb]
     simp only [Option.bind_some]
     rw [decide_eq_true hbt,cond_true,show goAt (qn (u :: qu)) 0 = some (u : Int) from rfl]
     simp only [Option.bind_some]
     obtain ⟨l,hl,hq⟩ : Tot (goSub (qn (u :: qu)) 1 (goLen (qn (u :: qu)))) (fun l=>l = qn qu):=tot_sub (by omega) (by simp [goLen,qn]; omega) (by simp only [goLen]; omega) (by
      simp only [goLen]
      rw [show (1 : Int).toNat = 1 from rfl,Int.toNat_natCast,List.take_of_length_le (by simp)]
      rfl)
     rw [hl,hq]
     simp only [Option.bind_some]
     rw [at_ok hrow]
     simp only [Option.bind_some]
     rw [e2]
     rfl
    rw [fl_nx e,hq2]
    have e3 : dn ++ u :: qu ++ new = dn ++ [u] ++ (qu ++ new):=by simp
    rw [e3] at hI2
    refine ih (dn ++ [u]) (qu ++ new) b2 (by simp at hlen ⊢; omega) hI2 fun w hw v hv hr=>?_
    rw [← e3]
    rcases List.mem_append.1 hw with hw | hw
    ·exact List.mem_append_left _ (hc w hw v hv hr)
    ·obtain rfl:=List.mem_singleton.1 hw
     exact hc2 v hv hr
   ·have e : impl_push_l3 (t : Int) x (b,qn (u :: qu)) = some (.done b):=by
     simp only [impl_push_l3]
     rw [show decide (0 < goLen (qn (u :: qu))) = true from decide_eq_true (by simp [goLen,qn] <;> omega),cond_true,at_ok hb]
     simp only [Option.bind_some]
     rw [decide_eq_false hbt]
     rfl
    rw [fl_dn e]
    exact tot_some ⟨dn ++ u :: qu,h,fun hc=>absurd hc hbt⟩

def minE (r : Nat→Nat→Int) : Int→List Nat→Int
 | s,v0 :: v1 :: rest=>minE r (min s (r v1 v0)) (v1 :: rest)
 | s,_=>s

theorem minE_le (r : Nat→Nat→Int) : ∀ (path : List Nat) (s : Int),minE r s path ≤ s
 | [],_=>Int.le_refl _
 | [_],_=>Int.le_refl _
 | v0 :: v1 :: rest,s=>by
  have:=minE_le r (v1 :: rest) (min s (r v1 v0))
  show minE r (min s (r v1 v0)) (v1 :: rest) ≤ s
  omega

theorem minE_edges (r : Nat→Nat→Int) : ∀ (path : List Nat) (s : Int),EdgesOk r (minE r s path) path
 | [],_=>trivial
 | [_],_=>trivial
 | v0 :: v1 :: rest,s=>by
  refine ⟨?_,minE_edges r (v1 :: rest) (min s (r v1 v0))⟩
  have:=minE_le r (v1 :: rest) (min s (r v1 v0))
  show minE r (min s (r v1 v0)) (v1 :: rest) ≤ r v1 v0
  omega

theorem minE_pos {r : Nat→Nat→Int} {c : Int} : ∀ {path : List Nat} {s : Int},c ≤ s→EdgesOk r c path→c ≤ minE r s path
 | [],_,h,_=>h
 | [_],_,h,_=>h
 | v0 :: v1 :: rest,s,h,he=>by
  have h1:=he.1
  exact minE_pos (path:=v1 :: rest) (s:=min s (r v1 v0)) (by omega) he.2

theorem push_min {N f : Nat} {x : List (List Int)} {b : List Int} (hs : Shp N N x) (hb : b.length = N) : ∀ (path : List Nat) (v : Nat) (s : Int),path.head? = some v→(∀ w ∈ path,w < N)→WayB (fun v=>v = f) (bk b) path →
  loopC (impl_push_l5 (f : Int) x b) (s,(v : Int)) = some (minE (mt x) s path)
 | [],v,s,h,_,_=>by simp at h
 | [v0],v,s,h,_,hw=>by
  simp only [List.head?_cons,Option.some.injEq] at h
  subst h
  have hw : v0 = f:=hw
  subst hw
  refine fl_dn ?_
  simp [impl_push_l5,minE]
 | v0 :: v1 :: rest,v,s,h,hlt,hw=>by
  simp only [List.head?_cons,Option.some.injEq] at h
  subst h
  obtain ⟨hn,hb1,hw2⟩:=hw
  have h0:=hlt v0 (by simp)
  have h1:=hlt v1 (by simp)
  obtain ⟨row,hrow,_,_,_,_⟩:=hs.get h1
  have hbv:=bk_at (b:=b) (v:=v0) (by omega)
  rw [hb1] at hbv
  have e : impl_push_l5 (f : Int) x b (s,(v0 : Int)) = some (.next (min s (mt x v1 v0),(v1 : Int))):=by
   simp only [impl_push_l5]
   rw [show ((v0 : Int) != (f : Int)) = true by rw [bne_iff_ne]; omega,cond_true,at_ok hbv]
   simp only [Option.bind_some]
   rw [at_ok hrow]
   simp only [Option.bind_some]
   rw [at_ok (hs.el hrow h0)]
   rfl
  rw [fl_nx e]
  exact push_min hs hb (v1 :: rest) v1 _ rfl (fun w hw=>hlt w (List.mem_cons_of_mem _ hw)) hw2

theorem push_aug {N f : Nat} {b : List Int} {st : Int} (hb : b.length = N) (hst : 0 ≤ st∧st ≤ 10000000000) : ∀ (path : List Nat) (x : List (List Int)) (v : Nat) (B : Int),path.head? = some v→path.Nodup→(∀ w ∈ path,w < N)→WayB (fun v=>v = f) (bk b) path→Shp N N x →
  (∀ i j,i < N→j < N→-B ≤ mt x i j∧mt x i j ≤ B)→B + st * path.length ≤ 1000000000000000 →
  ∃ y,loopC (impl_push_l6 (f : Int) b st) (x,(v : Int)) = some y∧Shp N N y∧∀ i j,mt y i j = augP st (mt x) path i j
 | [],x,v,B,h,_,_,_,_,_,_=>by simp at h
 | [v0],x,v,B,h,_,_,hw,hs,_,_=>by
  simp only [List.head?_cons,Option.some.injEq] at h
  subst h
  have hw : v0 = f:=hw
  subst hw
  refine ⟨x,fl_dn ?_,hs,fun _ _=>rfl⟩
  simp [impl_push_l6]
 | v0 :: v1 :: rest,x,v,B,h,hnd,hlt,hw,hs,hB,hBl=>by
  simp only [List.head?_cons,Option.some.injEq] at h
  subst h
  obtain ⟨hn,hb1,hw2⟩:=hw
  have h0:=hlt v0 (by simp)
  have h1:=hlt v1 (by simp)
  have hne : v1 ≠ v0:=fun e=>(List.nodup_cons.1 hnd).1 (by simp [e])
  obtain ⟨row,hrow,_,_,_,_⟩:=hs.get h1
  have hbv:=bk_at (b:=b) (v:=v0) (by omega)
  rw [hb1] at hbv
  have b1:=hB v1 v0 h1 h0
  have b2:=hB v0 v1 h0 h1
  have hl : (path : List Nat)→path = v0 :: v1 :: rest→st * (path.length : Int) = st * ((v1 :: rest).length : Int) + st:=fun path hp=>by
   subst hp
   rw [List.length_cons (a:=v0),Int.natCast_add,Int.mul_add]
   simp
  have hl:=hl _ rfl
  have hnn : 0 ≤ st * ((v1 :: rest).length : Int):=Int.mul_nonneg hst.1 (by omega)
  have hB0 : 0 ≤ B:=by omega
  have hs1:=hs.upd (j:=v0) (v:=mt x v1 v0 - st) h1
  obtain ⟨row0,hrow0,_,_,_,_⟩:=hs1.get h0
  have hel0:=hs1.el hrow0 h1
  rw [mt_upd hs h1 h0,if_neg (fun hc=>hne hc.1.symm)] at hel0
  have e : impl_push_l6 (f : Int) b st (x,(v0 : Int)) = some (.next (upd (upd x v1 v0 (mt x v1 v0 - st)) v0 v1 (mt x v0 v1 + st),(v1 : Int))):=by
   simp only [impl_push_l6]
   rw [show ((v0 : Int) != (f : Int)) = true by rw [bne_iff_ne]; omega,cond_true,at_ok hbv]
   simp only [Option.bind_some]
   rw [at_ok hrow]
   simp only [Option.bind_some]
   rw [at_ok (hs.el hrow h0)]
   simp only [Option.bind_some,goSet,Int.toNat_natCast]
   rw [wid (n:=mt x v1 v0 - st) (by omega) (by omega),set_upd hrow,at_ok hrow0]
   simp only [Option.bind_some]
   rw [at_ok hel0]
   simp only [Option.bind_some]
   rw [wid (n:=mt x v0 v1 + st) (by omega) (by omega),set_upd hrow0]
  rw [fl_nx e]
  have hs2:=hs1.upd (j:=v1) (v:=mt x v0 v1 + st) h0
  have hm:=mt_aug hs h1 h0 hne st
  obtain ⟨y,e3,hy,hy2⟩:=push_aug hb hst (v1 :: rest) _ v1 (B + st) rfl (List.nodup_cons.1 hnd).2 (fun w hw=>hlt w (List.mem_cons_of_mem _ hw)) hw2 hs2 (fun i j hi hj=>by
   rw [hm]
   have:=hB i j hi hj
   unfold augE
   split
   ·rename_i hc; obtain ⟨rfl,rfl⟩:=hc; omega
   ·split
    ·rename_i hc; obtain ⟨rfl,rfl⟩:=hc; omega
    ·omega) (by omega)
  refine ⟨y,e3,hy,fun i j=>?_⟩
  rw [hy2]
  show augP st (mt _) (v1 :: rest) i j = augP st (augE (mt x) v1 v0 st) (v1 :: rest) i j
  exact augP_congr hm i j

theorem push_ok {N f t : Nat} {x : List (List Int)} {limit : Int} (hs : Shp N N x) (h0 : ∀ i j,i < N→j < N→0 ≤ mt x i j∧mt x i j ≤ 1000000) (hN : N ≤ 100) (hf : f < N) (ht : t < N) (hft : f ≠ t) (hl : 0 ≤ limit∧limit ≤ 1000000000) :
  ∃ (w : Int) (y : List (List Int)),impl_push x (f : Int) (t : Int) limit = some (w,y)∧Shp N N y∧Res N (mt x) (mt y) f t w∧0 ≤ w∧w ≤ limit∧(w = limit ∨ ∀ v g,FlowN N (mt x) f t v g→v ≤ w):=by
 unfold impl_push
 have h : Tot (loopC (impl_push_l1 (f : Int) (t : Int) limit) (x,0)) fun o=>Shp N N o.1∧Res N (mt x) (mt o.1) f t o.2∧0 ≤ o.2∧o.2 ≤ limit∧(o.2 = limit ∨ ∀ v g,FlowN N (mt x) f t v g→v ≤ o.2):=by
  refine tot_loop (fun s=>Shp N N s.1∧Res N (mt x) (mt s.1) f t s.2∧0 ≤ s.2∧s.2 ≤ limit) (fun s=>(limit - s.2).toNat) ⟨hs,Res.start fun i j hi hj=>(h0 i j hi hj).1,by omega,by simp only; omega⟩ ?_
  rintro ⟨y,w⟩ ⟨hy,hR,hw0,hwl⟩
  simp only at hy hR hw0 hwl
  simp only [impl_push_l1]
  by_cases hlt : w < limit
  ·rw [decide_eq_true hlt,cond_true,show goLen y = ((N : Nat) : Int) by simp only [goLen]; rw [hy.len],goMake_ok (by omega) (by omega),Option.bind_some]
   have hfill : loopC (impl_push_l2 (List.replicate N 0)) (List.replicate N 0,0) = some (List.replicate N (-1)):=by
    have h:=loop_map (l:=List.replicate N (0 : Int)) (fun _=>(-1 : Int)) (0 : Int) (impl_push_l2 (List.replicate N 0)) (fun k v out hv ho=>by
     have hk:=(List.getElem?_eq_some_iff.1 hv).1
     have e : goAt out (k : Int) = some out[k]:=at_ok (by simp [ho,hk])
     simp only [impl_push_l2,lt_ok hv,cond_true,e,Option.bind_some,nx_ok hv (show (List.replicate N (0 : Int)).length ≤ 9223372036854775807 by simp; omega),goSet,Int.toNat_natCast]) (fun out=>by
     simp only [impl_push_l2,lt_end,cond_false])
    simpa using h
   rw [hfill,Option.bind_some]
   have hfb : (List.replicate N (-1 : Int))[f]? = some (-1):=by simp [hf]
   rw [at_ok hfb,Option.bind_some]
   simp only [goSet,Int.toNat_natCast]
   have hbk : ∀ v,bk ((List.replicate N (-1 : Int)).set f (f : Int)) v = if v = f then (f : Int) else -1:=fun v=>by
    rw [bk_set (by simp; exact hf)]
    by_cases hv : v = f
    ·rw [if_pos hv,if_pos hv]
    ·rw [if_neg hv,if_neg hv]
     unfold bk
     rw [List.getD_eq_getElem?_getD,List.getElem?_replicate]
     split <;> rfl
   have hI : SrI N (mt y) f ((List.replicate N (-1 : Int)).set f (f : Int)) ([] ++ [f]):=by
    refine ⟨by simp,⟨by simp,by simp; exact hf,fun k v hk=>?_⟩,fun v hv=>?_,by simp⟩
    ·cases k with
     | zero=>simp at hk; exact .inl hk.symm
     | succ k=>simp at hk
    ·rw [hbk]
     by_cases hvf : v = f
     ·subst hvf; simp
     ·simp [hvf]
   obtain ⟨b,eb,ord,hO,hcl⟩:=push_bfs (t:=t) hy (by omega) ht N [] [f] _ (by omega) hI (by simp)
   rw [show ([(f : Int)] : List Int) = qn [f] from rfl,eb,Option.bind_some]
   have hbl:=hO.bl
   rw [at_ok (bk_at (b:=b) (v:=t) (by omega)),Option.bind_some]
   by_cases hbt : bk b t < 0
   ·rw [decide_eq_true hbt,cond_true]
    refine tot_some ⟨hy,hR,hw0,hwl,.inr ?_⟩
    have hcl:=hcl hbt
    refine hR.max hf hft (S:=fun v=>decide (v ∈ ord)) (by simpa using hO.fr) (by
     have:=(hO.vis t ht)
     simp only [decide_eq_false_iff_not]
     intro hc
     have:=this.1 hc
     omega) fun i j hi hj h1 h2=>?_
    have h1 : i ∈ ord:=by simpa using h1
    have h2 : j ∉ ord:=by simpa using h2
    have h3:=hR.nn i j hi hj
    rcases Int.lt_or_eq_of_le h3 with h4 | h4
    ·exact absurd (hcl i h1 j hj h4) h2
    ·exact h4.symm
   ·rw [decide_eq_false hbt,cond_false]
    have htm:=(hO.vis t ht).2 (by omega)
    obtain ⟨k,hk⟩:=List.getElem?_of_mem htm
    obtain ⟨path,a,p1,p2,rfl,p3,p4,p5,p6⟩:=hO.sr.path k t hk
    have hplt : ∀ v ∈ path,v < N:=fun v hv=>by
     obtain ⟨i,_,hi⟩:=p4 v hv
     exact hO.sr.lt v (List.mem_of_getElem? hi)
    have hpl:=nd_len N path p3 hplt
    rw [wid (n:=limit - w) (by omega) (by omega),push_min hy hbl path t _ p1 hplt p5,Option.bind_some]
    have hs1:=minE_le (mt y) path (limit - w)
    have hs2 : 1 ≤ minE (mt y) (limit - w) path:=minE_pos (by omega) p6
    have hs3:=minE_edges (mt y) path (limit - w)
    generalize minE (mt y) (limit - w) path = st at hs1 hs2 hs3
    have hbd : ∀ i j,i < N→j < N→-2000000 ≤ mt y i j∧mt y i j ≤ 2000000:=fun i j hi hj=>by
     have a1:=hR.nn i j hi hj; have a2:=hR.nn j i hj hi; have a3:=hR.sym i j hi hj
     have a4:=h0 i j hi hj; have a5:=h0 j i hj hi
     omega
    have hmul : st * (path.length : Int) ≤ 1000000000 * 100:=by
     have h1 : st * (path.length : Int) ≤ st * 100:=Int.mul_le_mul_of_nonneg_left (by omega) (by omega)
     omega
    obtain ⟨z,ez,hz,hz2⟩:=push_aug (st:=st) hbl ⟨by omega,by omega⟩ path y t 2000000 p1 p3 hplt p5 hy hbd (by omega)
    rw [ez,Option.bind_some,wid (by omega) (by omega)]
    have hR2:=hR.aug (s:=st) (by omega) p3 hplt hs3 p1 p2
    have hR3 : Res N (mt x) (mt z) a t (w + st):=⟨fun i j hi hj=>by rw [hz2]; exact hR2.nn i j hi hj,fun i j hi hj=>by rw [hz2,hz2]; exact hR2.sym i j hi hj,fun i hi=>by
     rw [← hR2.sum i hi]
     exact sm_congr fun j _=>hz2 i j⟩
    exact tot_some ⟨⟨hz,hR3,by simp only; omega,by simp only; omega⟩,by simp only; omega⟩
  ·rw [decide_eq_false hlt,cond_false]
   exact tot_some ⟨hy,hR,hw0,hwl,.inl (by simp only; omega)⟩
 obtain ⟨⟨y,w⟩,e,g1,g2,g3,g4,g5⟩:=h
 rw [e]
 exact ⟨w,y,rfl,g1,g2,g3,g4,g5⟩

end Go.Gx.F
