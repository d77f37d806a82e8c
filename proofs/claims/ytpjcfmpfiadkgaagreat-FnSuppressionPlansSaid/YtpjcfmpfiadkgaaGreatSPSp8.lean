/- Plain laws: checked plans on both sides; patterns by the cells that they add; what is drawn. -/
import Derived.Test.YtpjcfmpfiadkgaaGreatSPSp7

namespace Go.Gx.F

open Go.Gx

set_option linter.all false

set_option maxRecDepth 10000

section

variable {n m n' m' : Nat} {x p q : List (List Int)} {d u : Int}

theorem Sup.same (hS : Sup n m x q) (hS' : Sup n' m' x p) : n' = n∧m' = m:=by
 have e1:=hS.xs.len; have e2:=hS'.xs.len
 have n1:=hS.n1
 obtain ⟨r,hr,hm,hl,_,_⟩:=hS.xs.get (i:=0) (by omega)
 have:=hS'.xs.row r hm
 omega

theorem twoWay_of (h : impl_areSuppressed x q = some true) : impl_IsTwoWay x = some true:=by
 unfold impl_areSuppressed at h
 cases h2 : impl_IsTwoWay x with
 | none=>rw [h2] at h; cases h
 | some b =>
  cases b with
  | true=>rfl
  | false=>rw [h2] at h; cases h

theorem pattern_of (h : impl_IsTwoWay x = some true) {b : Bool} (h2 : impl_areSuppressed x p = some b) : impl_isPattern x p = some b:=by
 unfold impl_areSuppressed at h2
 rw [h] at h2
 simp only [Option.bind_some,cond_true] at h2
 cases h3 : impl_isPattern x p with
 | none=>rw [h3] at h2; cases h2
 | some c=>rw [h3] at h2; exact h2

theorem cov_of (hq : Shp n m q) (hpb : ∀ i j,i < n→j < m→0 ≤ mt p i j∧mt p i j ≤ 1) : (!anyN (fun i=>anyN (fun j=>is1 q i j && mt p i j == 0) m) n) = true ↔ Cov n m p q:=by
 rw [Bool.not_eq_true',← Bool.not_eq_true,anyN_iff]
 constructor
 ·intro h i j hi hj h1
  have hb:=hpb i j hi hj
  by_cases h0 : mt p i j = 0
  ·exact absurd ⟨i,hi,anyN_iff.2 ⟨j,hj,by rw [is1_iff.2 h1,h0]; rfl⟩⟩ h
  ·omega
 ·rintro h ⟨i,hi,h2⟩
  obtain ⟨j,hj,h3⟩:=anyN_iff.1 h2
  rw [Bool.and_eq_true,beq_iff_eq] at h3
  have:=h i j hi hj (is1_iff.1 h3.1)
  omega

theorem check_same (hx : Sz x) (hq : Sz q) (pl : impl_Plan) (hp : Sz pl.Pattern) : ∃ r,impl_CheckPlan x q d u pl = some r∧spec_CheckPlan x q d u pl = some r ∧
  (∀ n m,Sup n m x q→Sup n m x pl.Pattern→Cov n m pl.Pattern q→(0 ≤ d∧d ≤ 1000∧0 ≤ u∧u ≤ 1000)→impl_areMargins d u = some true→impl_areSuppressed x q = some true→impl_areSuppressed x pl.Pattern = some true→sfB n m x q pl.Pattern d u = true→pl.Added = cntP n m q pl.Pattern→pl.Value = valP n m x q pl.Pattern→r = (0,true)):=by
 obtain ⟨c,e1,e2,hc⟩:=sup_bis hx hq
 obtain ⟨lb,m1,m2,m3⟩:=levels_ok d u
 obtain ⟨b,f1,f2,hb⟩:=sup_bis hx hp
 unfold impl_CheckPlan spec_CheckPlan
 rw [e1,e2,m1,m2]
 by_cases hcl : (c && lb) = true
 ·rw [Bool.and_eq_true] at hcl
  obtain ⟨rfl,rfl⟩:=hcl
  obtain ⟨n,m,hS⟩:=hc rfl
  have hd:=m3 rfl
  have h2:=twoWay_of e1
  have hpat:=pattern_of h2 f1
  unfold spec_vInput
  rw [hpat,f2]
  simp only [Option.bind_some,Bool.not_true,cond_false]
  cases b with
  | false=>exact ⟨(1,true),rfl,rfl,fun n m _ _ _ _ _ _ h=>(by rw [f1] at h; cases h)⟩
  | true =>
   obtain ⟨n',m',hP⟩:=hb rfl
   obtain ⟨rfl,rfl⟩:=hS.same hP
   simp only [Bool.not_true,cond_false,cond_true,Option.bind_some]
   rw [e2]
   simp only [cond_true,Option.bind_some]
   rw [covers_ok hP.ps hS.ps hS.n8 hS.m8,vContains_ok hP.ps hS.ps hS.n8 hS.m8]
   have hcov:=cov_of (q:=q) (p:=pl.Pattern) hS.ps hP.pb
   cases hcc : (!anyN (fun i=>anyN (fun j=>is1 q i j && mt pl.Pattern i j == 0) m') n') with
   | false =>
    refine ⟨(1,true),rfl,rfl,fun n m a1 a2 a3 _ _ _ _ _ _ _=>?_⟩
    obtain ⟨rfl,rfl⟩:=hS.same a1
    have:=hcov.2 a3
    rw [hcc] at this
    cases this
   | true =>
    have hC:=hcov.1 hcc
    simp only [Option.bind_some,Bool.not_true,cond_false]
    rw [protects_ok hP hS.ps hC hd,vSafe_ok hP hS.ps hC hd]
    cases hsf : sfB n' m' x q pl.Pattern d u with
    | false =>
     refine ⟨(2,true),rfl,rfl,fun n m a1 _ _ _ _ _ _ a8 _ _=>?_⟩
     obtain ⟨rfl,rfl⟩:=hS.same a1
     rw [hsf] at a8; cases a8
    | true =>
     simp only [Option.bind_some,Bool.not_true,cond_false]
     rw [positions_ok hP.ps hP.n8 hP.m8,Option.bind_some,checkL_ok hP hS.ps,vPlan_ok hP hS.ps]
     simp only [Option.bind_some]
     by_cases hA : pl.Added = cntP n' m' q pl.Pattern
     ·by_cases hV : pl.Value = valP n' m' x q pl.Pattern
      ·rw [hA,hV,bne_self_eq_false,bne_self_eq_false]
       exact ⟨(0,true),rfl,rfl,fun n m _ _ _ _ _ _ _ _ _ _=>rfl⟩
      ·rw [hA,bne_self_eq_false,show (pl.Value != valP n' m' x q pl.Pattern) = true by rw [bne_iff_ne]; exact hV,show (valP n' m' x q pl.Pattern != pl.Value) = true by rw [bne_iff_ne]; exact fun h=>hV h.symm]
       refine ⟨(3,true),rfl,rfl,fun n m a1 _ _ _ _ _ _ _ _ a10=>?_⟩
       obtain ⟨rfl,rfl⟩:=hS.same a1
       exact absurd a10 hV
     ·rw [show (pl.Added != cntP n' m' q pl.Pattern) = true by rw [bne_iff_ne]; exact hA,show (cntP n' m' q pl.Pattern != pl.Added) = true by rw [bne_iff_ne]; exact fun h=>hA h.symm]
      refine ⟨(3,true),rfl,rfl,fun n m a1 _ _ _ _ _ _ _ a9 _=>?_⟩
      obtain ⟨rfl,rfl⟩:=hS.same a1
      exact absurd a9 hA
 ·have hcl' : (c && lb) = false:=by cases h : (c && lb) with | false=>rfl | true=>exact absurd h hcl
  cases c with
  | false=>exact ⟨(0,false),rfl,rfl,fun n m _ _ _ _ _ h=>(by cases h)⟩
  | true =>
   cases lb with
   | true=>cases hcl'
   | false=>exact ⟨(0,false),rfl,rfl,fun n m _ _ _ _ h=>(by cases h)⟩

theorem bitsN_sort (k F : Nat) : (bitsN k F).Pairwise (· < ·):=List.pairwise_lt_range.filter _

theorem cellsK_nodup (k : Nat) : (cellsK (freeK n m q) k).Nodup:=by
 have h : (cellsK (freeK n m q) k).Pairwise (· < ·):=by
  unfold cellsK
  rw [List.pairwise_map]
  refine List.Pairwise.imp_of_mem (fun {i j} hi hj hij=>?_) (bitsN_sort k _)
  have h1:=bitsN_lt hi
  have h2:=bitsN_lt hj
  rw [List.getD_eq_getElem?_getD,List.getElem?_eq_getElem h1,List.getD_eq_getElem?_getD,List.getElem?_eq_getElem h2]
  exact List.pairwise_iff_getElem.1 freeK_sort i j h1 h2 hij
 exact h.imp fun h=>Nat.ne_of_lt h

theorem cells_of (hS : Sup n m x q) (hP : Sup n m x p) (hc : Cov n m p q) : ∃ k,k < 2 ^ (freeK n m q).length∧wthK m q (cellsK (freeK n m q) k) = p:=by
 obtain ⟨k,hk,hkb⟩:=mask_ex (fun b=>at1 m (mt p) ((freeK n m q).getD b 0) == 1) (freeK n m q).length
 refine ⟨k,hk,?_⟩
 obtain ⟨w1,w2⟩:=wthK_ok hS.ps (C:=cellsK (freeK n m q) k) (cells_lt k)
 refine w1.ext hP.ps fun i j hi hj=>?_
 have hkn:=pos_lt hi hj
 have e:=w2 _ hkn
 rw [at1_ij hj,at1_ij hj] at e
 rw [e]
 have hqb:=hS.pb i j hi hj
 have hpb:=hP.pb i j hi hj
 by_cases hm : i * m + j ∈ cellsK (freeK n m q) k
 ·rw [if_pos hm]
  unfold cellsK at hm
  obtain ⟨b,hb,eb⟩:=List.mem_map.1 hm
  have hbit:=(List.mem_filter.1 hb).2
  have h2:=hkb b (bitsN_lt hb)
  have h3 : bit k b = decide (k / 2 ^ b % 2 = 1):=rfl
  rw [h3,h2,eb,beq_iff_eq,at1_ij hj] at hbit
  exact hbit.symm
 ·rw [if_neg hm]
  by_cases h1 : mt q i j = 1
  ·rw [h1,hc i j hi hj h1]
  ·have h0 : mt q i j = 0:=by omega
   have hf : i * m + j ∈ freeK n m q:=freeK_mem.2 ⟨hkn,by rw [at1_ij hj]; exact h0⟩
   obtain ⟨b,hb,eb⟩:=List.mem_iff_getElem.1 hf
   have ed : (freeK n m q).getD b 0 = i * m + j:=by rw [List.getD_eq_getElem?_getD,List.getElem?_eq_getElem hb]; exact eb
   have h2:=hkb b hb
   rw [h0]
   by_cases hp1 : mt p i j = 1
   ·exfalso
    apply hm
    unfold cellsK
    refine List.mem_map.2 ⟨b,List.mem_filter.2 ⟨List.mem_range.2 hb,?_⟩,ed⟩
    show decide (k / 2 ^ b % 2 = 1) = true
    rw [h2,ed,beq_iff_eq,at1_ij hj]
    exact hp1
   ·omega

end

theorem tprotL {B : Nat} {c : spec_l1Cur} (h : Cur B c) (hB : B ≤ 100000:=by omega) : Tot (spec_l1Cur_protection c) fun r=>(Sz5 r.1∧Sz r.2.1∧r.2.1.length = r.1.length)∧Cur (B + 400) r.2.2.2.2:=by
 unfold spec_l1Cur_protection
 refine tot_bind (tanyTwo5 h) fun ⟨x,c1⟩ ⟨hx,k1⟩=>?_
 simp only at hx k1 ⊢
 obtain ⟨x1,x2⟩:=hx
 refine tot_bind (Q:=fun r=>(r.1.length = x.length∧∀ q ∈ r.1,q.length ≤ 5)∧Cur (B + 210) r.2) (tot_loop (fun s=>∃ k : Nat,s.2.1 = (k : Int)∧k ≤ x.length∧s.1.length = k∧(∀ r ∈ s.1,r.length ≤ 5)∧Cur (B + 110 + 10 * k) s.2.2) (fun s=>10 - s.2.1.toNat) ⟨0,rfl,by omega,rfl,fun r hr=>by simp at hr,k1.le (by omega)⟩ ?_) fun ⟨o,c3⟩ ⟨ho,k3⟩=>?_
 ·rintro ⟨out,i,c3⟩ ⟨k,hk,hkx,hlen,hrs,k3⟩
  simp only at hk hlen hrs k3
  subst hk
  simp only [spec_l1Cur_protection_l1]
  refine tot_cond (fun hc=>?_) fun hc=>tot_some ⟨⟨by
   have hc' : ¬ (k : Int) < goLen x:=by simpa using hc
   simp only [goLen] at hc' ⊢
   omega,hrs⟩,k3.le (by omega)⟩
  have hc' : (k : Int) < goLen x:=by simpa using hc
  simp only [goLen] at hc'
  refine tot_bind (tot_at (Q:=fun e=>e.length ≤ 5) (by omega) (by omega) fun e _ he=>x2 e he) fun e he2=>?_
  refine tot_bind (tot_make (n:=e.length) (Q:=fun l=>l.length = e.length) rfl (by omega) (by omega) (by simp)) fun z hz=>?_
  refine tot_bind (Q:=fun r=>r.1.length = e.length∧Cur (B + 110 + 10 * (k + 1)) r.2) (tot_loop (fun s=>∃ j : Nat,s.2.1 = (j : Int)∧j ≤ e.length∧s.1.length = e.length∧Cur (B + 110 + 10 * k + 2 * j) s.2.2) (fun s=>10 - s.2.1.toNat) ⟨0,rfl,by omega,hz,k3.le (by omega)⟩ ?_) fun ⟨row,c4⟩ ⟨hrow,k4⟩=>?_
  ·rintro ⟨row,j',c4⟩ ⟨j,hj,hjy,hrl,k4⟩
   simp only at hj hrl k4
   subst hj
   simp only [spec_l1Cur_protection_l2]
   refine tot_cond (fun hd=>?_) fun hd=>tot_some ⟨hrl,k4.le (by omega)⟩
   have hd' : (j : Int) < goLen z:=by simpa using hd
   simp only [goLen] at hd'
   refine tot_bind (Q:=fun r : Bool × spec_l1Cur=>Cur (B + 110 + 10 * k + 2 * (j + 1)) r.2) ?_ fun ⟨v,c6⟩ k6=>?_
   ·refine tot_bind (tot_at (Q:=fun _=>True) (by omega) (by omega) fun _ _ _=>trivial) fun v _=>?_
    refine tot_cond (fun _=>?_) fun _=>tot_bind (tone k4) fun r k6=>tot_some (k6.le (by omega))
    refine tot_bind (tot_at (Q:=fun _=>True) (by omega) (by omega) fun _ _ _=>trivial) fun v _=>?_
    exact tot_cond (fun _=>tot_some (k4.le (by omega))) fun _=>tot_bind (tone k4) fun r k6=>tot_some (k6.le (by omega))
   simp only at k6 ⊢
   refine tot_bind (Q:=fun l=>l.length = e.length) (tot_cond (fun _=>?_) fun _=>tot_some hrl) fun l hl=>tot_some ⟨⟨j + 1,?_,by omega,hl,k6⟩,?_⟩
   ·exact tot_bind (tot_at (Q:=fun _=>True) (by omega) (by omega) fun _ _ _=>trivial) fun _ _=>tot_some (by simp [hrl])
   ·simp only; rw [wid (by omega) (by omega)]; omega
   ·simp only; rw [wid (by omega) (by omega)]; omega
  ·simp only at hrow k4
   refine tot_bind (tot_app (Q:=fun l=>l = out ++ [row]) (by simp; omega) rfl) fun l hl=>tot_some ⟨⟨k + 1,?_,by omega,by simp only; rw [hl]; simp [hlen],fun r hr=>?_,k4⟩,?_⟩
   ·simp only; rw [wid (by omega) (by omega)]; omega
   ·simp only at hr
    rw [hl,List.mem_append,List.mem_singleton] at hr
    rcases hr with hr | rfl
    ·exact hrs r hr
    ·omega
   ·simp only; rw [wid (by omega) (by omega)]; omega
 ·simp only at ho k3 ⊢
  obtain ⟨o1,o2⟩:=ho
  have hsz : Sz5 o:=⟨by omega,o2⟩
  refine tot_bind (Q:=fun r=>(r.1 = true→∃ e,goAt o 0 = some e∧1 ≤ e.length)∧Cur (B + 212) r.2) ?_ fun ⟨b,c4⟩ ⟨hb,k4⟩=>?_
  ·refine tot_cond (fun h1=>?_) fun _=>tot_some ⟨fun h=>(by cases h),k3.le (by omega)⟩
   have h1' : 0 < goLen o:=by simpa using h1
   simp only [goLen] at h1'
   have e0 : goAt o 0 = some (o[0]'(by omega)):=at_ok (k:=0) (by simp <;> omega)
   rw [e0,Option.bind_some]
   refine tot_cond (fun h2=>?_) fun _=>tot_some ⟨fun h=>(by cases h),k3.le (by omega)⟩
   have h2' : 0 < goLen (o[0]'(by omega)):=by simpa using h2
   simp only [goLen] at h2'
   exact tot_bind (tone k3) fun ⟨v,c5⟩ k5=>tot_some ⟨fun _=>⟨_,rfl,by omega⟩,k5.le (by omega)⟩
  ·simp only at hb k4 ⊢
   refine tot_bind (Q:=fun r : List (List Int)=>Sz r∧r.length = x.length) ?_ fun r hr=>?_
   ·refine tot_cond (fun h1=>?_) fun _=>tot_some ⟨hsz.sz,o1⟩
    obtain ⟨e,he,hel⟩:=hb h1
    rw [he,Option.bind_some]
    refine tot_bind (tot_at (Q:=fun _=>True) (by omega) (by omega) fun _ _ _=>trivial) fun _ _=>?_
    have hem : e ∈ o:=by
     obtain ⟨_,h2⟩:=goAt_some he
     exact List.mem_of_getElem? h2
    have:=o2 e hem
    exact tot_some ⟨(sz5_set hsz (by simp only [List.length_set]; omega)).sz,by simp only [goSet,List.length_set]; exact o1⟩
   ·refine tot_bind (tamong k4) fun ⟨d,c5⟩ ⟨_,k5⟩=>?_
    simp only at k5 ⊢
    refine tot_bind (tamong k5) fun ⟨u,c6⟩ ⟨_,k6⟩=>?_
    exact tot_some ⟨⟨⟨x1,x2⟩,hr.1,hr.2⟩,k6.le (by omega)⟩

theorem sz_take {x : List (List Int)} {i : Nat} (h : Sz x) : Sz (x.take i):=⟨by rw [List.length_take]; have:=h.1; omega,fun r hr=>h.2 r (List.mem_of_mem_take hr)⟩

theorem tDrawLeast {code : List (K .u8)} (ho : ∀ x ∈ code,Rng.ok x) : Tot (spec_DrawLeastPlan code) fun r=>Sz r.1∧Sz r.2.1:=by
 unfold spec_DrawLeastPlan
 refine tot_bind (tprotL (cur0 ho)) fun ⟨x,q,d,u,c⟩ ⟨⟨hx,hq,hl⟩,k⟩=>?_
 simp only at hx hq hl k ⊢
 refine tot_bind (Q:=fun r : List (List Int) × List (List Int)=>Sz r.1∧Sz r.2) (tot_cond (fun h3=>?_) fun _=>tot_some ⟨hx.sz,hq⟩) fun ⟨a,b⟩ h=>tot_some h
 have h3 : 3 < goLen x:=of_decide_eq_true h3
 simp only [goLen] at h3
 refine tot_bind (tot_sub (Q:=fun l=>l = x.take 3) (by omega) (by omega) (by omega) (by simp)) fun a ha=>?_
 refine tot_bind (tot_sub (Q:=fun l=>l = q.take 3) (by omega) (by omega) (by omega) (by simp)) fun b hb=>?_
 exact tot_some ⟨by simp only [ha]; exact sz_take hx.sz,by simp only [hb]; exact sz_take hq⟩

theorem greedy_same {x q : List (List Int)} {d u : Int} (hx : Sz x) (hq : Sz q) : ∃ r,impl_GreedyPlan x q d u = some r∧spec_GreedyPlan x q d u = some r ∧
  (r = (⟨[],0,0⟩,false) ∨ ∃ n m,Sup n m x q∧GrR n m x q d u r)∧(∀ n m,Sup n m x q→impl_areSuppressed x q = some true→impl_areMargins d u = some true→GrR n m x q d u r):=by
 obtain ⟨c,e1,e2,hc⟩:=sup_bis hx hq
 obtain ⟨lb,m1,m2,m3⟩:=levels_ok d u
 unfold impl_GreedyPlan spec_GreedyPlan
 rw [e1,e2,m1,m2]
 by_cases hcl : (c && lb) = true
 ·rw [Bool.and_eq_true] at hcl
  obtain ⟨rfl,rfl⟩:=hcl
  obtain ⟨n,m,hS⟩:=hc rfl
  have hd:=m3 rfl
  have h8:=hS.n8; have m8:=hS.m8; have n1:=hS.n1; have hql:=hS.ps.len
  obtain ⟨r,l1,l2,hr⟩:=greedy_loop (x:=x) hS.ps hS.pb hd _ q (Nat.le_refl _) hS fun i j _ _ h=>h
  have c0:=cnt_self (n:=n) (m:=m) (x:=x) (q:=q)
  rw [c0.1,c0.2] at l1
  simp only [Option.bind_some,Bool.not_true,cond_false]
  rw [copy_eq (hS.ps.sz (by omega) (by omega)) (by omega),tOwn_ok hS.ps (by omega) (by omega),Option.bind_some,Option.bind_some,l1,l2]
  exact ⟨r,rfl,rfl,.inr ⟨n,m,hS,hr⟩,fun n' m' hS' _ _=>by obtain ⟨rfl,rfl⟩:=hS.same hS'; exact hr⟩
 ·have hcl' : (c && lb) = false:=by cases h : (c && lb) with | false=>rfl | true=>exact absurd h hcl
  cases c with
  | false=>exact ⟨(⟨[],0,0⟩,false),rfl,rfl,.inl rfl,fun n m _ h=>(by cases h)⟩
  | true =>
   cases lb with
   | true=>cases hcl'
   | false=>exact ⟨(⟨[],0,0⟩,false),rfl,rfl,.inl rfl,fun n m _ _ h=>(by cases h)⟩

theorem sz_setP {x : List (List Int)} {i : Nat} {r : List Int} (h : Sz x) (hr : r.length ≤ 10) : Sz (x.set i r):=by
 refine ⟨by rw [List.length_set]; exact h.1,fun q hq=>?_⟩
 rcases List.mem_or_eq_of_mem_set hq with hq | rfl
 ·exact h.2 q hq
 ·exact hr

theorem tDrawCheck {code : List (K .u8)} (ho : ∀ x ∈ code,Rng.ok x) : Tot (spec_DrawCheckPlan code) fun r=>Sz r.1∧Sz r.2.1∧Sz r.2.2.2.2.Pattern:=by
 unfold spec_DrawCheckPlan
 refine tot_bind (tprotL (cur0 ho)) fun ⟨x,q,d,u,c⟩ ⟨⟨hx,hq,hl⟩,k⟩=>?_
 simp only at hx hq hl k ⊢
 obtain ⟨⟨pl,b⟩,_,e2,hr,_⟩:=greedy_same (d:=d) (u:=u) hx.sz hq
 rw [e2,Option.bind_some]
 simp only
 refine tot_cond (fun _=>tot_some ⟨hx.sz,hq,hq⟩) fun hb=>?_
 have hb : b = true:=by cases b with | true=>rfl | false=>cases hb
 subst hb
 rcases hr with hr | ⟨n,m,hS,hr⟩
 ·cases hr
 ·rcases hr with ⟨_,hP,_⟩ | ⟨h,_⟩
  ·simp only at hP
   have n1:=hP.n1; have m1:=hP.m1; have h8:=hP.n8; have m8:=hP.m8; have hpl:=hP.ps.len
   have hsz : Sz pl.Pattern:=hP.ps.sz (by omega) (by omega)
   obtain ⟨p0,hp0,_,hp0l,_,_⟩:=hP.ps.get (i:=0) (by omega)
   have gz : goAt pl.Pattern 0 = some p0:=at_ok (k:=0) hp0
   refine tot_bind (tpick k) fun ⟨v,c2⟩ _=>?_
   simp only
   refine tot_bind (Q:=fun pl' : impl_Plan=>Sz pl'.Pattern) ?_ fun pl' h=>tot_some ⟨hx.sz,hq,h⟩
   refine tot_cond (fun _=>?_) fun _=>tot_bind (Q:=fun pl' : impl_Plan=>Sz pl'.Pattern) (tot_cond (fun _=>tot_some hsz) fun _=>tot_bind (Q:=fun pl' : impl_Plan=>Sz pl'.Pattern) (tot_cond (fun _=>?_) fun _=>tot_some hsz) fun pl' h=>tot_some h) fun pl' h=>tot_some h
   ·rw [gz]
    simp only [Option.bind_some]
    refine tot_bind (tot_at (Q:=fun _=>True) (by omega) (by omega) fun _ _ _=>trivial) fun e1 _=>?_
    refine tot_bind (tot_at (Q:=fun _=>True) (by omega) (by omega) fun _ _ _=>trivial) fun e2 _=>?_
    exact tot_some (sz_setP hsz (by simp only [goSet,List.length_set]; omega))
   ·rw [tOwn_ok hS.ps (by omega) (by omega),Option.bind_some]
    exact tot_some hq
  ·cases h

end Go.Gx.F
