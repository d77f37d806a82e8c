/- Plain laws: the law of tables as texts. -/
import Derived.Test.YtnmimeojimfogaaGreatDoorPPGss

namespace Go.Gx.F

open Go.Gx

set_option linter.all false

theorem sameInts_same {l : List Int} (h : l.length ≤ 1048576) : laws_sameInts l l = some true:=by
  unfold laws_sameInts
  rw [bne_self_eq_false,cond_false]
  have h:=loop_all (l:=l) (fun _=>true) (laws_sameInts_l1 l l) (fun k x hx=>by
    simp only [laws_sameInts_l1,lt_ok hx,cond_true,at_ok hx,Option.bind_some,bne_self_eq_false,cond_false,nx_ok hx (by omega),if_true]) (fun _=>by simp only [laws_sameInts_l1,lt_end,cond_false])
  rw [h]; simp

theorem Equal_bis {a b : List Int} (hl : a.length ≤ 1000000) : Bis (slices_Equal_int_int a b) (a = b):=by
  unfold slices_Equal_int_int
  by_cases h : a.length = b.length
  · rw [show (goLen a != goLen b) = false by simp [goLen,h],cond_false]
    refine bis_iff (bis_loop (l:=a) (fun k x=>b[k]? = some x) (fun k x hx=>?_) (by simp only [slices_Equal_int_int_l1,lt_end,cond_false])) ?_
    · have hk:=(List.getElem?_eq_some_iff.1 hx).1
      have hy : b[k]? = some (b[k]'(by omega)):=by simp [show k < b.length by omega]
      generalize b[k]'(by omega) = y at hy
      simp only [slices_Equal_int_int_l1,lt_ok hx,at_ok hx,at_ok hy,cond_true,Option.bind_some]
      refine ⟨x == y,by rw [hy,beq_iff_eq]; exact ⟨fun h=>by rw [h],fun h=>(Option.some.inj h).symm⟩,?_⟩
      by_cases hxy : x = y
      · subst hxy; simp [nx_ok hx (show a.length ≤ 9223372036854775807 by omega)]
      · rw [show (x != y) = true by simpa using hxy,show (x == y) = false by simpa using hxy]; rfl
    · constructor
      · intro hh
        apply List.ext_getElem?
        intro k
        by_cases hk : k < a.length
        · have hx : a[k]? = some a[k]:=by simp [hk]
          rw [hx,hh k _ hx]
        · rw [List.getElem?_eq_none (by omega),List.getElem?_eq_none (by omega)]
      · rintro rfl k x hx; exact hx
  · rw [show (goLen a != goLen b) = true by simp [goLen]; omega]
    refine ⟨false,rfl,?_⟩
    simp only [Bool.false_eq_true,false_iff]
    exact fun e=>h (by rw [e])

theorem l1Same_bis {a b : List Int} (hl : a.length ≤ 1000000) : Bis (spec_l1Same a b) (a = b):=by
  unfold spec_l1Same
  by_cases h : a.length = b.length
  · rw [show (goLen a != goLen b) = false by simp [goLen,h],cond_false]
    refine bis_iff (bis_loop (l:=a) (fun k x=>b[k]? = some x) (fun k x hx=>?_) (by simp only [spec_l1Same_l1,lt_end,cond_false])) ?_
    · have hk:=(List.getElem?_eq_some_iff.1 hx).1
      have hy : b[k]? = some (b[k]'(by omega)):=by simp [show k < b.length by omega]
      generalize b[k]'(by omega) = y at hy
      simp only [spec_l1Same_l1,lt_ok hx,at_ok hx,at_ok hy,cond_true,Option.bind_some,nx_ok hx (show a.length ≤ 9223372036854775807 by omega)]
      refine ⟨x == y,by rw [hy,Option.some.injEq,beq_iff_eq]; exact eq_comm,?_⟩
      by_cases hxy : x = y
      · subst hxy; simp
      · rw [show (x != y) = true by simpa using hxy,show (x == y) = false by simpa using hxy]; rfl
    · constructor
      · intro hh
        refine List.ext_getElem? fun k=>?_
        by_cases hk : k < a.length
        · have hx : a[k]? = some a[k]:=by simp [hk]
          rw [hx,hh k _ hx]
        · rw [List.getElem?_eq_none (by omega),List.getElem?_eq_none (by omega)]
      · rintro rfl k x hx; exact hx
  · rw [show (goLen a != goLen b) = true by simp [goLen]; omega]
    refine ⟨false,rfl,?_⟩
    simp only [Bool.false_eq_true,false_iff]
    rintro rfl
    exact h rfl

theorem sameT {t : impl_Table} (h1 : t.Vars.length ≤ 1000000) (h2 : t.Where.length ≤ 1000000) : laws_pSameTable t t = some true:=by
  unfold laws_pSameTable
  rw [beq_self_eq_true,cond_true,sameInts_same (by omega),Option.bind_some,cond_true,sameInts_same (by omega),Option.bind_some,cond_true,beq_self_eq_true]
  rfl

section

variable {g : impl_Geo} {s : List impl_Variable} {t a b : impl_Table}

def noT : impl_Table:=⟨0,[],[],0⟩

def nWn (s : List impl_Variable) (W : List Int) (n : Nat) : List Int:=(List.range W.length).map fun (k : Nat)=>match s[k]?,W[k]? with
  | some v,some x=>if k < n∧x = full v then 0 else x
  | _,_=>0

def nrm (s : List impl_Variable) (t : impl_Table) : impl_Table:=⟨t.Level,t.Vars,nWn s t.Where s.length,t.Sum⟩

theorem nWn_len (W : List Int) (n : Nat) : (nWn s W n).length = W.length:=by unfold nWn; simp

theorem nWn_at {W : List Int} {n k : Nat} {v : impl_Variable} {x : Int} (hv : s[k]? = some v) (hx : W[k]? = some x) : (nWn s W n)[k]? = some (if k < n∧x = full v then 0 else x):=by
  have hk:=(List.getElem?_eq_some_iff.1 hx).1
  unfold nWn
  rw [List.getElem?_map,List.getElem?_range hk]
  simp only [Option.map_some,hv,hx]

theorem ext_len {A B : List Int} {n : Nat} (hA : A.length = n) (hB : B.length = n) (h : ∀ k,k < n→A[k]? = B[k]?) : A = B:=by
  apply List.ext_getElem?
  intro k
  by_cases hk : k < n
  · exact h k hk
  · rw [List.getElem?_eq_none (by omega),List.getElem?_eq_none (by omega)]

theorem nWn_zero {W : List Int} (hW : W.length = s.length) : nWn s W 0 = W:=by
  refine ext_len (nWn_len _ _) rfl fun k hk=>?_
  have hv : s[k]? = some (s[k]'(by omega)):=by simp [show k < s.length by omega]
  have hx : W[k]? = some W[k]:=by simp [hk]
  rw [nWn_at hv hx,if_neg (by omega),hx]

theorem nWn_set {W : List Int} (hW : W.length = s.length) {n : Nat} {v : impl_Variable} {x : Int} (hv : s[n]? = some v) (hx : W[n]? = some x) : (if x = full v then goSet (nWn s W n) (n : Int) 0 else nWn s W n) = nWn s W (n + 1):=by
  refine ext_len (n:=W.length) ?_ (nWn_len _ _) fun k hk=>?_
  · split
    · simp only [goSet,List.length_set]; exact nWn_len _ _
    · exact nWn_len _ _
  have hv' : s[k]? = some (s[k]'(by omega)):=by simp [show k < s.length by omega]
  have hx' : W[k]? = some W[k]:=by simp [hk]
  by_cases hkn : k = n
  · subst hkn
    rw [hv] at hv'; rw [hx] at hx'
    rw [nWn_at hv hx]
    split
    · rename_i h
      simp only [goSet,Int.toNat_natCast]
      rw [List.getElem?_set_self (by rw [nWn_len]; omega),if_pos ⟨by omega,h⟩]
    · rename_i h
      rw [nWn_at hv hx,if_neg (by omega),if_neg (fun hc=>h hc.2)]
  · have h1 : (if x = full v then goSet (nWn s W n) (n : Int) 0 else nWn s W n)[k]? = (nWn s W n)[k]?:=by
      split
      · simp only [goSet,Int.toNat_natCast]
        rw [List.getElem?_set_ne (Ne.symm hkn)]
      · rfl
    rw [h1,nWn_at hv' hx',nWn_at hv' hx']
    by_cases h2 : k < n
    · simp only [h2,show k < n + 1 by omega]
    · simp only [h2,show ¬ k < n + 1 by omega]

theorem normalTable_ok (h : OkT g s t) : impl_normalTable s t = some (nrm s t):=by
  have hs:=h.sch
  have h6:=hs.2.1
  have hW:=h.whr
  have hWl:=hW.1
  have hVl:=h.vlen
  unfold impl_normalTable impl_copyTable
  rw [clone_eq (by omega),Option.bind_some,clone_eq (by omega),Option.bind_some,Option.bind_some]
  have key : loopC (impl_normalTable_l1 s ⟨t.Level,t.Vars,t.Where,t.Sum⟩) (⟨t.Level,t.Vars,t.Where,t.Sum⟩,0) = some (nrm s t):=by
    refine tot_eq (tot_loop (fun q=>∃ k : Nat,k ≤ s.length∧q = (⟨t.Level,t.Vars,nWn s t.Where k,t.Sum⟩,(k : Int))) (fun q=>s.length - q.2.toNat) ⟨0,by omega,by rw [nWn_zero hWl]; rfl⟩ ?_)
    rintro q ⟨k,hk,rfl⟩
    by_cases hlt : k < s.length
    · obtain ⟨v,x,hv,hx,h1,h2,h3,h4,h5⟩:=OkW.at_ hs hW hlt
      have hn:=nWn_at (n:=k) hv hx
      rw [if_neg (by omega)] at hn
      simp only [impl_normalTable_l1,lt_ok hx,cond_true,at_ok hn,at_ok hv,Option.bind_some]
      rw [fullSet_eq (by omega),Option.bind_some,wid (n:=(k : Int) + 1) (by omega) (by omega)]
      have hst:=nWn_set hWl hv hx
      by_cases h0 : x = full v
      · rw [if_pos h0] at hst
        rw [show (x == full v) = true from beq_iff_eq.2 h0,cond_true,hst]
        simp only [Option.bind_some]
        exact tot_some ⟨⟨k + 1,by omega,rfl⟩,by simp only; omega⟩
      · rw [if_neg h0] at hst
        rw [show (x == full v) = false from beq_eq_false_iff_ne.2 h0,cond_false,hst]
        simp only [Option.bind_some]
        exact tot_some ⟨⟨k + 1,by omega,rfl⟩,by simp only; omega⟩
    · obtain rfl : k = s.length:=by omega
      simp only [impl_normalTable_l1]
      rw [decide_eq_false (by simp only [goLen]; omega),cond_false]
      exact tot_some rfl
  rw [key,Option.bind_some]

theorem nNormal_ok (h : OkT g s t) : spec_nNormal s t = some (nrm s t):=by
  have hs:=h.sch
  have h6:=hs.2.1
  have hW:=h.whr
  have hWl:=hW.1
  have hVl:=h.vlen
  unfold spec_nNormal spec_nOwn
  rw [own_eq (by omega),Option.bind_some,own_eq (by omega),Option.bind_some,Option.bind_some]
  have key : loopC (spec_nNormal_l1 s) (0,⟨t.Level,t.Vars,t.Where,t.Sum⟩) = some (nrm s t):=by
    refine tot_eq (tot_loop (fun q=>∃ k : Nat,k ≤ s.length∧q = ((k : Int),⟨t.Level,t.Vars,nWn s t.Where k,t.Sum⟩)) (fun q=>s.length - q.1.toNat) ⟨0,by omega,by rw [nWn_zero hWl]; rfl⟩ ?_)
    rintro q ⟨k,hk,rfl⟩
    by_cases hlt : k < s.length
    · obtain ⟨v,x,hv,hx,h1,h2,h3,h4,h5⟩:=OkW.at_ hs hW hlt
      have hn:=nWn_at (n:=k) hv hx
      rw [if_neg (by omega)] at hn
      have hef : spec_eFull s (k : Int) = some (full v):=by
        unfold spec_eFull
        rw [at_ok hv,Option.bind_some,Go.IntWalk.u64_in _ ⟨by omega,by omega⟩,shl_eq (by omega) (by omega),Option.bind_some]
        have:=full_b (v:=v) (by omega)
        rw [wid (by unfold full at this; omega) (by unfold full at this; omega)]
        rfl
      simp only [spec_nNormal_l1,lt_ok hv,cond_true,at_ok hn,Option.bind_some]
      rw [hef,Option.bind_some,wid (n:=(k : Int) + 1) (by omega) (by omega)]
      have hst:=nWn_set hWl hv hx
      by_cases h0 : x = full v
      · rw [if_pos h0] at hst
        rw [show (x == full v) = true from beq_iff_eq.2 h0,cond_true,hst]
        simp only [Option.bind_some]
        exact tot_some ⟨⟨k + 1,by omega,rfl⟩,by simp only; omega⟩
      · rw [if_neg h0] at hst
        rw [show (x == full v) = false from beq_eq_false_iff_ne.2 h0,cond_false,hst]
        simp only [Option.bind_some]
        exact tot_some ⟨⟨k + 1,by omega,rfl⟩,by simp only; omega⟩
    · obtain rfl : k = s.length:=by omega
      simp only [spec_nNormal_l1]
      rw [decide_eq_false (by simp only [goLen]; omega),cond_false]
      exact tot_some rfl
  rw [key,Option.bind_some]

theorem nrm_ok (h : OkT g s t) : OkT g s (nrm s t):=by
  have hs:=h.sch
  refine ⟨h.geo,hs,h.vars,⟨by show (nWn _ _ _).length = _; rw [nWn_len]; exact h.whr.1,fun k v e hv he=>?_⟩,h.sum,h.pos,h.top⟩
  have hk:=(List.getElem?_eq_some_iff.1 hv).1
  obtain ⟨v',x,hv',hx,h1,h2,h3,h4,h5⟩:=OkW.at_ hs h.whr hk
  obtain rfl : v = v':=by rw [hv] at hv'; exact Option.some.inj hv'
  have hn : (nrm s t).Where[k]? = _:=nWn_at (n:=s.length) hv hx
  rw [he] at hn
  have:=Option.some.inj hn
  subst this
  split <;> omega

theorem sameMeaning_bis (ha : OkT g s a) (hb : OkT g s b) : Bis (impl_sameMeaning s a b) (nrm s a = nrm s b):=by
  have hVa:=ha.vlen
  have hWa:=(nrm_ok ha).whr.1
  have h6:=ha.sch.2.1
  unfold impl_sameMeaning
  rw [normalTable_ok ha,normalTable_ok hb]
  simp only [Option.bind_some]
  refine bis_iff (bis_ret (bis_and beq_iff_eq fun _=>bis_and beq_iff_eq fun _=>bis_bind_and (Equal_bis (by show a.Vars.length ≤ _; omega)) fun _=>bis_ret (Equal_bis (by omega)))) ?_
  constructor
  · rintro ⟨h1,h2,h3,h4⟩
    generalize nrm s a = A at *
    generalize nrm s b = B at *
    cases A; cases B; simp_all
  · intro h; rw [h]; exact ⟨rfl,rfl,rfl,rfl⟩

theorem nSame_bis (ha : OkT g s a) (hb : OkT g s b) : Bis (spec_nSame s a b) (nrm s a = nrm s b):=by
  have hVa:=ha.vlen
  have hWa:=(nrm_ok ha).whr.1
  have h6:=ha.sch.2.1
  unfold spec_nSame
  rw [nNormal_ok ha,nNormal_ok hb]
  simp only [Option.bind_some]
  refine bis_iff (bis_ret (bis_and beq_iff_eq fun _=>bis_bind_and (l1Same_bis (by show a.Vars.length ≤ _; omega)) fun _=>bis_bind_and (l1Same_bis (by omega)) fun _=>bis_some beq_iff_eq)) ?_
  constructor
  · rintro ⟨h1,h2,h3,h4⟩
    generalize nrm s a = A at *
    generalize nrm s b = B at *
    cases A; cases B; simp_all
  · intro h; rw [h]; exact ⟨rfl,rfl,rfl,rfl⟩

end

theorem tspoilt {B : Nat} {c : spec_l1Cur} {x w : List UInt8} (h : Cur B c) (hx : x.length ≤ 100000) (hw : 1 ≤ w.length∧w.length ≤ 1000) (hB : B ≤ 100000:=by omega) : Tot (spec_l1Cur_spoilt c x w) fun r=>r.1.length ≤ x.length + 2∧Cur (B + 20) r.2:=by
  unfold spec_l1Cur_spoilt
  refine tot_bind (tpick h) fun ⟨n,c1⟩ ⟨n0,n1,_,k1⟩=>?_
  have n1:=n1 (by omega)
  simp only at n0 n1 k1 ⊢
  rw [wid (by omega) (by omega)]
  refine tot_bind (Q:=fun r=>r.1.length ≤ x.length + 2∧Cur (B + 20) r.2) (tot_loop (fun q=>∃ m : Nat,q.2.1 = (m : Int)∧m ≤ 2∧q.1.length + m ≤ x.length + 2∧Cur (B + 2 + 6 * (2 - m)) q.2.2) (fun q=>q.2.1.toNat) ⟨(1 + n).toNat,by simp only; omega,by omega,by simp only; omega,k1.le (by omega)⟩ ?_) fun r hr=>tot_some hr
  rintro ⟨y,_,c3⟩ ⟨m,rfl,hm,hy,kc⟩
  simp only at hy kc
  simp only [spec_l1Cur_spoilt_l1]
  have hz : ((cond (decide (0 < (m : Int))) (some (decide (0 < goLen y))) (some false)) : Option Bool) = some (decide (0 < m∧0 < y.length)):=by
    by_cases h1 : 0 < m
    · rw [decide_eq_true (by omega),cond_true]
      by_cases h2 : 0 < y.length
      · rw [decide_eq_true (by simp only [goLen]; omega),decide_eq_true ⟨h1,h2⟩]
      · rw [decide_eq_false (by simp only [goLen]; omega),decide_eq_false (show ¬ (0 < m∧0 < y.length) from fun h=>h2 h.2)]
    · rw [decide_eq_false (show ¬ (0 < (m : Int)) by omega),decide_eq_false (show ¬ (0 < m∧0 < y.length) from fun h=>h1 h.1)]; rfl
  rw [hz,Option.bind_some]
  refine tot_cond (fun hc=>?_) fun _=>tot_some ⟨by simp only; omega,kc.le (by omega)⟩
  have hc' : 0 < m∧0 < y.length:=by simpa using hc
  refine tot_bind (tpick kc (hk:=by simp only [goLen]; omega)) fun ⟨i,c4⟩ ⟨i0,i1,_,k4⟩=>?_
  have i1:=i1 (by simp only [goLen]; omega)
  simp only [goLen] at i0 i1 k4 ⊢
  refine tot_bind (tpick k4 (hk:=by omega)) fun ⟨j,c5⟩ ⟨j0,j1,_,k5⟩=>?_
  have j1:=j1 (by omega)
  simp only at j0 j1 k5 ⊢
  obtain ⟨jn,rfl⟩:=Int.eq_ofNat_of_zero_le j0
  have hwj : w[jn]? = some (w[jn]'(by omega)):=by simp [show jn < w.length by omega]
  rw [strAt_k hwj,Option.bind_some]
  refine tot_bind (tpick k5) fun ⟨z,c6⟩ ⟨_,_,_,k6⟩=>?_
  simp only at k6 ⊢
  have hg1 : ∀ v : Int,(goBytes ([(⟨v⟩ : K .u8)] : List (K .u8))).length = 1:=fun v=>rfl
  have s1 : ∀ {a b : Int},0 ≤ a→a ≤ b→b ≤ y.length→∃ l,goSub y a b = some l∧l.length = (b - a).toNat:=by
    intro a b h1 h2 h3
    obtain ⟨l,e,hl⟩:=tot_sub (l:=y) (Q:=fun l=>l.length = (b - a).toNat) h1 h2 h3 (by simp; omega)
    exact ⟨l,e,hl⟩
  obtain ⟨l1,e1,q1⟩:=s1 (a:=0) (b:=i) (by omega) (by omega) (by omega)
  obtain ⟨l2,e2,q2⟩:=s1 (a:=i) (b:=(y.length : Int)) (by omega) (by omega) (by omega)
  obtain ⟨l3,e3,q3⟩:=s1 (a:=i + 1) (b:=(y.length : Int)) (by omega) (by omega) (by omega)
  have hw1 : w64 (i + 1) = i + 1:=wid (by omega) (by omega)
  refine tot_bind (Q:=fun r=>r.length ≤ y.length + 1) ?_ fun r hr=>?_
  · refine tot_cond (fun _=>?_) fun _=>tot_bind (Q:=fun r=>r.length ≤ y.length + 1) (tot_cond (fun _=>?_) fun _=>?_) fun r hr=>tot_some hr
    · rw [e1,Option.bind_some,cat_ok (by rw [hg1]; omega),Option.bind_some,e2,Option.bind_some,cat_ok (by rw [List.length_append,hg1]; omega),Option.bind_some]
      exact tot_some (by simp only [List.length_append,hg1]; omega)
    · rw [e1,Option.bind_some,cat_ok (by rw [hg1]; omega),Option.bind_some,hw1,e3,Option.bind_some,cat_ok (by rw [List.length_append,hg1]; omega),Option.bind_some]
      exact tot_some (by simp only [List.length_append,hg1]; omega)
    · rw [e1,Option.bind_some,hw1,e3,Option.bind_some,cat_ok (by omega),Option.bind_some]
      exact tot_some (by simp only [List.length_append]; omega)
  · refine tot_some ⟨⟨m - 1,?_,by omega,by simp only; omega,k6.le (by omega)⟩,?_⟩
    · simp only; rw [wid (by omega) (by omega)]; omega
    · simp only; rw [wid (by omega) (by omega)]; omega

theorem big_tot (a b : List (K .u8)) : ∃ t,laws_big a b = some t:=by
  unfold laws_big
  cases decide (1048576 < goLen a) <;> exact ⟨_,rfl⟩

end Go.Gx.F
