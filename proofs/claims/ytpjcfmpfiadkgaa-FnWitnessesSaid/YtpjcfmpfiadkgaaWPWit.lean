/- Plain laws: FnWitnesses. -/
import Derived.Test.YtpjcfmpfiadkgaaWPWi1
import Derived.Test.YtpjcfmpfiadkgaaWPWi2
namespace Go.Gx.F
open Go.Gx
set_option linter.all false
set_option maxRecDepth 10000

section
variable {n m : Nat} {t : impl_Transport} {x p : List (List Int)}

theorem levels_ok (d u : Int) : ∃ b,impl_areMargins d u = some b∧spec_vLevels d u = some b∧(b = true→0 ≤ d∧d ≤ 1000∧0 ≤ u∧u ≤ 1000):=by
  refine ⟨decide (0 ≤ d) && (decide (d ≤ 1000) && (decide (0 ≤ u) && decide (u ≤ 1000))),?_,?_,fun h=>by simpa using h⟩
  · unfold impl_areMargins
    cases decide (0 ≤ d) <;> cases decide (d ≤ 1000) <;> cases decide (0 ≤ u) <;> rfl
  · unfold spec_vLevels spec_l1In
    cases decide (0 ≤ d) <;> cases decide (d ≤ 1000) <;> cases decide (0 ≤ u) <;> rfl

theorem cell_ok (hS : Sup n m x p) (hq : spec_qPattern x p = some true) (i j : Int) : ∃ b,impl_isHidden p i j = some b∧spec_vCell x p i j = some b∧(b = true→∃ a c : Nat,i = (a : Int)∧j = (c : Int)∧a < n∧c < m∧mt p a c = 1):=by
  have hpl:=hS.ps.len; have hxl:=hS.xs.len; have h1:=hS.n1; have h8:=hS.n8; have m8:=hS.m8
  unfold impl_isHidden spec_vCell spec_l1In
  rw [hq]
  simp only [Option.bind_some,cond_true]
  obtain ⟨x0,hx0,_,hx0l,_,_⟩:=hS.xs.get (i:=0) (by omega)
  have g0 : goAt x 0 = some x0:=at_ok (k:=0) hx0
  have e1 : w64 (goLen x - 1) = (n : Int) - 1:=by simp only [goLen]; rw [wid (by omega) (by omega)]; omega
  have e2 : w64 (goLen x0 - 1) = (m : Int) - 1:=by simp only [goLen]; rw [wid (by omega) (by omega)]; omega
  rw [e1,g0]
  simp only [Option.bind_some]
  rw [e2]
  by_cases hi0 : 0 ≤ i
  · rw [decide_eq_true hi0]
    simp only [cond_true]
    by_cases hin : i < n
    · obtain ⟨a,rfl⟩:=Int.eq_ofNat_of_zero_le hi0
      have ha : a < n:=by omega
      rw [decide_eq_true (show (a : Int) < goLen p by simp only [goLen]; omega),decide_eq_true (show (a : Int) ≤ (n : Int) - 1 by omega)]
      obtain ⟨row,hrow,_,hrl,_,_⟩:=hS.ps.get ha
      simp only [cond_true,Option.bind_some,at_ok hrow]
      by_cases hj0 : 0 ≤ j
      · rw [decide_eq_true hj0]
        simp only [cond_true]
        by_cases hjm : j < m
        · obtain ⟨c,rfl⟩:=Int.eq_ofNat_of_zero_le hj0
          have hc : c < m:=by omega
          rw [decide_eq_true (show (c : Int) < goLen row by simp only [goLen]; omega),decide_eq_true (show (c : Int) ≤ (m : Int) - 1 by omega)]
          simp only [cond_true,Option.bind_some,at_ok (hS.ps.el hrow hc)]
          exact ⟨_,rfl,rfl,fun h=>⟨a,c,rfl,rfl,ha,hc,by simpa using h⟩⟩
        · rw [decide_eq_false (show ¬ j < goLen row by simp only [goLen]; omega),decide_eq_false (show ¬ j ≤ (m : Int) - 1 by omega)]
          exact ⟨false,rfl,rfl,fun h=>(by cases h)⟩
      · rw [decide_eq_false hj0]
        exact ⟨false,rfl,rfl,fun h=>(by cases h)⟩
    · rw [decide_eq_false (show ¬ i < goLen p by simp only [goLen]; omega),decide_eq_false (show ¬ i ≤ (n : Int) - 1 by omega)]
      exact ⟨false,rfl,rfl,fun h=>(by cases h)⟩
  · rw [decide_eq_false hi0]
    exact ⟨false,rfl,rfl,fun h=>(by cases h)⟩

theorem feas_iff (hT : Tr n m t) : ∃ y b,spec_tFeasible t = some (y,b)∧(b = true ↔ ∃ y,IsF n m t y):=by
  obtain ⟨y,b,e,g1,g2⟩:=feas_ok hT
  refine ⟨y,b,e,fun h=>⟨_,(g1 h).2⟩,fun ⟨z,hz⟩=>?_⟩
  cases b with
  | true=>rfl
  | false=>exact absurd hz ((g2 rfl).2 z)

structure Hid (n m : Nat) (x p : List (List Int)) (t : impl_Transport) (i j : Nat) (lo hh : Int) : Prop where
  hi : i < n
  hj : j < m
  l0 : mt t.Lo i j = 0
  h0 : mt t.Hi i j = 100000
  low : Lst (IsF n m t) i j lo
  hig : Gst (IsF n m t) i j hh
  lb : 0 ≤ lo∧lo ≤ mt x i j
  hb : mt x i j ≤ hh∧hh ≤ 100000
  xb : mt x i j ≤ 1000

theorem hid_of (hS : Sup n m x p) (hN : Net n m x p t) {i j : Nat} (hi : i < n) (hj : j < m) (h1 : mt p i j = 1) {lo hh : Int} (q1 : Lst (IsF n m t) i j lo) (q2 : Gst (IsF n m t) i j hh) : Hid n m x p t i j lo hh:=by
  have hT:=hN.tr hS; have hF:=hN.fl hS
  have e1:=hN.lv i j hi hj; have e2:=hN.hv i j hi hj
  unfold nlo at e1; unfold nhi at e2
  rw [if_pos h1] at e1 e2
  obtain ⟨y,hy,hyl⟩:=q1.1
  obtain ⟨z,hz,hzl⟩:=q2.1
  have a1:=hT.fb hy hi hj; have a2:=hT.fb hz hi hj
  have a3:=q1.2 _ hF; have a4:=q2.2 _ hF
  have a5:=hS.xb i j hi hj
  exact ⟨hi,hj,e1,e2,q1,q2,by omega,by omega,by omega⟩

theorem prot_ok (hS : Sup n m x p) (hN : Net n m x p t) (hq : spec_qNetwork x p = some t) {i j : Nat} {lo hh : Int} (h : Hid n m x p t i j lo hh) (er : impl_rangeOf t x (i : Int) (j : Int) = some (lo,hh)) {d u : Int} (hd : 0 ≤ d∧d ≤ 1000∧0 ≤ u∧u ≤ 1000) :
    impl_isProtected t x (i : Int) (j : Int) d u = some (decide (lo ≤ max 0 (mt x i j - d)) && decide (mt x i j + u ≤ hh)) ∧
    spec_vProtected x p (i : Int) (j : Int) d u = some (decide (lo ≤ max 0 (mt x i j - d)) && decide (mt x i j + u ≤ hh)):=by
  have hT:=hN.tr hS
  have hi:=h.hi; have hj:=h.hj; have b1:=h.lb; have b2:=h.hb; have b3:=h.xb
  obtain ⟨row,hrow,_,hrl,_,_⟩:=hS.xs.get hi
  constructor
  · unfold impl_isProtected
    rw [er,Option.bind_some,at_ok hrow,Option.bind_some,at_ok (hS.xs.el hrow hj),Option.bind_some]
    rw [wid (n:=mt x i j - d) (by omega) (by omega)]
    simp only [at_ok hrow,at_ok (hS.xs.el hrow hj),Option.bind_some]
    rw [wid (n:=mt x i j + u) (by omega) (by omega)]
    cases decide (lo ≤ max 0 (mt x i j - d)) <;> rfl
  · unfold spec_vProtected spec_vGoal
    rw [hq,Option.bind_some,at_ok hrow,Option.bind_some,at_ok (hS.xs.el hrow hj),Option.bind_some,wid (n:=mt x i j - d) (by omega) (by omega),lMost_eq]
    simp only [Option.bind_some]
    rw [Int.max_comm (mt x i j - d) 0]
    generalize hg : max 0 (mt x i j - d) = g
    have hg2 : 0 ≤ g∧g ≤ 1000:=by omega
    have t1:=with_tr hT hi hj (l:=0) (h:=g) (by omega)
    have t2:=with_tr hT hi hj (l:=mt x i j + u) (h:=100000) (by omega)
    rw [with_ok hT hi hj]
    simp only [Option.bind_some]
    obtain ⟨y,b,e1,h1⟩:=feas_iff t1
    have hbl : b = decide (lo ≤ g):=by
      rw [Bool.eq_iff_iff,h1,decide_eq_true_iff]
      constructor
      · rintro ⟨z,hz⟩
        obtain ⟨z1,z2,z3⟩:=(with_iff hT hi hj (l:=0) (h:=g) (by have:=h.l0; omega) (by have:=h.h0; omega)).1 hz
        have:=h.low.2 z z1
        omega
      · intro hlg
        obtain ⟨⟨z,hz,hzl⟩,_⟩:=h.low
        exact ⟨z,(with_iff hT hi hj (l:=0) (h:=g) (by have:=h.l0; omega) (by have:=h.h0; omega)).2 ⟨hz,by omega,by omega⟩⟩
    rw [e1,Option.bind_some]
    simp only
    rw [← hbl]
    cases b with
    | false=>rfl
    | true =>
      simp only [Bool.not_true,cond_false,Bool.true_and,at_ok hrow,at_ok (hS.xs.el hrow hj),Option.bind_some]
      rw [wid (n:=mt x i j + u) (by omega) (by omega),with_ok hT hi hj]
      simp only [Option.bind_some]
      obtain ⟨y2,b2',e2,h2⟩:=feas_iff t2
      rw [e2,Option.bind_some]
      refine congrArg some ?_
      rw [Bool.eq_iff_iff,h2,decide_eq_true_iff]
      constructor
      · rintro ⟨z,hz⟩
        obtain ⟨z1,z2,z3⟩:=(with_iff hT hi hj (l:=mt x i j + u) (h:=100000) (by have:=h.l0; omega) (by have:=h.h0; omega)).1 hz
        have:=h.hig.2 z z1
        omega
      · intro hlg
        obtain ⟨⟨z,hz,hzl⟩,_⟩:=h.hig
        exact ⟨z,(with_iff hT hi hj (l:=mt x i j + u) (h:=100000) (by have:=h.l0; omega) (by have:=h.h0; omega)).2 ⟨hz,by omega,by omega⟩⟩

theorem upd_upd (hs : Shp n m x) {i j : Nat} (hi : i < n) (hj : j < m) (u v : Int) : upd (upd x i j u) i j v = upd x i j v :=
  ((hs.upd hi).upd hi).ext (hs.upd hi) fun a b ha hb=>by
    rw [mt_upd (hs.upd hi) hi hj,mt_upd hs hi hj,mt_upd hs hi hj]
    split <;> rfl
theorem upd_same (hs : Shp n m x) {i j : Nat} (hi : i < n) (hj : j < m) {v : Int} (hv : mt x i j = v) : upd x i j v = x :=
  (hs.upd hi).ext hs fun a b ha hb=>by
    rw [mt_upd hs hi hj]
    split
    · next h=>rw [h.1,h.2,hv]
    · rfl

theorem wit_ok (hS : Sup n m x p) (hN : Net n m x p t) (f1 : impl_attackNetwork x p = some t) (hq : spec_qNetwork x p = some t) {i j : Nat} {lo hh : Int} (h : Hid n m x p t i j lo hh) (er : impl_rangeOf t x (i : Int) (j : Int) = some (lo,hh))
    (c1 : impl_areSuppressed x p = some true) (c2 : impl_isHidden p (i : Int) (j : Int) = some true) (c3 : spec_vCell x p (i : Int) (j : Int) = some true) :
    ∃ a b,impl_WitnessTables x p (i : Int) (j : Int) = some (a,b,true)∧spec_WitnessTables x p (i : Int) (j : Int) = some (a,b,true)∧Shp n m a∧Shp n m b∧IsF n m t (mt a)∧IsF n m t (mt b)∧mt a i j = lo∧mt b i j = hh:=by
  have hT:=hN.tr hS
  have hi:=h.hi; have hj:=h.hj; have b1:=h.lb; have b2:=h.hb; have b3:=h.xb; have l0:=h.l0; have h0:=h.h0
  have t1:=with_tr hT hi hj (l:=0) (h:=lo) (by omega)
  have t2:=with_tr hT hi hj (l:=hh) (h:=100000) (by omega)
  have w1 : ∃ y,IsF n m (wth t i j 0 lo) y:=by
    obtain ⟨⟨z,hz,hzl⟩,_⟩:=h.low
    exact ⟨z,(with_iff hT hi hj (by omega) (by omega)).2 ⟨hz,by omega,by omega⟩⟩
  have w2 : ∃ y,IsF n m (wth t i j hh 100000) y:=by
    obtain ⟨⟨z,hz,hzl⟩,_⟩:=h.hig
    exact ⟨z,(with_iff hT hi hj (by omega) (by omega)).2 ⟨hz,by omega,by omega⟩⟩
  obtain ⟨a,e1,e2,ha,fa⟩:=firsts t1 w1
  obtain ⟨b,e3,e4,hb,fb⟩:=firsts t2 w2
  obtain ⟨fa1,fa2,fa3⟩:=(with_iff hT hi hj (by omega) (by omega)).1 fa
  obtain ⟨fb1,fb2,fb3⟩:=(with_iff hT hi hj (by omega) (by omega)).1 fb
  refine ⟨a,b,?_,?_,ha,hb,fa1,fb1,?_,?_⟩
  · obtain ⟨lr,hlr,_,_,_,_⟩:=hT.lo.get hi
    obtain ⟨hr,hhr,_,_,_,_⟩:=hT.hi.get hi
    obtain ⟨ur,hur,_,_,_,_⟩:=(hT.hi.upd (j:=j) (v:=lo) hi).get hi
    unfold wth at e1 e3
    rw [upd_same hT.lo hi hj l0] at e1
    unfold impl_WitnessTables
    rw [c1]
    simp only [Option.bind_some,Bool.not_true,cond_false]
    rw [c2]
    simp only [Option.bind_some,Bool.not_true,cond_false]
    rw [f1,Option.bind_some,er,Option.bind_some,at_ok hhr,Option.bind_some,at_ok (hT.hi.el hhr hj),Option.bind_some]
    simp only [goSet,Int.toNat_natCast]
    rw [set_upd hhr,e1,Option.bind_some,at_ok hur,Option.bind_some,at_ok hlr,Option.bind_some,at_ok ((hT.hi.upd hi).el hur hj),Option.bind_some,at_ok (hT.lo.el hlr hj),Option.bind_some,set_upd hlr,set_upd hur,upd_upd hT.hi hi hj,e3]
    rfl
  · unfold spec_WitnessTables
    obtain ⟨lo',hh',et,q1,q2⟩:=tRange_ok hT hi hj (by obtain ⟨⟨z,hz,_⟩,_⟩:=h.low; exact ⟨z,hz⟩)
    obtain rfl:=q1.one h.low
    obtain rfl:=q2.one h.hig
    rw [c3]
    simp only [Option.bind_some,Bool.not_true,cond_false]
    rw [hq,Option.bind_some,et,Option.bind_some]
    simp only
    rw [with_ok hT hi hj,Option.bind_some,e2,Option.bind_some,with_ok hT hi hj,Option.bind_some,e4]
    rfl
  · have:=h.low.2 _ fa1; omega
  · have:=h.hig.2 _ fb1; omega

end

theorem laws_FnWitnesses_true (a b : List (K .u8)) (o1 : Rng.ok a) (o2 : Rng.ok b) : laws_FnWitnesses a b = some true:=by
  refine tot_eq ?_
  unfold laws_FnWitnesses
  refine tot_cond (fun _=>tot_some rfl) fun _=>?_
  obtain ⟨⟨x,p,i,j,d,u⟩,ed,hx,hp⟩:=tDrawProt o1.2
  simp only at hx hp
  rw [ed]
  simp only [Option.bind_some]
  obtain ⟨⟨y,q,pr⟩,ed2,hy,hq,hpr⟩:=tDrawNeeds o2.2
  simp only at hy hq hpr
  obtain ⟨r,nr1,nr2⟩:=needs_same hy hq hpr
  obtain ⟨c,e1,e2,hc⟩:=sup_bis hx hp
  have no : ∀ {α : Type} (P : α→Prop),True:=fun _=>trivial
  cases c with
  | false =>
    have i1 : impl_IsProtected x p i j d u = some (false,false):=by unfold impl_IsProtected; rw [e1]; rfl
    have i2 : spec_IsProtected x p i j d u = some (false,false):=by unfold spec_IsProtected spec_vCell; rw [e2]; rfl
    rw [i1,i2,ed2]
    simp only [Option.bind_some,nr1,nr2,bne_self_eq_false,cond_false,Bool.not_false,cond_true]
    exact ⟨true,rfl,rfl⟩
  | true =>
    obtain ⟨n,m,hS⟩:=hc rfl
    obtain ⟨cb,k1,k2,k3⟩:=cell_ok hS e2 i j
    obtain ⟨lb,m1,m2,m3⟩:=levels_ok d u
    by_cases hcl : (lb && cb) = true
    · rw [Bool.and_eq_true] at hcl
      obtain ⟨rfl,rfl⟩:=hcl
      obtain ⟨ai,aj,rfl,rfl,hi,hj,h1⟩:=k3 rfl
      have hd:=m3 rfl
      obtain ⟨t,f1,f2,hN,hT,hF⟩:=nets hS
      obtain ⟨lo,hh,er,q1,q2⟩:=range_ok hT hS.xs hF hi hj
      have hH:=hid_of hS hN hi hj h1 q1 q2
      obtain ⟨p1,p2⟩:=prot_ok hS hN f2 hH er hd
      obtain ⟨wa,wb,w1,w2,sa,sb,fa,fb,va,vb⟩:=wit_ok hS hN f1 f2 hH er e1 k1 k2
      have b1:=hH.lb; have b2:=hH.hb; have b3:=hH.xb
      have i1 : impl_IsProtected x p ai aj d u = some (decide (lo ≤ max 0 (mt x ai aj - d)) && decide (mt x ai aj + u ≤ hh),true):=by
        unfold impl_IsProtected
        rw [e1]
        simp only [Option.bind_some,Bool.not_true,cond_false]
        rw [m1]
        simp only [Option.bind_some,Bool.not_true,cond_false]
        rw [k1]
        simp only [Option.bind_some,Bool.not_true,cond_false]
        rw [f1,Option.bind_some,p1]; rfl
      have i2 : spec_IsProtected x p ai aj d u = some (decide (lo ≤ max 0 (mt x ai aj - d)) && decide (mt x ai aj + u ≤ hh),true):=by
        unfold spec_IsProtected
        rw [k2]
        simp only [Option.bind_some,Bool.not_true,cond_false]
        rw [m2]
        simp only [Option.bind_some,Bool.not_true,cond_false]
        rw [p2]; rfl
      obtain ⟨row,hrow,_,hrl,_,_⟩:=hS.xs.get hi
      obtain ⟨ra,hra,_,_,_,_⟩:=sa.get hi
      obtain ⟨rb,hrb,_,_,_,_⟩:=sb.get hi
      have i3 : impl_SafeMargin x p ai aj = some (mt x ai aj - lo,hh - mt x ai aj,true):=by
        unfold impl_SafeMargin
        rw [e1]
        simp only [Option.bind_some,Bool.not_true,cond_false]
        rw [k1]
        simp only [Option.bind_some,Bool.not_true,cond_false]
        rw [f1,Option.bind_some,er,Option.bind_some]
        simp only [at_ok hrow,at_ok (hS.xs.el hrow hj),Option.bind_some]
        rw [wid (n:=mt x ai aj - lo) (by omega) (by omega),wid (n:=hh - mt x ai aj) (by omega) (by omega)]
      have i4 : impl_AttackNetwork x p = some (t,true):=by
        unfold impl_AttackNetwork
        rw [e1]
        simp only [Option.bind_some,Bool.not_true,cond_false]
        rw [f1]; rfl
      have i5:=isFlow_ok hT sa fa
      have i6:=isFlow_ok hT sb fb
      rw [i1,i2,ed2]
      simp only [Option.bind_some,nr1,nr2,bne_self_eq_false,cond_false,Bool.not_true]
      rw [i3,w1,w2]
      simp only [Option.bind_some,Bool.not_true,cond_false,bne_self_eq_false,sa.qs hS.n8 hS.m8,sb.qs hS.n8 hS.m8]
      have hen : ((cond (decide (d ≤ mt x ai aj - lo)) (some (decide (u ≤ hh - mt x ai aj))) ((goAt x (ai : Int)).bind fun e_39=>((goAt e_39 (aj : Int)).bind fun e_42=>(cond (mt x ai aj - lo == e_42) (some (decide (u ≤ hh - mt x ai aj))) (some false))))) : Option Bool) = some (decide (lo ≤ max 0 (mt x ai aj - d)) && decide (mt x ai aj + u ≤ hh)):=by
        rw [at_ok hrow,Option.bind_some,at_ok (hS.xs.el hrow hj),Option.bind_some]
        have g1 : decide (u ≤ hh - mt x ai aj) = decide (mt x ai aj + u ≤ hh):=by rw [decide_eq_decide]; omega
        rw [g1]
        by_cases hc1 : d ≤ mt x ai aj - lo
        · rw [decide_eq_true hc1,cond_true,decide_eq_true (show lo ≤ max 0 (mt x ai aj - d) by omega)]; rfl
        · rw [decide_eq_false hc1,cond_false]
          by_cases hc2 : lo = 0
          · rw [show (mt x ai aj - lo == mt x ai aj) = true by rw [beq_iff_eq]; omega,cond_true,decide_eq_true (show lo ≤ max 0 (mt x ai aj - d) by omega)]; rfl
          · rw [show (mt x ai aj - lo == mt x ai aj) = false by rw [beq_eq_false_iff_ne]; omega,cond_false,decide_eq_false (show ¬ lo ≤ max 0 (mt x ai aj - d) by omega)]; rfl
      rw [hen]
      simp only [Option.bind_some,bne_self_eq_false,cond_false]
      rw [i4,Option.bind_some]
      simp only
      rw [i5,Option.bind_some,i6,Option.bind_some]
      simp only [cond_true,at_ok hrow,at_ok hra,at_ok hrb,at_ok (hS.xs.el hrow hj),at_ok (sa.el hra hj),at_ok (sb.el hrb hj),Option.bind_some]
      rw [wid (n:=mt x ai aj - (mt x ai aj - lo)) (by omega) (by omega),wid (n:=mt x ai aj + (hh - mt x ai aj)) (by omega) (by omega),va,vb,show (lo == mt x ai aj - (mt x ai aj - lo)) = true by rw [beq_iff_eq]; omega,show (hh == mt x ai aj + (hh - mt x ai aj)) = true by rw [beq_iff_eq]; omega]
      exact ⟨true,rfl,rfl⟩
    · have hcl' : (lb && cb) = false:=by cases h : (lb && cb) with | false=>rfl | true=>exact absurd h hcl
      have i1 : impl_IsProtected x p i j d u = some (false,false):=by
        unfold impl_IsProtected
        rw [e1]
        simp only [Option.bind_some,Bool.not_true,cond_false]
        rw [m1]
        simp only [Option.bind_some]
        cases lb with
        | false=>rfl
        | true =>
          rw [k1]
          rw [show cb = false from hcl']
          rfl
      have i2 : spec_IsProtected x p i j d u = some (false,false):=by
        unfold spec_IsProtected
        rw [k2]
        simp only [Option.bind_some]
        cases cb with
        | false=>rfl
        | true =>
          rw [m2]
          rw [show lb = false by rw [Bool.and_true] at hcl'; exact hcl']
          rfl
      rw [i1,i2,ed2]
      simp only [Option.bind_some,nr1,nr2,bne_self_eq_false,cond_false,Bool.not_false,cond_true]
      exact ⟨true,rfl,rfl⟩

end Go.Gx.F
