/- Plain laws: FnWitnesses. -/
import Derived.Test.YtpjcfmpfiadkgaaGreatSPWi1
import Derived.Test.YtpjcfmpfiadkgaaGreatSPWi2

namespace Go.Gx.F

open Go.Gx

set_option linter.all false

set_option maxRecDepth 10000

section

variable {n m : Nat} {t : impl_Transport} {x p : List (List Int)}

theorem levels_ok (d u : Int) : ∃ b,impl_areMargins d u = some b∧spec_vLevels d u = some b∧(b = true→0 ≤ d∧d ≤ 1000∧0 ≤ u∧u ≤ 1000):=by
 refine ⟨decide (0 ≤ d) && (decide (d ≤ 1000) && (decide (0 ≤ u) && decide (u ≤ 1000))),?_,?_,fun h=>by simpa using h⟩
 ·unfold impl_areMargins
  cases decide (0 ≤ d) <;> cases decide (d ≤ 1000) <;> cases decide (0 ≤ u) <;> rfl
 ·unfold spec_vLevels spec_l1In
  cases decide (0 ≤ d) <;> cases decide (d ≤ 1000) <;> cases decide (0 ≤ u) <;> rfl

theorem feas_iff (hT : Tr n m t) : ∃ y b,spec_tFeasible t = some (y,b)∧(b = true ↔ ∃ y,IsF n m t y):=by
 obtain ⟨y,b,e,g1,g2⟩:=feas_ok hT
 refine ⟨y,b,e,fun h=>⟨_,(g1 h).2⟩,fun ⟨z,hz⟩=>?_⟩
 cases b with
 | true=>rfl
 | false=>exact absurd hz ((g2 rfl).2 z)

structure Hid (n m : Nat) (x p : List (List Int)) (t : impl_Transport) (i j : Nat) (lo hh : Int) : Prop where
 hi : i < n
 hj : j < m
 l0 : mt t.Lo i j = 0
 h0 : mt t.Hi i j = 100000
 low : Lst (IsF n m t) i j lo
 hig : Gst (IsF n m t) i j hh
 lb : 0 ≤ lo∧lo ≤ mt x i j
 hb : mt x i j ≤ hh∧hh ≤ 100000
 xb : mt x i j ≤ 1000

theorem hid_of (hS : Sup n m x p) (hN : Net n m x p t) {i j : Nat} (hi : i < n) (hj : j < m) (h1 : mt p i j = 1) {lo hh : Int} (q1 : Lst (IsF n m t) i j lo) (q2 : Gst (IsF n m t) i j hh) : Hid n m x p t i j lo hh:=by
 have hT:=hN.tr hS; have hF:=hN.fl hS
 have e1:=hN.lv i j hi hj; have e2:=hN.hv i j hi hj
 unfold nlo at e1; unfold nhi at e2
 rw [if_pos h1] at e1 e2
 obtain ⟨y,hy,hyl⟩:=q1.1
 obtain ⟨z,hz,hzl⟩:=q2.1
 have a1:=hT.fb hy hi hj; have a2:=hT.fb hz hi hj
 have a3:=q1.2 _ hF; have a4:=q2.2 _ hF
 have a5:=hS.xb i j hi hj
 exact ⟨hi,hj,e1,e2,q1,q2,by omega,by omega,by omega⟩

theorem prot_ok (hS : Sup n m x p) (hN : Net n m x p t) (hq : spec_qNetwork x p = some t) {i j : Nat} {lo hh : Int} (h : Hid n m x p t i j lo hh) (er : impl_rangeOf t x (i : Int) (j : Int) = some (lo,hh)) {d u : Int} (hd : 0 ≤ d∧d ≤ 1000∧0 ≤ u∧u ≤ 1000) :
  impl_isProtected t x (i : Int) (j : Int) d u = some (decide (lo ≤ max 0 (mt x i j - d)) && decide (mt x i j + u ≤ hh)) ∧
  spec_vProtected x p (i : Int) (j : Int) d u = some (decide (lo ≤ max 0 (mt x i j - d)) && decide (mt x i j + u ≤ hh)):=by
 have hT:=hN.tr hS
 have hi:=h.hi; have hj:=h.hj; have b1:=h.lb; have b2:=h.hb; have b3:=h.xb
 obtain ⟨row,hrow,_,hrl,_,_⟩:=hS.xs.get hi
 constructor
 ·unfold impl_isProtected
  rw [er,Option.bind_some,at_ok hrow,Option.bind_some,at_ok (hS.xs.el hrow hj),Option.bind_some]
  rw [wid (n:=mt x i j - d) (by omega) (by omega)]
  simp only [at_ok hrow,at_ok (hS.xs.el hrow hj),Option.bind_some]
  rw [wid (n:=mt x i j + u) (by omega) (by omega)]
  cases decide (lo ≤ max 0 (mt x i j - d)) <;> rfl
 ·unfold spec_vProtected spec_vGoal
  rw [hq,Option.bind_some,at_ok hrow,Option.bind_some,at_ok (hS.xs.el hrow hj),Option.bind_some,wid (n:=mt x i j - d) (by omega) (by omega),lMost_eq]
  simp only [Option.bind_some]
  rw [Int.max_comm (mt x i j - d) 0]
  generalize hg : max 0 (mt x i j - d) = g
  have hg2 : 0 ≤ g∧g ≤ 1000:=by omega
  have t1:=with_tr hT hi hj (l:=0) (h:=g) (by omega)
  have t2:=with_tr hT hi hj (l:=mt x i j + u) (h:=100000) (by omega)
  rw [with_ok hT hi hj]
  simp only [Option.bind_some]
  obtain ⟨y,b,e1,h1⟩:=feas_iff t1
  have hbl : b = decide (lo ≤ g):=by
   rw [Bool.eq_iff_iff,h1,decide_eq_true_iff]
   constructor
   ·rintro ⟨z,hz⟩
    obtain ⟨z1,z2,z3⟩:=(with_iff hT hi hj (l:=0) (h:=g) (by have:=h.l0; omega) (by have:=h.h0; omega)).1 hz
    have:=h.low.2 z z1
    omega
   ·intro hlg
    obtain ⟨⟨z,hz,hzl⟩,_⟩:=h.low
    exact ⟨z,(with_iff hT hi hj (l:=0) (h:=g) (by have:=h.l0; omega) (by have:=h.h0; omega)).2 ⟨hz,by omega,by omega⟩⟩
  rw [e1,Option.bind_some]
  simp only
  rw [← hbl]
  cases b with
  | false=>rfl
  | true =>
   simp only [Bool.not_true,cond_false,Bool.true_and,at_ok hrow,at_ok (hS.xs.el hrow hj),Option.bind_some]
   rw [wid (n:=mt x i j + u) (by omega) (by omega),with_ok hT hi hj]
   simp only [Option.bind_some]
   obtain ⟨y2,b2',e2,h2⟩:=feas_iff t2
   rw [e2,Option.bind_some]
   refine congrArg some ?_
   rw [Bool.eq_iff_iff,h2,decide_eq_true_iff]
   constructor
   ·rintro ⟨z,hz⟩
    obtain ⟨z1,z2,z3⟩:=(with_iff hT hi hj (l:=mt x i j + u) (h:=100000) (by have:=h.l0; omega) (by have:=h.h0; omega)).1 hz
    have:=h.hig.2 z z1
    omega
   ·intro hlg
    obtain ⟨⟨z,hz,hzl⟩,_⟩:=h.hig
    exact ⟨z,(with_iff hT hi hj (l:=mt x i j + u) (h:=100000) (by have:=h.l0; omega) (by have:=h.h0; omega)).2 ⟨hz,by omega,by omega⟩⟩

end

end Go.Gx.F
