/- Plain laws: the reference's least plan. -/
import Derived.Test.YtpjcfmpfiadkgaaGreatSPSp4

namespace Go.Gx.F

open Go.Gx

set_option linter.all false

set_option maxRecDepth 10000

section

variable {n m : Nat} {x q : List (List Int)} {d u : Int}

def Best (n m : Nat) (x q : List (List Int)) (d u : Int) (K s : Nat) (r : List Int × Bool) : Prop :=
 (r.2 = true∧∃ k,k < K∧r.1 = ints (cellsK (freeK n m q) k)∧(cellsK (freeK n m q) k).length = s∧sfK n m x q d u (cellsK (freeK n m q) k) = true ∧
  ∀ k',k' < K→(cellsK (freeK n m q) k').length = s→sfK n m x q d u (cellsK (freeK n m q) k') = true→leC (valK m x) (cellsK (freeK n m q) k) (cellsK (freeK n m q) k')) ∨
 (r.2 = false∧∀ k',k' < K→(cellsK (freeK n m q) k').length = s→sfK n m x q d u (cellsK (freeK n m q) k') = false)

theorem leC_self {V : List Nat→Int} (a : List Nat) : leC V a a:=by
 rcases leC_total (V:=V) a a with h | h <;> exact h

theorem bestS (hS : Sup n m x q) (hF : (freeK n m q).length ≤ 10) (hd : 0 ≤ d∧d ≤ 1000∧0 ≤ u∧u ≤ 1000) (s : Nat) (hs : s ≤ 11) :
  Tot (loopC (spec_LeastPlan_l3 x q d u (ints (freeK n m q)) (s : Int)) (([] : List Int),false,0)) fun r=>Best n m x q d u (2 ^ (freeK n m q).length) s r:=by
 have h8:=hS.n8; have m8:=hS.m8; have n1:=hS.n1; have m1:=hS.m1
 have hN : 2 ^ (freeK n m q).length ≤ 2 ^ 10:=Nat.pow_le_pow_right (n:=2) (by omega) hF
 have hlen : ∀ k,(cellsK (freeK n m q) k).length ≤ 10:=fun k=>Nat.le_trans cellsK_len hF
 have hval : ∀ k,spec_vValue x (ints (cellsK (freeK n m q) k)) = some (valK m x (cellsK (freeK n m q) k)):=fun k=>valS_ok hS (cells_lt k) (by have:=hlen k; omega)
 have hsafe : ∀ k,((spec_vWith q (ints (cellsK (freeK n m q) k))).bind fun t_57=>spec_vSafe x t_57 q d u) = some (sfK n m x q d u (cellsK (freeK n m q) k)):=fun k=>by
  obtain ⟨s1,s2⟩:=supW hS (cells_lt k)
  rw [withS_ok hS.ps n1 m1 h8 m8 (cells_lt k) (by have:=hlen k; omega),Option.bind_some]
  exact vSafe_ok s1 hS.ps s2 hd
 have gF : IntKind.wrap .u64 (goLen (ints (freeK n m q))) = (((freeK n m q).length : Nat) : Int):=by
  simp only [goLen,ints_len]
  exact wrap_11 (by omega)
 refine tot_loop (fun r=>∃ k : Nat,k ≤ 2 ^ (freeK n m q).length∧r.2.2 = (k : Int)∧Best n m x q d u k s (r.1,r.2.1)) (fun r=>2 ^ (freeK n m q).length - r.2.2.toNat) ⟨0,Nat.zero_le _,rfl,.inr ⟨rfl,fun k' h=>by omega⟩⟩ ?_
 rintro ⟨best,found,_⟩ ⟨k,hk',rfl,hB⟩
 simp only at hB
 simp only [spec_LeastPlan_l3]
 rw [gF,shl_1k (by omega),Option.bind_some]
 by_cases hk : k < 2 ^ (freeK n m q).length
 ·rw [decide_eq_true (by omega),cond_true,iBits_1k hF hk,Option.bind_some,sPick_ok hF,Option.bind_some,wid (n:=(k : Int) + 1) (by omega) (by omega)]
  have hl:=hlen k
  have gl : goLen (ints (cellsK (freeK n m q) k)) = (((cellsK (freeK n m q) k).length : Nat) : Int):=by simp only [goLen,ints_len]
  rw [gl]
  have skip : (∀ hL : (cellsK (freeK n m q) k).length = s,sfK n m x q d u (cellsK (freeK n m q) k) = true→found = true∧∀ kb,best = ints (cellsK (freeK n m q) kb)→(cellsK (freeK n m q) kb).length = s→leC (valK m x) (cellsK (freeK n m q) kb) (cellsK (freeK n m q) k))→Best n m x q d u (k + 1) s (best,found):=fun h=>by
   rcases hB with ⟨b1,kb,b2,b3,b4,b5,b6⟩ | ⟨b1,b2⟩
   ·refine .inl ⟨b1,kb,by omega,b3,b4,b5,fun k' hk2 hL hs'=>?_⟩
    by_cases hkk : k' = k
    ·subst hkk
     exact (h hL hs').2 kb b3 b4
    ·exact b6 k' (by omega) hL hs'
   ·refine .inr ⟨b1,fun k' hk2 hL=>?_⟩
    by_cases hkk : k' = k
    ·subst hkk
     cases hs' : sfK n m x q d u (cellsK (freeK n m q) k') with
     | false=>rfl
     | true =>
      have:=(h hL hs').1
      simp only at b1
      rw [b1] at this
      cases this
    ·exact b2 k' (by omega) hL
  have done : ∀ b : List Int,∀ fd : Bool,Best n m x q d u (k + 1) s (b,fd)→(∃ k2 : Nat,k2 ≤ 2 ^ (freeK n m q).length∧(k : Int) + 1 = (k2 : Int)∧Best n m x q d u k2 s (b,fd))∧2 ^ (freeK n m q).length - ((k : Int) + 1).toNat < 2 ^ (freeK n m q).length - (k : Int).toNat:=fun b fd hb =>
   ⟨⟨k + 1,by omega,by omega,hb⟩,by omega⟩
  by_cases hL : (cellsK (freeK n m q) k).length = s
  ·rw [show ((((cellsK (freeK n m q) k).length : Nat) : Int) != (s : Int)) = false by simp [hL],cond_false]
   have htest : ∃ t : Bool,((cond found ((spec_vValue x (ints (cellsK (freeK n m q) k))).bind fun t_46=>((spec_vValue x best).bind fun t_48=>(cond (decide (t_48 < t_46)) (some true) ((spec_vValue x (ints (cellsK (freeK n m q) k))).bind fun t_50=>((spec_vValue x best).bind fun t_52=>(cond (t_50 == t_52) ((spec_l1Less (ints (cellsK (freeK n m q) k)) best).bind fun t_54=>some (decide (0 ≤ t_54))) (some false))))))) (some false)) : Option Bool) = some t ∧
     (t = true→found = true∧∀ kb,best = ints (cellsK (freeK n m q) kb)→(cellsK (freeK n m q) kb).length = s→leC (valK m x) (cellsK (freeK n m q) kb) (cellsK (freeK n m q) k)) ∧
     (t = false→found = true→∀ kb,best = ints (cellsK (freeK n m q) kb)→(cellsK (freeK n m q) kb).length = s→leC (valK m x) (cellsK (freeK n m q) k) (cellsK (freeK n m q) kb)):=by
    cases found with
    | false=>exact ⟨false,rfl,fun h=>(by cases h),fun _ h=>(by cases h)⟩
    | true =>
     rcases hB with ⟨b1,kb,b2,b3,b4,b5,b6⟩ | ⟨b1,b2⟩
     ·simp only at b3
      subst b3
      have hlb:=hlen kb
      have inj : ∀ kb',ints (cellsK (freeK n m q) kb) = ints (cellsK (freeK n m q) kb')→cellsK (freeK n m q) kb' = cellsK (freeK n m q) kb:=fun kb' h=>by
       unfold ints at h
       exact (List.map_inj_right (fun x y h=>Int.ofNat.inj h)).1 h.symm
      rw [cond_true,hval k,hval kb,Option.bind_some,Option.bind_some]
      have hneg:=cmpL_neg (ints (cellsK (freeK n m q) k)) (ints (cellsK (freeK n m q) kb))
      by_cases h1 : valK m x (cellsK (freeK n m q) kb) < valK m x (cellsK (freeK n m q) k)
      ·rw [decide_eq_true h1,cond_true]
       exact ⟨true,rfl,fun _=>⟨rfl,fun kb' h hl'=>by rw [inj kb' h]; exact .inr ⟨by omega,.inl h1⟩⟩,fun h=>(by cases h)⟩
      ·rw [decide_eq_false h1,cond_false,Option.bind_some,Option.bind_some]
       by_cases h2 : valK m x (cellsK (freeK n m q) k) = valK m x (cellsK (freeK n m q) kb)
       ·rw [show (valK m x (cellsK (freeK n m q) k) == valK m x (cellsK (freeK n m q) kb)) = true by rw [beq_iff_eq]; exact h2,cond_true,l1Less_ok (by rw [ints_len]; omega) (by rw [ints_len]; omega),Option.bind_some]
        refine ⟨_,rfl,fun h=>⟨rfl,fun kb' h' hl'=>?_⟩,fun h _ kb' h' hl'=>?_⟩
        ·have:=of_decide_eq_true h
         rw [inj kb' h']
         exact .inr ⟨by omega,.inr ⟨h2.symm,by omega⟩⟩
        ·have:=of_decide_eq_false h
         rw [inj kb' h']
         exact .inr ⟨by omega,.inr ⟨h2,by omega⟩⟩
       ·rw [show (valK m x (cellsK (freeK n m q) k) == valK m x (cellsK (freeK n m q) kb)) = false by rw [beq_eq_false_iff_ne]; exact h2,cond_false]
        exact ⟨false,rfl,fun h=>(by cases h),fun _ _ kb' h' hl'=>by rw [inj kb' h']; exact .inr ⟨by omega,.inl (by omega)⟩⟩
     ·cases b1
   obtain ⟨t,et,ht1,ht2⟩:=htest
   rw [et,Option.bind_some]
   cases t with
   | true =>
    simp only [cond_true,Option.bind_some]
    exact tot_some (done best found (skip fun _ _=>ht1 rfl))
   | false =>
    have hs:=hsafe k
    obtain ⟨w,ew,hw⟩ : ∃ w,spec_vWith q (ints (cellsK (freeK n m q) k)) = some w∧spec_vSafe x w q d u = some (sfK n m x q d u (cellsK (freeK n m q) k)):=by
     rw [withS_ok hS.ps n1 m1 h8 m8 (cells_lt k) (by omega)] at hs ⊢
     exact ⟨_,rfl,hs⟩
    simp only [cond_false]
    rw [ew,Option.bind_some,hw,Option.bind_some]
    cases hsf : sfK n m x q d u (cellsK (freeK n m q) k) with
    | true =>
     simp only [cond_true,Option.bind_some]
     refine tot_some (done _ _ (.inl ⟨rfl,k,by omega,rfl,hL,hsf,fun k' hk2 hL' hs'=>?_⟩))
     by_cases hkk : k' = k
     ·rw [hkk]; exact leC_self _
     ·rcases hB with ⟨b1,kb,b2,b3,b4,b5,b6⟩ | ⟨b1,b2⟩
      ·exact leC_trans (ht2 rfl b1 kb b3 b4) (b6 k' (by omega) hL' hs')
      ·have:=b2 k' (by omega) hL'
       rw [hs'] at this
       cases this
    | false =>
     simp only [cond_false,Option.bind_some]
     exact tot_some (done best found (skip fun _ h=>(by rw [hsf] at h; cases h)))
  ·rw [show ((((cellsK (freeK n m q) k).length : Nat) : Int) != (s : Int)) = true by rw [bne_iff_ne]; omega,cond_true]
   simp only [Option.bind_some]
   exact tot_some (done best found (skip fun h=>absurd h hL))
 ·obtain rfl : k = 2 ^ (freeK n m q).length:=by omega
  rw [decide_eq_false (by omega),cond_false]
  exact tot_some hB

theorem leastS (hS : Sup n m x q) (hF : (freeK n m q).length ≤ 10) (hd : 0 ≤ d∧d ≤ 1000∧0 ≤ u∧u ≤ 1000) (h1 : spec_qPattern x q = some true) (h2 : spec_vLevels d u = some true) : LeastR n m x q d u (spec_LeastPlan x q d u):=by
 have h8:=hS.n8; have m8:=hS.m8; have n1:=hS.n1; have m1:=hS.m1
 have hlen : ∀ k,(cellsK (freeK n m q) k).length ≤ (freeK n m q).length:=fun k=>cellsK_len
 have gF : goLen (ints (freeK n m q)) = (((freeK n m q).length : Nat) : Int):=by simp only [goLen,ints_len]
 have L : Tot (loopC (spec_LeastPlan_l2 x q d u (ints (freeK n m q))) 0) fun o=>LeastR n m x q d u (match o with | .inl ()=>some (⟨[],0,0⟩,false) | .inr r=>some r):=by
  refine tot_loop (fun s=>∃ k : Nat,k ≤ (freeK n m q).length + 1∧s = (k : Int)∧∀ k',k' < 2 ^ (freeK n m q).length→(cellsK (freeK n m q) k').length < k→sfK n m x q d u (cellsK (freeK n m q) k') = false) (fun s=>(freeK n m q).length + 1 - s.toNat) ⟨0,by omega,rfl,fun k' _ h=>by omega⟩ ?_
  rintro _ ⟨s,hs',rfl,hno⟩
  simp only [spec_LeastPlan_l2]
  rw [gF]
  by_cases hs : s ≤ (freeK n m q).length
  ·rw [decide_eq_true (by omega),cond_true]
   obtain ⟨⟨best,found⟩,er,hB⟩:=bestS hS hF hd s (by omega)
   rw [er,Option.bind_some]
   simp only
   rcases hB with ⟨b1,kb,b2,b3,b4,b5,b6⟩ | ⟨b1,b2⟩
   ·simp only at b1 b3
    subst b1 b3
    rw [cond_true,withS_ok hS.ps n1 m1 h8 m8 (cells_lt kb) (by have:=hlen kb; omega),Option.bind_some,valS_ok hS (cells_lt kb) (by have:=hlen kb; omega),Option.bind_some]
    refine tot_some (.inl ⟨kb,b2,b5,fun k' hk' hs2=>?_,by rw [b4]⟩)
    by_cases hl : (cellsK (freeK n m q) k').length = s
    ·exact b6 k' hk' hl hs2
    ·by_cases hl2 : (cellsK (freeK n m q) k').length < s
     ·have:=hno k' hk' hl2
      rw [hs2] at this
      cases this
     ·exact .inl (by omega)
   ·simp only at b1
    subst b1
    rw [cond_false,wid (by omega) (by omega)]
    refine tot_some ⟨⟨s + 1,by omega,by omega,fun k' hk' hl=>?_⟩,by omega⟩
    by_cases hl2 : (cellsK (freeK n m q) k').length = s
    ·exact b2 k' hk' hl2
    ·exact hno k' hk' (by omega)
  ·rw [decide_eq_false (by omega),cond_false]
   exact tot_some (.inr ⟨fun k hk=>hno k hk (by have:=hlen k; omega),rfl⟩)
 obtain ⟨o,eo,ho⟩:=L
 unfold spec_LeastPlan
 rw [h1,h2]
 simp only [Option.bind_some,Bool.not_true,cond_false]
 rw [freeS_ok hS,Option.bind_some,gF,decide_eq_false (by omega),cond_false,eo]
 cases o with
 | inl _=>exact ho
 | inr r=>exact ho

theorem many_eq (hS : Sup n m x q) (hF : 10 < (freeK n m q).length) (h1 : impl_areSuppressed x q = some true) (h2 : impl_areMargins d u = some true) (h3 : spec_qPattern x q = some true) (h4 : spec_vLevels d u = some true) : impl_LeastPlan x q d u = some (⟨[],0,0⟩,false)∧spec_LeastPlan x q d u = some (⟨[],0,0⟩,false):=by
 have h8:=hS.n8; have m8:=hS.m8; have n1:=hS.n1; have m1:=hS.m1
 have gI : goLen ((freeK n m q).map (posI m)) = (((freeK n m q).length : Nat) : Int):=by simp only [goLen,List.length_map]
 have gF : goLen (ints (freeK n m q)) = (((freeK n m q).length : Nat) : Int):=by simp only [goLen,ints_len]
 constructor
 ·unfold impl_LeastPlan
  rw [h1,h2]
  simp only [Option.bind_some,Bool.not_true,cond_false]
  rw [freeI_ok hS.ps n1 m1 h8 m8 hS.pb]
  simp only [Option.bind_some]
  rw [gI,decide_eq_true (by omega)]
  rfl
 ·unfold spec_LeastPlan
  rw [h3,h4]
  simp only [Option.bind_some,Bool.not_true,cond_false]
  rw [freeS_ok hS,Option.bind_some,gF,decide_eq_true (by omega)]
  rfl

end

end Go.Gx.F
