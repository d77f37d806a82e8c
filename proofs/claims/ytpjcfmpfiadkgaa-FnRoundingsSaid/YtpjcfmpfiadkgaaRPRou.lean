/- Plain laws: FnRoundings. -/
import Derived.Test.YtpjcfmpfiadkgaaRPRo5
namespace Go.Gx.F
open Go.Gx
set_option linter.all false
set_option maxRecDepth 10000

theorem ob2 (b i : Int) (r : List Int) : impl_OriginalBounds_l2 b i r = spec_OriginalBounds_l2 b i r:=by
 funext ⟨lo,hi,j⟩
 simp only [impl_OriginalBounds_l2,spec_OriginalBounds_l2,lMost_eq,Option.bind_some]

theorem ob1 (y : List (List Int)) (b : Int) : impl_OriginalBounds_l1 y b = spec_OriginalBounds_l1 y b:=by
 funext ⟨lo,hi,j⟩
 simp only [impl_OriginalBounds_l1,spec_OriginalBounds_l1,ob2]

section
variable {n m : Nat} {x c : List (List Int)} {b : Int}

theorem ob_ok (hb : 2 ≤ b∧b ≤ 100) (hc : Shp n m c) (hn : n ≤ 8) (hm : m ≤ 8) (hcb : ∀ i j,i < n→j < m→0 ≤ mt c i j∧mt c i j ≤ 20000) (hq : ∀ i j,i < n→j < m→∃ q,mt c i j = q * b) :
  Tot (loopC (spec_OriginalBounds_l1 c b) (c,c,0)) fun o=>∃ lo hi,o = .inl (lo,hi)∧Shp n m lo∧Shp n m hi∧∀ a d,a < n→d < m→mt lo a d = max 0 (mt c a d - b + 1)∧mt hi a d = mt c a d + b - 1:=by
 have hcl:=hc.len
 refine tot_loop (fun s=>∃ i : Nat,i ≤ n∧s.2.2 = (i : Int)∧Shp n m s.1∧Shp n m s.2.1∧∀ a d,a < n→d < m→mt s.1 a d = (if a < i then max 0 (mt c a d - b + 1) else mt c a d)∧mt s.2.1 a d = (if a < i then mt c a d + b - 1 else mt c a d)) (fun s=>n - s.2.2.toNat)
  ⟨0,by omega,rfl,hc,hc,fun a d _ _=>⟨by rw [if_neg (by omega)],by rw [if_neg (by omega)]⟩⟩ ?_
 rintro ⟨lo,hi,_⟩ ⟨i,hi',rfl,g1,g2,g3⟩
 simp only at g1 g2 g3
 by_cases hi0 : i < n
 ·obtain ⟨row,hrow,_,hrl,_,_⟩:=hc.get hi0
  have e2 : Tot (loopC (spec_OriginalBounds_l2 b (i : Int) row) (lo,hi,0)) fun o=>∃ lo hi,o = .inl (lo,hi)∧Shp n m lo∧Shp n m hi∧∀ a d,a < n→d < m→mt lo a d = (if a < i + 1 then max 0 (mt c a d - b + 1) else mt c a d)∧mt hi a d = (if a < i + 1 then mt c a d + b - 1 else mt c a d):=by
   refine tot_loop (fun s=>∃ j : Nat,j ≤ m∧s.2.2 = (j : Int)∧Shp n m s.1∧Shp n m s.2.1∧∀ a d,a < n→d < m→mt s.1 a d = (if a < i ∨ a = i∧d < j then max 0 (mt c a d - b + 1) else mt c a d)∧mt s.2.1 a d = (if a < i ∨ a = i∧d < j then mt c a d + b - 1 else mt c a d)) (fun s=>m - s.2.2.toNat)
    ⟨0,by omega,rfl,g1,g2,fun a d ha hd=>?_⟩ ?_
   ·have:=g3 a d ha hd
    by_cases hai : a < i
    ·rw [if_pos hai,if_pos hai] at this
     rw [if_pos (.inl hai),if_pos (.inl hai)]; exact this
    ·rw [if_neg hai,if_neg hai] at this
     rw [if_neg (by omega),if_neg (by omega)]; exact this
   ·rintro ⟨l,h,_⟩ ⟨j,hj',rfl,k1,k2,k3⟩
    simp only at k1 k2 k3
    by_cases hj : j < m
    ·have hy:=hc.el hrow hj
     obtain ⟨q,hqe⟩:=hq i j hi0 hj
     have hv:=hcb i j hi0 hj
     have er : goRem (mt c i j) b = some 0:=tot_eq (tot_rem (by omega) (by rw [hqe]; exact Int.mul_tmod_left _ _))
     obtain ⟨lr,hlr,_,_,_,_⟩:=k1.get hi0
     obtain ⟨hr,hhr,_,_,_,_⟩:=k2.get hi0
     simp only [spec_OriginalBounds_l2,lt_ok hy,cond_true,at_ok hy,Option.bind_some]
     rw [er]
     simp only [Option.bind_some]
     rw [show ((0 : Int) != 0) = false from rfl,cond_false,lMost_eq]
     simp only [Option.bind_some,at_ok hlr,at_ok hhr,at_ok (k1.el hlr hj),at_ok (k2.el hhr hj),goSet,Int.toNat_natCast]
     rw [set_upd hlr,set_upd hhr,wid (n:=(j : Int) + 1) (by omega) (by omega),wid (n:=mt c i j - b) (by omega) (by omega),wid (n:=mt c i j - b + 1) (by omega) (by omega),wid (n:=mt c i j + b) (by omega) (by omega),wid (n:=mt c i j + b - 1) (by omega) (by omega)]
     refine tot_some ⟨⟨j + 1,by omega,by simp only; omega,k1.upd hi0,k2.upd hi0,fun a d ha hd=>?_⟩,by simp only; omega⟩
     simp only
     rw [mt_upd k1 hi0 hj,mt_upd k2 hi0 hj,(k3 a d ha hd).1,(k3 a d ha hd).2]
     by_cases hac : a = i∧d = j
     ·rw [if_pos hac,if_pos hac,if_pos (by omega),if_pos (by omega),hac.1,hac.2]; exact ⟨rfl,rfl⟩
     ·rw [if_neg hac,if_neg hac]
      by_cases hd2 : a < i ∨ a = i∧d < j
      ·rw [if_pos hd2,if_pos hd2,if_pos (by omega),if_pos (by omega)]; exact ⟨rfl,rfl⟩
      ·rw [if_neg hd2,if_neg hd2,if_neg (by omega),if_neg (by omega)]; exact ⟨rfl,rfl⟩
    ·obtain rfl : j = m:=by omega
     have e3 : decide ((j : Int) < goLen row) = false:=decide_eq_false (by simp only [goLen]; omega)
     simp only [spec_OriginalBounds_l2,e3,cond_false]
     refine tot_some ⟨l,h,rfl,k1,k2,fun a d ha hd=>?_⟩
     have:=k3 a d ha hd
     by_cases hd2 : a < i ∨ a = i∧d < j
     ·rw [if_pos hd2,if_pos hd2] at this
      rw [if_pos (by omega),if_pos (by omega)]; exact this
     ·rw [if_neg hd2,if_neg hd2] at this
      rw [if_neg (by omega),if_neg (by omega)]; exact this
  obtain ⟨_,eo,l,h,rfl,k1,k2,k3⟩:=e2
  simp only [spec_OriginalBounds_l1,lt_ok hrow,cond_true,at_ok hrow,Option.bind_some]
  rw [eo]
  simp only [Option.bind_some]
  rw [wid (n:=(i : Int) + 1) (by omega) (by omega)]
  exact tot_some ⟨⟨i + 1,by omega,by simp only; omega,k1,k2,k3⟩,by simp only; omega⟩
 ·obtain rfl : i = n:=by omega
  have e3 : decide ((i : Int) < goLen c) = false:=decide_eq_false (by simp only [goLen]; omega)
  simp only [spec_OriginalBounds_l1,e3,cond_false]
  exact tot_some ⟨lo,hi,rfl,g1,g2,fun a d ha hd=>by have:=g3 a d ha hd; rw [if_pos ha,if_pos ha] at this; exact this⟩

theorem orig_ok (hb : 2 ≤ b∧b ≤ 100) (hn1 : 1 ≤ n) (hm1 : 1 ≤ m) (hn : n ≤ 7) (hm : m ≤ 7) (hc : Shp n m c) (hcb : ∀ i j,i < n→j < m→0 ≤ mt c i j∧mt c i j ≤ 20000) (hq : ∀ i j,i < n→j < m→∃ q,mt c i j = q * b) :
  ∃ lo hi d,impl_OriginalBounds c b = some (lo,hi,d)∧spec_OriginalBounds c b = some (lo,hi,d)∧((lo = []∧hi = []) ∨ (Shp n m lo∧Shp n m hi∧∀ i j,i < n→j < m→mt lo i j = max 0 (mt c i j - b + 1)∧mt hi i j = mt c i j + b - 1)):=by
 have hcl:=hc.len
 have hsz : Sz c:=hc.sz (by omega) (by omega)
 obtain ⟨c1,c2,v1,v2,v3,v4,v5⟩:=valid_r b hsz
 unfold impl_OriginalBounds spec_OriginalBounds
 rw [v1,v2,v3,copy_eq hsz (by omega),tOwn_ok hc (by omega) (by omega)]
 cases c1 with
 | false=>exact ⟨[],[],false,rfl,rfl,.inl ⟨rfl,rfl⟩⟩
 | true =>
  cases c2 with
  | false=>exact ⟨[],[],false,rfl,rfl,.inl ⟨rfl,rfl⟩⟩
  | true =>
   simp only [Option.bind_some,Bool.not_true,cond_false,Bool.and_self]
   obtain ⟨_,eo,lo,hi,rfl,k1,k2,k3⟩:=ob_ok hb hc (by omega) (by omega) hcb hq
   rw [ob1,eo]
   exact ⟨lo,hi,true,rfl,rfl,.inr ⟨k1,k2,k3⟩⟩

theorem within_ok (hx : Mx n m x) {lo hi : List (List Int)} {d : Bool} (h : (lo = []∧hi = []) ∨ (Shp n m lo∧Shp n m hi∧∀ i j,i < n→j < m→mt lo i j ≤ mt x i j∧mt x i j ≤ mt hi i j)) : loopC (laws_FnRoundings_l1 (x,b) (lo,hi,d)) 0 = some (.inl ()):=by
 have n7:=hx.n7; have m7:=hx.m7
 rcases h with ⟨rfl,rfl⟩ | ⟨k1,k2,k3⟩
 ·refine runM (N:=0) (by omega) (fun i hi=>by omega) ?_
  simp only [laws_FnRoundings_l1]
  rfl
 ·have hl:=k1.len
  refine runM (N:=n) (by omega) (fun i hi0=>?_) ?_
  ·obtain ⟨lr,hlr,_,hll,_,_⟩:=k1.get hi0
   obtain ⟨hr,hhr,_,_,_,_⟩:=k2.get hi0
   obtain ⟨xr,hxr,_,_,_,_⟩:=hx.sh.get hi0
   have L2 : loopC (laws_FnRoundings_l2 (x,b) (lo,hi,d) (i : Int) lr) 0 = some (.inl ()):=by
    refine runM (N:=m) (by omega) (fun j hj=>?_) ?_
    ·have hy:=k1.el hlr hj
     have:=k3 i j hi0 hj
     simp only [laws_FnRoundings_l2,lt_ok hy,cond_true,at_ok hxr,at_ok (hx.sh.el hxr hj),at_ok hlr,at_ok hy,Option.bind_some,at_ok hhr,at_ok (k2.el hhr hj)]
     rw [decide_eq_false (by omega),cond_false,decide_eq_false (by omega)]
     rfl
    ·have e3 : decide ((m : Int) < goLen lr) = false:=decide_eq_false (by simp only [goLen]; omega)
     simp only [laws_FnRoundings_l2,e3,cond_false]
   simp only [laws_FnRoundings_l1,lt_ok hlr,cond_true,at_ok hlr,Option.bind_some]
   rw [L2]
   rfl
  ·have e3 : decide ((n : Int) < goLen lo) = false:=decide_eq_false (by simp only [goLen]; omega)
   simp only [laws_FnRoundings_l1,e3,cond_false]

theorem range_r {x : List (List Int)} (hx : Sz x) (b i j : Int) : ∃ r,impl_RoundingRange x b i j = some r∧spec_RoundingRange x b i j = some r:=by
 obtain ⟨c1,c2,v1,v2,v3,v4,v5⟩:=valid_r b hx
 unfold impl_RoundingRange spec_RoundingRange
 rw [v1,v2,v3]
 cases c1 with
 | false=>exact ⟨(0,0,false),rfl,rfl⟩
 | true =>
  cases c2 with
  | false=>exact ⟨(0,0,false),rfl,rfl⟩
  | true =>
   have hb:=v5 rfl
   obtain ⟨n,m,hM⟩:=v4 rfl
   have n7:=hM.n7; have m7:=hM.m7; have n1:=hM.n1; have m1:=hM.m1; have hxl:=hM.sh.len
   obtain ⟨row0,hrow0,_,hrow0l,_,_⟩:=hM.sh.get (i:=0) (by omega)
   have g0 : goAt x 0 = some row0:=at_ok (k:=0) hrow0
   have gn : goLen x = (n : Int):=by simp only [goLen]; rw [hxl]
   have gm : goLen row0 = (m : Int):=by simp only [goLen]; rw [hrow0l]
   obtain ⟨t,e1,e2,hN,hT⟩:=nets_r hb hM
   simp only [Option.bind_some,Bool.not_true,cond_false,Bool.and_self]
   rw [g0,gn,e1,e2]
   simp only [Option.bind_some]
   rw [gm,lIn_eq,lIn_eq,wid (n:=(n : Int) - 1) (by omega) (by omega),wid (n:=(m : Int) - 1) (by omega) (by omega)]
   simp only [Option.bind_some]
   have bad : ∀ {α : Type} (k : Option (Int × Int × Bool)),(cond true (some ((0 : Int),(0 : Int),false)) k) = some (0,0,false):=fun k=>rfl
   by_cases h1 : i < 0
   ·rw [decide_eq_true h1,decide_eq_false (show ¬ (0 ≤ i∧i ≤ (n : Int) - 1) by omega)]
    exact ⟨(0,0,false),rfl,rfl⟩
   rw [decide_eq_false h1]
   by_cases h2 : (n : Int) ≤ i
   ·rw [decide_eq_true h2,decide_eq_false (show ¬ (0 ≤ i∧i ≤ (n : Int) - 1) by omega)]
    exact ⟨(0,0,false),rfl,rfl⟩
   rw [decide_eq_false h2,decide_eq_true (show 0 ≤ i∧i ≤ (n : Int) - 1 by omega)]
   by_cases h3 : j < 0
   ·rw [decide_eq_true h3,decide_eq_false (show ¬ (0 ≤ j∧j ≤ (m : Int) - 1) by omega)]
    exact ⟨(0,0,false),rfl,rfl⟩
   rw [decide_eq_false h3]
   by_cases h4 : (m : Int) ≤ j
   ·rw [decide_eq_true h4,decide_eq_false (show ¬ (0 ≤ j∧j ≤ (m : Int) - 1) by omega)]
    exact ⟨(0,0,false),rfl,rfl⟩
   rw [decide_eq_false h4,decide_eq_true (show 0 ≤ j∧j ≤ (m : Int) - 1 by omega)]
   simp only [cond_false,Bool.not_true,Option.bind_some]
   obtain ⟨ai,rfl⟩:=Int.eq_ofNat_of_zero_le (show 0 ≤ i by omega)
   obtain ⟨aj,rfl⟩:=Int.eq_ofNat_of_zero_le (show 0 ≤ j by omega)
   have hai : ai < n + 1:=by omega
   have haj : aj < m + 1:=by omega
   have hrl:=hN.rl; have hcl:=hN.cl
   unfold impl_CellRange
   rw [isTr_ok hT]
   simp only [Option.bind_some,Bool.not_true,cond_false]
   rw [decide_eq_false (show ¬ ((ai : Int)) < 0 by omega),decide_eq_false (show ¬ goLen t.Rows ≤ (ai : Int) by simp only [goLen]; omega),decide_eq_false (show ¬ ((aj : Int)) < 0 by omega),decide_eq_false (show ¬ goLen t.Cols ≤ (aj : Int) by simp only [goLen]; omega)]
   simp only [cond_false,Option.bind_some]
   obtain ⟨y,ey,hy⟩:=anyFlow_ok hT
   rw [ey]
   rcases hy with ⟨rfl,hno⟩ | ⟨hy,hF⟩
   ·obtain ⟨z,d,ez,q1,q2⟩:=feas_ok hT
    cases d with
    | true=>exact absurd (q1 rfl).2 (hno _)
    | false =>
     unfold spec_tRange
     rw [ez]
     refine ⟨(w64 (0 * b),w64 (0 * b),false),rfl,rfl⟩
   ·obtain ⟨lo,hh,er,q1,q2⟩:=range_ok hT hy hF hai haj
    obtain ⟨lo',hh',es,p1,p2⟩:=tRange_ok hT hai haj ⟨_,hF⟩
    obtain rfl:=q1.one p1
    obtain rfl:=q2.one p2
    simp only [Option.bind_some]
    rw [(ne_ok hy hT.n1).2,cond_false,er,es]
    exact ⟨_,rfl,rfl⟩

end

theorem range_part {p_more : List (K .u8)} (ho : ∀ x ∈ p_more,Rng.ok x) : ((spec_DrawRoundingRange p_more).bind fun t_86=>((impl_RoundingRange t_86.1 t_86.2.1 t_86.2.2.1 t_86.2.2.2).bind fun t_89=>((spec_RoundingRange t_86.1 t_86.2.1 t_86.2.2.1 t_86.2.2.2).bind fun t_91=>(((cond (t_89.2.2 == t_91.2.2) (cond (t_89.1 == t_91.1) (some (t_89.2.1 == t_91.2.1)) (some false)) (some false)) : Option (Bool)).bind fun t_93=>some t_93)))) = some true:=by
 obtain ⟨⟨x,b,i,j⟩,ed,hx⟩:=tDrawRR ho
 simp only at hx
 obtain ⟨r,e1,e2⟩:=range_r hx b i j
 rw [ed,Option.bind_some]
 simp only
 rw [e1,e2]
 simp only [Option.bind_some,beq_self_eq_true,cond_true]

theorem pSame_ok {y : impl_Rounding} (h1 : laws_sameLists y.Cells y.Cells = some true) (h2 : y.Rows.length ≤ 1000) (h3 : y.Cols.length ≤ 1000) : laws_pSameRounding y y = some true:=by
 unfold laws_pSameRounding
 rw [h1,sameInts_r h2,sameInts_r h3]
 simp only [Option.bind_some,cond_true,beq_self_eq_true]

theorem pNet_ok {n m : Nat} {t : impl_Transport} (hT : Tr n m t) : laws_pSameNetwork t t = some true:=by
 have h1:=hT.rl; have h2:=hT.cl; have h3:=hT.n8; have h4:=hT.m8
 unfold laws_pSameNetwork
 rw [sameInts_r (by omega),sameInts_r (by omega),sameLists_n hT.lo h3 h4,sameLists_n hT.hi h3 h4]
 rfl

theorem laws_FnRoundings_true (a b : List (K .u8)) (o1 : Rng.ok a) (o2 : Rng.ok b) : laws_FnRoundings a b = some true:=by
 refine tot_eq ?_
 unfold laws_FnRoundings
 refine tot_bind (Q:=fun _=>True) ?_ fun c _=>tot_cond (fun _=>tot_some rfl) fun _=>?_
 ·unfold laws_big
  exact tot_bind (Q:=fun _=>True) (tot_cond (fun _=>tot_some trivial) fun _=>tot_some trivial) fun _ _=>tot_some trivial
 obtain ⟨⟨x,base⟩,ed,hx⟩:=tDrawR o1.2
 simp only at hx
 rw [ed,Option.bind_some]
 simp only
 have s0 : laws_pSameRounding ⟨[],[],[],0⟩ ⟨[],[],[],0⟩ = some true:=pSame_ok (sameLists_r (by simp) (fun r hr=>by cases hr)) (by simp) (by simp)
 obtain ⟨c1,c2,v1,v2,v3,v4,v5⟩:=valid_r base hx
 have bad : (c1 && c2) = false→impl_FirstRounding x base = some (⟨[],[],[],0⟩,false)∧spec_FirstRounding x base = some (⟨[],[],[],0⟩,false):=fun h=>by
  unfold impl_FirstRounding spec_FirstRounding
  rw [v1,v2,v3,h]
  cases c1 with
  | false=>exact ⟨rfl,rfl⟩
  | true =>
   cases c2 with
   | false=>exact ⟨rfl,rfl⟩
   | true=>cases h
 by_cases hv : (c1 && c2) = true
 ·rw [Bool.and_eq_true] at hv
  obtain ⟨rfl,rfl⟩:=hv
  have hb:=v5 rfl
  obtain ⟨n,m,hM⟩:=v4 rfl
  have n7:=hM.n7; have m7:=hM.m7
  obtain ⟨t,e1,e2,hN,hT⟩:=nets_r hb hM
  by_cases hex : ∃ y,IsF (n + 1) (m + 1) t y
  ·obtain ⟨f,q1,q2,hf,hF⟩:=firsts hT hex
   have hR:=hN.rf hf hF
   obtain ⟨c,rs,cs,tot,r1,r2,hc,hcv,rsl,csl,r3⟩:=round_ok hb hM hR v1 v2
   have i1 : impl_FirstRounding x base = some (⟨c,rs,cs,tot⟩,true):=by
    unfold impl_FirstRounding
    rw [v1,v2]
    simp only [Option.bind_some,Bool.not_true,cond_false]
    rw [e1,Option.bind_some,q1,Option.bind_some,(ne_ok hf hT.n1).2,cond_false,r1]; rfl
   have i2 : spec_FirstRounding x base = some (⟨c,rs,cs,tot⟩,true):=by
    unfold spec_FirstRounding
    rw [v3]
    simp only [Option.bind_some,Bool.not_true,cond_false,Bool.and_self]
    rw [e2,Option.bind_some,q2]
    simp only [Option.bind_some,Bool.not_true,cond_false]
    rw [r2]; rfl
   have i3 : impl_RoundingNetwork x base = some (t,true):=by
    unfold impl_RoundingNetwork
    rw [v1,v2]
    simp only [Option.bind_some,Bool.not_true,cond_false]
    rw [e1]; rfl
   have i4 : spec_RoundingNetwork x base = some (t,true):=by
    unfold spec_RoundingNetwork
    rw [v3]
    simp only [Option.bind_some,Bool.not_true,cond_false,Bool.and_self]
    rw [e2]; rfl
   have hcb : ∀ i j,i < n→j < m→0 ≤ mt c i j∧mt c i j ≤ 20000:=fun i j hi hj=>by
    rw [hcv i j hi hj]
    have:=hR.bd hb hM hi hj
    have:=hM.bd i j hi hj
    omega
   obtain ⟨lo,hi,d,i5,i6,hlh⟩:=orig_ok hb hM.n1 hM.m1 n7 m7 hc hcb fun i j hi hj=>⟨_,hcv i j hi hj⟩
   have hw : (lo = []∧hi = []) ∨ (Shp n m lo∧Shp n m hi∧∀ i j,i < n→j < m→mt lo i j ≤ mt x i j∧mt x i j ≤ mt hi i j):=by
    rcases hlh with h | ⟨k1,k2,k3⟩
    ·exact .inl h
    ·refine .inr ⟨k1,k2,fun i j hi' hj=>?_⟩
     have a1:=k3 i j hi' hj
     have a2:=hR.bd hb hM hi' hj
     have a3:=hM.bd i j hi' hj
     have a4:=hcv i j hi' hj
     omega
   have sl : laws_sameLists lo lo = some true∧laws_sameLists hi hi = some true:=by
    rcases hw with ⟨rfl,rfl⟩ | ⟨k1,k2,_⟩
    ·exact ⟨sameLists_r (by simp) (fun r hr=>by cases hr),sameLists_r (by simp) (fun r hr=>by cases hr)⟩
    ·exact ⟨sameLists_n k1 (by omega) (by omega),sameLists_n k2 (by omega) (by omega)⟩
   obtain ⟨k,kb,ek,hk⟩:=count_ok hT
   have i7 : impl_CountRoundings x base = some (k,kb):=by
    unfold impl_CountRoundings
    rw [v1,v2]
    simp only [Option.bind_some,Bool.not_true,cond_false]
    rw [e1,Option.bind_some,ek]; rfl
   have hkc : (cond kb (some (decide (k < 1))) (some false) : Option Bool) = some false:=by
    cases kb with
    | false=>rfl
    | true =>
     have:=hk rfl hex
     rw [cond_true,decide_eq_false (by omega)]
   rw [i1,i2]
   simp only [Option.bind_some,bne_self_eq_false,cond_false]
   rw [pSame_ok (y:=⟨c,rs,cs,tot⟩) (sameLists_n hc (by omega) (by omega)) (by simp only; omega) (by simp only; omega)]
   simp only [Option.bind_some,Bool.not_true,cond_false,cond_true]
   rw [r3,i3,i4,i5]
   simp only [Option.bind_some,Bool.not_true,cond_false]
   rw [pNet_ok hT,isTr_ok hT,i6]
   simp only [Option.bind_some,Bool.not_true,cond_false,bne_self_eq_false]
   rw [sl.1,sl.2]
   simp only [Option.bind_some,Bool.not_true,cond_false]
   rw [within_ok hM hw]
   simp only [Option.bind_some]
   rw [i7]
   simp only [Option.bind_some]
   rw [hkc]
   simp only [Option.bind_some,cond_false]
   rw [range_part o2.2]
   exact tot_some rfl
  ·obtain ⟨z,q1,g⟩:=firstFlow_ok hT
   rcases g with ⟨rfl,_⟩ | ⟨_,g⟩
   ·obtain ⟨y,d,q2,g1,g2⟩:=tFirst_ok hT
    cases d with
    | true=>exact absurd ⟨_,(g1 rfl).2.isF⟩ hex
    | false =>
     obtain ⟨rfl,_⟩:=g2 rfl
     have i1 : impl_FirstRounding x base = some (⟨[],[],[],0⟩,false):=by
      unfold impl_FirstRounding
      rw [v1,v2]
      simp only [Option.bind_some,Bool.not_true,cond_false]
      rw [e1,Option.bind_some,q1]; rfl
     have i2 : spec_FirstRounding x base = some (⟨[],[],[],0⟩,false):=by
      unfold spec_FirstRounding
      rw [v3]
      simp only [Option.bind_some,Bool.not_true,cond_false,Bool.and_self]
      rw [e2,Option.bind_some,q2]; rfl
     rw [i1,i2]
     simp only [Option.bind_some,bne_self_eq_false,cond_false,s0,Bool.not_true]
     rw [range_part o2.2]
     exact tot_some rfl
   ·exact absurd ⟨_,g.isF⟩ hex
 ·have hv : (c1 && c2) = false:=by cases h : (c1 && c2) with | false=>rfl | true=>exact absurd h hv
  obtain ⟨i1,i2⟩:=bad hv
  rw [i1,i2]
  simp only [Option.bind_some,bne_self_eq_false,cond_false,s0,Bool.not_true]
  rw [range_part o2.2]
  exact tot_some rfl

end Go.Gx.F
