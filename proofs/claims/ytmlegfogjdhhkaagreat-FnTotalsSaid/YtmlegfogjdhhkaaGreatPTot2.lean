/- Plain laws: differences and parts of cubes,alike. -/
import Derived.Test.YtmlegfogjdhhkaaGreatPTot1
import Derived.Test.YtmlegfogjdhhkaaGreatPDt

namespace Go.Gx.F

open Go.Gx

set_option linter.all false

theorem l1Same_bis {a b : List Int} (hl : a.length ≤ 1000000) : Bis (spec_l1Same a b) (a = b):=by
 unfold spec_l1Same
 by_cases h : a.length = b.length
 ·rw [show (goLen a != goLen b) = false by simp [goLen,h],cond_false]
  refine bis_iff (bis_loop (l:=a) (fun k x=>b[k]? = some x) (fun k x hx=>?_) (by simp only [spec_l1Same_l1,lt_end,cond_false])) ?_
  ·have hk:=(List.getElem?_eq_some_iff.1 hx).1
   have hy : b[k]? = some (b[k]'(by omega)):=by simp [show k < b.length by omega]
   generalize b[k]'(by omega) = y at hy
   simp only [spec_l1Same_l1,lt_ok hx,at_ok hx,at_ok hy,cond_true,Option.bind_some,nx_ok hx (show a.length ≤ 9223372036854775807 by omega)]
   refine ⟨x == y,by rw [hy,Option.some.injEq,beq_iff_eq]; exact eq_comm,?_⟩
   by_cases hxy : x = y
   ·subst hxy; simp
   ·rw [show (x != y) = true by simpa using hxy,show (x == y) = false by simpa using hxy]; rfl
  ·constructor
   ·intro hh
    refine List.ext_getElem? fun k=>?_
    by_cases hk : k < a.length
    ·have hx : a[k]? = some a[k]:=by simp [hk]
     rw [hx,hh k _ hx]
    ·rw [List.getElem?_eq_none (by omega),List.getElem?_eq_none (by omega)]
   ·rintro rfl k x hx; exact hx
 ·rw [show (goLen a != goLen b) = true by simp [goLen]; omega]
  refine ⟨false,rfl,?_⟩
  simp only [Bool.false_eq_true,false_iff]
  rintro rfl
  exact h rfl

theorem diff_loop' {S : List Nat} {a b : impl_Cube} (ha : GoodC S a) (hb : GoodC S b) : loopC (spec_DifferenceOf_l1 a b) (0,⟨up S,[]⟩) = some (diffC S (ce a.Cells) (ce b.Cells)):=by
 have hc:=ha.vc.2
 refine tot_eq ?_
 refine tot_loop (fun s=>∃ k : Nat,s = ((k : Int),⟨up S,tab k fun i=>ce a.Cells i - ce b.Cells i⟩)∧k ≤ cnt S) (fun s=>3000 - s.1.toNat) ⟨0,rfl,by omega⟩ ?_
 rintro s ⟨k,rfl,hk⟩
 simp only [spec_DifferenceOf_l1]
 refine tot_cond (fun hcc=>?_) fun hcc=>tot_some ?_
 ·have hlt : k < cnt S:=by
   have:=of_decide_eq_true hcc
   simp only [goLen,ha.ln] at this; omega
  have h1:=ha.bd _ (ce_mem (l:=a.Cells) (i:=k) (by rw [ha.ln]; exact hlt))
  have h2:=hb.bd _ (ce_mem (l:=b.Cells) (i:=k) (by rw [hb.ln]; exact hlt))
  rw [ce_at (by rw [ha.ln]; exact hlt),Option.bind_some,ce_at (by rw [hb.ln]; exact hlt),Option.bind_some,goApp_ok (by simp [tab_len]; omega),Option.bind_some,wid (n:=(k : Int) + 1) (by omega) (by omega),wid (by omega) (by omega)]
  refine tot_some ⟨⟨k + 1,?_,by omega⟩,by simp only; omega⟩
  refine Prod.ext rfl ?_
  simp only [impl_Cube.mk.injEq,true_and]
  exact tab_snoc k fun i=>ce a.Cells i - ce b.Cells i
 ·have hlt : ¬ k < cnt S:=by
   have:=of_decide_eq_false hcc
   simp only [goLen,ha.ln] at this; omega
  obtain rfl : k = cnt S:=by omega
  rfl

theorem DifferenceOf_same (a b : impl_Cube) (hn : a.Sizes.length ≤ 1000000) : ∃ p : impl_Cube × Bool,impl_DifferenceOf a b = some p∧spec_DifferenceOf a b = some p∧p.1.Cells.length ≤ 2000:=by
 unfold impl_DifferenceOf spec_DifferenceOf
 obtain ⟨x,ex,ex',hx⟩:=bis_same (IsCube_bis a) (cbGood_bis a)
 rw [ex,ex',Option.bind_some,Option.bind_some]
 cases x with
 | false=>exact ⟨(noCube,false),rfl,rfl,by simp [noCube]⟩
 | true =>
  obtain ⟨S,hS⟩:=hx.1 rfl
  obtain ⟨y,ey,ey',hy⟩:=bis_same (IsCube_bis b) (cbGood_bis b)
  simp only [Bool.not_true,cond_false,ey,ey',Option.bind_some]
  cases y with
  | false=>exact ⟨(noCube,false),rfl,rfl,by simp [noCube]⟩
  | true =>
   obtain ⟨S',hS'⟩:=hy.1 rfl
   obtain ⟨z,ez,ez',hz⟩:=bis_same (Equal_bis (a:=a.Sizes) (b:=b.Sizes) hn) (l1Same_bis (a:=a.Sizes) (b:=b.Sizes) hn)
   simp only [Bool.not_true,cond_false,ez,ez',Option.bind_some]
   cases z with
   | false=>exact ⟨(noCube,false),rfl,rfl,by simp [noCube]⟩
   | true =>
    have : S = S':=up_inj (hS.sz.symm.trans ((hz.1 rfl).trans hS'.sz))
    subst this
    have h1:=hS.vc.1.l
    have h2:=hS.vc.2
    simp only [Bool.not_true,cond_false]
    rw [hS.sz,clone_eq (by rw [up_len]; omega),clone_eq (by rw [hS.ln]; omega),own_eq (by rw [up_len]; omega)]
    simp only [Option.bind_some]
    rw [diff_loop hS hS',diff_loop' hS hS',Option.bind_some,Option.bind_some]
    obtain ⟨w,ew,hw⟩:=areCubeValues_bis (l:=(diffC S (ce a.Cells) (ce b.Cells)).Cells) (by simp only [diffC,tab_len]; omega)
    obtain ⟨q,eq,hq1,hq2,hq3⟩:=cbIf_eq (diffC S (ce a.Cells) (ce b.Cells))
    rw [ew,eq,Option.bind_some,Option.bind_some]
    have hqw : q.2 = w:=by
     rw [Bool.eq_iff_iff,hq1,hw]
     exact ⟨fun ⟨T,hT⟩=>hT.bd,fun hB=>⟨S,diff_good hS hS' hB⟩⟩
    cases w with
    | false =>
     refine ⟨(noCube,false),rfl,?_,by simp [noCube]⟩
     show some (q.1,q.2) = _
     rw [hq3 hqw,hqw]
    | true =>
     refine ⟨(diffC S (ce a.Cells) (ce b.Cells),true),rfl,?_,by simp only [diffC,tab_len]; omega⟩
     show some (q.1,q.2) = _
     rw [hq2 hqw,hqw]

def selP (S : List Nat) (m d : Nat) : Bool:=(dig S m)[d]? == S[d]?

def fP (S : List Nat) (m d : Nat) : List Int:=up ((List.range (S.getD d 0)).map fun k=>ix S ((dig S m).set d k))

def partsL (S : List Nat) (m : Nat) : List (List Int):=picks (selP S m) (fP S m) S.length

theorem fP_len {S : List Nat} (h : VC S) {m d : Nat} : (fP S m d).length ≤ 30:=by
 unfold fP
 rw [up_len,List.length_map,List.length_range]
 cases e : S[d]? with
 | none=>simp [List.getD_eq_getElem?_getD,e]
 | some s=>have:=h.1.get e; simp [List.getD_eq_getElem?_getD,e]; omega

theorem parts_impl {S : List Nat} (h : VC S) {m d s : Nat} (hm : m < cnt S) (hs : S[d]? = some s) (hd : (dig S m)[d]? = some s) :
  loopC (impl_PartsOf_l2 (m : Int) (up (strd S)) (d : Int)) ([],(s : Int)) = some (fP S m d):=by
 obtain ⟨b1,b2⟩:=h.1.get hs
 have hc:=h.2
 have hf : fP S m d = up ((List.range s).map fun k=>ix S ((dig S m).set d k)):=by unfold fP; simp [List.getD_eq_getElem?_getD,hs]
 rw [hf]
 refine tot_eq (tot_loop (fun t=>∃ j : Nat,t = (up ((List.range j).map fun k=>ix S ((dig S m).set d k)),((s - j : Nat) : Int))∧j ≤ s) (fun t=>t.2.toNat) ⟨0,rfl,by omega⟩ ?_)
 rintro t ⟨j,rfl,hj⟩
 simp only [impl_PartsOf_l2]
 refine tot_cond (fun hc2=>?_) fun hc2=>tot_some ?_
 ·have hlt : j < s:=by
   have:=of_decide_eq_true hc2
   omega
  have hp:=part_ix hm hs hd (k:=s - j) (by omega)
  rw [show s - (s - j) = j by omega] at hp
  rw [up_at (strd_get hs),Option.bind_some,← Int.natCast_mul,wnat (by omega),show ((m : Int) - (((s - j) * cnt (S.drop (d + 1)) : Nat) : Int)) = ((ix S ((dig S m).set d j) : Nat) : Int) by omega,wnat (by omega),goApp_ok (by simp [up]; omega),Option.bind_some]
  refine tot_some ⟨⟨j + 1,?_,by omega⟩,by simp only; rw [wid (by omega) (by omega)]; omega⟩
  rw [wid (by omega) (by omega)]
  refine Prod.ext ?_ (by simp only; omega)
  simp [up,List.range_succ]
 ·have hlt : ¬ j < s:=fun hlt=>of_decide_eq_false hc2 (by omega)
  obtain rfl : j = s:=by omega
  rfl

theorem PartsOf_ok {S : List Nat} (h : VC S) {m : Nat} (hm : m < cnt S) : impl_PartsOf (up S) (m : Int) = some (partsL S m,true)∧spec_PartsOf (up S) (m : Int) = some (partsL S m,true):=by
 obtain ⟨e1,e2⟩:=counts_up h
 have hc:=h.2
 have hl:=h.1.l
 have hdl : (dig S m).length = S.length:=dig_len S m
 have hsel : ∀ {d : Nat},d < S.length→∃ s x : Nat,S[d]? = some s∧(dig S m)[d]? = some x∧selP S m d = (x == s):=fun {d} hd=>by
  have hs : S[d]? = some S[d]:=by simp [hd]
  have hx : (dig S m)[d]? = some ((dig S m)[d]'(by omega)):=by simp [show d < (dig S m).length by omega]
  exact ⟨_,_,hs,hx,by unfold selP; rw [hs,hx]; rfl⟩
 constructor
 ·unfold impl_PartsOf
  rw [decide_eq_false (show ¬ (m : Int) < 0 by omega),cond_false,e1,Option.bind_some,decide_eq_false (show ¬ ((cnt S : Nat) : Int) ≤ (m : Int) by omega)]
  simp only [Option.bind_some,cond_false]
  rw [strides_eq h.1,Option.bind_some,indexOf_eq h.1 hm,Option.bind_some,loop_sel (n:=S.length) (selP S m) (fP S m) (fun out d hd ho=>?_) (fun out=>by simp only [impl_PartsOf_l1,up_end hdl,cond_false])]
  ·rfl
  ·obtain ⟨s,x,hs,hx,hsl⟩:=hsel hd
   simp only [impl_PartsOf_l1,up_lt hx,cond_true,up_at hx,up_at hs,Option.bind_some]
   rw [hsl,show w64 ((d : Int) + 1) = ((d + 1 : Nat) : Int) from (wid (by omega) (by omega)).trans (by omega)]
   by_cases hxs : x = s
   ·subst hxs
    rw [show ((x : Int) != (x : Int)) = false by simp,beq_self_eq_true,cond_false,parts_impl h hm hs hx,Option.bind_some,goApp_ok (by simp; omega)]
    rfl
   ·rw [show ((x : Int) != (s : Int)) = true by simp; omega,show (x == s) = false by simpa using hxs]
    rfl
 ·unfold spec_PartsOf
  rw [e2,Option.bind_some,lIn_eq,wid (by omega) (by omega),decide_eq_true (show 0 ≤ (m : Int)∧(m : Int) ≤ ((cnt S : Nat) : Int) - 1 by omega)]
  simp only [Option.bind_some,Bool.not_true,cond_false]
  rw [cbIndices_eq h.1 hm,Option.bind_some,loop_sel (n:=S.length) (selP S m) (fP S m) (fun out d hd ho=>?_) (fun out=>by simp only [spec_PartsOf_l1,up_end hdl,cond_false])]
  ·rfl
  ·obtain ⟨s,x,hs,hx,hsl⟩:=hsel hd
   simp only [spec_PartsOf_l1,up_lt hx,cond_true,up_at hx,up_at hs,Option.bind_some]
   rw [hsl,show w64 ((d : Int) + 1) = ((d + 1 : Nat) : Int) from (wid (by omega) (by omega)).trans (by omega)]
   by_cases hxs : x = s
   ·subst hxs
    have hf : fP S m d = up ((List.range x).map fun k=>ix S ((dig S m).set d k)):=by unfold fP; simp [List.getD_eq_getElem?_getD,hs]
    rw [beq_self_eq_true,beq_self_eq_true,cond_true,parts_list h hm hs,Option.bind_some,goApp_ok (by simp; omega),hf]
    rfl
   ·rw [show ((x : Int) == (s : Int)) = false by simp; omega,show (x == s) = false by simpa using hxs]
    rfl

theorem PartsOf_same (sizes : List Int) (i : Int) : ∃ p : List (List Int) × Bool,impl_PartsOf sizes i = some p∧spec_PartsOf sizes i = some p∧p.1.length ≤ 4∧∀ x ∈ p.1,x.length ≤ 30:=by
 obtain ⟨n,e1,e2,h1,h2,h3⟩:=counts sizes
 by_cases h0 : 0 ≤ i∧i < n
 ·obtain ⟨S,rfl,hv,rfl⟩:=h2 (by omega)
  obtain ⟨m,rfl⟩:=Int.eq_ofNat_of_zero_le h0.1
  obtain ⟨p1,p2⟩:=PartsOf_ok hv (m:=m) (by omega)
  refine ⟨_,p1,p2,Nat.le_trans (picks_len _) hv.1.l,fun x hx=>?_⟩
  obtain ⟨d,_,_,rfl⟩:=mem_picks.1 hx
  exact fP_len hv
 ·refine ⟨([],false),?_,?_,by simp,by simp⟩
  ·unfold impl_PartsOf
   by_cases g1 : i < 0
   ·rw [decide_eq_true g1]; rfl
   ·rw [decide_eq_false g1,cond_false,e1,Option.bind_some,decide_eq_true (show (n : Int) ≤ i by omega)]; rfl
  ·unfold spec_PartsOf
   rw [e2,Option.bind_some,lIn_eq,wid (by omega) (by omega),decide_eq_false (show ¬ (0 ≤ i∧i ≤ (n : Int) - 1) by omega)]
   rfl

end Go.Gx.F
