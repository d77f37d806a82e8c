/- Plain laws: FnTotals. -/
import Derived.Test.YtmlegfogjdhhkaaGreatPTot2
import Derived.Test.YtmlegfogjdhhkaaGreatPCbd
namespace Go.Gx.F
open Go.Gx
set_option linter.all false

theorem loop_push0 {α β : Type} {l : List α} (f : α→β) (o : List β) {body : List β × Int→Option (Stp (List β × Int) (List β))}
  (h1 : ∀ (out : List β) (k : Nat) (x : α),l[k]? = some x→out.length = o.length + k→body (out,(k : Int)) = some (.next (out ++ [f x],((k + 1 : Nat) : Int))))
  (h2 : ∀ out : List β,body (out,(l.length : Int)) = some (.done out)) : loopC body (o,0) = some (o ++ l.map f):=by
 suffices h : ∀ (j k : Nat),k + j = l.length→loopC body (o ++ (l.take k).map f,(k : Int)) = some (o ++ l.map f) by
  have:=h l.length 0 (by omega)
  simpa using this
 intro j
 induction j with
 | zero =>
  intro k hk
  obtain rfl : k = l.length:=by omega
  rw [loopC_eq,h2,List.take_of_length_le (Nat.le_refl _)]
 | succ j ih =>
  intro k hk
  have hx : l[k]? = some (l[k]'(by omega)):=by simp [show k < l.length by omega]
  generalize l[k]'(by omega) = x at hx
  rw [loopC_eq,h1 _ k x hx (by simp; omega)]
  have:=ih (k + 1) (by omega)
  rw [List.take_add_one,hx] at this
  simpa using this

theorem tDrawPartsOf {code : List (K .u8)} (ho : ∀ x ∈ code,Rng.ok x) : Tot (spec_DrawPartsOf code) fun _=>True:=by
 unfold spec_DrawPartsOf
 refine tot_bind (tsizes (cur0 ho) (by omega)) fun ⟨sizes,c1⟩ ⟨_,_,k1⟩=>?_
 obtain ⟨n,e1,e2,h1,_,_⟩:=counts sizes
 simp only
 rw [e2,Option.bind_some]
 refine tot_bind (Q:=fun r=>Cur 100 r.2) (tot_cond (fun _=>tot_bind (tone k1) fun ⟨b,c2⟩ k2=>tot_some (k2.le (by omega))) fun _=>tot_some (k1.le (by omega))) fun ⟨b,c2⟩ k2=>?_
 simp only at k2
 refine tot_cond (fun _=>?_) fun _=>?_
 ·rw [lLeast_eq,Option.bind_some]
  exact tot_bind (tpick k2 (hk:=by omega)) fun _ _=>tot_some trivial
 ·rw [wid (n:=(n : Int) + 2) (by omega) (by omega)]
  exact tot_bind (tpick k2 (hk:=by omega)) fun _ _=>tot_some trivial

theorem tDrawDifferenceOf {code : List (K .u8)} (ho : ∀ x ∈ code,Rng.ok x) : Tot (spec_DrawDifferenceOf code) fun r=>r.1.Sizes.length ≤ 5:=by
 unfold spec_DrawDifferenceOf
 refine tot_bind (tcube (cur0 ho) (by omega)) fun ⟨a,c1⟩ ⟨ha,_,_,k1⟩=>?_
 simp only at ha k1
 obtain ⟨n,e1,e2,h1,h2,_⟩:=counts a.Sizes
 simp only
 rw [e2,Option.bind_some]
 refine tot_bind (Q:=fun r=>(r.1 = true→0 < n)∧Cur 40000 r.2) (tot_cond (fun hc=>tot_bind (tone k1) fun ⟨b,c2⟩ k2=>tot_some ⟨fun _=>by have:=of_decide_eq_true hc; omega,k2.le (by omega)⟩) fun _=>tot_some ⟨fun h=>by simp at h,k1.le (by omega)⟩) fun ⟨b,c2⟩ ⟨hb,k2⟩=>?_
 simp only at hb k2
 refine tot_cond (fun hc=>?_) fun _=>tot_bind (tcube k2 (by omega)) fun _ _=>tot_some ha
 obtain ⟨S,hS,hv,_⟩:=h2 (by have:=hb hc; omega)
 refine tot_bind (tbase k2 (by omega)) fun ⟨base,c3⟩ ⟨_,hB,hl,_⟩=>?_
 simp only at hB hl
 rw [hS,spec_cbOf_eq hv hB (hl S hS hv)]
 exact tot_some ha

def szN (g : impl_Geo) (s : List impl_Variable) (t : impl_Table) : List Nat:=(lev g.Parents t.Level).length :: (part s t.Vars).map fun v=>v.Levels.toNat

theorem prod_tops : ∀ {l : List impl_Variable},(∀ v ∈ l,2 ≤ v.Levels∧v.Levels ≤ 8)→prodN (l.map fun v=>v.Levels.toNat) = cnt (tops l)
 | [],_=>rfl
 | v :: l,h=>by
  have hv:=h v (by simp)
  have ih:=prod_tops (l:=l) fun w hw=>h w (by simp [hw])
  simp only [tops,List.map_cons,prodN,cnt] at ih ⊢
  rw [ih,show v.Levels.toNat - 1 + 1 = v.Levels.toNat by omega]

theorem szN_up {g : impl_Geo} {s : List impl_Variable} {t : impl_Table} (hT : OkT g s t) : up (szN g s t) = goLen (lev g.Parents t.Level) :: (part s t.Vars).map fun v=>v.Levels:=by
 simp only [szN,up,List.map_cons,List.map_map,goLen]
 congr 1
 refine List.map_congr_left fun v hv=>?_
 have:=hT.lv.b v hv
 simp only [Function.comp]
 omega

theorem sizes_impl {g : impl_Geo} {s : List impl_Variable} {t : impl_Table} (hT : OkT g s t) : loopC (impl_CubeOfTable_l1 (part s t.Vars)) ([goLen (lev g.Parents t.Level)],0) = some (up (szN g s t)):=by
 have hl:=hT.lv.l
 rw [loop_push0 (l:=part s t.Vars) (fun v=>v.Levels) _ (fun out k x hx ho=>?_) (fun out=>by simp only [impl_CubeOfTable_l1,lt_end,cond_false]),szN_up hT]
 ·rfl
 ·have hk:=(List.getElem?_eq_some_iff.1 hx).1
  simp only [List.length_singleton] at ho
  simp only [impl_CubeOfTable_l1,lt_ok hx,at_ok hx,cond_true,Option.bind_some,nx_ok hx (show (part s t.Vars).length ≤ 9223372036854775807 by omega)]
  rw [goApp_ok (by simp; omega)]
  rfl

theorem cbSizes_eq {g : impl_Geo} {s : List impl_Variable} {t : impl_Table} (hT : OkT g s t) : spec_cbSizes g s t = some (up (szN g s t)):=by
 have hl:=hT.lv.l
 unfold spec_cbSizes spec_sLevels
 rw [gLevel_eq hT.go,Option.bind_some,hT.cross',Option.bind_some,loop_push (l:=part s t.Vars) (fun v=>v.Levels) (fun out k x hx ho=>?_) (fun out=>by simp only [spec_sLevels_l1,lt_end,cond_false])]
 ·simp only [Option.bind_some]
  rw [goApp_ok (by simp; omega),szN_up hT]
  rfl
 ·have hk:=(List.getElem?_eq_some_iff.1 hx).1
  simp only [spec_sLevels_l1,lt_ok hx,at_ok hx,cond_true,Option.bind_some,nx_ok hx (show (part s t.Vars).length ≤ 9223372036854775807 by omega)]
  rw [goApp_ok (by simp; omega)]
  rfl

theorem tab_rk {g : impl_Geo} {s : List impl_Variable} {t : impl_Table} {l : List impl_Record} (hT : OkT g s t) (hU : OkU g s l) : (tabF g s t l).length = rk (szN g s t) (cnt (szN g s t))∧Bnd (tabF g s t l):=by
 have hll:=hU.1.1
 have hI:=tabF_inv hT (show l.length ≤ 1000 by omega) hU.cnt
 refine ⟨?_,fun v hv=>by have:=hI.b v hv; omega⟩
 rw [hI.l,rk_all]
 unfold num szN
 simp only [prodN]
 rw [prod_tops hT.lv.b]

theorem CubeOf_impl {S : List Nat} (hv : VC S) {base : List Int} (hbl : base.length ≤ 1000000) : ∃ p : impl_Cube × Bool,impl_CubeOf (up S) base = some p∧(p.2 = true ↔ base.length = rk S (cnt S)∧Bnd base∧Bnd (cubeT S base).Cells)∧(p.2 = true→p.1 = cubeT S base)∧(p.2 = false→p.1 = noCube):=by
 obtain ⟨e1,_⟩:=counts_up hv
 have hc:=cnt_pos S
 unfold impl_CubeOf
 rw [e1,Option.bind_some,show (((cnt S : Nat) : Int) == 0) = false by simp; omega,cond_false]
 obtain ⟨p,ep,h⟩:=impl_cubeOf_eq hv hbl
 rw [ep]
 exact ⟨p,rfl,h⟩

theorem CubeOfTable_same {g : impl_Geo} {s : List impl_Variable} {t : impl_Table} {l : List impl_Record} (hs : TameS s) (hV : t.Vars.length ≤ 1000000) (hl : TameD l) :
  ∃ p : impl_Cube × Bool,impl_CubeOfTable g s t l = some p∧spec_CubeOfTable g s t l = some p∧(p.2 = false→p.1 = noCube) ∧
   (p.2 = true→OkT g s t∧OkU g s l∧∃ S,GoodC S p.1∧p.1 = cubeT S (tabF g s t l)∧(tabF g s t l).length = rk S (cnt S)):=by
 obtain ⟨b1,f1,f1',g1⟩:=tables (g:=g) (s:=s) (t:=t) hs hV
 unfold impl_CubeOfTable spec_CubeOfTable
 rw [f1,f1']
 cases b1 with
 | false=>exact ⟨(noCube,false),rfl,rfl,fun _=>rfl,nofun⟩
 | true =>
  have hT:=g1.1 rfl
  have h1:=isSurvey_bis (g:=g) (s:=s) (l:=l) (by have:=hT.go.l2; omega) hl
  have h2:=uSurvey_bis hT.geo hT.sch hs hl
  obtain ⟨b2,f2,f2',g2⟩:=bis_same h1 h2
  simp only [Option.bind_some,Bool.not_true,cond_false]
  rw [f2,f2']
  cases b2 with
  | false=>exact ⟨(noCube,false),rfl,rfl,fun _=>rfl,nofun⟩
  | true =>
   have hU:=g2.1 rfl
   have hll:=hU.1.1
   have hn:=hT.top
   obtain ⟨hrk,hB⟩:=tab_rk hT hU
   have hI:=tabF_inv hT (show l.length ≤ 1000 by omega) hU.cnt
   have hIl:=hI.l
   obtain ⟨n,c1,c2,c3,c4,c5⟩:=counts (up (szN g s t))
   simp only [Option.bind_some,Bool.not_true,cond_false]
   rw [cbSizes_eq hT]
   simp only [Option.bind_some]
   rw [c2,areasAt_eq hT.go,Option.bind_some,hT.cross,Option.bind_some,sizes_impl hT,Option.bind_some,tableOf_eq hT (by omega) hU.cnt,Option.bind_some]
   by_cases h0 : n = 0
   ·subst h0
    have ei : impl_CubeOf (up (szN g s t)) (tabF g s t l) = some (noCube,false):=by
     unfold impl_CubeOf
     rw [c1]; rfl
    rw [ei]
    exact ⟨(noCube,false),rfl,rfl,fun _=>rfl,nofun⟩
   ·obtain ⟨S,hS,hv,rfl⟩:=c4 h0
    have:=up_inj hS
    subst this
    have hc:=cnt_pos (szN g s t)
    obtain ⟨p,p1,p2,p3,p4⟩:=CubeOf_impl hv (base:=tabF g s t l) (by omega)
    obtain ⟨q,eq,hq1,hq2,hq3⟩:=cbIf_eq (cubeT (szN g s t) (tabF g s t l))
    have hpq : q.2 = p.2:=by
     rw [Bool.eq_iff_iff,hq1,p2,cubeT_good hv]
     exact ⟨fun h=>⟨hrk,hB,h⟩,fun h=>h.2.2⟩
    have hqp : q = p:=pair_ext hpq (fun h=>by rw [p3 (by rw [← hpq]; exact h)]; exact hq2 h) fun h=>by rw [p4 (by rw [← hpq]; exact h)]; exact hq3 h
    subst hqp
    simp only [Option.bind_some]
    rw [show (((cnt (szN g s t) : Nat) : Int) == 0) = false by simp; omega]
    simp only [cond_false]
    rw [p1,uTable_eq hT (by omega) hU.cnt]
    simp only [Option.bind_some]
    rw [spec_cbOf_eq hv hB hrk]
    simp only [Option.bind_some]
    rw [eq]
    refine ⟨q,rfl,rfl,p4,fun h=>⟨hT,hU,?_⟩⟩
    obtain ⟨T,hg⟩:=hq1.1 h
    have hz:=hq2 h
    have hst : szN g s t = T:=up_inj hg.sz
    rw [hz]
    exact ⟨szN g s t,by rw [hst] at hg ⊢; exact hg,rfl,hrk⟩

theorem sum_part {S : List Nat} {c : impl_Cube} (hg : GoodC S c) {m d s : Nat} (hm : m < cnt S) (hs : S[d]? = some s) (hd : (dig S m)[d]? = some s) : loopC (laws_FnTotals_l3 c (fP S m d)) (0,0) = some (.inl (ce c.Cells m)):=by
 obtain ⟨b1,b2⟩:=hg.vc.1.get hs
 have hln:=hg.ln
 have hcc:=hg.vc.2
 have hf : fP S m d = up ((List.range s).map fun k=>ix S ((dig S m).set d k)):=by unfold fP; simp [List.getD_eq_getElem?_getD,hs]
 have hp : parts S (ce c.Cells) m d s = ce c.Cells m:=Classical.byContradiction fun h=>hg.ok m hm ⟨d,s,hs,hd,h⟩
 rw [hf,← hp]
 refine tot_eq ?_
 have hb : ∀ k,k ≤ s→-1000000 ≤ ce c.Cells (ix S ((dig S m).set d k))∧ce c.Cells (ix S ((dig S m).set d k)) ≤ 1000000:=fun k hk=>hg.bd _ (ce_mem (by rw [hln]; exact part_lt hm hs hk))
 refine tot_loop (fun t=>∃ j : Nat,t = (sg (fun k=>ce c.Cells (ix S ((dig S m).set d k))) j,(j : Int))∧j ≤ s) (fun t=>40 - t.2.toNat) ⟨0,rfl,by omega⟩ ?_
 rintro t ⟨j,rfl,hj⟩
 simp only [laws_FnTotals_l3]
 by_cases hlt : j < s
 ·have hx : ((List.range s).map fun k=>ix S ((dig S m).set d k))[j]? = some (ix S ((dig S m).set d j)):=by simp [hlt]
  have hpl:=part_lt (k:=j) hm hs (by omega)
  rw [up_lt hx,cond_true,up_at hx,Option.bind_some,decide_eq_false (show ¬ ((ix S ((dig S m).set d j) : Nat) : Int) < 0 by omega),cond_false,show decide (goLen c.Cells ≤ ((ix S ((dig S m).set d j) : Nat) : Int)) = false by simp [goLen,hln]; omega,Option.bind_some,cond_false,ce_at (by rw [hln]; exact hpl),Option.bind_some]
  have hsb:=sg_bound (g:=fun k=>ce c.Cells (ix S ((dig S m).set d k))) (B:=1000000) (n:=j + 1) fun k hk=>hb _ (by omega)
  rw [sg] at hsb
  refine tot_some ⟨⟨j + 1,?_,by omega⟩,by simp only; rw [wid (n:=(j : Int) + 1) (by omega) (by omega)]; omega⟩
  rw [wid (by omega) (by omega),wid (n:=(j : Int) + 1) (by omega) (by omega),sg]
  rfl
 ·obtain rfl : j = s:=by omega
  rw [up_end (by simp),cond_false]
  exact tot_some rfl

theorem laws_FnTotals_true (a b : List (K .u8)) (o1 : Rng.ok a) (o2 : Rng.ok b) : laws_FnTotals a b = some true:=by
 refine tot_eq ?_
 unfold laws_FnTotals
 refine tot_cond (fun _=>tot_some rfl) fun _=>?_
 unfold spec_DrawCubeOfTable
 refine tot_bind (Q:=fun r=>SmallS 8 r.2.1∧SmallT 9 r.2.2.1∧SmallD r.2.2.2) (tot_bind (tDrawTableOf o1.2) fun _ h=>tot_some h) fun ⟨g,s,t,l⟩ ⟨hs,ht,hl⟩=>?_
 simp only at hs ht hl
 have hVl:=ht.1
 obtain ⟨p,p1,p2,p4,p3⟩:=CubeOfTable_same (g:=g) (s:=s) (t:=t) (l:=l) hs.tame (by omega) hl.tame
 simp only
 rw [p1,p2,Option.bind_some,Option.bind_some]
 refine tot_bind (tDrawPartsOf o2.2) fun ⟨sizes,i⟩ _=>?_
 obtain ⟨q,q1,q2,q3,q4⟩:=PartsOf_same sizes i
 simp only
 rw [q1,q2,Option.bind_some,Option.bind_some]
 refine tot_bind (tDrawDifferenceOf o2.2) fun ⟨x,y⟩ hx=>?_
 simp only at hx
 obtain ⟨d,d1,d2,d3⟩:=DifferenceOf_same x y (by omega)
 simp only
 rw [d1,d2,Option.bind_some,Option.bind_some]
 have hp : laws_qInts p.1.Sizes p.1.Sizes = some true∧laws_qInts p.1.Cells p.1.Cells = some true:=by
  cases h : p.2 with
  | false=>rw [p4 h]; exact ⟨qInts_same (by simp [noCube]),qInts_same (by simp [noCube])⟩
  | true =>
   obtain ⟨_,_,S,hg,_⟩:=p3 h
   have:=hg.vc.1.l; have:=hg.vc.2
   exact ⟨qInts_same (by rw [hg.sz,up_len]; omega),qInts_same (by rw [hg.ln]; omega)⟩
 rw [hp.1,hp.2,qLists_same (by omega) (fun z hz=>by have:=q4 z hz; omega),qInts_same (by omega)]
 simp only [bne_self_eq_false,cond_false,Option.bind_some,Bool.not_true]
 cases hp2 : p.2 with
 | false=>exact tot_some rfl
 | true =>
  obtain ⟨hT,hU,S,hg,he,hrk⟩:=p3 hp2
  have hll:=hU.1.1
  have hI:=tabF_inv hT (show l.length ≤ 1000 by omega) hU.cnt
  have hIl:=hI.l
  have hn:=hT.top
  have hcc:=hg.vc.2
  rw [BaseOf_ok hg,TableOf_ok hs.tame hl.tame hT hU]
  have hbv : bvals S (ce p.1.Cells) (cnt S) = tabF g s t l:=by rw [he]; exact bvals_base hrk
  simp only [Option.bind_some,Bool.not_true,cond_false]
  rw [hbv,qInts_same (by omega)]
  simp only [Option.bind_some,Bool.not_true,cond_false]
  refine tot_bind (Q:=fun r=>r = .inl ()) ?_ fun r hr=>by subst hr; exact tot_some rfl
  refine tot_loop (fun t=>∃ k : Nat,t = ((k : Int),p.1)∧k ≤ cnt S) (fun t=>3000 - t.1.toNat) ⟨0,rfl,by omega⟩ ?_
  rintro t ⟨k,rfl,hk⟩
  simp only [laws_FnTotals_l1]
  by_cases hlt : k < cnt S
  ·obtain ⟨e1,_⟩:=PartsOf_ok hg.vc hlt
   rw [show decide ((k : Int) < goLen p.1.Cells) = true by simp [goLen,hg.ln]; exact hlt,cond_true,ce_at (by rw [hg.ln]; exact hlt),Option.bind_some,hg.sz,e1,Option.bind_some]
   simp only [Bool.not_true,cond_false]
   refine tot_bind (Q:=fun r=>r = .inl ()) ?_ fun r hr=>?_
   ·have hpl : (partsL S k).length ≤ 4:=Nat.le_trans (picks_len _) hg.vc.1.l
    refine tot_loop (fun t=>∃ j : Nat,t = (j : Int)∧j ≤ (partsL S k).length) (fun t=>10 - t.toNat) ⟨0,rfl,by omega⟩ ?_
    rintro t ⟨j,rfl,hj⟩
    simp only [laws_FnTotals_l2]
    by_cases hjl : j < (partsL S k).length
    ·have hz : (partsL S k)[j]? = some (partsL S k)[j]:=by simp [hjl]
     generalize (partsL S k)[j] = z at hz
     obtain ⟨d,hd,hsel,rfl⟩:=mem_picks.1 (List.mem_of_getElem? hz)
     have hsd : S[d]? = some S[d]:=by simp [hd]
     have hdd : (dig S k)[d]? = some S[d]:=by
      have:=hsel
      unfold selP at this
      rw [hsd] at this
      simpa using this
     rw [lt_ok hz,cond_true,at_ok hz,Option.bind_some,sum_part hg hlt hsd hdd,Option.bind_some]
     simp only [bne_self_eq_false,cond_false]
     refine tot_some ⟨⟨j + 1,?_,by omega⟩,?_⟩
     ·rw [wid (by omega) (by omega)]; omega
     ·rw [wid (by omega) (by omega)]; omega
    ·obtain rfl : j = (partsL S k).length:=by omega
     rw [lt_end,cond_false]
     exact tot_some rfl
   ·subst hr
    refine tot_some ⟨⟨k + 1,?_,by omega⟩,?_⟩
    ·rw [wid (by omega) (by omega)]; simp
    ·simp only; rw [wid (by omega) (by omega)]; omega
  ·obtain rfl : k = cnt S:=by omega
   rw [show decide (((cnt S : Nat) : Int) < goLen p.1.Cells) = false by simp [goLen,hg.ln],cond_false]
   exact tot_some rfl

end Go.Gx.F
