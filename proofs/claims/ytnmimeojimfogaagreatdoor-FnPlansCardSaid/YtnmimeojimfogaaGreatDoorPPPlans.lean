/- Plain laws: the law of lists of tables. -/
import Derived.Test.YtnmimeojimfogaaGreatDoorPPPln
namespace Go.Gx.F
open Go.Gx
set_option linter.all false

section
variable {g : impl_Geo} {s : List impl_Variable} {t u : impl_Table} {l : List impl_Table}

theorem concat_ok {a b : List impl_Table} (ha : a.length ≤ 1000) (hb : b.length ≤ 1000) : slices_Concat_impl_Table_impl_Table [a,b] = some (a ++ b):=by
  unfold slices_Concat_impl_Table_impl_Table
  have e1 : loopC (slices_Concat_impl_Table_impl_Table_l1 [a,b]) (0,0) = some (((a.length + b.length : Nat) : Int)):=by
    have s1 : slices_Concat_impl_Table_impl_Table_l1 [a,b] (0,0) = some (.next ((a.length : Int),1)):=by
      simp only [slices_Concat_impl_Table_impl_Table_l1]
      rw [show decide ((0 : Int) < goLen [a,b]) = true from rfl,cond_true,show goAt [a,b] 0 = some a from rfl,Option.bind_some,wid (n:=0 + goLen a) (by simp only [goLen]; omega) (by simp only [goLen]; omega),decide_eq_false (by simp only [goLen]; omega),cond_false,Int.zero_add]
      rfl
    have s2 : slices_Concat_impl_Table_impl_Table_l1 [a,b] ((a.length : Int),1) = some (.next (((a.length + b.length : Nat) : Int),2)):=by
      simp only [slices_Concat_impl_Table_impl_Table_l1]
      rw [show decide ((1 : Int) < goLen [a,b]) = true from rfl,cond_true,show goAt [a,b] 1 = some b from rfl,Option.bind_some,wid (n:=(a.length : Int) + goLen b) (by simp only [goLen]; omega) (by simp only [goLen]; omega),decide_eq_false (by simp only [goLen]; omega),cond_false,show (a.length : Int) + goLen b = ((a.length + b.length : Nat) : Int) by simp only [goLen]; omega]
      rfl
    rw [loopC_nx s1,loopC_nx s2,loopC_eq]
    simp only [slices_Concat_impl_Table_impl_Table_l1]
    rw [show decide ((2 : Int) < goLen [a,b]) = false from rfl,cond_false]
  rw [e1,Option.bind_some]
  unfold slices_Grow_impl_Table
  rw [decide_eq_true (by omega),cond_true,Option.bind_some]
  have s1 : slices_Concat_impl_Table_impl_Table_l2 [a,b] ([],0) = some (.next (a,1)):=by
    simp only [slices_Concat_impl_Table_impl_Table_l2]
    rw [show decide ((0 : Int) < goLen [a,b]) = true from rfl,cond_true,show goAt [a,b] 0 = some a from rfl,Option.bind_some,goApp_ok (by simp; omega),Option.bind_some,List.nil_append]
    rfl
  have s2 : slices_Concat_impl_Table_impl_Table_l2 [a,b] (a,1) = some (.next (a ++ b,2)):=by
    simp only [slices_Concat_impl_Table_impl_Table_l2]
    rw [show decide ((1 : Int) < goLen [a,b]) = true from rfl,cond_true,show goAt [a,b] 1 = some b from rfl,Option.bind_some,goApp_ok (by omega),Option.bind_some]
    rfl
  rw [loopC_nx s1,loopC_nx s2,loopC_eq]
  simp only [slices_Concat_impl_Table_impl_Table_l2]
  rw [show decide ((2 : Int) < goLen [a,b]) = false from rfl,cond_false]
  rfl

theorem anySame_impl (hl : ∀ u ∈ l,OkT g s u) (hn : l.length ≤ 1000) (ht : OkT g s t) : Bis (slices_ContainsFunc_impl_Table_impl_Table_of_impl_MergePlans_1 l s t) (∃ u ∈ l,nrm s t = nrm s u):=by
  unfold slices_ContainsFunc_impl_Table_impl_Table_of_impl_MergePlans_1 slices_IndexFunc_impl_Table_impl_Table_of_impl_MergePlans_1
  have key : ∀ (j k : Nat),k + j = l.length→(∀ i u,i < k→l[i]? = some u→¬ nrm s t = nrm s u)→(loopC (slices_IndexFunc_impl_Table_impl_Table_of_impl_MergePlans_1_l1 l s t) (k : Int) = some (.inl ())∧¬ ∃ u ∈ l,nrm s t = nrm s u) ∨ ∃ r : Nat,loopC (slices_IndexFunc_impl_Table_impl_Table_of_impl_MergePlans_1_l1 l s t) (k : Int) = some (.inr (r : Int))∧∃ u ∈ l,nrm s t = nrm s u:=by
    intro j
    induction j with
    | zero =>
      intro k hk hall
      obtain rfl : k = l.length:=by omega
      rw [loopC_eq]
      simp only [slices_IndexFunc_impl_Table_impl_Table_of_impl_MergePlans_1_l1,lt_end,cond_false]
      refine .inl ⟨trivial,?_⟩
      rintro ⟨u,hu,hF⟩
      obtain ⟨i,hi⟩:=List.getElem?_of_mem hu
      exact hall i u (List.getElem?_eq_some_iff.1 hi).1 hi hF
    | succ j ih =>
      intro k hk hall
      have hv : l[k]? = some (l[k]'(by omega)):=by simp [show k < l.length by omega]
      generalize l[k]'(by omega) = u at hv
      have hu:=hl u (List.mem_of_getElem? hv)
      obtain ⟨b,e,hb⟩:=sameMeaning_bis ht hu
      rw [loopC_eq]
      simp only [slices_IndexFunc_impl_Table_impl_Table_of_impl_MergePlans_1_l1,impl_MergePlans_1,lt_ok hv,at_ok hv,cond_true,Option.bind_some,e]
      cases b with
      | true=>exact .inr ⟨k,rfl,u,List.mem_of_getElem? hv,hb.1 rfl⟩
      | false =>
        simp only [cond_false,nx_ok hv (show l.length ≤ 9223372036854775807 by omega)]
        refine ih (k + 1) (by omega) fun i w hi hw=>?_
        by_cases hik : i = k
        · subst hik
          rw [hv] at hw
          obtain rfl:=Option.some.inj hw
          exact fun h=>by have:=hb.2 h; cases this
        · exact hall i w (by omega) hw
  have h:=key l.length 0 (by omega) fun i w hi=>by omega
  rw [show ((0 : Nat) : Int) = 0 from rfl] at h
  rcases h with ⟨e,h⟩ | ⟨r,e,h⟩
  · rw [e]
    exact ⟨false,rfl,by simp only [Bool.false_eq_true,false_iff]; exact h⟩
  · rw [e]
    exact ⟨decide (0 ≤ (r : Int)),rfl,by rw [decide_eq_true_eq]; exact ⟨fun _=>h,fun _=>by omega⟩⟩

theorem anySame_spec (hl : ∀ u ∈ l,OkT g s u) (hn : l.length ≤ 1000) (ht : OkT g s t) : Bis (loopC (spec_MergePlans_l2 s l t) (false,0)) (∃ u ∈ l,nrm s t = nrm s u):=by
  have key : ∀ (j k : Nat) (b : Bool),k + j = l.length→(b = true ↔ ∃ (i : Nat) (u : impl_Table),i < k∧l[i]? = some u∧nrm s t = nrm s u)→∃ b' : Bool,loopC (spec_MergePlans_l2 s l t) (b,(k : Int)) = some b'∧(b' = true ↔ ∃ u ∈ l,nrm s t = nrm s u):=by
    intro j
    induction j with
    | zero =>
      intro k b hk hb
      obtain rfl : k = l.length:=by omega
      rw [loopC_eq]
      simp only [spec_MergePlans_l2,lt_end,cond_false]
      refine ⟨b,rfl,?_⟩
      rw [hb]
      constructor
      · rintro ⟨i,u,_,hi,hF⟩; exact ⟨u,List.mem_of_getElem? hi,hF⟩
      · rintro ⟨u,hu,hF⟩
        obtain ⟨i,hi⟩:=List.getElem?_of_mem hu
        exact ⟨i,u,(List.getElem?_eq_some_iff.1 hi).1,hi,hF⟩
    | succ j ih =>
      intro k b hk hb
      have hv : l[k]? = some (l[k]'(by omega)):=by simp [show k < l.length by omega]
      generalize l[k]'(by omega) = u at hv
      have hu:=hl u (List.mem_of_getElem? hv)
      obtain ⟨c,e,hc⟩:=nSame_bis ht hu
      rw [loopC_eq]
      simp only [spec_MergePlans_l2,lt_ok hv,at_ok hv,cond_true,Option.bind_some,e,nx_ok hv (show l.length ≤ 9223372036854775807 by omega)]
      have e2 : (cond b (some true) (some c) : Option Bool) = some (b || c):=by cases b <;> rfl
      rw [e2]
      refine ih (k + 1) (b || c) (by omega) ?_
      rw [Bool.or_eq_true,hb,hc]
      constructor
      · rintro (⟨i,w,hi,hw,hF⟩ | hF)
        · exact ⟨i,w,by omega,hw,hF⟩
        · exact ⟨k,u,by omega,hv,hF⟩
      · rintro ⟨i,w,hi,hw,hF⟩
        by_cases hik : i = k
        · subst hik
          rw [hv] at hw
          obtain rfl:=Option.some.inj hw
          exact .inr hF
        · exact .inl ⟨i,w,by omega,hw,hF⟩
  obtain ⟨b',e,h⟩:=key l.length 0 false (by omega) (by simp)
  exact ⟨b',e,h⟩

theorem merge_loops {L : List impl_Table} (hL : ∀ t ∈ L,OkT g s t) (hn : L.length ≤ 100) : ∃ out,loopC (impl_MergePlans_l1 s L) ([],0) = some out∧loopC (spec_MergePlans_l1 s L) ([],0) = some out∧(∀ u ∈ out,OkT g s u)∧∀ t ∈ L,∃ u ∈ out,nrm s t = nrm s u:=by
  have key : ∀ (j k : Nat) (o : List impl_Table),k + j = L.length→o.length ≤ k→(∀ u ∈ o,OkT g s u)→(∀ (i : Nat) (t : impl_Table),i < k→L[i]? = some t→∃ u ∈ o,nrm s t = nrm s u)→∃ out,loopC (impl_MergePlans_l1 s L) (o,(k : Int)) = some out∧loopC (spec_MergePlans_l1 s L) (o,(k : Int)) = some out∧(∀ u ∈ out,OkT g s u)∧∀ t ∈ L,∃ u ∈ out,nrm s t = nrm s u:=by
    intro j
    induction j with
    | zero =>
      intro k o hk ho hok hall
      obtain rfl : k = L.length:=by omega
      refine ⟨o,?_,?_,hok,fun t ht=>?_⟩
      · rw [loopC_eq]; simp only [impl_MergePlans_l1,lt_end,cond_false]
      · rw [loopC_eq]; simp only [spec_MergePlans_l1,lt_end,cond_false]
      · obtain ⟨i,hi⟩:=List.getElem?_of_mem ht
        exact hall i t (List.getElem?_eq_some_iff.1 hi).1 hi
    | succ j ih =>
      intro k o hk ho hok hall
      have hv : L[k]? = some (L[k]'(by omega)):=by simp [show k < L.length by omega]
      generalize L[k]'(by omega) = t at hv
      have hT:=hL t (List.mem_of_getElem? hv)
      have h1:=hT.vlen; have h2:=hT.whr.1; have h3:=hT.sch.2.1
      obtain ⟨b,e1,e2,hb⟩:=bis_same (anySame_impl hok (by omega) hT) (anySame_spec hok (by omega) hT)
      rw [loopC_eq,loopC_eq (body:=spec_MergePlans_l1 s L)]
      simp only [impl_MergePlans_l1,spec_MergePlans_l1,lt_ok hv,at_ok hv,cond_true,Option.bind_some,e1,e2,nx_ok hv (show L.length ≤ 9223372036854775807 by omega)]
      cases b with
      | true =>
        simp only [Bool.not_true,cond_false,Option.bind_some]
        refine ih (k + 1) o (by omega) (by omega) hok fun i w hi hw=>?_
        by_cases hik : i = k
        · subst hik
          rw [hv] at hw
          obtain rfl:=Option.some.inj hw
          exact hb.1 rfl
        · exact hall i w (by omega) hw
      | false =>
        have ec : impl_copyTable t = some t:=by
          unfold impl_copyTable
          rw [clone_eq (by omega),Option.bind_some,clone_eq (by omega),Option.bind_some]
        have eo : spec_nOwn t = some t:=by
          unfold spec_nOwn
          rw [own_eq (by omega),Option.bind_some,own_eq (by omega),Option.bind_some]
        rw [ec,eo]
        simp only [Bool.not_false,cond_true,Option.bind_some]
        rw [goApp_ok (by simp; omega)]
        simp only [Option.bind_some]
        refine ih (k + 1) (o ++ [t]) (by omega) (by simp; omega) (fun u hu=>?_) fun i w hi hw=>?_
        · rcases List.mem_append.1 hu with hu | hu
          · exact hok u hu
          · obtain rfl:=List.mem_singleton.1 hu; exact hT
        · by_cases hik : i = k
          · subst hik
            rw [hv] at hw
            obtain rfl:=Option.some.inj hw
            exact ⟨t,by simp,rfl⟩
          · obtain ⟨u,hu,hF⟩:=hall i w (by omega) hw
            exact ⟨u,List.mem_append_left _ hu,hF⟩
  exact key L.length 0 [] (by omega) (by simp) (fun u hu=>by simp at hu) (fun i t hi=>by omega)

theorem MergePlans_same {a b : List impl_Table} (hs : TameS s) (ha : TameP a) (hb : TameP b) : ∃ (y : List impl_Table) (c : Bool),impl_MergePlans g s a b = some (y,c)∧spec_MergePlans g s a b = some (y,c)∧y.length ≤ 20∧(∀ t ∈ y,OkT g s t)∧(c = true→OkP g s a∧OkP g s b∧OkP g s y∧∀ t ∈ a ++ b,∃ u ∈ y,nrm s t = nrm s u):=by
  obtain ⟨b1,f1,f1',g1⟩:=plans (g:=g) hs ha
  obtain ⟨b2,f2,f2',g2⟩:=plans (g:=g) hs hb
  unfold impl_MergePlans spec_MergePlans
  rw [f1,f1',f2,f2']
  cases b1 with
  | false=>exact ⟨[],false,rfl,rfl,by simp,fun t ht=>by simp at ht,by simp⟩
  | true =>
    cases b2 with
    | false=>exact ⟨[],false,rfl,rfl,by simp,fun t ht=>by simp at ht,by simp⟩
    | true =>
      have hA:=g1.1 rfl; have hB:=g2.1 rfl
      have h1:=hA.n; have h2:=hB.n
      have hall : ∀ t ∈ a ++ b,OkT g s t:=fun t ht=>by
        rcases List.mem_append.1 ht with ht | ht
        · exact hA.tab t ht
        · exact hB.tab t ht
      obtain ⟨out,e1,e2,hok,hcv⟩:=merge_loops hall (by simp; omega)
      simp only [Option.bind_some,Bool.not_true,cond_false]
      rw [concat_ok (by omega) (by omega),goApp_ok (by simp; omega)]
      simp only [Option.bind_some,List.nil_append]
      rw [goApp_ok (by omega)]
      simp only [Option.bind_some]
      rw [e1,e2]
      simp only [Option.bind_some]
      by_cases h20 : 20 < out.length
      · rw [decide_eq_true (by simp only [goLen]; omega)]
        exact ⟨[],false,rfl,rfl,by simp,fun t ht=>by simp at ht,by simp⟩
      · rw [decide_eq_false (by simp only [goLen]; omega)]
        exact ⟨out,true,rfl,rfl,by omega,hok,fun _=>⟨hA,hB,⟨hA.geo,hA.sch,by omega,hok⟩,hcv⟩⟩

theorem cset_nrm (h : OkT g s t) {k : Nat} (hk : k < s.length) : cset s (nrm s t) k = cset s t k:=by
  obtain ⟨v,x,hv,hx,h1,h2,h3,h4,h5⟩:=OkW.at_ h.sch h.whr hk
  have hn : (nrm s t).Where[k]? = _:=nWn_at (n:=s.length) hv hx
  unfold cset
  rw [hv,hn,hx]
  simp only [hk,true_and]
  by_cases h0 : x = full v
  · simp only [h0,if_true]
    split <;> simp
  · simp only [h0,if_false]

theorem fol_of_nrm (ht : OkT g s t) (hu : OkT g s u) (h : nrm s t = nrm s u) : Fol g s t u:=by
  have hl : t.Level = u.Level:=show (nrm s t).Level = (nrm s u).Level by rw [h]
  have hv : t.Vars = u.Vars:=show (nrm s t).Vars = (nrm s u).Vars by rw [h]
  have hsm : t.Sum = u.Sum:=show (nrm s t).Sum = (nrm s u).Sum by rw [h]
  have hc : ∀ k,k < s.length→cset s t k = cset s u k:=fun k hk=>by rw [← cset_nrm ht hk,← cset_nrm hu hk,h]
  exact ⟨.inl hl,fun v hm=>hv ▸ hm,fun k hk=>⟨fun _=>by rw [hc k hk,Nat.and_self],fun _=>hc k hk⟩,.inl hsm⟩

theorem Covers_true {m : List impl_Table} (hs : TameS s) (hl : OkP g s l) (hm : OkP g s m) (h : ∀ t ∈ m,∃ u ∈ l,Fol g s t u) : impl_CoversPlan g s l m = some (true,true):=by
  have hn:=hm.n; have hn2:=hl.n
  obtain ⟨b1,f1,_,g1⟩:=plans (g:=g) (l:=l) hs ⟨by omega,fun t ht=>by have:=(hl.tab t ht).vlen; omega⟩
  obtain ⟨b2,f2,_,g2⟩:=plans (g:=g) (l:=m) hs ⟨by omega,fun t ht=>by have:=(hm.tab t ht).vlen; omega⟩
  obtain rfl:=g1.2 hl
  obtain rfl:=g2.2 hm
  unfold impl_CoversPlan
  rw [f1,f2]
  simp only [Option.bind_some,Bool.not_true,cond_false]
  obtain ⟨c1,h1,e1⟩:=loop_find (l:=m) (body:=impl_CoversPlan_l1 g s l m) (fun _ t=>¬ ∃ u ∈ l,Fol g s t u) (false,true) (fun k t ht=>by
    obtain ⟨b,e,hb⟩:=anyFol_impl hl (hm.tab t (List.mem_of_getElem? ht))
    refine ⟨!b,by rw [← hb]; simp,?_⟩
    simp only [impl_CoversPlan_l1,lt_ok ht,at_ok ht,cond_true,Option.bind_some,e,nx_ok ht (show m.length ≤ 9223372036854775807 by omega)]
    cases b <;> rfl) (by simp only [impl_CoversPlan_l1,lt_end,cond_false])
  have hc : c1 = false:=by
    cases c1 with
    | false=>rfl
    | true =>
      obtain ⟨k,t,ht,hno⟩:=h1.1 rfl
      exact absurd (h t (List.mem_of_getElem? ht)) hno
  rw [e1,hc]
  rfl

end

theorem tDrawParsePlan {code : List (K .u8)} (ho : ∀ x ∈ code,Rng.ok x) : Tot (spec_DrawParsePlan code) fun r=>SmallS 8 r.2.1∧r.2.2.length ≤ 6000:=by
  unfold spec_DrawParsePlan
  refine tot_bind (tDrawPlanText ho) fun ⟨g,s,l⟩ ⟨hs,hl⟩=>?_
  simp only at hs hl ⊢
  rcases PlanText_same (g:=g) hs.tame hl.tame with ⟨hP,_,e⟩ | ⟨_,_,e⟩
  · have hln:=ptx_len hP.tab
    have hn:=hP.n
    rw [e]
    simp only [Option.bind_some,Bool.not_true,cond_false]
    refine tot_bind (tone (cur0 ho)) fun ⟨y,c3⟩ k3=>?_
    simp only at k3 ⊢
    refine tot_bind (Q:=fun x=>x.length ≤ 6000) (tot_cond (fun _=>?_) fun _=>tot_some (by omega)) fun x hx=>tot_some ⟨hs,hx⟩
    exact tot_bind (tspoilt k3 (by omega) (by simp)) fun ⟨x,c4⟩ ⟨hx,_⟩=>tot_some (by simp only at hx ⊢; omega)
  · rw [e]
    exact tot_some ⟨hs,by simp⟩

theorem tDrawMergePlans {code : List (K .u8)} (ho : ∀ x ∈ code,Rng.ok x) : Tot (spec_DrawMergePlans code) fun r=>SmallS 8 r.2.1∧SmallP 30 r.2.2.1∧SmallP 31 r.2.2.2:=by
  unfold spec_DrawMergePlans
  refine tot_bind (tDrawPlanText ho) fun ⟨g,s,l⟩ ⟨hs,hl⟩=>?_
  simp only at hs hl ⊢
  refine tot_bind (ttables (cur0 ho) hs) fun ⟨m,c1⟩ ⟨hm,k1⟩=>?_
  simp only at hm k1 ⊢
  have hm1:=hm.1
  refine tot_bind (Q:=fun f=>f = true→0 < l.length) (tot_cond (fun h=>tot_bind (tone k1) fun ⟨y,c2⟩ _=>tot_some fun _=>by have:=of_decide_eq_true h; simp only [goLen] at this; omega) fun _=>tot_some (by simp)) fun f hf=>?_
  refine tot_bind (Q:=fun b=>SmallP 31 b) (tot_cond (fun h=>?_) fun _=>tot_some ⟨by omega,hm.2⟩) fun b hb=>tot_some ⟨hs,hl,hb⟩
  have hpos:=hf h
  refine tot_bind (tot_at (Q:=fun t=>SmallT 9 t) (by omega) (by omega) fun e _ he=>hl.2 e he) fun t ht=>?_
  rw [goApp_ok (by simp; omega)]
  exact tot_some (hm.push ht (by omega))

theorem laws_FnPlans_true (a b : List (K .u8)) (o1 : Rng.ok a) (o2 : Rng.ok b) : laws_FnPlans a b = some true:=by
  refine tot_eq ?_
  unfold laws_FnPlans
  obtain ⟨t,et⟩:=big_tot a b
  rw [et,Option.bind_some]
  refine tot_cond (fun _=>tot_some rfl) fun _=>?_
  obtain ⟨⟨g,s,l⟩,q1,hs,hl⟩:=tDrawPlanText o1.2
  rw [q1]
  simp only [Option.bind_some]
  simp only at hs hl
  obtain ⟨⟨g2,s2,x⟩,q2,hs2,hx2⟩:=tDrawParsePlan o2.2
  obtain ⟨⟨g3,s3,a3,b3⟩,q3,hs3,ha3,hb3⟩:=tDrawMergePlans o2.2
  simp only at hs2 hx2 hs3 ha3 hb3
  have okl : ∀ {g : impl_Geo} {s : List impl_Variable} {y : List impl_Table},(∀ t ∈ y,OkT g s t)→∀ t ∈ y,t.Vars.length ≤ 1000000∧t.Where.length ≤ 1000000:=fun h t ht=>by
    have h1:=(h t ht).vlen; have h2:=(h t ht).whr.1; have h3:=(h t ht).sch.2.1
    omega
  have htail : Tot ((spec_DrawParsePlan b).bind fun t_22=>((impl_ParsePlan t_22.1 t_22.2.1 t_22.2.2).bind fun t_27=>((spec_ParsePlan t_22.1 t_22.2.1 t_22.2.2).bind fun t_30=>(((cond (t_27.2.2 != t_30.2.2) (some true) (cond (t_27.2.1 != t_30.2.1) (some true) ((laws_pSameTables t_27.1 t_30.1).bind fun t_33=>some (!t_33)))) : Option (Bool)).bind fun t_35=>(cond t_35 (some false) ((spec_DrawMergePlans b).bind fun t_36=>((impl_MergePlans t_36.1 t_36.2.1 t_36.2.2.1 t_36.2.2.2).bind fun t_45=>((spec_MergePlans t_36.1 t_36.2.1 t_36.2.2.1 t_36.2.2.2).bind fun t_48=>(((cond (t_45.2 != t_48.2) (some true) ((laws_pSameTables t_45.1 t_48.1).bind fun t_51=>some (!t_51))) : Option (Bool)).bind fun t_53=>(cond t_53 (some false) (cond t_45.2 ((impl_CoversPlan t_36.1 t_36.2.1 t_45.1 t_36.2.2.1).bind fun t_54=>((impl_CoversPlan t_36.1 t_36.2.1 t_45.1 t_36.2.2.2).bind fun t_56=>(((cond t_54.2 (cond t_56.2 (cond t_54.1 (some t_56.1) (some false)) (some false)) (some false)) : Option (Bool)).bind fun t_58=>some t_58))) (some true)))))))))))) (fun z=>z = true):=by
    obtain ⟨y,n,f,e1,e2,k1,k2⟩:=ParsePlan_same (g:=g2) (x:=x) hs2.tame (by omega)
    obtain ⟨z,c,m1,m2,m3,m4,m5⟩:=MergePlans_same (g:=g3) (a:=a3) (b:=b3) hs3.tame ha3.tame hb3.tame
    rw [q2,q3]
    simp only [Option.bind_some]
    rw [e1,e2]
    simp only [Option.bind_some,bne_self_eq_false,cond_false]
    rw [sameTs (by omega) (okl k2)]
    simp only [Option.bind_some,Bool.not_true,cond_false]
    rw [m1,m2]
    simp only [Option.bind_some,bne_self_eq_false,cond_false]
    rw [sameTs (by omega) (okl m4)]
    simp only [Option.bind_some,Bool.not_true,cond_false]
    cases c with
    | false=>exact ⟨true,rfl,rfl⟩
    | true =>
      obtain ⟨hA,hB,hZ,hcv⟩:=m5 rfl
      simp only [cond_true]
      rw [Covers_true hs3.tame hZ hA fun t ht=>?_,Covers_true hs3.tame hZ hB fun t ht=>?_]
      · exact ⟨true,rfl,rfl⟩
      · obtain ⟨u,hu,e⟩:=hcv t (List.mem_append_right _ ht)
        exact ⟨u,hu,fol_of_nrm (hB.tab t ht) (hZ.tab u hu) e⟩
      · obtain ⟨u,hu,e⟩:=hcv t (List.mem_append_left _ ht)
        exact ⟨u,hu,fol_of_nrm (hA.tab t ht) (hZ.tab u hu) e⟩
  rcases PlanText_same (g:=g) hs.tame hl.tame with ⟨hP,e1,e2⟩ | ⟨_,e1,e2⟩
  · have hn:=hP.n
    rw [e1,e2]
    simp only [Option.bind_some,bne_self_eq_false,cond_false,cond_true]
    rw [ParsePlan_back hs.tame hP]
    simp only [Option.bind_some,Bool.not_true,cond_false,bne_self_eq_false]
    rw [sameTs (by omega) (okl hP.tab)]
    simp only [Option.bind_some,Bool.not_true,cond_false]
    exact htail
  · rw [e1,e2]
    simp only [Option.bind_some,bne_self_eq_false,cond_false]
    exact htail

end Go.Gx.F
