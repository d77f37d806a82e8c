/- Plain laws: plans and their texts. -/
import Derived.Test.YtnmimeojimfogaaGreatDoorPPTableTexts
import Derived.Test.YtnmimeojimfogaaGreatDoorPPFol

namespace Go.Gx.F

open Go.Gx

set_option linter.all false

theorem isTb_bis {g : impl_Geo} {s : List impl_Variable} {t : impl_Table} (hg : gok g.Parents = true) (hsch : OkS s) (hV : t.Vars.length ≤ 1000000) : Bis (impl_isTable g s t) (OkT g s t):=by
  unfold impl_isTable
  obtain ⟨b2,e2,h2⟩:=areVars_bis (s:=s) hV
  rw [e2,Option.bind_some]
  cases b2 with
  | false=>exact ⟨false,rfl,by simp only [Bool.false_eq_true,false_iff]; intro h; have:=h2.2 h.vars; cases this⟩
  | true =>
    have hvar:=h2.1 rfl
    obtain ⟨b3,e3,h3⟩:=isWhere_bis (W:=t.Where) hsch
    rw [Bool.not_true,cond_false,e3,Option.bind_some]
    cases b3 with
    | false=>exact ⟨false,rfl,by simp only [Bool.false_eq_true,false_iff]; intro h; have:=h3.2 h.whr; cases this⟩
    | true =>
      rw [Bool.not_true,cond_false,cellCount_eq (gok_ok hg) hsch hvar]
      simp only [goLen]
      by_cases h4 : t.Sum < -1
      · rw [decide_eq_true h4]
        exact ⟨false,rfl,by simp only [Bool.false_eq_true,false_iff]; intro h; have:=h.sum; omega⟩
      · by_cases h5 : (s.length : Int) ≤ t.Sum
        · rw [decide_eq_false h4,decide_eq_true h5]
          exact ⟨false,rfl,by simp only [Bool.false_eq_true,false_iff]; intro h; have:=h.sum; omega⟩
        · rw [decide_eq_false h4,decide_eq_false h5]
          simp only [cond_false,Option.bind_some]
          by_cases h6 : 0 < num g s t
          · rw [decide_eq_true (show 0 < (num g s t : Int) by omega)]
            refine ⟨decide ((num g s t : Int) ≤ 600),rfl,?_⟩
            rw [decide_eq_true_eq]
            exact ⟨fun h7=>⟨hg,hsch,hvar,h3.1 rfl,by omega,h6,by omega⟩,fun h=>by have:=h.top; omega⟩
          · rw [decide_eq_false (show ¬ 0 < (num g s t : Int) by omega)]
            exact ⟨false,rfl,by simp only [Bool.false_eq_true,false_iff]; intro h; exact h6 h.pos⟩

structure OkP (g : impl_Geo) (s : List impl_Variable) (l : List impl_Table) : Prop where
  geo : gok g.Parents = true
  sch : OkS s
  n : l.length ≤ 20
  tab : ∀ t ∈ l,OkT g s t

def TameP (l : List impl_Table) : Prop:=l.length ≤ 1000000∧∀ t ∈ l,t.Vars.length ≤ 1000000

theorem isPlan_bis {g : impl_Geo} {s : List impl_Variable} {l : List impl_Table} (hs : TameS s) (hl : TameP l) : Bis (impl_isPlan g s l) (OkP g s l):=by
  have hll:=hl.1
  unfold impl_isPlan
  rw [impl_IsGeo_eq]
  obtain ⟨b1,e1,h1⟩:=IsSchema_bis hs
  rw [e1]
  cases hg : gok g.Parents with
  | false=>exact ⟨false,rfl,by simp only [Bool.false_eq_true,false_iff]; intro h; have:=h.geo; rw [hg] at this; cases this⟩
  | true =>
    cases b1 with
    | false=>exact ⟨false,rfl,by simp only [Bool.false_eq_true,false_iff]; intro h; have:=h1.2 h.sch; cases this⟩
    | true =>
      have hsc:=h1.1 rfl
      simp only [Option.bind_some,Bool.not_true,cond_false,goLen]
      by_cases h : 20 < (l.length : Int)
      · rw [decide_eq_true h]
        exact ⟨false,rfl,by simp only [Bool.false_eq_true,false_iff]; intro h'; have:=h'.n; omega⟩
      · rw [decide_eq_false h]
        simp only [cond_false]
        refine bis_iff (bis_loop (l:=l) (fun _ t=>OkT g s t) (fun k t ht=>?_) (by simp only [impl_isPlan_l1,lt_end,cond_false])) ?_
        · obtain ⟨b,e,hb⟩:=isTb_bis hg hsc (hl.2 t (List.mem_of_getElem? ht))
          refine ⟨b,hb,?_⟩
          simp only [impl_isPlan_l1,lt_ok ht,at_ok ht,cond_true,Option.bind_some,e,nx_ok ht (show l.length ≤ 9223372036854775807 by omega)]
          cases b <;> rfl
        · rw [all_mem_iff]
          exact ⟨fun h2=>⟨hg,hsc,by omega,h2⟩,fun h2=>h2.tab⟩

theorem nPlan_bis {g : impl_Geo} {s : List impl_Variable} {l : List impl_Table} (hs : TameS s) (hl : TameP l) : Bis (spec_nPlan g s l) (OkP g s l):=by
  have hll:=hl.1
  unfold spec_nPlan spec_nInput
  rw [spec_gGood_eq]
  obtain ⟨b1,e1,h1⟩:=sGood_bis hs
  rw [e1]
  cases hg : gok g.Parents with
  | false=>exact ⟨false,rfl,by simp only [Bool.false_eq_true,false_iff]; intro h; have:=h.geo; rw [hg] at this; cases this⟩
  | true =>
    cases b1 with
    | false=>exact ⟨false,rfl,by simp only [Bool.false_eq_true,false_iff]; intro h; have:=h1.2 h.sch; cases this⟩
    | true =>
      have hsc:=h1.1 rfl
      simp only [Option.bind_some,Bool.not_true,cond_false,cond_true,goLen]
      by_cases h : 20 < (l.length : Int)
      · rw [decide_eq_true h]
        exact ⟨false,rfl,by simp only [Bool.false_eq_true,false_iff]; intro h'; have:=h'.n; omega⟩
      · rw [decide_eq_false h]
        simp only [cond_false]
        refine bis_iff (bis_loop (l:=l) (fun _ t=>OkT g s t) (fun k t ht=>?_) (by simp only [spec_nPlan_l1,lt_end,cond_false])) ?_
        · obtain ⟨b,e,hb⟩:=uGood_bis (g:=g) hs (hl.2 t (List.mem_of_getElem? ht))
          refine ⟨b,hb,?_⟩
          simp only [spec_nPlan_l1,lt_ok ht,at_ok ht,cond_true,Option.bind_some,e,nx_ok ht (show l.length ≤ 9223372036854775807 by omega)]
          cases b <;> rfl
        · rw [all_mem_iff]
          exact ⟨fun h2=>⟨hg,hsc,by omega,h2⟩,fun h2=>h2.tab⟩

theorem plans {g : impl_Geo} {s : List impl_Variable} {l : List impl_Table} (hs : TameS s) (hl : TameP l) : ∃ b : Bool,impl_isPlan g s l = some b∧spec_nPlan g s l = some b∧(b = true ↔ OkP g s l):=bis_same (isPlan_bis hs hl) (nPlan_bis hs hl)

theorem anyFol_impl {g : impl_Geo} {s : List impl_Variable} {l : List impl_Table} {t : impl_Table} (hl : OkP g s l) (ht : OkT g s t) : Bis (slices_ContainsFunc_impl_Table_impl_Table_of_impl_CoversPlan_1 l g s t) (∃ u ∈ l,Fol g s t u):=by
  have hn:=hl.n
  unfold slices_ContainsFunc_impl_Table_impl_Table_of_impl_CoversPlan_1 slices_IndexFunc_impl_Table_impl_Table_of_impl_CoversPlan_1
  have key : ∀ (j k : Nat),k + j = l.length→(∀ i u,i < k→l[i]? = some u→¬ Fol g s t u)→(loopC (slices_IndexFunc_impl_Table_impl_Table_of_impl_CoversPlan_1_l1 l g s t) (k : Int) = some (.inl ())∧¬ ∃ u ∈ l,Fol g s t u) ∨ ∃ r : Nat,loopC (slices_IndexFunc_impl_Table_impl_Table_of_impl_CoversPlan_1_l1 l g s t) (k : Int) = some (.inr (r : Int))∧∃ u ∈ l,Fol g s t u:=by
    intro j
    induction j with
    | zero =>
      intro k hk hall
      obtain rfl : k = l.length:=by omega
      rw [loopC_eq]
      simp only [slices_IndexFunc_impl_Table_impl_Table_of_impl_CoversPlan_1_l1,lt_end,cond_false]
      refine .inl ⟨trivial,?_⟩
      rintro ⟨u,hu,hF⟩
      obtain ⟨i,hi⟩:=List.getElem?_of_mem hu
      exact hall i u (List.getElem?_eq_some_iff.1 hi).1 hi hF
    | succ j ih =>
      intro k hk hall
      have hv : l[k]? = some (l[k]'(by omega)):=by simp [show k < l.length by omega]
      generalize l[k]'(by omega) = u at hv
      have hu:=hl.tab u (List.mem_of_getElem? hv)
      obtain ⟨b,e,hb⟩:=followsFrom_bis ht hu
      rw [loopC_eq]
      simp only [slices_IndexFunc_impl_Table_impl_Table_of_impl_CoversPlan_1_l1,impl_CoversPlan_1,lt_ok hv,at_ok hv,cond_true,Option.bind_some,e]
      cases b with
      | true=>exact .inr ⟨k,rfl,u,List.mem_of_getElem? hv,hb.1 rfl⟩
      | false =>
        simp only [cond_false,nx_ok hv (show l.length ≤ 9223372036854775807 by omega)]
        refine ih (k + 1) (by omega) fun i w hi hw=>?_
        by_cases hik : i = k
        · subst hik
          rw [hv] at hw
          obtain rfl:=Option.some.inj hw
          exact fun h=>by have:=hb.2 h; cases this
        · exact hall i w (by omega) hw
  have h:=key l.length 0 (by omega) fun i w hi=>by omega
  rw [show ((0 : Nat) : Int) = 0 from rfl] at h
  rcases h with ⟨e,h⟩ | ⟨r,e,h⟩
  · rw [e]
    exact ⟨false,rfl,by simp only [Bool.false_eq_true,false_iff]; exact h⟩
  · rw [e]
    exact ⟨decide (0 ≤ (r : Int)),rfl,by rw [decide_eq_true_eq]; exact ⟨fun _=>h,fun _=>by omega⟩⟩

def SmallP (n : Nat) (l : List impl_Table) : Prop:=l.length ≤ n∧∀ t ∈ l,SmallT 9 t

theorem SmallP.tame {n : Nat} {l : List impl_Table} (h : SmallP n l) (hn : n ≤ 1000000:=by omega) : TameP l:=⟨by have:=h.1; omega,fun t ht=>by have:=(h.2 t ht).1; omega⟩

theorem SmallP.push {n m : Nat} {l : List impl_Table} {t : impl_Table} (h : SmallP n l) (ht : SmallT 9 t) (hm : l.length + 1 ≤ m) : SmallP m (l ++ [t]):=⟨by simp; omega,fun u hu=>by
  rcases List.mem_append.1 hu with hu | hu
  · exact h.2 u hu
  · obtain rfl:=List.mem_singleton.1 hu; exact ht⟩

theorem SmallT.le9 {t : impl_Table} (h : SmallT 8 t) : SmallT 9 t:=⟨by have:=h.1; omega,by have:=h.2; omega⟩

theorem ttables {B : Nat} {c : spec_l1Cur} {g : impl_Geo} {s : List impl_Variable} (h : Cur B c) (hs : SmallS 8 s) (hB : B ≤ 90000:=by omega) : Tot (spec_l1Cur_tables c g s) fun r=>SmallP 30 r.1∧Cur (B + 2000) r.2:=by
  unfold spec_l1Cur_tables
  refine tot_bind (tpick h) fun ⟨k,c1⟩ ⟨k0,k1,_,hc1⟩=>?_
  have hk:=k1 (by omega)
  simp only at k0 hk hc1
  obtain ⟨n,rfl⟩:=Int.eq_ofNat_of_zero_le k0
  refine tot_bind (Q:=fun r=>SmallP 5 r.1∧Cur (B + 400) r.2) (tot_loop (fun z=>∃ j : Nat,z.2.1 = (j : Int)∧j ≤ 4∧SmallP (4 - j) z.1∧Cur (B + 2 + 60 * (4 - j)) z.2.2) (fun z=>z.2.1.toNat) ⟨n,rfl,by omega,⟨by simp,fun t ht=>by simp at ht⟩,hc1.le (by omega)⟩ ?_) fun ⟨l,c2⟩ ⟨hl,hc2⟩=>?_
  · rintro ⟨l,_,c2⟩ ⟨j,rfl,hj,hl,hc2⟩
    simp only at hl hc2
    have hll:=hl.1
    simp only [spec_l1Cur_tables_l1]
    refine tot_cond (fun hc=>?_) fun hc=>tot_some ⟨⟨by simp only; omega,hl.2⟩,hc2.le (by omega)⟩
    have hc' : 0 < (j : Int):=by simpa using hc
    refine tot_bind (ttable hc2 hs) fun ⟨t,c3⟩ ⟨ht,hc3⟩=>?_
    simp only at ht hc3
    rw [goApp_ok (by simp; omega),Option.bind_some]
    exact tot_some ⟨⟨j - 1,by simp only; rw [wid (by omega) (by omega)]; omega,by omega,hl.push ht.le9 (by omega),hc3.le (by omega)⟩,by simp only; rw [wid (by omega) (by omega)]; omega⟩
  · simp only at hl hc2
    dsimp only
    have hll:=hl.1
    refine tot_bind (tpick hc2) fun ⟨x,c3⟩ ⟨_,_,_,hc3⟩=>?_
    simp only at hc3
    have ret : ∀ {x : Option (List impl_Table × spec_l1Cur)},Tot x (fun r=>SmallP 30 r.1∧Cur (B + 2000) r.2)→Tot (x.bind fun (p,t)=>some (p,t)) (fun r=>SmallP 30 r.1∧Cur (B + 2000) r.2):=fun hx=>tot_bind hx fun z hz=>tot_some hz
    refine ret (tot_cond (fun _=>ret ?_) fun _=>ret (tot_cond (fun _=>?_) fun _=>tot_some ⟨⟨by simp only; omega,hl.2⟩,hc3.le (by omega)⟩))
    · refine tot_loop (fun z=>SmallP 22 z.1∧∃ j : Nat,j ≤ 22∧z.1.length = l.length + j∧Cur (B + 402 + 62 * j) z.2) (fun z=>30 - z.1.length) ⟨⟨by simp only; omega,hl.2⟩,0,by omega,rfl,hc3.le (by omega)⟩ ?_
      rintro ⟨l2,c4⟩ ⟨hl2,j,hj,hlj,hc4⟩
      simp only at hl2 hlj hc4
      have hll2:=hl2.1
      simp only [spec_l1Cur_tables_l2]
      refine tot_bind (tpick hc4) fun ⟨y,c5⟩ ⟨y0,y1,_,hc5⟩=>?_
      have hy:=y1 (by omega)
      simp only at y0 hy hc5
      simp only [goLen]
      rw [wid (by omega) (by omega)]
      refine tot_cond (fun hc=>?_) fun hc=>tot_some ⟨⟨by simp only; omega,hl2.2⟩,hc5.le (by omega)⟩
      have hc' : (l2.length : Int) < 20 + y:=by simpa using hc
      refine tot_bind (ttable hc5 hs) fun ⟨t,c6⟩ ⟨ht,hc6⟩=>?_
      simp only at ht hc6
      rw [goApp_ok (by simp; omega),Option.bind_some]
      exact tot_some ⟨⟨hl2.push ht.le9 (by omega),j + 1,by omega,by simp; omega,hc6.le (by omega)⟩,by simp; omega⟩
    · refine tot_bind (tanyTable hc3 hs) fun ⟨t,c4⟩ ⟨ht,hc4⟩=>?_
      simp only at ht hc4
      rw [goApp_ok (by simp; omega),Option.bind_some]
      exact tot_some ⟨hl.push ht (by omega),hc4.le (by omega)⟩

theorem tDrawPlanText {code : List (K .u8)} (ho : ∀ x ∈ code,Rng.ok x) : Tot (spec_DrawPlanText code) fun r=>SmallS 8 r.2.1∧SmallP 30 r.2.2:=by
  unfold spec_DrawPlanText
  refine tot_bind (tanySurvey (cur0 ho)) fun ⟨g,s,l,c1⟩ ⟨hs,_,k1⟩=>?_
  exact tot_bind (ttables k1 hs) fun ⟨l,c2⟩ ⟨hl,_⟩=>tot_some ⟨hs,hl⟩

section

variable {g : impl_Geo} {s : List impl_Variable} {t : impl_Table} {l : List impl_Table}

theorem ctx_no {c : UInt8} (hc : c ∉ ([32,119,104,101,114,101] : List UInt8)) {l : List (List UInt8)} (h : ∀ x ∈ l,c ∉ x) : c ∉ ctx l:=by
  unfold ctx
  split
  · simp
  · intro hm
    rcases List.mem_append.1 hm with hm | hm
    · refine hc ?_
      simp only [List.mem_cons,List.not_mem_nil,or_false] at hm ⊢
      rcases hm with h | h | h | h | h | h | h <;> simp [h]
    · exact join_no (by intro h32; exact hc (by rw [List.mem_singleton.1 h32]; simp)) h hm

theorem ttx_no (h : OkT g s t) : (10 : UInt8) ∉ ttx s t:=by
  have hs:=h.sch
  have hlv:=h.lvl
  have hd:=(read_small ⟨t.Level.toNat,by omega⟩).2
  simp only at hd
  have hdn : (10 : UInt8) ∉ Go.Lib.decDigits t.Level.toNat:=fun hc=>by have:=hd _ hc; exact absurd this.1 (by decide)
  obtain ⟨hc1,hc2⟩:=cnds_len hs h.whr (n:=s.length) (Nat.le_refl _)
  have hnm : (10 : UInt8) ∉ Go.Lib.join (t.Vars.map (nameAt s)) [44]:=join_no (by decide) fun x hx=>by
    obtain ⟨i,hi,rfl⟩:=List.mem_map.1 hx
    obtain ⟨k,v,_,_,e,hw⟩:=nameAt_ok hs (var_bd h hi)
    rw [e]; exact name_no hw (by decide)
  have h1 : (10 : UInt8) ∉ htx s t:=by
    unfold htx
    split
    · obtain ⟨k,v,_,_,e,hw⟩:=nameAt_ok hs (i:=t.Sum) ⟨by assumption,h.sum.2⟩
      rw [e]
      intro hm
      rcases List.mem_append.1 hm with hm | hm
      · exact absurd hm (by decide)
      · exact name_no hw (by decide) hm
    · decide
  have h2 : (10 : UInt8) ∉ vtx s t.Vars:=by
    unfold vtx
    split
    · simp
    · intro hm
      rcases List.mem_append.1 hm with hm | hm
      · exact absurd hm (by decide)
      · exact hnm hm
  have h3 : (10 : UInt8) ∉ ctx (cnds s t.Where s.length):=ctx_no (by decide) fun x hx=>(hc2 x hx).2.2
  unfold ttx
  intro hm
  rcases List.mem_append.1 hm with hm | hm
  · rcases List.mem_append.1 hm with hm | hm
    · rcases List.mem_append.1 hm with hm | hm
      · exact h1 hm
      · rcases List.mem_append.1 hm with hm | hm
        · exact absurd hm (by decide)
        · exact hdn hm
    · exact h2 hm
  · exact h3 hm

def ptx (s : List impl_Variable) : List impl_Table→List UInt8
  | []=>[]
  | t :: l=>ttx s t ++ 10 :: ptx s l

theorem ptx_snoc (s : List impl_Variable) (t : impl_Table) : ∀ l : List impl_Table,ptx s (l ++ [t]) = ptx s l ++ (ttx s t ++ [10])
  | []=>by simp [ptx]
  | u :: l=>by rw [List.cons_append,ptx,ptx,ptx_snoc s t l]; simp [List.append_assoc]

theorem ptx_len : ∀ {l : List impl_Table},(∀ t ∈ l,OkT g s t)→(ptx s l).length ≤ 261 * l.length
  | [],_=>by simp [ptx]
  | t :: l,h=>by
    have:=ttx_len (h t List.mem_cons_self)
    have:=ptx_len (l:=l) fun u hu=>h u (List.mem_cons_of_mem _ hu)
    rw [ptx]; simp only [List.length_append,List.length_cons]; omega

theorem ptx_split : ∀ {l : List impl_Table},(∀ t ∈ l,OkT g s t)→splitB 10 (ptx s l) = l.map (ttx s) ++ [[]]
  | [],_=>rfl
  | t :: l,h=>by
    rw [ptx,split_app (ttx_no (h t List.mem_cons_self)),ptx_split fun u hu=>h u (List.mem_cons_of_mem _ hu)]
    rfl

theorem ptx_loop (hl : OkP g s l) {f : impl_Table→Option (List UInt8)} (hf : ∀ t,OkT g s t→f t = some (ttx s t)) {body : (List UInt8) × Int→Option (Stp ((List UInt8) × Int) (List UInt8))}
    (hb : ∀ out t,body (out,t) = (cond (decide (t < (goLen l))) ((goAt l t).bind fun e_5=>((f e_5).bind fun t_10=>((goCat t_10 ([10] : List UInt8)).bind fun t_11=>((goCat out t_11).bind fun t_12=>some (.next (t_12,(w64 (t + 1)))))))) (some (.done out)))) : loopC body ([],0) = some (ptx s l):=by
  have hn:=hl.n
  refine tot_eq (tot_loop (fun q=>∃ k : Nat,k ≤ l.length∧q = (ptx s (l.take k),(k : Int))) (fun q=>l.length - q.2.toNat) ⟨0,by omega,by simp [ptx]⟩ ?_)
  rintro q ⟨k,hk,rfl⟩
  rw [hb]
  by_cases hlt : k < l.length
  · have ht : l[k]? = some l[k]:=by simp [hlt]
    have hT:=hl.tab _ (List.getElem_mem hlt)
    have h1:=ttx_len hT
    have h2:=ptx_len (l:=l.take k) fun u hu=>hl.tab u (List.mem_of_mem_take hu)
    have h3 : (l.take k).length ≤ 20:=by rw [List.length_take]; omega
    rw [lt_ok ht,at_ok ht,cond_true,Option.bind_some,hf _ hT,Option.bind_some,cat_ok (by simp; omega),Option.bind_some,cat_ok (by simp only [List.length_append,List.length_singleton]; omega),Option.bind_some,wid (by omega) (by omega)]
    refine tot_some ⟨⟨k + 1,by omega,?_⟩,by simp only; omega⟩
    rw [List.take_add_one,ht,Option.toList_some,ptx_snoc]
    rfl
  · obtain rfl : k = l.length:=by omega
    rw [lt_end,cond_false]
    exact tot_some (by simp)

theorem planText_ok (hl : OkP g s l) : impl_planText s l = some (ptx s l):=by
  unfold impl_planText
  rw [ptx_loop hl (f:=impl_tableText s) (fun t ht=>tableText_ok ht) (body:=impl_planText_l1 s l) (fun out t=>rfl)]
  rfl

theorem PlanText_same (hs : TameS s) (hl : TameP l) : (OkP g s l∧impl_PlanText g s l = some (ptx s l,true)∧spec_PlanText g s l = some (ptx s l,true)) ∨ (¬ OkP g s l∧impl_PlanText g s l = some ([],false)∧spec_PlanText g s l = some ([],false)):=by
  obtain ⟨b,e1,e2,hb⟩:=plans (g:=g) hs hl
  unfold impl_PlanText spec_PlanText
  rw [e1,e2]
  cases b with
  | false=>exact .inr ⟨fun h=>(by have:=hb.2 h; cases this),rfl,rfl⟩
  | true =>
    have hP:=hb.1 rfl
    refine .inl ⟨hP,?_,?_⟩
    · simp only [Option.bind_some,Bool.not_true,cond_false]
      rw [planText_ok hP]
      rfl
    · simp only [Option.bind_some,Bool.not_true,cond_false]
      rw [ptx_loop hP (f:=spec_nTable s) (fun t ht=>nTable_ok ht) (body:=spec_PlanText_l1 s l) (fun out t=>rfl)]
      rfl

theorem line_same {x : List UInt8} (hs : TameS s) (hg : gok g.Parents = true) (hsc : OkS s) (hx : x.length ≤ 100000) : (∃ t,OkT g s t∧ttx s t = x∧impl_ParseTable g s x = some (t,true)∧spec_nParse g s x = some (t,true)) ∨ ((¬ ∃ t,OkT g s t∧ttx s t = x)∧impl_ParseTable g s x = some (noT,false)∧spec_nParse g s x = some (noT,false)):=by
  obtain ⟨b1,f1,g1⟩:=IsSchema_bis hs
  obtain rfl:=g1.2 hsc
  unfold impl_ParseTable spec_nParse
  rw [impl_IsGeo_eq,hg,f1]
  simp only [Option.bind_some,Bool.not_true,cond_false]
  by_cases he : ∃ t,OkT g s t∧ttx s t = x
  · obtain ⟨t,ht,rfl⟩:=he
    have hVl:=ht.vlen
    left
    refine ⟨t,ht,rfl,?_,?_⟩
    · obtain ⟨c,ec,hc⟩:=isTb_bis (t:=t) hg hsc (by omega)
      obtain rfl:=hc.2 ht
      rw [parse_back ht]
      simp only [Option.bind_some,Bool.not_true,cond_false]
      rw [ec,tableText_ok ht]
      simp only [Option.bind_some,Bool.not_true,cond_false,bne_self_eq_false]
    · obtain ⟨c,ec,hc⟩:=uGood_bis (g:=g) (s:=s) (t:=t) hs (by omega)
      obtain rfl:=hc.2 ht
      rw [guess_back ht]
      simp only [Option.bind_some]
      rw [ec,nTable_ok ht]
      simp only [Option.bind_some,Bool.not_true,cond_false,bne_self_eq_false]
  · right
    refine ⟨he,?_,?_⟩
    · obtain ⟨T,f,e,hV⟩:=parse_tot (x:=x) hsc (by omega)
      rw [e]
      simp only [Option.bind_some]
      cases f with
      | false=>rfl
      | true =>
        obtain ⟨c,ec,hc⟩:=isTb_bis (t:=T) hg hsc hV
        rw [ec]
        cases c with
        | false=>rfl
        | true =>
          have hT:=hc.1 rfl
          rw [tableText_ok hT]
          simp only [Option.bind_some,Bool.not_true,cond_false]
          rw [show (ttx s T != x) = true by rw [bne_iff_ne]; exact fun h=>he ⟨T,hT,h⟩]
          rfl
    · obtain ⟨T,e,hV,_⟩:=nGuess_tot (x:=x) hsc hx
      rw [e]
      simp only [Option.bind_some]
      obtain ⟨c,ec,hc⟩:=uGood_bis (g:=g) (s:=s) (t:=T) hs hV
      rw [ec]
      cases c with
      | false=>rfl
      | true =>
        have hT:=hc.1 rfl
        rw [nTable_ok hT]
        simp only [Option.bind_some,Bool.not_true,cond_false]
        rw [show (ttx s T != x) = true by rw [bne_iff_ne]; exact fun h=>he ⟨T,hT,h⟩]
        rfl

noncomputable def rdl (g : impl_Geo) (s : List impl_Variable) : List (List UInt8)→List impl_Table→List impl_Table × Int × Bool
  | [],l=>(l,0,true)
  | [p],l=>if p = [] then (l,0,true) else ([],(l.length : Int) + 1,false)
  | p :: q :: r,l=>match impl_ParseTable g s p with
    | some (t,true)=>if l.length = 20 then ([],(l.length : Int) + 1,false) else rdl g s (q :: r) (l ++ [t])
    | _=>([],(l.length : Int) + 1,false)

theorem cut_no {b : UInt8} {a : List UInt8} (h : b ∉ a) (hl : a.length ≤ 1000000) : strings_Cut a [b] = some (a,[],false):=by
  have hidx : ∀ {a : List UInt8},b ∉ a→Go.Lib.index a [b] = -1:=by
    intro a
    induction a with
    | nil=>intro _; rfl
    | cons x a ih =>
      intro h
      have hx : (b == x) = false:=by rw [beq_eq_false_iff_ne]; exact fun hc=>h (by rw [hc]; exact List.mem_cons_self)
      have ih:=ih (fun hc=>h (List.mem_cons_of_mem _ hc))
      unfold Go.Lib.index
      rw [ih]
      simp only [List.isPrefixOf,hx,Bool.false_and,Bool.false_eq_true,if_false]
      rfl
  unfold strings_Cut
  rw [decide_eq_true (by omega),cond_true]
  unfold Go.Lib.cut
  rw [hidx h,if_neg (by omega)]

theorem first_of {b : UInt8} : ∀ {x : List UInt8},b ∈ x→∃ a r,b ∉ a∧x = a ++ b :: r
  | y :: x,h=>by
    by_cases hy : b = y
    · exact ⟨[],x,by simp,by rw [hy]; rfl⟩
    · obtain ⟨a,r,h1,h2⟩:=first_of (x:=x) (by rcases List.mem_cons.1 h with h | h; exact absurd h hy; exact h)
      exact ⟨y :: a,r,by simp only [List.mem_cons,not_or]; exact ⟨hy,h1⟩,by rw [h2]; rfl⟩

theorem parsePlan_loop (hs : TameS s) (hg : gok g.Parents = true) (hsc : OkS s) : ∀ (n : Nat) (x : List UInt8) (l : List impl_Table),x.length ≤ n→n ≤ 100000→l.length ≤ 20→((loopC (impl_ParsePlan_l1 g s) (x,l)).bind fun | .inl l_23=>some (l_23,0,true) | .inr o=>some o) = some (rdl g s (splitB 10 x) l):=by
  intro n
  induction n with
  | zero =>
    intro x l hx _ _
    obtain rfl : x = []:=List.eq_nil_of_length_eq_zero (by omega)
    rw [loopC_eq]
    simp only [impl_ParsePlan_l1]
    rw [show (([] : List UInt8) != []) = false from rfl,cond_false]
    simp [splitB,rdl]
  | succ n ih =>
    intro x l hx hn hl
    by_cases h0 : x = []
    · subst h0
      rw [loopC_eq]
      simp only [impl_ParsePlan_l1]
      rw [show (([] : List UInt8) != []) = false from rfl,cond_false]
      simp [splitB,rdl]
    · rw [loopC_eq]
      simp only [impl_ParsePlan_l1]
      rw [show (x != []) = true by simpa using h0,cond_true]
      by_cases h10 : (10 : UInt8) ∈ x
      · obtain ⟨a,r,ha,rfl⟩:=first_of h10
        simp only [List.length_append,List.length_cons] at hx
        obtain ⟨q,qs,hq⟩:=split_ne 10 r
        rw [cut_ok ha (by omega),split_app ha,hq]
        simp only [Option.bind_some,Bool.not_true,cond_false]
        rcases line_same (x:=a) hs hg hsc (by omega) with ⟨t,_,_,e,_⟩ | ⟨_,e,_⟩
        · rw [rdl,e]
          simp only [Option.bind_some,Bool.not_true,cond_false]
          by_cases h20 : l.length = 20
          · rw [show (goLen l == 20) = true by rw [beq_iff_eq]; simp only [goLen]; omega,if_pos h20]
            simp only [cond_true]
            rw [wid (by simp only [goLen]; omega) (by simp only [goLen]; omega)]
            rfl
          · rw [show (goLen l == 20) = false by rw [beq_eq_false_iff_ne]; simp only [goLen]; omega,if_neg h20]
            simp only [cond_false]
            rw [goApp_ok (by simp; omega)]
            simp only [Option.bind_some]
            rw [ih r (l ++ [t]) (by omega) (by omega) (by simp; omega),hq]
        · rw [rdl,e]
          simp only [Option.bind_some,Bool.not_false,cond_true]
          rw [wid (by simp only [goLen]; omega) (by simp only [goLen]; omega)]
      · rw [cut_no h10 (by omega),split_no h10,rdl,if_neg h0]
        simp only [Option.bind_some,Bool.not_false,cond_true]
        rcases line_same (x:=x) hs hg hsc (by omega) with ⟨t,_,_,e,_⟩ | ⟨_,e,_⟩ <;>
        · rw [e]
          simp only [Option.bind_some,cond_true]
          rw [wid (by simp only [goLen]; omega) (by simp only [goLen]; omega)]

theorem specPlan_loop (hs : TameS s) (hg : gok g.Parents = true) (hsc : OkS s) {W : List (List UInt8)} (hW : W.length ≤ 1000000) (hp : ∀ p ∈ W,p.length ≤ 100000) : ∀ (j : Nat) (l : List impl_Table),l.length + 1 + j = W.length→l.length ≤ 20→((loopC (spec_ParsePlan_l1 g s W) (l,(l.length : Int))).bind fun | .inl out_25=>some (out_25,0,true) | .inr o=>some o) = some (rdl g s (W.drop l.length) l):=by
  intro j
  induction j with
  | zero =>
    intro l hj hl
    have hlt : l.length < W.length:=by omega
    have hd:=List.drop_eq_getElem_cons hlt
    rw [List.drop_eq_nil_of_le (as:=W) (i:=l.length + 1) (by omega)] at hd
    have hv : W[l.length]? = some W[l.length]:=by simp [hlt]
    rw [hd]
    generalize W[l.length] = p at hv
    rw [loopC_eq]
    simp only [spec_ParsePlan_l1,lt_ok hv,at_ok hv,cond_true,Option.bind_some]
    rw [wid (n:=goLen W - 1) (by simp only [goLen]; omega) (by simp only [goLen]; omega),show ((l.length : Int) == goLen W - 1) = true by rw [beq_iff_eq]; simp only [goLen]; omega,cond_true,rdl]
    by_cases h0 : p = []
    · rw [if_pos h0,show (p != []) = false by simpa using h0]
      rfl
    · rw [if_neg h0,show (p != []) = true by simpa using h0]
      simp only [cond_true]
      rw [wid (by omega) (by omega)]
      rfl
  | succ j ih =>
    intro l hj hl
    have hlt : l.length < W.length:=by omega
    have hlt2 : l.length + 1 < W.length:=by omega
    have hd:=List.drop_eq_getElem_cons hlt
    have hd2:=List.drop_eq_getElem_cons hlt2
    have hv : W[l.length]? = some W[l.length]:=by simp [hlt]
    have hpl:=hp _ (List.getElem_mem hlt)
    rw [hd]
    generalize W[l.length] = p at hv hpl
    rw [hd2]
    rw [loopC_eq]
    simp only [spec_ParsePlan_l1,lt_ok hv,at_ok hv,cond_true,Option.bind_some]
    rw [wid (n:=goLen W - 1) (by simp only [goLen]; omega) (by simp only [goLen]; omega),show ((l.length : Int) == goLen W - 1) = false by rw [beq_eq_false_iff_ne]; simp only [goLen]; omega,cond_false,rdl]
    rcases line_same (x:=p) hs hg hsc (by omega) with ⟨t,_,_,e,e'⟩ | ⟨_,e,e'⟩
    · rw [e,e']
      simp only [Option.bind_some,Bool.not_true,cond_false]
      by_cases h20 : l.length = 20
      · rw [show ((l.length : Int) == 20) = true by rw [beq_iff_eq]; omega,if_pos h20]
        simp only [cond_true]
        rw [wid (by omega) (by omega)]
        rfl
      · rw [show ((l.length : Int) == 20) = false by rw [beq_eq_false_iff_ne]; omega,if_neg h20]
        simp only [cond_false]
        rw [goApp_ok (by simp; omega)]
        simp only [Option.bind_some]
        rw [wid (by omega) (by omega)]
        have:=ih (l ++ [t]) (by simp; omega) (by simp; omega)
        simp only [List.length_append,List.length_singleton] at this
        rw [show (((l.length + 1 : Nat)) : Int) = (l.length : Int) + 1 by omega,hd2] at this
        exact this
    · rw [e,e']
      simp only [Option.bind_some,Bool.not_false,cond_true]
      rw [wid (by omega) (by omega)]

theorem rdl_lens (hs : TameS s) (hg : gok g.Parents = true) (hsc : OkS s) : ∀ (W : List (List UInt8)) (l : List impl_Table),(∀ p ∈ W,p.length ≤ 100000)→l.length ≤ 20→(∀ t ∈ l,OkT g s t)→(rdl g s W l).1.length ≤ 20∧∀ t ∈ (rdl g s W l).1,OkT g s t
  | [],l,_,h1,h2=>⟨h1,h2⟩
  | [p],l,_,h1,h2=>by
    rw [rdl]
    split
    · exact ⟨h1,h2⟩
    · exact ⟨by simp,fun t ht=>by simp at ht⟩
  | p :: q :: r,l,hp,h1,h2=>by
    rw [rdl]
    rcases line_same (x:=p) hs hg hsc (hp p List.mem_cons_self) with ⟨t,hT,_,e,_⟩ | ⟨_,e,_⟩
    · rw [e]
      simp only
      split
      · exact ⟨by simp,fun t ht=>by simp at ht⟩
      · exact rdl_lens hs hg hsc (q :: r) (l ++ [t]) (fun z hz=>hp z (List.mem_cons_of_mem _ hz)) (by simp; omega) fun u hu=>by
          rcases List.mem_append.1 hu with hu | hu
          · exact h2 u hu
          · obtain rfl:=List.mem_singleton.1 hu; exact hT
    · rw [e]
      exact ⟨by simp,fun t ht=>by simp at ht⟩

theorem ParsePlan_same {x : List UInt8} (hs : TameS s) (hx : x.length ≤ 100000) : ∃ (y : List impl_Table) (n : Int) (b : Bool),impl_ParsePlan g s x = some (y,n,b)∧spec_ParsePlan g s x = some (y,n,b)∧y.length ≤ 20∧∀ t ∈ y,OkT g s t:=by
  unfold impl_ParsePlan spec_ParsePlan spec_nInput
  rw [impl_IsGeo_eq,spec_gGood_eq]
  obtain ⟨b1,f1,f1',g1⟩:=schemas hs
  rw [f1,f1']
  cases hg : gok g.Parents with
  | false=>exact ⟨[],0,false,rfl,rfl,by simp,fun t ht=>by simp at ht⟩
  | true =>
    cases b1 with
    | false=>exact ⟨[],0,false,rfl,rfl,by simp,fun t ht=>by simp at ht⟩
    | true =>
      have hsc:=g1.1 rfl
      obtain ⟨h1,h2⟩:=split_bd 10 x
      simp only [Option.bind_some,Bool.not_true,cond_false,cond_true]
      rw [l1Split_ok (z:=10) (c:=10) rfl (by omega)]
      simp only [Option.bind_some]
      have e1:=parsePlan_loop hs hg hsc x.length x [] (Nat.le_refl _) hx (by simp)
      obtain ⟨q,qs,hq⟩:=split_ne 10 x
      have e2:=specPlan_loop hs hg hsc (W:=splitB 10 x) (by omega) (fun p hp=>by have:=(h2 p hp).1; omega) ((splitB 10 x).length - 1) [] (by rw [hq]; simp only [List.length_nil,List.length_cons]; omega) (by simp)
      obtain ⟨k1,k2⟩:=rdl_lens hs hg hsc (splitB 10 x) [] (fun p hp=>by have:=(h2 p hp).1; omega) (by simp) (fun t ht=>by simp at ht)
      simp only [List.length_nil,List.drop_zero] at e2
      refine ⟨_,_,_,e1,e2,k1,k2⟩

theorem rdl_back (hs : TameS s) (hg : gok g.Parents = true) (hsc : OkS s) : ∀ (l a : List impl_Table),(∀ t ∈ l,OkT g s t)→a.length + l.length ≤ 20→rdl g s (l.map (ttx s) ++ [[]]) a = (a ++ l,0,true)
  | [],a,_,_=>by simp [rdl]
  | t :: l,a,h,hn=>by
    have hT:=h t List.mem_cons_self
    have hln:=ttx_len hT
    simp only [List.length_cons] at hn
    obtain ⟨q,qs,hq⟩ : ∃ q qs,l.map (ttx s) ++ [[]] = q :: qs:=by cases l <;> exact ⟨_,_,rfl⟩
    rw [List.map_cons,List.cons_append,hq,rdl]
    rcases line_same (x:=ttx s t) hs hg hsc (by omega) with ⟨u,hU,eU,e,_⟩ | ⟨he,_⟩
    · have hut : u = t:=by
        have h4:=guess_back hU
        rw [eU,guess_back hT] at h4
        exact (Option.some.inj h4).symm
      subst hut
      rw [e]
      simp only
      rw [if_neg (by omega),← hq,rdl_back hs hg hsc l (a ++ [u]) (fun z hz=>h z (List.mem_cons_of_mem _ hz)) (by simp; omega)]
      simp
    · exact absurd ⟨t,hT,rfl⟩ he

theorem ParsePlan_back (hs : TameS s) (hl : OkP g s l) : impl_ParsePlan g s (ptx s l) = some (l,0,true):=by
  have hg:=hl.geo
  have hsc:=hl.sch
  have hn:=hl.n
  have hln:=ptx_len hl.tab
  unfold impl_ParsePlan
  rw [impl_IsGeo_eq]
  obtain ⟨b1,f1,f1',g1⟩:=schemas hs
  obtain rfl:=g1.2 hsc
  rw [hg,f1]
  simp only [Option.bind_some,Bool.not_true,cond_false,cond_true]
  have e1:=parsePlan_loop hs hg hsc _ (ptx s l) [] (Nat.le_refl _) (by omega) (by simp)
  rw [ptx_split hl.tab,rdl_back hs hg hsc l [] hl.tab (by simpa using hn)] at e1
  exact e1

theorem sameTs {y : List impl_Table} (h : y.length ≤ 1000000) (h2 : ∀ t ∈ y,t.Vars.length ≤ 1000000∧t.Where.length ≤ 1000000) : laws_pSameTables y y = some true:=by
  unfold laws_pSameTables
  rw [bne_self_eq_false,cond_false]
  have h:=loop_all (l:=y) (fun _=>true) (laws_pSameTables_l1 y y) (fun k x hx=>by
    obtain ⟨k1,k2⟩:=h2 x (List.mem_of_getElem? hx)
    simp only [laws_pSameTables_l1,lt_ok hx,cond_true,at_ok hx,Option.bind_some,sameT k1 k2,Bool.not_true,cond_false,nx_ok hx (show y.length ≤ 9223372036854775807 by omega),if_true]) (fun _=>by simp only [laws_pSameTables_l1,lt_end,cond_false])
  rw [h]; simp

end

end Go.Gx.F
