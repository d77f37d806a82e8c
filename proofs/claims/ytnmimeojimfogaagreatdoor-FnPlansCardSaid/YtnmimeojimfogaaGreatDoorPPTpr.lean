/- Plain laws: the program's reading of tables. -/
import Derived.Test.YtnmimeojimfogaaGreatDoorPPTtx

namespace Go.Gx.F

open Go.Gx

set_option linter.all false

theorem nx_cons {w : List UInt8} {r : List (List UInt8)} (h : r.length ≤ 1000000) : impl_parseTable_1 (w :: r) = some (w,r):=by
  unfold impl_parseTable_1
  rw [show (goLen (w :: r) == 0) = false by rw [beq_eq_false_iff_ne]; simp [goLen]; omega,cond_false]
  have h1 : goAt (w :: r) 0 = some w:=rfl
  have h2 : goSub (w :: r) 1 (goLen (w :: r)) = some r:=by
    refine tot_eq (tot_sub (by omega) (by simp only [goLen,List.length_cons]; omega) (by simp only [goLen]; omega) ?_)
    rw [show (1 : Int).toNat = 1 from rfl,List.drop_succ_cons,List.drop_zero,List.take_of_length_le (by simp [goLen])]
  rw [h1,h2]; rfl

theorem bind_of {α β : Type} {x : Option α} {y : α} (h : x = some y) (F : α→Option β) : x.bind F = F y:=by rw [h]; rfl

theorem ex_bind {α β γ : Type} {x : Option α} {y : α} (h : x = some y) (F : α→Option (β × γ)) (P : β→Prop) : (∃ T b,F y = some (T,b)∧P T)→∃ T b,x.bind F = some (T,b)∧P T:=by rw [h]; exact id

theorem nx_tot (B n : Nat) (l : List (List UInt8)) (hn : l.length ≤ n) (h : ∀ p ∈ l,p.length ≤ B) (hn2 : n ≤ 1000000) : ∃ w r,impl_parseTable_1 l = some (w,r)∧w.length ≤ B∧r.length ≤ n∧(∀ p ∈ r,p.length ≤ B)∧(0 < l.length→r.length < l.length):=by
  cases l with
  | nil=>exact ⟨[],[],rfl,by simp,by simp,by simp,by simp⟩
  | cons w r =>
    simp only [List.length_cons] at hn
    exact ⟨w,r,nx_cons (by omega),h w List.mem_cons_self,by omega,fun p hp=>h p (List.mem_cons_of_mem _ hp),by simp⟩

theorem seqC_steps2 {α σ ρ : Type} {f : α→σ→Option (Stp σ ρ)} (S : Nat→σ) : ∀ (l : List α) (i : Nat),(∀ j x,l[j]? = some x→f x (S (i + j)) = some (.next (S (i + j + 1))))→seqC f l (S i) = some (.inl (S (i + l.length)))
  | [],i,_=>rfl
  | x :: r,i,h=>by
    have h0:=h 0 x rfl
    rw [Nat.add_zero] at h0
    simp only [seqC,h0]
    have:=seqC_steps2 S r (i + 1) fun j y hy=>by
      have:=h (j + 1) y hy
      rwa [show i + (j + 1) = i + 1 + j by omega] at this
    rw [this]
    simp only [List.length_cons]
    rw [show i + 1 + r.length = i + (r.length + 1) by omega]

def wUp (W : List Int) (n : Nat) : List Int:=(List.range W.length).map fun (k : Nat)=>if k < n then W.getD k 0 else 0

theorem wUp_at {W : List Int} {n k : Nat} {x : Int} (h : W[k]? = some x) : (wUp W n)[k]? = some (if k < n then x else 0):=by
  have hk:=(List.getElem?_eq_some_iff.1 h).1
  unfold wUp
  rw [List.getElem?_map,List.getElem?_range hk]
  simp only [Option.map_some,List.getD,h,Option.getD_some]

theorem wUp_len (W : List Int) (n : Nat) : (wUp W n).length = W.length:=by unfold wUp; simp

theorem wUp_zero (W : List Int) : wUp W 0 = List.replicate W.length 0:=by
  apply List.ext_getElem?
  intro k
  by_cases hk : k < W.length
  · rw [wUp_at (show W[k]? = some W[k] by simp [hk]),if_neg (by omega),List.getElem?_replicate,if_pos hk]
  · rw [List.getElem?_eq_none (by rw [wUp_len]; omega),List.getElem?_eq_none (by simp; omega)]

theorem wUp_end (W : List Int) : wUp W W.length = W:=by
  apply List.ext_getElem?
  intro k
  by_cases hk : k < W.length
  · have h : W[k]? = some W[k]:=by simp [hk]
    rw [wUp_at h,if_pos hk,h]
  · rw [List.getElem?_eq_none (by rw [wUp_len]; omega),List.getElem?_eq_none (by omega)]

theorem wUp_same {W : List Int} {n : Nat} (h : W[n]? = some 0) : wUp W (n + 1) = wUp W n:=by
  apply List.ext_getElem?
  intro k
  by_cases hk : k < W.length
  · have hx : W[k]? = some W[k]:=by simp [hk]
    rw [wUp_at hx,wUp_at hx]
    by_cases hkn : k = n
    · subst hkn
      rw [h] at hx
      rw [← Option.some.inj hx]; simp
    · by_cases h1 : k < n
      · rw [if_pos h1,if_pos (by omega)]
      · rw [if_neg h1,if_neg (by omega)]
  · rw [List.getElem?_eq_none (by rw [wUp_len]; omega),List.getElem?_eq_none (by rw [wUp_len]; omega)]

theorem wUp_set {W : List Int} {n : Nat} {x : Int} (h : W[n]? = some x) : goSet (wUp W n) (n : Int) x = wUp W (n + 1):=by
  unfold goSet
  rw [Int.toNat_natCast]
  apply List.ext_getElem?
  intro k
  by_cases hk : k < W.length
  · have hx : W[k]? = some W[k]:=by simp [hk]
    rw [wUp_at hx]
    by_cases hkn : k = n
    · subst hkn
      rw [List.getElem?_set_self (by rw [wUp_len]; omega),if_pos (by omega),← hx,h]
    · rw [List.getElem?_set_ne (Ne.symm hkn),wUp_at hx]
      by_cases h1 : k < n
      · rw [if_pos h1,if_pos (by omega)]
      · rw [if_neg h1,if_neg (by omega)]
  · rw [List.getElem?_eq_none (by rw [List.length_set,wUp_len]; omega),List.getElem?_eq_none (by rw [wUp_len]; omega)]

section

variable {g : impl_Geo} {s : List impl_Variable} {t : impl_Table}

theorem cnds_drop {W : List Int} {n : Nat} (hn : n < s.length) (h : csel s W n = true) : (cnds s W s.length).drop (cnds s W n).length = cprt s W n :: (cnds s W s.length).drop (cnds s W (n + 1)).length:=by
  have h1:=picks_at (f:=cprt s W) h hn
  have h2:=picks_len_eq (sel:=csel s W) (f:=cprt s W) n
  have h3 : (cnds s W (n + 1)).length = (cnds s W n).length + 1:=by
    unfold cnds; rw [picks,h]; simp
  have h4 : (cnds s W s.length)[(cnds s W n).length]? = some (cprt s W n):=by
    unfold cnds; rw [h2]; exact h1
  obtain ⟨hlt,he⟩:=List.getElem?_eq_some_iff.1 h4
  rw [List.drop_eq_getElem_cons hlt,he,h3]

theorem cnds_stay {W : List Int} {n : Nat} (h : csel s W n = false) : cnds s W (n + 1) = cnds s W n:=by unfold cnds; rw [picks,h]; rfl

theorem ps_ok {v : impl_Variable} {x : Int} (hv : 2 ≤ v.Levels∧v.Levels ≤ 8) (h1 : 1 ≤ x) (h2 : x ≤ full v) : impl_parseSet (stx x.toNat) v.Levels = some x:=by
  have:=parseSet_ok (x:=x.toNat) (n:=v.Levels) (by omega) hv (by unfold full at h2; omega)
  rwa [show ((x.toNat : Nat) : Int) = x by omega] at this

theorem conds_back (h : OkT g s t) (T : impl_Table) : loopC (impl_parseTable_l2 s) (cnds s t.Where s.length,⟨T.Level,T.Vars,List.replicate s.length 0,T.Sum⟩) = some (.inl ⟨T.Level,T.Vars,t.Where,T.Sum⟩):=by
  have hs:=h.sch
  have hW:=h.whr
  have hWl:=hW.1
  obtain ⟨hc1,hc2⟩:=cnds_len hs hW (n:=s.length) (Nat.le_refl _)
  have key : ∀ (j n : Nat),n + j = s.length→loopC (impl_parseTable_l2 s) ((cnds s t.Where s.length).drop (cnds s t.Where n).length,⟨T.Level,T.Vars,wUp t.Where n,T.Sum⟩) = some (.inl ⟨T.Level,T.Vars,t.Where,T.Sum⟩):=by
    intro j
    induction j with
    | zero =>
      intro n hn
      obtain rfl : n = s.length:=by omega
      rw [List.drop_eq_nil_of_le (Nat.le_refl _),loopC_eq]
      simp only [impl_parseTable_l2]
      rw [show decide (0 < goLen ([] : List (List UInt8))) = false from rfl,cond_false,← hWl,wUp_end]
    | succ j ih =>
      intro n hn
      have hlt : n < s.length:=by omega
      obtain ⟨v,x,hv,hx,h1,h2,h3,h4,h5⟩:=OkW.at_ hs hW hlt
      have hsel:=csel_at hv hx
      by_cases h0 : x = 0
      · have:=ih (n + 1) (by omega)
        rw [cnds_stay (by rw [hsel,h0]; rfl),wUp_same (by rw [hx,h0])] at this
        exact this
      · rw [cnds_drop hlt (by rw [hsel]; simpa using h0),cprt_at hv hx]
        have hr : ((cnds s t.Where s.length).drop (cnds s t.Where (n + 1)).length).length ≤ 1000000:=by simp; omega
        refine (loopC_nx ?_).trans (ih (n + 1) (by omega))
        simp only [impl_parseTable_l2]
        rw [decide_eq_true (by simp [goLen] <;> omega),cond_true,nx_cons hr]
        simp only [Option.bind_some]
        rw [pse_cut h1 ⟨h3,h5⟩]
        simp only [Option.bind_some,nameIndex_ok hs hv]
        rw [decide_eq_false (by omega),cond_false,at_ok hv]
        simp only [Option.bind_some]
        rw [ps_ok h2 (by omega) h4]
        simp only [Option.bind_some]
        rw [at_ok (wUp_at (n:=n) hx),Option.bind_some,wUp_set hx]
  have:=key s.length 0 (by omega)
  rw [wUp_zero,hWl] at this
  exact this

theorem vars_back (h : OkT g s t) (hV : t.Vars ≠ []) (L S : Int) (Z : List Int) : seqC (impl_parseTable_l1 s) (splitB 44 (Go.Lib.join (t.Vars.map (nameAt s)) [44])) ⟨L,[],Z,S⟩ = some (.inl ⟨L,t.Vars,Z,S⟩):=by
  have hs:=h.sch
  have hVl:=h.vlen
  rw [split_join (by simpa using hV) (fun x hx=>by
    obtain ⟨i,hi,rfl⟩:=List.mem_map.1 hx
    obtain ⟨k,v,_,_,e,hw⟩:=nameAt_ok hs (var_bd h hi)
    rw [e]; exact name_no hw (by decide))]
  have:=seqC_steps2 (f:=impl_parseTable_l1 s) (fun j=>(⟨L,t.Vars.take j,Z,S⟩ : impl_Table)) (t.Vars.map (nameAt s)) 0 (fun j x hx=>by
    rw [List.getElem?_map] at hx
    cases hi : t.Vars[j]? with
    | none=>rw [hi] at hx; cases hx
    | some i =>
      rw [hi] at hx
      obtain rfl:=Option.some.inj hx
      obtain ⟨k,v,rfl,hv,e,hw⟩:=nameAt_ok hs (var_bd h (List.mem_of_getElem? hi))
      simp only [impl_parseTable_l1,Nat.zero_add]
      rw [e,nameIndex_ok hs hv]
      simp only [Option.bind_some]
      rw [decide_eq_false (by omega),cond_false,goApp_ok (by simp; omega),Option.bind_some,List.take_add_one,hi]
      rfl)
  simp only [Nat.zero_add,List.length_map,List.take_zero,List.take_length] at this
  exact this

theorem parse_back (h : OkT g s t) : impl_parseTable s (ttx s t) = some (t,true):=by
  have hs:=h.sch
  have h6:=hs.2.1
  have hlv:=h.lvl
  have hlen:=ttx_len h
  obtain ⟨hc1,hc2⟩:=cnds_len hs h.whr (n:=s.length) (Nat.le_refl _)
  have hsp : strings_Split (ttx s t) [32] = some (wrds s t):=by
    unfold strings_Split
    rw [decide_eq_true ⟨by omega,rfl⟩,cond_true,← split_ttx h]
    rfl
  have hjl:=join_len_le (sep:=[44]) (B:=8) (names_len h (l:=t.Vars) fun i hi=>hi)
  have hVl:=h.vlen
  simp only [List.length_map,List.length_singleton] at hjl
  have hgs : goSpl (Go.Lib.join (t.Vars.map (nameAt s)) [44]) = some ():=by unfold goSpl; rw [decide_eq_true (by omega),cond_true]
  have hwi : impl_wholeNaturalIf true (Go.Lib.decDigits t.Level.toNat) 30 = some (t.Level,true):=by
    unfold impl_wholeNaturalIf
    rw [whole_dig (by omega)]
    simp only [Option.bind_some,cond_true]
    rw [show ((t.Level.toNat : Nat) : Int) = t.Level by omega]
  unfold impl_parseTable
  rw [show goLen s = ((s.length : Nat) : Int) from rfl,goMake_ok (by omega) (by omega),Option.bind_some,hsp,Option.bind_some]
  obtain ⟨wV,hwV⟩ : ∃ wV,(if t.Vars = [] then [] else [[98,121],Go.Lib.join (t.Vars.map (nameAt s)) [44]] : List (List UInt8)) = wV:=⟨_,rfl⟩
  obtain ⟨wC,hwC⟩ : ∃ wC,(if cnds s t.Where s.length = [] then [] else [119,104,101,114,101] :: cnds s t.Where s.length : List (List UInt8)) = wC:=⟨_,rfl⟩
  have hVn : wV.length ≤ 2:=by rw [← hwV]; split <;> simp
  have hCn : wC.length ≤ 7:=by rw [← hwC]; split <;> simp; omega
  have hB : ∀ T : impl_Table,T.Vars = []→((((cond (decide (0 < (goLen (wV ++ wC)))) ((goAt (wV ++ wC) 0).bind fun e_32=>some (e_32 == ([98,121] : List UInt8))) (some false)) : Option (Bool)).bind fun t_34=>((cond t_34 ((impl_parseTable_1 (wV ++ wC)).bind fun t_36=>((impl_parseTable_1 t_36.2).bind fun t_39=>((goSpl t_39.1).bind fun u41=>((seqC (impl_parseTable_l1 s) (splitB 44 t_39.1) (impl_Table.mk T.Level ([] : List Int) T.Where T.Sum)).bind fun | .inl t_42=>some (.inl (t_39.2,t_42)) | .inr ()=>some (.inr ((impl_Table.mk 0 ([] : List Int) ([] : List Int) 0),false)))))) (some (.inl ((wV ++ wC),(impl_Table.mk T.Level ([] : List Int) T.Where T.Sum))))) : Option (((List (List UInt8)) × impl_Table) ⊕ (impl_Table × Bool))))) = some (.inl (wC,⟨T.Level,t.Vars,T.Where,T.Sum⟩)):=by
    intro T hT
    by_cases h0 : t.Vars = []
    · rw [if_pos h0] at hwV
      subst hwV
      rw [List.nil_append,h0]
      by_cases h1 : cnds s t.Where s.length = []
      · rw [if_pos h1] at hwC; subst hwC; rfl
      · rw [if_neg h1] at hwC; subst hwC
        rw [decide_eq_true (by simp [goLen] <;> omega),cond_true]
        rfl
    · rw [if_neg h0] at hwV
      subst hwV
      rw [decide_eq_true (by simp [goLen] <;> omega),cond_true,show goAt ([[98,121],Go.Lib.join (t.Vars.map (nameAt s)) [44]] ++ wC) 0 = some [98,121] from rfl]
      simp only [Option.bind_some,beq_self_eq_true,cond_true,List.cons_append,List.nil_append]
      rw [nx_cons (by simp; omega)]
      simp only [Option.bind_some]
      rw [nx_cons (by omega)]
      simp only [Option.bind_some]
      rw [hgs]
      simp only [Option.bind_some]
      rw [vars_back h h0]
      rfl
  have hC : ∀ T : impl_Table,T.Where = List.replicate s.length 0→((((cond (decide (0 < (goLen wC))) ((impl_parseTable_1 wC).bind fun t_59=>some (t_59.1 != ([119,104,101,114,101] : List UInt8),t_59.2)) (some (false,wC))) : Option (Bool × (List (List UInt8))))) = some (false,cnds s t.Where s.length))∧loopC (impl_parseTable_l2 s) (cnds s t.Where s.length,T) = some (.inl ⟨T.Level,T.Vars,t.Where,T.Sum⟩):=by
    intro T hT
    refine ⟨?_,by rw [← conds_back h T,← hT]⟩
    by_cases h1 : cnds s t.Where s.length = []
    · rw [if_pos h1] at hwC; subst hwC; rw [h1]; rfl
    · rw [if_neg h1] at hwC; subst hwC
      rw [decide_eq_true (by simp [goLen] <;> omega),cond_true,nx_cons (by omega)]
      rfl
  have hw : wrds s t = (if 0 ≤ t.Sum then [[115,117,109],nameAt s t.Sum] else [[99,111,117,110,116]]) ++ ([[108,101,118,101,108],Go.Lib.decDigits t.Level.toNat] ++ (wV ++ wC)):=by unfold wrds; rw [hwV,hwC]
  rw [hw]
  by_cases h0 : 0 ≤ t.Sum
  · rw [if_pos h0]
    obtain ⟨k,v,e1,hv,e,hwd⟩:=nameAt_ok hs (i:=t.Sum) ⟨h0,h.sum.2⟩
    simp only [List.cons_append,List.nil_append]
    rw [nx_cons (by simp; omega)]
    simp only [Option.bind_some]
    rw [show (([115,117,109] : List UInt8) == [99,111,117,110,116]) = false from rfl,cond_false,show (([115,117,109] : List UInt8) == [115,117,109]) = true from rfl,cond_true,nx_cons (by simp; omega)]
    simp only [Option.bind_some]
    rw [e,nameIndex_ok hs hv]
    simp only [Option.bind_some]
    rw [decide_eq_false (by omega),cond_false]
    simp only [Option.bind_some]
    rw [nx_cons (by simp; omega)]
    simp only [Option.bind_some]
    rw [nx_cons (by simp; omega)]
    simp only [Option.bind_some]
    rw [show (([108,101,118,101,108] : List UInt8) == [108,101,118,101,108]) = true from rfl,hwi]
    simp only [Option.bind_some,Bool.not_true,cond_false]
    have b1:=hB ⟨t.Level,[],List.replicate s.length 0,(k : Int)⟩ rfl
    simp only at b1
    obtain ⟨c1,c2⟩:=hC ⟨t.Level,t.Vars,List.replicate s.length 0,(k : Int)⟩ rfl
    cases hq : ((cond (decide (0 < (goLen (wV ++ wC)))) ((goAt (wV ++ wC) 0).bind fun e_32=>some (e_32 == ([98,121] : List UInt8))) (some false)) : Option (Bool)) with
    | none=>rw [hq] at b1; cases b1
    | some b =>
      rw [hq] at b1
      simp only [Option.bind_some] at b1 ⊢
      refine (bind_of b1 _).trans ?_
      simp only
      rw [c1]
      simp only [Option.bind_some,cond_false]
      rw [c2]
      simp only [Option.bind_some]
      rw [← e1]
  · rw [if_neg h0]
    have hS : t.Sum = -1:=by have:=h.sum; omega
    simp only [List.cons_append,List.nil_append]
    rw [nx_cons (by simp; omega)]
    simp only [Option.bind_some]
    rw [show (([99,111,117,110,116] : List UInt8) == [99,111,117,110,116]) = true from rfl,cond_true]
    simp only [Option.bind_some]
    rw [nx_cons (by simp; omega)]
    simp only [Option.bind_some]
    rw [nx_cons (by simp; omega)]
    simp only [Option.bind_some]
    rw [show (([108,101,118,101,108] : List UInt8) == [108,101,118,101,108]) = true from rfl,hwi]
    simp only [Option.bind_some,Bool.not_true,cond_false]
    have b1:=hB ⟨t.Level,[],List.replicate s.length 0,-1⟩ rfl
    simp only at b1
    obtain ⟨c1,c2⟩:=hC ⟨t.Level,t.Vars,List.replicate s.length 0,-1⟩ rfl
    cases hq : ((cond (decide (0 < (goLen (wV ++ wC)))) ((goAt (wV ++ wC) 0).bind fun e_32=>some (e_32 == ([98,121] : List UInt8))) (some false)) : Option (Bool)) with
    | none=>rw [hq] at b1; cases b1
    | some b =>
      rw [hq] at b1
      simp only [Option.bind_some] at b1 ⊢
      refine (bind_of b1 _).trans ?_
      simp only
      rw [c1]
      simp only [Option.bind_some,cond_false]
      rw [c2]
      simp only [Option.bind_some]
      rw [← hS]

theorem cut_tot {x : List UInt8} {b : UInt8} (hx : x.length ≤ 1000000) : ∃ a r f,strings_Cut x [b] = some (a,r,f)∧a.length ≤ x.length∧r.length ≤ x.length:=by
  unfold strings_Cut
  rw [decide_eq_true (by omega),cond_true]
  unfold Go.Lib.cut
  split
  · exact ⟨_,_,_,rfl,by simp; omega,by simp⟩
  · exact ⟨_,_,_,rfl,Nat.le_refl _,by simp⟩

theorem conds_tot {B : Nat} (hs : OkS s) (hB : B ≤ 1000000) : ∀ (n : Nat) (l : List (List UInt8)) (T : impl_Table),l.length ≤ n→n ≤ 1000000→(∀ p ∈ l,p.length ≤ B)→T.Where.length = s.length →
    ∃ o,loopC (impl_parseTable_l2 s) (l,T) = some o∧(match o with | .inl U=>U.Vars = T.Vars | .inr q=>q = ((impl_Table.mk 0 ([] : List Int) ([] : List Int) 0),false)):=by
  have h6:=hs.2.1
  intro n
  induction n with
  | zero =>
    intro l T hl _ _ _
    obtain rfl : l = []:=List.eq_nil_of_length_eq_zero (by omega)
    rw [loopC_eq]
    exact ⟨.inl T,rfl,rfl⟩
  | succ n ih =>
    intro l T hl hn hp hW
    cases l with
    | nil=>rw [loopC_eq]; exact ⟨.inl T,rfl,rfl⟩
    | cons w r =>
      simp only [List.length_cons] at hl
      have hw:=hp w List.mem_cons_self
      obtain ⟨a,q,f,e1,h1,h2⟩:=cut_tot (x:=w) (b:=61) (by omega)
      obtain ⟨k,e2,h3,h4⟩:=nameIndex_bd (s:=s) (n:=a) (by omega)
      have step : impl_parseTable_l2 s (w :: r,T) = (cond (decide (k < 0)) (some (.done (.inr ((impl_Table.mk 0 ([] : List Int) ([] : List Int) 0),false)))) ((goAt s k).bind fun e_76=>((impl_parseSet q e_76.Levels).bind fun t_78=>((goAt T.Where k).bind fun e_79=>some (.next (r,(impl_Table.mk T.Level T.Vars (goSet T.Where k t_78) T.Sum))))))):=by
        simp only [impl_parseTable_l2]
        rw [decide_eq_true (by simp [goLen] <;> omega),cond_true,nx_cons (by omega)]
        simp only [Option.bind_some]
        rw [e1]
        simp only [Option.bind_some]
        rw [e2]
        rfl
      by_cases hk : k < 0
      · rw [loopC_eq,step,decide_eq_true hk]
        exact ⟨_,rfl,rfl⟩
      · obtain ⟨i,rfl⟩:=Int.eq_ofNat_of_zero_le (show 0 ≤ k by omega)
        have hv : s[i]? = some (s[i]'(by omega)):=by simp [show i < s.length by omega]
        have hx : T.Where[i]? = some (T.Where[i]'(by omega)):=by simp [show i < T.Where.length by omega]
        have h8:=(hs.2.2 i _ hv).1.2
        obtain ⟨z,hz⟩:=parseSet_tot (x:=q) (n:=(s[i]'(by omega)).Levels) (by omega) h8.2
        rw [decide_eq_false hk,cond_false] at step
        rw [at_ok hv,Option.bind_some,hz,Option.bind_some,at_ok hx,Option.bind_some] at step
        rw [loopC_nx step]
        exact ih r _ (by omega) (by omega) (fun p hpp=>hp p (List.mem_cons_of_mem _ hpp)) (by simp only [goSet,List.length_set]; exact hW)

theorem vars_tot (hs : OkS s) : ∀ (l : List (List UInt8)) (T : impl_Table),T.Vars.length + l.length ≤ 1000000→∃ o,seqC (impl_parseTable_l1 s) l T = some o∧(match o with | .inl U=>U.Vars.length ≤ T.Vars.length + l.length∧U.Where = T.Where | .inr _=>True)
  | [],T,_=>⟨.inl T,rfl,by simp⟩
  | x :: r,T,hl=>by
    have h6:=hs.2.1
    simp only [List.length_cons] at hl
    obtain ⟨k,e2,h3,h4⟩:=nameIndex_bd (s:=s) (n:=x) (by omega)
    simp only [seqC,impl_parseTable_l1,e2,Option.bind_some]
    by_cases hk : k < 0
    · rw [decide_eq_true hk]; exact ⟨_,rfl,trivial⟩
    · rw [decide_eq_false hk,cond_false,goApp_ok (by simp; omega)]
      simp only [Option.bind_some]
      obtain ⟨o,e,ho⟩:=vars_tot hs r ⟨T.Level,T.Vars ++ [k],T.Where,T.Sum⟩ (by simp; omega)
      refine ⟨o,e,?_⟩
      cases o with
      | inl U=>exact ⟨by have:=ho.1; simp at this; simp only [List.length_cons]; omega,ho.2⟩
      | inr _=>trivial

theorem parse_tot {x : List UInt8} (hs : OkS s) (hx : x.length ≤ 100000) : ∃ T b,impl_parseTable s x = some (T,b)∧T.Vars.length ≤ 1000000:=by
  have h6:=hs.2.1
  have hsp:=split_bd 32 x
  unfold impl_parseTable
  rw [show goLen s = ((s.length : Nat) : Int) from rfl,goMake_ok (by omega) (by omega),Option.bind_some]
  have hspl : strings_Split x [32] = some (splitB 32 x):=by
    unfold strings_Split
    rw [decide_eq_true ⟨by omega,rfl⟩,cond_true]; rfl
  rw [hspl,Option.bind_some]
  obtain ⟨w1,r1,e1,a1,b1,c1,_⟩:=nx_tot x.length (x.length + 1) (splitB 32 x) hsp.1 (fun p hp=>(hsp.2 p hp).1) (by omega)
  rw [e1,Option.bind_some]
  simp only
  have hH : ∃ o,((cond (w1 == ([99,111,117,110,116] : List UInt8)) (some (.inl (r1,(impl_Table.mk 0 ([] : List Int) (List.replicate s.length 0) (-1))))) (cond (w1 == ([115,117,109] : List UInt8)) ((impl_parseTable_1 r1).bind fun t_17=>((impl_nameIndex s t_17.1).bind fun t_19=>(cond (decide (t_19 < 0)) (some (.inr ((impl_Table.mk 0 ([] : List Int) ([] : List Int) 0),false))) (some (.inl (t_17.2,(impl_Table.mk 0 ([] : List Int) (List.replicate s.length 0) t_19))))))) (some (.inr ((impl_Table.mk 0 ([] : List Int) ([] : List Int) 0),false))))) : Option (((List (List UInt8)) × impl_Table) ⊕ (impl_Table × Bool))) = some o ∧
      (match o with | .inl (r,T)=>r.length ≤ x.length + 1∧(∀ p ∈ r,p.length ≤ x.length)∧T.Vars = []∧T.Where.length = s.length | .inr q=>q.1.Vars = []):=by
    cases w1 == ([99,111,117,110,116] : List UInt8) with
    | true=>exact ⟨_,rfl,b1,c1,rfl,by simp⟩
    | false =>
      cases w1 == ([115,117,109] : List UInt8) with
      | false=>exact ⟨_,rfl,rfl⟩
      | true =>
        obtain ⟨w2,r2,e2,a2,b2,c2,_⟩:=nx_tot x.length (x.length + 1) r1 b1 c1 (by omega)
        obtain ⟨k,ek,h3,h4⟩:=nameIndex_bd (s:=s) (n:=w2) (by omega)
        simp only [cond_false,cond_true,e2,Option.bind_some,ek]
        cases decide (k < 0) with
        | true=>exact ⟨_,rfl,rfl⟩
        | false=>exact ⟨_,rfl,b2,c2,rfl,by simp⟩
  obtain ⟨o,eo,ho⟩:=hH
  rw [eo,Option.bind_some]
  cases o with
  | inr q=>exact ⟨q.1,q.2,rfl,by rw [ho]; simp⟩
  | inl q =>
    obtain ⟨r,T⟩:=q
    obtain ⟨q1,q2,q3,q4⟩:=ho
    simp only
    obtain ⟨w3,r3,e3,a3,b3,c3,_⟩:=nx_tot x.length (x.length + 1) r q1 q2 (by omega)
    rw [e3,Option.bind_some]
    simp only
    obtain ⟨w4,r4,e4,a4,b4,c4,_⟩:=nx_tot x.length (x.length + 1) r3 b3 c3 (by omega)
    rw [e4,Option.bind_some]
    simp only
    obtain ⟨n,f,ew,_,_⟩:=whole_tot (x:=w4) (by omega)
    have hwi : ∃ f',impl_wholeNaturalIf (w3 == ([108,101,118,101,108] : List UInt8)) w4 30 = some (n,f'):=by
      unfold impl_wholeNaturalIf
      rw [ew]
      simp only [Option.bind_some]
      cases w3 == ([108,101,118,101,108] : List UInt8) <;> exact ⟨_,rfl⟩
    obtain ⟨f',ef⟩:=hwi
    rw [ef,Option.bind_some]
    cases f' with
    | false=>exact ⟨_,_,rfl,by simp⟩
    | true =>
      simp only [Bool.not_true,cond_false]
      have hq : ∃ b,((cond (decide (0 < (goLen r4))) ((goAt r4 0).bind fun e_32=>some (e_32 == ([98,121] : List UInt8))) (some false)) : Option (Bool)) = some b:=by
        cases r4 with
        | nil=>exact ⟨_,rfl⟩
        | cons y z=>rw [decide_eq_true (by simp [goLen] <;> omega)]; exact ⟨_,rfl⟩
      obtain ⟨b,eb⟩:=hq
      rw [eb,Option.bind_some]
      have hV : ∃ o,((cond b ((impl_parseTable_1 r4).bind fun t_36=>((impl_parseTable_1 t_36.2).bind fun t_39=>((goSpl t_39.1).bind fun u41=>((seqC (impl_parseTable_l1 s) (splitB 44 t_39.1) (impl_Table.mk n ([] : List Int) T.Where T.Sum)).bind fun | .inl t_42=>some (.inl (t_39.2,t_42)) | .inr ()=>some (.inr ((impl_Table.mk 0 ([] : List Int) ([] : List Int) 0),false)))))) (some (.inl (r4,(impl_Table.mk n ([] : List Int) T.Where T.Sum))))) : Option (((List (List UInt8)) × impl_Table) ⊕ (impl_Table × Bool))) = some o ∧
          (match o with | .inl (r,U)=>r.length ≤ x.length + 1∧(∀ p ∈ r,p.length ≤ x.length)∧U.Vars.length ≤ 200000∧U.Where.length = s.length | .inr q=>q.1.Vars = []):=by
        cases b with
        | false=>exact ⟨_,rfl,b4,c4,by simp,q4⟩
        | true =>
          obtain ⟨w5,r5,e5,a5,b5,c5,_⟩:=nx_tot x.length (x.length + 1) r4 b4 c4 (by omega)
          obtain ⟨w6,r6,e6,a6,b6,c6,_⟩:=nx_tot x.length (x.length + 1) r5 b5 c5 (by omega)
          have hg : goSpl w6 = some ():=by unfold goSpl; rw [decide_eq_true (by omega),cond_true]
          have h44:=(split_bd 44 w6).1
          obtain ⟨u,eu,hu⟩:=vars_tot hs (splitB 44 w6) (impl_Table.mk n ([] : List Int) T.Where T.Sum) (by simp; omega)
          simp only [cond_true,e5,Option.bind_some,e6,hg,eu]
          cases u with
          | inr u=>exact ⟨_,rfl,rfl⟩
          | inl u =>
            obtain ⟨hu1,hu2⟩:=hu
            simp only [List.length_nil,Nat.zero_add] at hu1
            exact ⟨_,rfl,b6,c6,by omega,by rw [hu2]; exact q4⟩
      obtain ⟨u,eu,hu⟩:=hV
      refine ex_bind eu _ _ ?_
      cases u with
      | inr q=>exact ⟨q.1,q.2,rfl,by rw [hu]; simp⟩
      | inl q =>
        obtain ⟨r,U⟩:=q
        obtain ⟨p1,p2,p3,p4⟩:=hu
        simp only
        have hw : ∃ z l,((cond (decide (0 < (goLen r))) ((impl_parseTable_1 r).bind fun t_59=>some (t_59.1 != ([119,104,101,114,101] : List UInt8),t_59.2)) (some (false,r))) : Option (Bool × (List (List UInt8)))) = some (z,l)∧l.length ≤ x.length + 1∧∀ p ∈ l,p.length ≤ x.length:=by
          cases decide (0 < (goLen r)) with
          | false=>exact ⟨_,_,rfl,p1,p2⟩
          | true =>
            obtain ⟨w7,r7,e7,a7,b7,c7,_⟩:=nx_tot x.length (x.length + 1) r p1 p2 (by omega)
            rw [cond_true,e7]
            exact ⟨_,_,rfl,b7,c7⟩
        obtain ⟨z,l,ez,l1,l2⟩:=hw
        rw [ez,Option.bind_some]
        simp only
        cases z with
        | true=>exact ⟨_,_,rfl,by simp⟩
        | false =>
          obtain ⟨o,eo2,ho2⟩:=conds_tot hs (B:=x.length) (by omega) (x.length + 1) l U l1 (by omega) l2 p4
          rw [cond_false,eo2,Option.bind_some]
          cases o with
          | inl V=>exact ⟨_,_,rfl,by rw [ho2]; omega⟩
          | inr q=>exact ⟨q.1,q.2,rfl,by rw [ho2]; simp⟩

end

end Go.Gx.F
