/- Plain laws: tables as texts,and read back. -/
import Derived.Test.YtnmimeojimfogaaGreatDoorPPNam
import Derived.Test.YtnmimeojimfogaaGreatDoorPPTb2
import Derived.Test.YtnmimeojimfogaaGreatDoorPPDt

namespace Go.Gx.F

open Go.Gx

set_option linter.all false

def csel (s : List impl_Variable) (W : List Int) (k : Nat) : Bool:=match s[k]?,W[k]? with
  | some _,some x=>x != 0
  | _,_=>false

def cprt (s : List impl_Variable) (W : List Int) (k : Nat) : List UInt8:=match s[k]?,W[k]? with
  | some v,some x=>pse v x
  | _,_=>[]

def cnds (s : List impl_Variable) (W : List Int) (n : Nat) : List (List UInt8):=picks (csel s W) (cprt s W) n

def ctx (l : List (List UInt8)) : List UInt8:=if l = [] then [] else [32,119,104,101,114,101,32] ++ Go.Lib.join l [32]

def nameAt (s : List impl_Variable) (i : Int) : List UInt8:=match s[i.toNat]? with
  | some v=>v.Name
  | none=>[]

def vtx (s : List impl_Variable) (V : List Int) : List UInt8:=if V = [] then [] else [32,98,121,32] ++ Go.Lib.join (V.map (nameAt s)) [44]

def htx (s : List impl_Variable) (t : impl_Table) : List UInt8:=if 0 ≤ t.Sum then [115,117,109,32] ++ nameAt s t.Sum else [99,111,117,110,116]

def ttx (s : List impl_Variable) (t : impl_Table) : List UInt8:=((htx s t ++ ([32,108,101,118,101,108,32] ++ Go.Lib.decDigits t.Level.toNat)) ++ vtx s t.Vars) ++ ctx (cnds s t.Where s.length)

section

variable {g : impl_Geo} {s : List impl_Variable} {t : impl_Table}

theorem OkW.at_ {W : List Int} (hs : OkS s) (hW : OkW s W) {k : Nat} (hk : k < s.length) : ∃ v x,s[k]? = some v∧W[k]? = some x∧Word v.Name∧(2 ≤ v.Levels∧v.Levels ≤ 8)∧0 ≤ x∧x ≤ full v∧x ≤ 255:=by
  have hl:=hW.1
  have hv : s[k]? = some s[k]:=by simp [hk]
  have hx : W[k]? = some (W[k]'(by omega)):=by simp [show k < W.length by omega]
  have h1:=(hs.2.2 k _ hv).1
  have h2:=hW.2 k _ _ hv hx
  have h3 : full s[k] ≤ 255:=by
    have h1' : 2 ^ (s[k]).Levels.toNat ≤ 2 ^ 8:=Nat.pow_le_pow_right (by omega) (by omega)
    unfold full; omega
  exact ⟨_,_,hv,hx,h1.1,h1.2,h2.1,h2.2,by omega⟩

theorem csel_at {W : List Int} {k : Nat} {v : impl_Variable} {x : Int} (hv : s[k]? = some v) (hx : W[k]? = some x) : csel s W k = (x != 0):=by unfold csel; rw [hv,hx]

theorem cprt_at {W : List Int} {k : Nat} {v : impl_Variable} {x : Int} (hv : s[k]? = some v) (hx : W[k]? = some x) : cprt s W k = pse v x:=by unfold cprt; rw [hv,hx]

theorem OkT.lvl (h : OkT g s t) : 0 ≤ t.Level∧t.Level ≤ 30:=by
  have hg:=h.go
  have hp : 0 < (lev g.Parents t.Level).length:=by
    rcases Nat.eq_zero_or_pos (lev g.Parents t.Level).length with h0 | h0
    · have:=h.pos; unfold num at this; rw [h0] at this; simp at this
    · exact h0
  obtain ⟨a,r,har⟩:=List.exists_cons_of_length_pos hp
  obtain ⟨k,hk,hs,_⟩:=mem_picks.1 (show a ∈ lev g.Parents t.Level by rw [har]; exact List.mem_cons_self)
  have he : ((dep g.Parents k : Nat) : Int) = t.Level:=by unfold atL at hs; simpa using hs
  have h1:=gpath_len g.Parents k
  have h2:=hg.l2
  unfold dep at he
  omega

theorem nameAt_ok (hs : OkS s) {i : Int} (h : 0 ≤ i∧i < s.length) : ∃ k v,i = ((k : Nat) : Int)∧s[k]? = some v∧nameAt s i = v.Name∧Word v.Name:=by
  have hk : i.toNat < s.length:=by omega
  have hv : s[i.toNat]? = some s[i.toNat]:=by simp [hk]
  exact ⟨i.toNat,_,by omega,hv,by unfold nameAt; rw [hv],(hs.2.2 _ _ hv).1.1⟩

theorem var_bd (h : OkT g s t) {i : Int} (hi : i ∈ t.Vars) : 0 ≤ i∧i < s.length:=by
  obtain ⟨k,hk⟩:=List.getElem?_of_mem hi
  exact (h.vars k i hk).1

theorem htx_len (h : OkT g s t) : (htx s t).length ≤ 12:=by
  unfold htx
  split
  · obtain ⟨k,v,_,_,e,hw⟩:=nameAt_ok h.sch (i:=t.Sum) ⟨by assumption,h.sum.2⟩
    have:=hw.2.1
    rw [e]; simp; omega
  · simp

theorem names_len (h : OkT g s t) {l : List Int} (hl : ∀ i ∈ l,i ∈ t.Vars) : ∀ x ∈ l.map (nameAt s),x.length ≤ 8:=fun x hx=>by
  obtain ⟨i,hi,rfl⟩:=List.mem_map.1 hx
  obtain ⟨k,v,_,_,e,hw⟩:=nameAt_ok h.sch (var_bd h (hl i hi))
  rw [e]; exact hw.2.1

theorem vtx_len (h : OkT g s t) : (vtx s t.Vars).length ≤ 60:=by
  unfold vtx
  split
  · simp
  · have:=join_len_le (sep:=[44]) (B:=8) (names_len h (l:=t.Vars) fun i hi=>hi)
    have:=h.vlen
    simp only [List.length_map,List.length_singleton,List.length_append,List.length_cons,List.length_nil] at *
    omega

theorem cnds_len (hs : OkS s) {W : List Int} (hW : OkW s W) {n : Nat} (hn : n ≤ s.length) : (cnds s W n).length ≤ 6∧∀ x ∈ cnds s W n,x.length ≤ 24∧(32 : UInt8) ∉ x∧(10 : UInt8) ∉ x:=by
  have h6:=hs.2.1
  refine ⟨by have:=picks_len (sel:=csel s W) (f:=cprt s W) n; unfold cnds; omega,fun x hx=>?_⟩
  obtain ⟨k,hk,_,rfl⟩:=mem_picks.1 hx
  obtain ⟨v,y,hv,hy,h1,h2,h3,h4,h5⟩:=OkW.at_ hs hW (k:=k) (by omega)
  rw [cprt_at hv hy]
  exact ⟨pse_len h1 ⟨h3,h5⟩,pse_no h1 ⟨h3,h5⟩⟩

theorem ctx_len (hs : OkS s) {W : List Int} (hW : OkW s W) {n : Nat} (hn : n ≤ s.length) : (ctx (cnds s W n)).length ≤ 160:=by
  obtain ⟨h1,h2⟩:=cnds_len hs hW hn
  unfold ctx
  split
  · simp
  · have:=join_len_le (sep:=[32]) (B:=24) (l:=cnds s W n) fun x hx=>(h2 x hx).1
    simp only [List.length_singleton,List.length_append,List.length_cons,List.length_nil] at *
    omega

theorem ctx_snoc (l : List (List UInt8)) (p : List UInt8) : ctx (l ++ [p]) = ctx l ++ (cond l.isEmpty [32,119,104,101,114,101,32] [32] ++ p):=by
  unfold ctx
  cases l with
  | nil=>simp [Go.Lib.join_one]
  | cons x r =>
    rw [if_neg (by simp),if_neg (by simp),join_snoc _ _ _ (by simp)]
    simp [List.append_assoc]

theorem set_ok {x : Int} (h : 0 ≤ x∧x ≤ 255) : impl_setText x = some (stx x.toNat):=by
  have:=setText_ok (x:=x.toNat) (by omega)
  rwa [show ((x.toNat : Nat) : Int) = x by omega] at this

theorem tableText_ok (h : OkT g s t) : impl_tableText s t = some (ttx s t):=by
  have hs:=h.sch
  have hl:=hs.2.1
  have hlv:=h.lvl
  have hh:=htx_len h
  have hvl:=vtx_len h
  have hd:=read_small ⟨t.Level.toNat,by omega⟩
  simp only at hd
  have hVl:=h.vlen
  unfold impl_tableText
  have h0 : ((cond (decide (0 ≤ t.Sum)) ((goAt s t.Sum).bind fun e_5=>((goCat ([115,117,109,32] : List UInt8) e_5.Name).bind fun t_7=>some t_7)) (some ([99,111,117,110,116] : List UInt8))) : Option ((List UInt8))) = some (htx s t):=by
    unfold htx
    by_cases h1 : 0 ≤ t.Sum
    · obtain ⟨k,v,e1,hv,e,hw⟩:=nameAt_ok hs (i:=t.Sum) ⟨h1,h.sum.2⟩
      have:=hw.2.1
      rw [decide_eq_true h1,cond_true,if_pos h1,e,e1,at_ok hv,Option.bind_some,cat_ok (by simp; omega)]; rfl
    · rw [decide_eq_false h1,cond_false,if_neg h1]
  rw [h0]
  simp only [Option.bind_some]
  rw [itoa_ok (by omega) (by omega),Option.bind_some]
  have hit : Go.Lib.itoa t.Level = Go.Lib.decDigits t.Level.toNat:=by unfold Go.Lib.itoa; rw [if_neg (by omega)]
  rw [hit,cat_ok (by simp; omega),Option.bind_some,cat_ok (by simp; omega),Option.bind_some]
  have hV : ((cond (decide (0 < (goLen t.Vars))) ((loopC (impl_tableText_l1 s t) (([] : List (List UInt8)),0)).bind fun names_22=>((strings_Join names_22 ([44] : List UInt8)).bind fun t_24=>((goCat ([32,98,121,32] : List UInt8) t_24).bind fun t_26=>((goCat (htx s t ++ ([32,108,101,118,101,108,32] ++ Go.Lib.decDigits t.Level.toNat)) t_26).bind fun t_27=>some t_27)))) (some (htx s t ++ ([32,108,101,118,101,108,32] ++ Go.Lib.decDigits t.Level.toNat)))) : Option ((List UInt8))) = some ((htx s t ++ ([32,108,101,118,101,108,32] ++ Go.Lib.decDigits t.Level.toNat)) ++ vtx s t.Vars):=by
    by_cases h1 : t.Vars = []
    · rw [h1,show decide (0 < goLen ([] : List Int)) = false from rfl,cond_false]
      simp [vtx]
    · have hpos : 0 < t.Vars.length:=List.length_pos_iff.2 h1
      rw [decide_eq_true (by simp only [goLen]; omega),cond_true]
      have hn : loopC (impl_tableText_l1 s t) (([] : List (List UInt8)),0) = some (t.Vars.map (nameAt s)):=by
        refine tot_eq (tot_loop (fun q=>∃ k : Nat,k ≤ t.Vars.length∧q = ((t.Vars.take k).map (nameAt s),(k : Int))) (fun q=>t.Vars.length - q.2.toNat) ⟨0,by omega,by simp⟩ ?_)
        rintro q ⟨k,hk,rfl⟩
        by_cases hlt : k < t.Vars.length
        · have hi : t.Vars[k]? = some t.Vars[k]:=by simp [hlt]
          obtain ⟨j,v,e1,hv,e,hw⟩:=nameAt_ok hs (var_bd h (List.getElem_mem hlt))
          simp only [impl_tableText_l1,lt_ok hi,at_ok hi,cond_true,Option.bind_some]
          rw [e1,at_ok hv,Option.bind_some,goApp_ok (by simp; omega),Option.bind_some,wid (by omega) (by omega)]
          refine tot_some ⟨⟨k + 1,by omega,?_⟩,by simp only; omega⟩
          rw [List.take_add_one,hi,List.map_append]
          simp [e]
        · obtain rfl : k = t.Vars.length:=by omega
          simp only [impl_tableText_l1,lt_end,cond_false]
          exact tot_some (by simp)
      have hjl:=join_len_le (sep:=[44]) (B:=8) (names_len h (l:=t.Vars) fun i hi=>hi)
      simp only [List.length_map,List.length_singleton] at hjl
      rw [hn,Option.bind_some,join_ok (names_len h fun i hi=>hi) (by simp; omega) (by simp; omega),Option.bind_some,cat_ok (by simp; omega),Option.bind_some,cat_ok (by simp; omega)]
      simp only [Option.bind_some]
      unfold vtx
      rw [if_neg h1]
  rw [hV]
  simp only [Option.bind_some]
  have hWl:=h.whr.1
  generalize hA : (htx s t ++ ([32,108,101,118,101,108,32] ++ Go.Lib.decDigits t.Level.toNat)) ++ vtx s t.Vars = A
  have hAl : A.length ≤ 100:=by rw [← hA]; simp; omega
  have key : ∀ (j k : Nat),k + j = s.length→loopC (impl_tableText_l2 s t) (A ++ ctx (cnds s t.Where k),cond (cnds s t.Where k).isEmpty [32,119,104,101,114,101,32] [32],(k : Int)) = some (A ++ ctx (cnds s t.Where s.length)):=by
    intro j
    induction j with
    | zero =>
      intro k hk
      obtain rfl : k = s.length:=by omega
      rw [loopC_eq]
      simp only [impl_tableText_l2]
      rw [decide_eq_false (by simp only [goLen]; omega),cond_false]
    | succ j ih =>
      intro k hk
      have hlt : k < s.length:=by omega
      obtain ⟨v,x,hv,hx,h1,h2,h3,h4,h5⟩:=OkW.at_ hs h.whr hlt
      have hcl:=ctx_len hs h.whr (n:=k) (by omega)
      have hstl:=(stx_len ⟨x.toNat,by omega⟩).1
      have hnl:=h1.2.1
      simp only at hstl
      have hsn : cnds s t.Where (k + 1) = cond (x != 0) (cnds s t.Where k ++ [pse v x]) (cnds s t.Where k):=by
        unfold cnds
        rw [picks,csel_at hv hx,cprt_at hv hx]
      have hnext : impl_tableText_l2 s t (A ++ ctx (cnds s t.Where k),cond (cnds s t.Where k).isEmpty [32,119,104,101,114,101,32] [32],(k : Int)) = some (.next (A ++ ctx (cnds s t.Where (k + 1)),cond (cnds s t.Where (k + 1)).isEmpty [32,119,104,101,114,101,32] [32],((k + 1 : Nat) : Int))):=by
        simp only [impl_tableText_l2,lt_ok hx,at_ok hx,at_ok hv,cond_true,Option.bind_some,nx_ok hx (show t.Where.length ≤ 9223372036854775807 by omega)]
        rw [hsn]
        by_cases h0 : x = 0
        · rw [h0,show ((0 : Int) != 0) = false from rfl]
          rfl
        · rw [show (x != 0) = true by simpa using h0]
          have hw : (cond (cnds s t.Where k).isEmpty [32,119,104,101,114,101,32] [32] : List UInt8).length ≤ 7:=by cases (cnds s t.Where k).isEmpty <;> simp
          generalize hwd : (cond (cnds s t.Where k).isEmpty [32,119,104,101,114,101,32] [32] : List UInt8) = wd at hw
          simp only [cond_true]
          rw [cat_ok (by omega),Option.bind_some,cat_ok (by simp; omega),Option.bind_some,set_ok ⟨h3,h5⟩,Option.bind_some,cat_ok (by simp; omega),Option.bind_some,cat_ok (by simp; omega)]
          simp only [Option.bind_some]
          rw [ctx_snoc,hwd]
          rw [show (cnds s t.Where k ++ [pse v x]).isEmpty = false by cases cnds s t.Where k <;> rfl]
          unfold pse
          simp [List.append_assoc]
      rw [loopC_nx hnext]
      exact ih (k + 1) (by omega)
  have h1:=key s.length 0 (by omega)
  rw [show A ++ ctx (cnds s t.Where 0) = A by unfold cnds ctx; rw [picks]; simp,show (cond (cnds s t.Where 0).isEmpty [32,119,104,101,114,101,32] [32] : List UInt8) = [32,119,104,101,114,101,32] from rfl,show (((0 : Nat) : Int)) = 0 from rfl] at h1
  rw [h1,Option.bind_some,← hA]
  rfl

theorem nTable_ok (h : OkT g s t) : spec_nTable s t = some (ttx s t):=by
  have hs:=h.sch
  have hl:=hs.2.1
  have hlv:=h.lvl
  have hh:=htx_len h
  have hvl:=vtx_len h
  have hd:=read_small ⟨t.Level.toNat,by omega⟩
  simp only at hd
  have hVl:=h.vlen
  unfold spec_nTable
  have h0 : ((cond (decide (0 ≤ t.Sum)) ((goAt s t.Sum).bind fun e_5=>((goCat ([115,117,109,32] : List UInt8) e_5.Name).bind fun t_7=>some t_7)) (some ([99,111,117,110,116] : List UInt8))) : Option ((List UInt8))) = some (htx s t):=by
    unfold htx
    by_cases h1 : 0 ≤ t.Sum
    · obtain ⟨k,v,e1,hv,e,hw⟩:=nameAt_ok hs (i:=t.Sum) ⟨h1,h.sum.2⟩
      have:=hw.2.1
      rw [decide_eq_true h1,cond_true,if_pos h1,e,e1,at_ok hv,Option.bind_some,cat_ok (by simp; omega)]; rfl
    · rw [decide_eq_false h1,cond_false,if_neg h1]
  rw [h0]
  simp only [Option.bind_some]
  have hnum : spec_l1Num t.Level = some (Go.Lib.decDigits t.Level.toNat):=by
    have:=l1Num_ok (u:=t.Level.toNat) (by omega)
    rwa [show ((t.Level.toNat : Nat) : Int) = t.Level by omega] at this
  rw [hnum,Option.bind_some,cat_ok (by simp; omega),Option.bind_some,cat_ok (by simp; omega),Option.bind_some]
  have hV : ((cond (decide (0 < (goLen t.Vars))) ((spec_nNames s t.Vars).bind fun t_12=>((goCat ([32,98,121,32] : List UInt8) t_12).bind fun t_13=>((goCat (htx s t ++ ([32,108,101,118,101,108,32] ++ Go.Lib.decDigits t.Level.toNat)) t_13).bind fun t_14=>some t_14))) (some (htx s t ++ ([32,108,101,118,101,108,32] ++ Go.Lib.decDigits t.Level.toNat)))) : Option ((List UInt8))) = some ((htx s t ++ ([32,108,101,118,101,108,32] ++ Go.Lib.decDigits t.Level.toNat)) ++ vtx s t.Vars):=by
    by_cases h1 : t.Vars = []
    · rw [h1,show decide (0 < goLen ([] : List Int)) = false from rfl,cond_false]
      simp [vtx]
    · have hpos : 0 < t.Vars.length:=List.length_pos_iff.2 h1
      rw [decide_eq_true (by simp only [goLen]; omega),cond_true]
      have hn : spec_nNames s t.Vars = some (Go.Lib.join (t.Vars.map (nameAt s)) [44]):=by
        unfold spec_nNames
        have : loopC (spec_nNames_l1 s t.Vars) (([] : List UInt8),0) = some (Go.Lib.join (t.Vars.map (nameAt s)) [44]):=by
          refine tot_eq (tot_loop (fun q=>∃ k : Nat,k ≤ t.Vars.length∧q = (Go.Lib.join ((t.Vars.take k).map (nameAt s)) [44],(k : Int))) (fun q=>t.Vars.length - q.2.toNat) ⟨0,by omega,by simp [join_nil]⟩ ?_)
          rintro q ⟨k,hk,rfl⟩
          by_cases hlt : k < t.Vars.length
          · have hi : t.Vars[k]? = some t.Vars[k]:=by simp [hlt]
            obtain ⟨j,v,e1,hv,e,hw⟩:=nameAt_ok hs (var_bd h (List.getElem_mem hlt))
            have hnl:=hw.2.1
            have hjl:=join_len_le (sep:=[44]) (B:=8) (names_len h (l:=t.Vars.take k) fun i hi=>List.mem_of_mem_take hi)
            simp only [List.length_map,List.length_take,List.length_singleton] at hjl
            have htk : t.Vars.take (k + 1) = t.Vars.take k ++ [t.Vars[k]]:=by rw [List.take_add_one,hi]; rfl
            simp only [spec_nNames_l1,lt_ok hi,at_ok hi,cond_true,Option.bind_some]
            rw [e1,at_ok hv]
            by_cases hk0 : k = 0
            · subst hk0
              rw [decide_eq_false (by omega),cond_false]
              simp only [Option.bind_some]
              rw [cat_ok (by simp [join_nil]; omega),Option.bind_some,wid (by omega) (by omega)]
              refine tot_some ⟨⟨1,by omega,?_⟩,by simp only; omega⟩
              rw [htk]
              simp [join_nil,Go.Lib.join_one,e]
            · rw [decide_eq_true (by omega),cond_true,cat_ok (by simp only [List.length_append,List.length_singleton]; omega)]
              simp only [Option.bind_some]
              rw [cat_ok (by simp only [List.length_append,List.length_singleton]; omega),Option.bind_some,wid (by omega) (by omega)]
              refine tot_some ⟨⟨k + 1,by omega,?_⟩,by simp only; omega⟩
              rw [htk,List.map_append,List.map_singleton,join_snoc _ _ _ (fun h=>by have:=congrArg List.length h; simp only [List.length_map,List.length_take,List.length_nil] at this; omega),e]
              simp [List.append_assoc]
          · obtain rfl : k = t.Vars.length:=by omega
            simp only [spec_nNames_l1,lt_end,cond_false]
            exact tot_some (by simp)
        rw [this]; rfl
      have hjl:=join_len_le (sep:=[44]) (B:=8) (names_len h (l:=t.Vars) fun i hi=>hi)
      simp only [List.length_map,List.length_singleton] at hjl
      rw [hn,Option.bind_some,cat_ok (by simp; omega),Option.bind_some,cat_ok (by simp; omega)]
      simp only [Option.bind_some]
      unfold vtx
      rw [if_neg h1]
  rw [hV]
  simp only [Option.bind_some]
  have hWl:=h.whr.1
  generalize hA : (htx s t ++ ([32,108,101,118,101,108,32] ++ Go.Lib.decDigits t.Level.toNat)) ++ vtx s t.Vars = A
  have hAl : A.length ≤ 100:=by rw [← hA]; simp; omega
  have key : ∀ (j k : Nat),k + j = s.length→loopC (spec_nTable_l1 s t) (A ++ ctx (cnds s t.Where k),(cnds s t.Where k).isEmpty,(k : Int)) = some (A ++ ctx (cnds s t.Where s.length)):=by
    intro j
    induction j with
    | zero =>
      intro k hk
      obtain rfl : k = s.length:=by omega
      rw [loopC_eq]
      simp only [spec_nTable_l1]
      rw [decide_eq_false (by simp only [goLen]; omega),cond_false]
    | succ j ih =>
      intro k hk
      have hlt : k < s.length:=by omega
      obtain ⟨v,x,hv,hx,h1,h2,h3,h4,h5⟩:=OkW.at_ hs h.whr hlt
      have hcl:=ctx_len hs h.whr (n:=k) (by omega)
      have hll:=(stx_len ⟨x.toNat,by omega⟩).2
      have hnl:=h1.2.1
      simp only at hll
      have hld:=lvs_dig ⟨x.toNat,by omega⟩
      simp only at hld
      have hlvx : spec_eLevels x = some ((lvs x.toNat).map fun (k : Nat)=>(k : Int)):=by
        have:=eLevels_ok (x:=x.toNat) (by omega)
        rwa [show ((x.toNat : Nat) : Int) = x by omega] at this
      have hsn : cnds s t.Where (k + 1) = cond (x != 0) (cnds s t.Where k ++ [pse v x]) (cnds s t.Where k):=by
        unfold cnds
        rw [picks,csel_at hv hx,cprt_at hv hx]
      have hnext : spec_nTable_l1 s t (A ++ ctx (cnds s t.Where k),(cnds s t.Where k).isEmpty,(k : Int)) = some (.next (A ++ ctx (cnds s t.Where (k + 1)),(cnds s t.Where (k + 1)).isEmpty,((k + 1 : Nat) : Int))):=by
        simp only [spec_nTable_l1,lt_ok hx,at_ok hx,at_ok hv,cond_true,Option.bind_some,nx_ok hx (show t.Where.length ≤ 9223372036854775807 by omega)]
        rw [hsn]
        by_cases h0 : x = 0
        · rw [h0,show ((0 : Int) == 0) = true from rfl,show ((0 : Int) != 0) = false from rfl]
          rfl
        · rw [show (x == 0) = false by simpa using h0,show (x != 0) = true by simpa using h0,cond_false,cond_true,ctx_snoc]
          have fin : ∀ (B : List UInt8),B.length ≤ 300→((goCat ([32] : List UInt8) v.Name).bind fun t_26=>((goCat t_26 ([61] : List UInt8)).bind fun t_27=>((goCat B t_27).bind fun t_28=>((spec_eLevels x).bind fun t_29=>((loopC (spec_nTable_l2 t_29) (t_28,0)).bind fun out_40=>(some (out_40,false) : Option (List UInt8 × Bool))))))) = some (B ++ ([32] ++ pse v x),false):=by
            intro B hB
            rw [cat_ok (by simp; omega),Option.bind_some,cat_ok (by simp; omega),Option.bind_some,cat_ok (by simp; omega),Option.bind_some,hlvx,Option.bind_some]
            rw [digits_loop (body:=spec_nTable_l2 ((lvs x.toNat).map fun (k : Nat)=>(k : Int))) rfl hld hll (fun out t=>rfl) (by simp; omega),Option.bind_some]
            unfold pse stx
            simp [List.append_assoc]
          cases hemp : (cnds s t.Where k).isEmpty with
          | true =>
            simp only [cond_true]
            rw [cat_ok (by simp; omega)]
            simp only [Option.bind_some]
            rw [fin _ (by simp; omega)]
            simp [List.append_assoc]
          | false =>
            simp only [cond_false,Option.bind_some]
            rw [fin _ (by simp; omega)]
            simp [List.append_assoc]
      rw [loopC_nx hnext]
      exact ih (k + 1) (by omega)
  have h1:=key s.length 0 (by omega)
  rw [show A ++ ctx (cnds s t.Where 0) = A by unfold cnds ctx; rw [picks]; simp,show (cnds s t.Where 0).isEmpty = true from rfl,show (((0 : Nat) : Int)) = 0 from rfl] at h1
  rw [h1,Option.bind_some,← hA]
  rfl

def wrds (s : List impl_Variable) (t : impl_Table) : List (List UInt8) :=
  (if 0 ≤ t.Sum then [[115,117,109],nameAt s t.Sum] else [[99,111,117,110,116]]) ++ ([[108,101,118,101,108],Go.Lib.decDigits t.Level.toNat] ++
    ((if t.Vars = [] then [] else [[98,121],Go.Lib.join (t.Vars.map (nameAt s)) [44]]) ++ (if cnds s t.Where s.length = [] then [] else [119,104,101,114,101] :: cnds s t.Where s.length)))

theorem join_no {c : UInt8} {sep : List UInt8} (hc : c ∉ sep) : ∀ {l : List (List UInt8)},(∀ x ∈ l,c ∉ x)→c ∉ Go.Lib.join l sep
  | [],_=>by simp [join_nil]
  | [x],h=>by rw [Go.Lib.join_one]; exact h x List.mem_cons_self
  | x :: y :: r,h=>by
    rw [join_cons2]
    intro hm
    rcases List.mem_append.1 hm with hm | hm
    · exact h x List.mem_cons_self hm
    · rcases List.mem_append.1 hm with hm | hm
      · exact hc hm
      · exact join_no hc (fun z hz=>h z (List.mem_cons_of_mem _ hz)) hm

theorem split_ttx (h : OkT g s t) : splitB 32 (ttx s t) = wrds s t:=by
  have hs:=h.sch
  have hlv:=h.lvl
  have hd:=(read_small ⟨t.Level.toNat,by omega⟩).2
  simp only at hd
  have hdn : (32 : UInt8) ∉ Go.Lib.decDigits t.Level.toNat:=fun hc=>by have:=hd _ hc; exact absurd this.1 (by decide)
  obtain ⟨hc1,hc2⟩:=cnds_len hs h.whr (n:=s.length) (Nat.le_refl _)
  have hnm : (32 : UInt8) ∉ Go.Lib.join (t.Vars.map (nameAt s)) [44]:=join_no (by decide) fun x hx=>by
    obtain ⟨i,hi,rfl⟩:=List.mem_map.1 hx
    obtain ⟨k,v,_,_,e,hw⟩:=nameAt_ok hs (var_bd h hi)
    rw [e]; exact name_no hw (by decide)
  have hC : ∀ a : List UInt8,(32 : UInt8) ∉ a→splitB 32 (a ++ ctx (cnds s t.Where s.length)) = a :: (if cnds s t.Where s.length = [] then [] else [119,104,101,114,101] :: cnds s t.Where s.length):=by
    intro a ha
    unfold ctx
    by_cases h0 : cnds s t.Where s.length = []
    · rw [if_pos h0,if_pos h0,List.append_nil,split_no ha]
    · rw [if_neg h0,if_neg h0]
      have e : a ++ ([32,119,104,101,114,101,32] ++ Go.Lib.join (cnds s t.Where s.length) [32]) = a ++ 32 :: ([119,104,101,114,101] ++ 32 :: Go.Lib.join (cnds s t.Where s.length) [32]):=by simp
      rw [e,split_app ha,split_app (by decide),split_join h0 fun x hx=>(hc2 x hx).2.1]
  have hV : ∀ a : List UInt8,(32 : UInt8) ∉ a→splitB 32 (a ++ (vtx s t.Vars ++ ctx (cnds s t.Where s.length))) = a :: ((if t.Vars = [] then [] else [[98,121],Go.Lib.join (t.Vars.map (nameAt s)) [44]]) ++ (if cnds s t.Where s.length = [] then [] else [119,104,101,114,101] :: cnds s t.Where s.length)):=by
    intro a ha
    unfold vtx
    by_cases h0 : t.Vars = []
    · rw [if_pos h0,if_pos h0,List.nil_append,hC a ha]; rfl
    · rw [if_neg h0,if_neg h0]
      have e : a ++ (([32,98,121,32] ++ Go.Lib.join (t.Vars.map (nameAt s)) [44]) ++ ctx (cnds s t.Where s.length)) = a ++ 32 :: ([98,121] ++ 32 :: (Go.Lib.join (t.Vars.map (nameAt s)) [44] ++ ctx (cnds s t.Where s.length))):=by simp [List.append_assoc]
      rw [e,split_app ha,split_app (by decide),hC _ hnm]; rfl
  unfold ttx wrds htx
  by_cases h0 : 0 ≤ t.Sum
  · rw [if_pos h0,if_pos h0]
    obtain ⟨k,v,_,_,e,hw⟩:=nameAt_ok hs (i:=t.Sum) ⟨h0,h.sum.2⟩
    have hn : (32 : UInt8) ∉ nameAt s t.Sum:=by rw [e]; exact name_no hw (by decide)
    have e1 : ((([115,117,109,32] ++ nameAt s t.Sum) ++ ([32,108,101,118,101,108,32] ++ Go.Lib.decDigits t.Level.toNat)) ++ vtx s t.Vars) ++ ctx (cnds s t.Where s.length) = [115,117,109] ++ 32 :: (nameAt s t.Sum ++ 32 :: ([108,101,118,101,108] ++ 32 :: (Go.Lib.decDigits t.Level.toNat ++ (vtx s t.Vars ++ ctx (cnds s t.Where s.length))))):=by simp [List.append_assoc]
    rw [e1,split_app (by decide),split_app hn,split_app (by decide),hV _ hdn]; rfl
  · rw [if_neg h0,if_neg h0]
    have e1 : (([99,111,117,110,116] ++ ([32,108,101,118,101,108,32] ++ Go.Lib.decDigits t.Level.toNat)) ++ vtx s t.Vars) ++ ctx (cnds s t.Where s.length) = [99,111,117,110,116] ++ 32 :: ([108,101,118,101,108] ++ 32 :: (Go.Lib.decDigits t.Level.toNat ++ (vtx s t.Vars ++ ctx (cnds s t.Where s.length)))):=by simp [List.append_assoc]
    rw [e1,split_app (by decide),split_app (by decide),hV _ hdn]; rfl

theorem ttx_len (h : OkT g s t) : (ttx s t).length ≤ 260:=by
  have hh:=htx_len h
  have hvl:=vtx_len h
  have hlv:=h.lvl
  have hd:=(read_small ⟨t.Level.toNat,by omega⟩).1
  have hc:=ctx_len h.sch h.whr (n:=s.length) (Nat.le_refl _)
  simp only at hd
  unfold ttx
  simp; omega

end

end Go.Gx.F
