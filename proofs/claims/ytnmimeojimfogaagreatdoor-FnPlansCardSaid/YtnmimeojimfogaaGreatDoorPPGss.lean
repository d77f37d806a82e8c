/- Plain laws: the other reading of tables. -/
import Derived.Test.YtnmimeojimfogaaGreatDoorPPTpr

namespace Go.Gx.F

open Go.Gx

set_option linter.all false

theorem drop_hd {α : Type} {l r : List α} {k : Nat} {w : α} (h : l.drop k = w :: r) : l[k]? = some w∧l.drop (k + 1) = r:=by
  constructor
  · have:=List.getElem?_drop (xs:=l) (i:=k) (j:=0)
    rw [h] at this
    simpa using this.symm
  · have:=List.drop_drop (l:=l) (i:=1) (j:=k)
    rw [show k + 1 = k + 1 from rfl] at this
    rw [h] at this
    simpa using this.symm

theorem split_ne (c : UInt8) (x : List UInt8) : ∃ a r,splitB c x = a :: r:=by
  cases x with
  | nil=>exact ⟨_,_,rfl⟩
  | cons b x =>
    simp only [splitB]
    cases b == c with
    | true=>exact ⟨_,_,rfl⟩
    | false=>cases splitB c x <;> exact ⟨_,_,rfl⟩

theorem ors_all : ∀ x : Fin 256,(lvs x.1).foldl (fun (a : Int) (d : Nat)=>goBits .or .i64 a ((2 ^ d : Nat) : Int)) 0 = (x.1 : Int):=by decide +kernel

theorem lvs_lt {x d L : Nat} (hx : x < 2 ^ L) (h : d ∈ lvs x) : d < L:=by
  unfold lvs at h
  have h1:=(List.mem_filter.1 h).2
  rcases Nat.lt_or_ge d L with h2 | h2
  · exact h2
  · rw [Nat.testBit_lt_two_pow (Nat.lt_of_lt_of_le hx (Nat.pow_le_pow_right (by omega) h2))] at h1
    cases h1

theorem stx_split {x : Nat} (h : x < 256) (h0 : lvs x ≠ []) : splitB 44 (stx x) = (lvs x).map dgt:=by
  unfold stx
  refine split_join (by simpa using h0) fun p hp=>?_
  obtain ⟨d,hd,rfl⟩:=List.mem_map.1 hp
  have:=lvs_dig ⟨x,h⟩ d hd
  unfold dgt
  intro hm
  have h1:=List.mem_singleton.1 hm
  have h2:=dig_nat (d:=d) (by omega)
  rw [← h1] at h2
  exact absurd h2 (by show ¬ (44 = 48 + d); omega)

theorem lvs_ne : ∀ x : Fin 256,1 ≤ x.1→lvs x.1 ≠ []:=by decide +kernel

section

variable {g : impl_Geo} {s : List impl_Variable} {t : impl_Table}

theorem shl_lv {d : Nat} (h : d ≤ 60) : goShl .i64 1 (IntKind.wrap .u64 (d : Int)) = some ((2 ^ d : Nat) : Int):=by
  rw [Go.IntWalk.u64_in _ ⟨by omega,by omega⟩,shl_eq (by omega) (by omega)]
  rw [Int.toNat_natCast]

theorem nSet_ok (hs : OkS s) {W : List Int} (hW : OkW s W) {n : Nat} {v : impl_Variable} {x : Int} (hv : s[n]? = some v) (hx : W[n]? = some x) (h0 : x ≠ 0) (L S : Int) (V : List Int) :
    spec_nSet s ⟨L,V,wUp W n,S⟩ (pse v x) = some ⟨L,V,wUp W (n + 1),S⟩:=by
  have hn:=(List.getElem?_eq_some_iff.1 hv).1
  obtain ⟨v',x',hv',hx',h1,h2,h3,h4,h5⟩:=OkW.at_ hs hW hn
  obtain rfl : v = v':=by rw [hv] at hv'; exact Option.some.inj hv'
  obtain rfl : x = x':=by rw [hx] at hx'; exact Option.some.inj hx'
  have h6:=hs.2.1
  have hl:=pse_len h1 (x:=x) ⟨h3,h5⟩
  have hst:=stx_no ⟨x.toNat,by omega⟩
  have hsl:=(stx_len ⟨x.toNat,by omega⟩).1
  have hll:=(stx_len ⟨x.toNat,by omega⟩).2
  simp only at hst hsl hll
  have hsp : splitB 61 (pse v x) = [v.Name,stx x.toNat]:=by
    unfold pse
    rw [List.append_assoc,List.singleton_append,split_app (name_no h1 (by decide)),split_no hst.2.1]
  unfold spec_nSet
  rw [l1Split_ok (z:=61) (c:=61) rfl (by omega),Option.bind_some,hsp]
  rw [show goAt [v.Name,stx x.toNat] 0 = some v.Name from rfl,Option.bind_some,sFind_ok hs hv,Option.bind_some]
  rw [show (goLen [v.Name,stx x.toNat] != 2) = false from rfl,cond_false,decide_eq_false (by omega),Option.bind_some,cond_false]
  rw [show goAt [v.Name,stx x.toNat] 1 = some (stx x.toNat) from rfl,Option.bind_some,l1Split_ok (z:=44) (c:=44) rfl (by omega),Option.bind_some]
  rw [stx_split (by omega) (lvs_ne ⟨x.toNat,by omega⟩ (by simp only; omega))]
  have hpow : x.toNat < 2 ^ v.Levels.toNat:=by
    unfold full at h4
    have:=Nat.one_le_two_pow (n:=v.Levels.toNat)
    omega
  have hZl:=wUp_len W n
  have hWl:=hW.1
  have key : ∀ (j i : Nat) (a : Int),i + j = (lvs x.toNat).length→loopC (spec_nSet_l1 s (n : Int) ((lvs x.toNat).map dgt)) ((i : Int),⟨L,V,(wUp W n).set n a,S⟩) = some ⟨L,V,(wUp W n).set n (((lvs x.toNat).drop i).foldl (fun (a : Int) (d : Nat)=>goBits .or .i64 a ((2 ^ d : Nat) : Int)) a),S⟩:=by
    intro j
    induction j with
    | zero =>
      intro i a hi
      rw [loopC_eq]
      simp only [spec_nSet_l1]
      rw [decide_eq_false (by simp only [goLen,List.length_map]; omega),cond_false,List.drop_eq_nil_of_le (by omega)]
      rfl
    | succ j ih =>
      intro i a hi
      have hlt : i < (lvs x.toNat).length:=by omega
      have hd : (lvs x.toNat)[i]? = some (lvs x.toNat)[i]:=by simp [hlt]
      have hdm:=List.getElem_mem hlt
      rw [List.drop_eq_getElem_cons hlt]
      generalize (lvs x.toNat)[i] = d at hd hdm ⊢
      have hd8:=lvs_dig ⟨x.toNat,by omega⟩ d hdm
      have hdL:=lvs_lt hpow hdm
      have hm : ((lvs x.toNat).map dgt)[i]? = some (Go.Lib.decDigits d):=by rw [List.getElem?_map,hd,num_small (by omega)]; rfl
      have hga : goAt ((wUp W n).set n a) (n : Int) = some a:=at_ok (List.getElem?_set_self (by omega))
      have step : spec_nSet_l1 s (n : Int) ((lvs x.toNat).map dgt) ((i : Int),⟨L,V,(wUp W n).set n a,S⟩) = some (.next (((i + 1 : Nat) : Int),⟨L,V,(wUp W n).set n (goBits .or .i64 a ((2 ^ d : Nat) : Int)),S⟩)):=by
        simp only [spec_nSet_l1,lt_ok hm,at_ok hm,cond_true,Option.bind_some]
        rw [l1Read_ok (by omega),Option.bind_some,at_ok hv,Option.bind_some,lIn_eq,wid (n:=v.Levels - 1) (by omega) (by omega),Option.bind_some,decide_eq_true (by omega),cond_true,hga,Option.bind_some,shl_lv (by omega),Option.bind_some]
        simp only [Option.bind_some]
        rw [wid (by omega) (by omega)]
        simp only [goSet,Int.toNat_natCast,List.set_set]
        rfl
      rw [loopC_nx step,ih (i + 1) _ (by omega)]
      rfl
  have h00 : (wUp W n).set n 0 = wUp W n:=by
    apply List.ext_getElem?
    intro k
    by_cases hk : k = n
    · subst hk
      rw [List.getElem?_set_self (by omega),wUp_at hx,if_neg (by omega)]
    · rw [List.getElem?_set_ne (Ne.symm hk)]
  have k0:=key (lvs x.toNat).length 0 0 (by omega)
  rw [h00,List.drop_zero,ors_all ⟨x.toNat,by omega⟩,show (((0 : Nat) : Int)) = 0 from rfl] at k0
  simp only [show ((x.toNat : Nat) : Int) = x by omega] at k0
  rw [k0,Option.bind_some]
  have:=wUp_set hx
  unfold goSet at this
  rw [Int.toNat_natCast] at this
  rw [this]

theorem nSet_tot (hs : OkS s) {T : impl_Table} {w : List UInt8} (hw : w.length ≤ 200000) (hT : T.Where.length = s.length) : ∃ U,spec_nSet s T w = some U∧U.Vars = T.Vars∧U.Where.length = s.length:=by
  have h6:=hs.2.1
  unfold spec_nSet
  rw [l1Split_ok (z:=61) (c:=61) rfl (by omega),Option.bind_some]
  obtain ⟨h1,h2⟩:=split_bd 61 w
  obtain ⟨a,r,har⟩:=split_ne 61 w
  rw [har] at h1 h2 ⊢
  rw [show goAt (a :: r) 0 = some a from rfl,Option.bind_some]
  obtain ⟨k,ek,k1,k2⟩:=sFind_bd (s:=s) (n:=a) (by omega)
  rw [ek,Option.bind_some]
  by_cases h3 : (r.length = 1∧0 ≤ k)
  · obtain ⟨b,rfl⟩:=List.length_eq_one_iff.1 h3.1
    rw [show (goLen [a,b] != 2) = false from rfl,cond_false,decide_eq_false (by omega),Option.bind_some,cond_false,show goAt [a,b] 1 = some b from rfl,Option.bind_some]
    have hb:=(h2 b (by simp)).1
    rw [l1Split_ok (z:=44) (c:=44) rfl (by omega),Option.bind_some]
    have hb2:=(split_bd 44 b).1
    obtain ⟨n,rfl⟩:=Int.eq_ofNat_of_zero_le h3.2
    have hv : s[n]? = some (s[n]'(by omega)):=by simp [show n < s.length by omega]
    have h8:=(hs.2.2 n _ hv).1.2
    refine tot_bind (Q:=fun U=>U.Vars = T.Vars∧U.Where.length = s.length) (tot_loop (fun q=>∃ i : Nat,q.1 = (i : Int)∧i ≤ (splitB 44 b).length∧q.2.Vars = T.Vars∧q.2.Where.length = s.length) (fun q=>(splitB 44 b).length - q.1.toNat) ⟨0,rfl,by omega,rfl,hT⟩ ?_) fun U hU=>tot_some hU
    rintro ⟨_,U⟩ ⟨i,rfl,hi,hU1,hU2⟩
    simp only at hU1 hU2
    simp only [spec_nSet_l1]
    refine tot_cond (fun hc=>?_) fun hc=>tot_some ⟨hU1,hU2⟩
    have hc' : (i : Int) < (splitB 44 b).length:=by simpa [goLen] using hc
    have hp : (splitB 44 b)[i]? = some ((splitB 44 b)[i]'(by omega)):=by simp [show i < (splitB 44 b).length by omega]
    rw [at_ok hp,Option.bind_some]
    obtain ⟨m,em,m1,m2⟩:=l1Read_bd (x:=(splitB 44 b)[i]'(by omega))
    rw [em,Option.bind_some]
    rw [at_ok hv,Option.bind_some,lIn_eq,Option.bind_some,wid (n:=(s[n]'(by omega)).Levels - 1) (by omega) (by omega)]
    refine tot_bind (Q:=fun Z=>Z.Vars = T.Vars∧Z.Where.length = s.length) (tot_cond (fun hin=>?_) fun _=>tot_some ⟨hU1,hU2⟩) fun Z hZ=>tot_some ⟨⟨i + 1,by simp only; rw [wid (by omega) (by omega)]; omega,by omega,hZ⟩,by simp only; rw [wid (by omega) (by omega)]; omega⟩
    have hin' : 0 ≤ m∧m ≤ (s[n]'(by omega)).Levels - 1:=by simpa using hin
    obtain ⟨d,rfl⟩:=Int.eq_ofNat_of_zero_le hin'.1
    have hy : U.Where[n]? = some (U.Where[n]'(by omega)):=by simp [show n < U.Where.length by omega]
    rw [at_ok hy,Option.bind_some,shl_lv (by omega),Option.bind_some,Option.bind_some]
    exact tot_some ⟨hU1,by simp only [goSet,List.length_set]; exact hU2⟩
  · have hz : ((cond (goLen (a :: r) != 2) (some true) (some (decide (k < 0)))) : Option Bool) = some true:=by
      by_cases h4 : r.length = 1
      · rw [decide_eq_true (by omega)]; cases (goLen (a :: r) != 2) <;> rfl
      · rw [show (goLen (a :: r) != 2) = true by rw [bne_iff_ne]; simp only [goLen,List.length_cons]; omega]; rfl
    rw [hz,Option.bind_some,cond_true]
    exact ⟨T,rfl,rfl,hT⟩

variable {W : List (List UInt8)} {k : Nat} {w w2 : List UInt8} {r : List (List UInt8)} {T U : impl_Table}

theorem at_drop (h : W.drop k = w :: r) : goAt W (k : Int) = some w:=at_ok (drop_hd h).1

theorem lt_drop (h : W.drop k = w :: r) : decide ((k : Int) < goLen W) = true:=lt_ok (drop_hd h).1

theorem len_drop (h : W.drop k = w :: r) : W.length = k + 1 + r.length:=by
  have:=congrArg List.length h
  simp only [List.length_drop,List.length_cons] at this
  omega

theorem last_drop (h : W.drop k = w :: w2 :: r) (hl : W.length ≤ 1000000) : (!((k : Int) == w64 (goLen W - 1))) = true:=by
  have:=len_drop h
  simp only [List.length_cons] at this
  rw [wid (by simp only [goLen]; omega) (by simp only [goLen]; omega)]
  simp only [goLen,Bool.not_eq_true',beq_eq_false_iff_ne]; omega

theorem last_drop' (h : W.drop k = [w]) (hl : W.length ≤ 1000000) : (!((k : Int) == w64 (goLen W - 1))) = false:=by
  have:=len_drop h
  simp only [List.length_nil] at this
  rw [wid (by simp only [goLen]; omega) (by simp only [goLen]; omega)]
  simp only [goLen,Bool.not_eq_false',beq_iff_eq]; omega

theorem g_end (hk : W.length ≤ k) (c : Bool) : loopC (spec_nGuess_l1 s W) (c,(k : Int),T) = some T:=by
  rw [loopC_eq]
  simp only [spec_nGuess_l1]
  rw [decide_eq_false (by simp only [goLen]; omega),cond_false]

theorem g_cond (h : W.drop k = w :: r) (hl : W.length ≤ 1000000) (hn : spec_nSet s T w = some U) : spec_nGuess_l1 s W (true,(k : Int),T) = some (.next (true,((k + 1 : Nat) : Int),U)):=by
  have:=len_drop h
  simp only [spec_nGuess_l1]
  rw [lt_drop h]
  simp only [cond_true]
  rw [at_drop h,Option.bind_some,hn]
  simp only [Option.bind_some]
  rw [wid (by omega) (by omega)]
  rfl

theorem g_where (h : W.drop k = [119,104,101,114,101] :: r) (hl : W.length ≤ 1000000) : spec_nGuess_l1 s W (false,(k : Int),T) = some (.next (true,((k + 1 : Nat) : Int),T)):=by
  have:=len_drop h
  simp only [spec_nGuess_l1]
  rw [lt_drop h]
  simp only [cond_true,cond_false]
  rw [at_drop h]
  simp only [Option.bind_some,beq_self_eq_true,cond_true]
  rw [wid (by omega) (by omega)]
  rfl

theorem g_sum {i : Int} (h : W.drop k = [115,117,109] :: w2 :: r) (hl : W.length ≤ 1000000) (hf : spec_sFind s w2 = some i) : spec_nGuess_l1 s W (false,(k : Int),T) = some (.next (false,((k + 2 : Nat) : Int),⟨T.Level,T.Vars,T.Where,i⟩)):=by
  have:=len_drop h
  simp only [List.length_cons] at this
  have h2:=(drop_hd h).2
  simp only [spec_nGuess_l1]
  rw [lt_drop h]
  simp only [cond_true,cond_false]
  rw [at_drop h]
  simp only [Option.bind_some]
  rw [show (([115,117,109] : List UInt8) == [119,104,101,114,101]) = false from rfl,cond_false]
  simp only [beq_self_eq_true,cond_true,last_drop h hl,Option.bind_some]
  rw [wid (n:=(k : Int) + 1) (by omega) (by omega),show (k : Int) + 1 = ((k + 1 : Nat) : Int) from rfl,at_drop h2,Option.bind_some,hf]
  simp only [Option.bind_some]
  rw [wid (by omega) (by omega)]
  congr 3

theorem g_level {i : Int} (h : W.drop k = [108,101,118,101,108] :: w2 :: r) (hl : W.length ≤ 1000000) (hf : spec_l1Read w2 = some i) : spec_nGuess_l1 s W (false,(k : Int),T) = some (.next (false,((k + 2 : Nat) : Int),⟨i,T.Vars,T.Where,T.Sum⟩)):=by
  have:=len_drop h
  simp only [List.length_cons] at this
  have h2:=(drop_hd h).2
  simp only [spec_nGuess_l1]
  rw [lt_drop h]
  simp only [cond_true,cond_false]
  rw [at_drop h]
  simp only [Option.bind_some]
  rw [show (([108,101,118,101,108] : List UInt8) == [119,104,101,114,101]) = false from rfl,cond_false,show (([108,101,118,101,108] : List UInt8) == [115,117,109]) = false from rfl,cond_false]
  simp only [beq_self_eq_true,cond_true,cond_false,last_drop h hl,Option.bind_some]
  rw [wid (n:=(k : Int) + 1) (by omega) (by omega),show (k : Int) + 1 = ((k + 1 : Nat) : Int) from rfl,at_drop h2,Option.bind_some,hf]
  simp only [Option.bind_some]
  rw [wid (by omega) (by omega)]
  congr 3

theorem g_by (h : W.drop k = [98,121] :: w2 :: r) (hl : W.length ≤ 1000000) (h2l : w2.length ≤ 1000000) (hf : loopC (spec_nGuess_l2 s (splitB 44 w2)) (0,T) = some U) : spec_nGuess_l1 s W (false,(k : Int),T) = some (.next (false,((k + 2 : Nat) : Int),U)):=by
  have:=len_drop h
  simp only [List.length_cons] at this
  have h2:=(drop_hd h).2
  simp only [spec_nGuess_l1]
  rw [lt_drop h]
  simp only [cond_true,cond_false]
  rw [at_drop h]
  simp only [Option.bind_some]
  rw [show (([98,121] : List UInt8) == [119,104,101,114,101]) = false from rfl,cond_false,show (([98,121] : List UInt8) == [115,117,109]) = false from rfl,cond_false,show (([98,121] : List UInt8) == [108,101,118,101,108]) = false from rfl,cond_false]
  simp only [beq_self_eq_true,cond_true,cond_false,last_drop h hl,Option.bind_some]
  rw [wid (n:=(k : Int) + 1) (by omega) (by omega),show (k : Int) + 1 = ((k + 1 : Nat) : Int) from rfl,at_drop h2,Option.bind_some,l1Split_ok (z:=44) (c:=44) rfl h2l,Option.bind_some,hf]
  simp only [Option.bind_some]
  rw [wid (by omega) (by omega)]
  congr 3

theorem g_skip (h : W.drop k = w :: r) (hl : W.length ≤ 1000000) (h0 : w ≠ [119,104,101,114,101]) (hs : r = [] ∨ (w ≠ [115,117,109]∧w ≠ [108,101,118,101,108]∧w ≠ [98,121])) : spec_nGuess_l1 s W (false,(k : Int),T) = some (.next (false,((k + 1 : Nat) : Int),T)):=by
  have:=len_drop h
  simp only [spec_nGuess_l1]
  rw [lt_drop h]
  simp only [cond_true,cond_false]
  rw [at_drop h]
  simp only [Option.bind_some]
  rw [show (w == [119,104,101,114,101]) = false from beq_eq_false_iff_ne.2 h0,cond_false]
  have e : ∀ u : List UInt8,(r = [] ∨ w ≠ u)→((cond (w == u) (some (!((k : Int) == w64 (goLen W - 1)))) (some false)) : Option Bool) = some false:=by
    intro u hu
    rcases hu with rfl | hu
    · rw [last_drop' h hl]; cases w == u <;> rfl
    · rw [show (w == u) = false from beq_eq_false_iff_ne.2 hu]; rfl
  rw [e _ (hs.imp_right fun h=>h.1),Option.bind_some,cond_false,e _ (hs.imp_right fun h=>h.2.1),Option.bind_some,cond_false,e _ (hs.imp_right fun h=>h.2.2),Option.bind_some,cond_false]
  simp only [Option.bind_some]
  rw [wid (by omega) (by omega)]
  rfl

theorem gvars_tot (hs : OkS s) {L : List (List UInt8)} (hL : L.length ≤ 200001) (hT : T.Vars.length ≤ 700000) : ∃ U,loopC (spec_nGuess_l2 s L) (0,T) = some U∧U.Vars.length ≤ T.Vars.length + L.length∧U.Where = T.Where:=by
  have h6:=hs.2.1
  refine tot_loop (fun q=>∃ i : Nat,q.1 = (i : Int)∧i ≤ L.length∧q.2.Vars.length = T.Vars.length + i∧q.2.Where = T.Where) (fun q=>L.length - q.1.toNat) ⟨0,rfl,by omega,rfl,rfl⟩ ?_
  rintro ⟨_,U⟩ ⟨i,rfl,hi,hU1,hU2⟩
  simp only at hU1 hU2
  simp only [spec_nGuess_l2]
  refine tot_cond (fun hc=>?_) fun hc=>tot_some ⟨by omega,hU2⟩
  have hc' : (i : Int) < L.length:=by simpa [goLen] using hc
  have hp : L[i]? = some (L[i]'(by omega)):=by simp [show i < L.length by omega]
  obtain ⟨k,ek,k1,k2⟩:=sFind_bd (s:=s) (n:=L[i]'(by omega)) (by omega)
  rw [at_ok hp,Option.bind_some,ek,Option.bind_some,goApp_ok (by simp; omega),Option.bind_some]
  exact tot_some ⟨⟨i + 1,by simp only; rw [wid (by omega) (by omega)]; omega,by omega,by simp; omega,hU2⟩,by simp only; rw [wid (by omega) (by omega)]; omega⟩

def tw (W : List (List UInt8)) : Nat:=(W.map fun w=>w.length + 1).sum

theorem split_sum (c : UInt8) : ∀ (x : List UInt8),tw (splitB c x) = x.length + 1
  | []=>rfl
  | b :: x=>by
    have ih:=split_sum c x
    obtain ⟨a,r,har⟩:=split_ne c x
    unfold tw at ih ⊢
    simp only [splitB]
    rw [har] at ih ⊢
    simp only [List.map_cons,List.sum_cons] at ih
    cases b == c with
    | true=>simp only [cond_true,if_true,List.map_cons,List.sum_cons,List.length_nil,List.length_cons]; omega
    | false=>simp only [cond_false,Bool.false_eq_true,if_false,List.map_cons,List.sum_cons,List.length_cons]; omega

theorem tw_drop (h : W.drop k = w :: r) : tw (W.drop k) = w.length + 1 + tw (W.drop (k + 1)):=by
  rw [(drop_hd h).2,h]
  simp [tw]

theorem nGuess_tot {x : List UInt8} (hs : OkS s) (hx : x.length ≤ 100000) : ∃ T,spec_nGuess s x = some T∧T.Vars.length ≤ 1000000∧T.Where.length = s.length:=by
  have h6:=hs.2.1
  unfold spec_nGuess
  rw [show goLen s = ((s.length : Nat) : Int) from rfl,goMake_ok (by omega) (by omega),Option.bind_some,l1Split_ok (z:=32) (c:=32) rfl (by omega),Option.bind_some]
  obtain ⟨h1,h2⟩:=split_bd 32 x
  have h3:=split_sum 32 x
  generalize splitB 32 x = W at h1 h2 h3
  refine tot_bind (Q:=fun T=>T.Vars.length ≤ 1000000∧T.Where.length = s.length) (tot_loop (fun q=>∃ k : Nat,q.2.1 = (k : Int)∧k ≤ W.length∧q.2.2.Vars.length + tw (W.drop k) ≤ x.length + 1∧q.2.2.Where.length = s.length) (fun q=>W.length - q.2.1.toNat) ⟨0,rfl,by omega,by simp only [List.drop_zero,List.length_nil]; omega,by simp⟩ ?_) fun T hT=>tot_some hT
  rintro ⟨c,_,T⟩ ⟨k,rfl,hk,hV,hW⟩
  simp only at hV hW
  have fin : ∀ {k' : Nat} {U : impl_Table},k < k'→k' ≤ W.length→U.Vars.length + tw (W.drop k') ≤ x.length + 1→U.Where.length = s.length→(∃ j : Nat,((k' : Nat) : Int) = (j : Int)∧j ≤ W.length∧U.Vars.length + tw (W.drop j) ≤ x.length + 1∧U.Where.length = s.length)∧W.length - ((k' : Nat) : Int).toNat < W.length - ((k : Nat) : Int).toNat:=by
    intro k' U h1 h2 h3 h4
    exact ⟨⟨k',rfl,h2,h3,h4⟩,by omega⟩
  by_cases hlt : k < W.length
  · have hd : W.drop k = W[k] :: W.drop (k + 1):=List.drop_eq_getElem_cons hlt
    have hwl:=(h2 W[k] (List.getElem_mem hlt)).1
    have htw:=tw_drop hd
    generalize W[k] = w at hd hwl htw
    cases c with
    | true =>
      obtain ⟨U,eU,u1,u2⟩:=nSet_tot hs (T:=T) (w:=w) (by omega) hW
      exact ⟨_,g_cond hd (by omega) eU,fin (by omega) (by omega) (by rw [u1]; omega) u2⟩
    | false =>
      by_cases hw : w = [119,104,101,114,101]
      · subst hw
        exact ⟨_,g_where hd (by omega),fin (U:=T) (by omega) (by omega) (by omega) hW⟩
      · cases hr : W.drop (k + 1) with
        | nil=>rw [hr] at hd; exact ⟨_,g_skip hd (by omega) hw (.inl rfl),fin (U:=T) (by omega) (by omega) (by omega) hW⟩
        | cons w2 r =>
          rw [hr] at hd
          have hln:=len_drop hd
          have htw2:=tw_drop hr
          rw [show k + 1 + 1 = k + 2 from rfl] at htw2
          simp only [List.length_cons] at hln
          have hw2 : w2 ∈ W:=List.mem_of_mem_drop (i:=k + 1) (by rw [hr]; exact List.mem_cons_self)
          have hw2l:=(h2 w2 hw2).1
          by_cases e1 : w = [115,117,109]
          · subst e1
            obtain ⟨i,ei,_,_⟩:=sFind_bd (s:=s) (n:=w2) (by omega)
            exact ⟨_,g_sum hd (by omega) ei,fin (by omega) (by omega) (by simp only; omega) hW⟩
          · by_cases e2 : w = [108,101,118,101,108]
            · subst e2
              obtain ⟨i,ei,_,_⟩:=l1Read_bd (x:=w2)
              exact ⟨_,g_level hd (by omega) ei,fin (by omega) (by omega) (by simp only; omega) hW⟩
            · by_cases e3 : w = [98,121]
              · subst e3
                have h44:=(split_bd 44 w2).1
                obtain ⟨U,eU,u1,u2⟩:=gvars_tot hs (T:=T) (L:=splitB 44 w2) (by omega) (by omega)
                exact ⟨_,g_by hd (by omega) (by omega) eU,fin (U:=U) (by omega) (by omega) (by omega) (by rw [u2]; exact hW)⟩
              · exact ⟨_,g_skip hd (by omega) hw (.inr ⟨e1,e2,e3⟩),fin (U:=T) (by omega) (by omega) (by omega) hW⟩
  · obtain rfl : k = W.length:=by omega
    simp only [spec_nGuess_l1]
    rw [decide_eq_false (by simp only [goLen]; omega),cond_false]
    exact tot_some ⟨by omega,hW⟩

theorem gvars_ok (h : OkT g s t) (hV : t.Vars ≠ []) (L S : Int) (Z : List Int) : loopC (spec_nGuess_l2 s (splitB 44 (Go.Lib.join (t.Vars.map (nameAt s)) [44]))) (0,⟨L,[],Z,S⟩) = some ⟨L,t.Vars,Z,S⟩:=by
  have hs:=h.sch
  have hVl:=h.vlen
  rw [split_join (by simpa using hV) (fun x hx=>by
    obtain ⟨i,hi,rfl⟩:=List.mem_map.1 hx
    obtain ⟨k,v,_,_,e,hw⟩:=nameAt_ok hs (var_bd h hi)
    rw [e]; exact name_no hw (by decide))]
  refine tot_eq (tot_loop (fun q=>∃ k : Nat,k ≤ t.Vars.length∧q = ((k : Int),⟨L,t.Vars.take k,Z,S⟩)) (fun q=>t.Vars.length - q.1.toNat) ⟨0,by omega,by simp⟩ ?_)
  rintro q ⟨k,hk,rfl⟩
  by_cases hlt : k < t.Vars.length
  · have hi : t.Vars[k]? = some t.Vars[k]:=by simp [hlt]
    obtain ⟨j,v,e1,hv,e,hw⟩:=nameAt_ok hs (var_bd h (List.getElem_mem hlt))
    have hm : (t.Vars.map (nameAt s))[k]? = some v.Name:=by rw [List.getElem?_map,hi,← e]; rfl
    simp only [spec_nGuess_l2,lt_ok hm,at_ok hm,cond_true,Option.bind_some]
    rw [sFind_ok hs hv,Option.bind_some,goApp_ok (by simp; omega),Option.bind_some,wid (by omega) (by omega)]
    refine tot_some ⟨⟨k + 1,by omega,?_⟩,by simp only; omega⟩
    rw [List.take_add_one,hi,e1]
    rfl
  · obtain rfl : k = t.Vars.length:=by omega
    simp only [spec_nGuess_l2]
    rw [decide_eq_false (by simp only [goLen,List.length_map]; omega),cond_false]
    exact tot_some (by simp)

theorem gconds_ok (h : OkT g s t) (hl : W.length ≤ 1000000) (L S : Int) (V : List Int) : ∀ (j n k : Nat),n + j = s.length→W.drop k = (cnds s t.Where s.length).drop (cnds s t.Where n).length→loopC (spec_nGuess_l1 s W) (true,(k : Int),⟨L,V,wUp t.Where n,S⟩) = some ⟨L,V,t.Where,S⟩:=by
  have hs:=h.sch
  have hW:=h.whr
  have hWl:=hW.1
  intro j
  induction j with
  | zero =>
    intro n k hn hd
    obtain rfl : n = s.length:=by omega
    rw [List.drop_eq_nil_of_le (Nat.le_refl _)] at hd
    rw [g_end (by simpa using hd)]
    rw [← hWl,wUp_end]
  | succ j ih =>
    intro n k hn hd
    have hlt : n < s.length:=by omega
    obtain ⟨v,x,hv,hx,h1,h2,h3,h4,h5⟩:=OkW.at_ hs hW hlt
    have hsel:=csel_at hv hx
    by_cases h0 : x = 0
    · rw [← cnds_stay (n:=n) (by rw [hsel,h0]; rfl)] at hd
      have:=ih (n + 1) k (by omega) hd
      rw [wUp_same (by rw [hx,h0])] at this
      exact this
    · rw [cnds_drop hlt (by rw [hsel]; simpa using h0),cprt_at hv hx] at hd
      rw [loopC_nx (g_cond hd hl (nSet_ok hs hW hv hx h0 L S V))]
      exact ih (n + 1) (k + 1) (by omega) (drop_hd hd).2

theorem guess_back (h : OkT g s t) : spec_nGuess s (ttx s t) = some t:=by
  have hs:=h.sch
  have h6:=hs.2.1
  have hlv:=h.lvl
  have hlen:=ttx_len h
  have hWl:=h.whr.1
  obtain ⟨hc1,hc2⟩:=cnds_len hs h.whr (n:=s.length) (Nat.le_refl _)
  unfold spec_nGuess
  rw [show goLen s = ((s.length : Nat) : Int) from rfl,goMake_ok (by omega) (by omega),Option.bind_some,l1Split_ok (z:=32) (c:=32) rfl (by omega),Option.bind_some,split_ttx h]
  have hwl : (wrds s t).length ≤ 1000000:=by
    have:=(split_bd 32 (ttx s t)).1
    rw [split_ttx h] at this
    omega
  generalize hW0 : wrds s t = W at hwl
  have hjl:=join_len_le (sep:=[44]) (B:=8) (names_len h (l:=t.Vars) fun i hi=>hi)
  have hVl:=h.vlen
  simp only [List.length_map,List.length_singleton] at hjl
  have hC : ∀ (k : Nat) (L S : Int) (V : List Int),W.drop k = (if cnds s t.Where s.length = [] then [] else [119,104,101,114,101] :: cnds s t.Where s.length)→loopC (spec_nGuess_l1 s W) (false,(k : Int),⟨L,V,wUp t.Where 0,S⟩) = some ⟨L,V,t.Where,S⟩:=by
    intro k L S V hd
    by_cases h1 : cnds s t.Where s.length = []
    · rw [if_pos h1] at hd
      rw [g_end (by simpa using hd)]
      have h2:=gconds_ok (W:=[]) h (by simp) L S V s.length 0 0 (by omega) (by rw [h1]; rfl)
      rw [g_end (by simp)] at h2
      exact h2
    · rw [if_neg h1] at hd
      rw [loopC_nx (g_where hd hwl)]
      exact gconds_ok h hwl L S V s.length 0 (k + 1) (by omega) (by rw [(drop_hd hd).2]; rfl)
  have hB : ∀ (k : Nat) (L S : Int),W.drop k = (if t.Vars = [] then [] else [[98,121],Go.Lib.join (t.Vars.map (nameAt s)) [44]]) ++ (if cnds s t.Where s.length = [] then [] else [119,104,101,114,101] :: cnds s t.Where s.length)→loopC (spec_nGuess_l1 s W) (false,(k : Int),⟨L,[],wUp t.Where 0,S⟩) = some ⟨L,t.Vars,t.Where,S⟩:=by
    intro k L S hd
    by_cases h1 : t.Vars = []
    · rw [if_pos h1,List.nil_append] at hd
      rw [hC k L S [] hd,h1]
    · rw [if_neg h1] at hd
      simp only [List.cons_append,List.nil_append] at hd
      rw [loopC_nx (g_by hd hwl (by omega) (gvars_ok h h1 L S _))]
      exact hC (k + 2) L S _ (drop_hd (drop_hd hd).2).2
  have hL : ∀ (k : Nat) (S : Int),W.drop k = [[108,101,118,101,108],Go.Lib.decDigits t.Level.toNat] ++ ((if t.Vars = [] then [] else [[98,121],Go.Lib.join (t.Vars.map (nameAt s)) [44]]) ++ (if cnds s t.Where s.length = [] then [] else [119,104,101,114,101] :: cnds s t.Where s.length))→loopC (spec_nGuess_l1 s W) (false,(k : Int),⟨0,[],wUp t.Where 0,S⟩) = some ⟨t.Level,t.Vars,t.Where,S⟩:=by
    intro k S hd
    simp only [List.cons_append,List.nil_append] at hd
    have hr:=l1Read_ok (u:=t.Level.toNat) (by omega)
    rw [show ((t.Level.toNat : Nat) : Int) = t.Level by omega] at hr
    rw [loopC_nx (g_level hd hwl hr)]
    exact hB (k + 2) _ S (drop_hd (drop_hd hd).2).2
  have hz : (List.replicate s.length 0 : List Int) = wUp t.Where 0:=by rw [wUp_zero,hWl]
  have fin : loopC (spec_nGuess_l1 s W) (false,((0 : Nat) : Int),⟨0,[],wUp t.Where 0,-1⟩) = some t:=by
    unfold wrds at hW0
    by_cases h0 : 0 ≤ t.Sum
    · rw [if_pos h0] at hW0
      obtain ⟨k,v,e1,hv,e,hwd⟩:=nameAt_ok hs (i:=t.Sum) ⟨h0,h.sum.2⟩
      have hd : W.drop 0 = [115,117,109] :: nameAt s t.Sum :: ([[108,101,118,101,108],Go.Lib.decDigits t.Level.toNat] ++ ((if t.Vars = [] then [] else [[98,121],Go.Lib.join (t.Vars.map (nameAt s)) [44]]) ++ (if cnds s t.Where s.length = [] then [] else [119,104,101,114,101] :: cnds s t.Where s.length))):=by rw [← hW0]; rfl
      rw [loopC_nx (g_sum hd hwl (by rw [e]; exact sFind_ok hs hv))]
      rw [hL 2 _ (drop_hd (drop_hd hd).2).2,← e1]
    · rw [if_neg h0] at hW0
      have hS : t.Sum = -1:=by have:=h.sum; omega
      have hd : W.drop 0 = [99,111,117,110,116] :: ([[108,101,118,101,108],Go.Lib.decDigits t.Level.toNat] ++ ((if t.Vars = [] then [] else [[98,121],Go.Lib.join (t.Vars.map (nameAt s)) [44]]) ++ (if cnds s t.Where s.length = [] then [] else [119,104,101,114,101] :: cnds s t.Where s.length))):=by rw [← hW0]; rfl
      rw [loopC_nx (g_skip hd hwl (by decide) (.inr ⟨by decide,by decide,by decide⟩))]
      rw [hL 1 _ (drop_hd hd).2,← hS]
  rw [show (((0 : Nat) : Int)) = 0 from rfl] at fin
  rw [hz,fin,Option.bind_some]

end

end Go.Gx.F
