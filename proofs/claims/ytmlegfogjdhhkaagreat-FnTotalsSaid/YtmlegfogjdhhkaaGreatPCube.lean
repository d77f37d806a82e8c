/- Plain laws: valid cubes. -/
import Derived.Test.YtmlegfogjdhhkaaGreatPLst
import Derived.Test.YtmlegfogjdhhkaaGreatPDig

namespace Go.Gx.F

open Go.Gx

set_option linter.all false

def VC (S : List Nat) : Prop:=VS S∧cnt S ≤ 2000

theorem up_toNat {l : List Int} (h : ∀ v ∈ l,0 ≤ v) : up (l.map Int.toNat) = l:=by
 unfold up
 rw [List.map_map]
 conv=>rhs; rw [← List.map_id l]
 refine List.map_congr_left fun v hv=>?_
 have:=h v hv
 simp only [Function.comp,id]
 omega

theorem cells_loop_impl {S : List Nat} (h : VS S) : loopC (impl_cubeCells_l1 (up S)) (1,0) = some (.inl ((cnt S : Nat) : Int)):=by
 have hl:=h.l
 have key : ∀ (j k acc : Nat),k + j = S.length→acc * cnt (S.drop k) ≤ 1000000→loopC (impl_cubeCells_l1 (up S)) ((acc : Int),(k : Int)) = some (.inl ((acc * cnt (S.drop k) : Nat) : Int)):=by
  intro j
  induction j with
  | zero =>
   intro k acc hk _
   rw [loopC_eq]
   simp only [impl_cubeCells_l1,up_end (show S.length = k by omega),cond_false]
   rw [List.drop_of_length_le (show S.length ≤ k by omega)]
   simp [cnt]
  | succ j ih =>
   intro k acc hk hb
   have hs : S[k]? = some (S[k]'(by omega)):=by simp [show k < S.length by omega]
   generalize S[k]'(by omega) = s at hs
   obtain ⟨b1,b2⟩:=h.get hs
   rw [cnt_drop hs,← Nat.mul_assoc] at hb
   have hp:=cnt_pos (S.drop (k + 1))
   have hb3 : acc * (s + 1) ≤ acc * (s + 1) * cnt (S.drop (k + 1)):=Nat.le_mul_of_pos_right _ hp
   rw [loopC_eq]
   simp only [impl_cubeCells_l1,up_lt hs,cond_true,up_at hs,Option.bind_some]
   rw [show decide ((s : Int) < 1) = false by simp; omega,show decide (30 < (s : Int)) = false by simp; omega]
   simp only [cond_false,Option.bind_some]
   rw [wid (n:=(s : Int) + 1) (by omega) (by omega),show ((s : Int) + 1) = ((s + 1 : Nat) : Int) by omega,← Int.natCast_mul,wnat (by omega),wid (n:=(k : Int) + 1) (by omega) (by omega),show ((k : Int) + 1) = ((k + 1 : Nat) : Int) by omega,ih (k + 1) _ (by omega) hb,cnt_drop hs,Nat.mul_assoc]
 have c0:=h.le 0
 have:=key S.length 0 1 (by omega) (by simp only [List.drop_zero] at c0 ⊢; omega)
 simpa using this

theorem cells_loop_spec {S : List Nat} (h : VS S) : loopC (spec_cbCount_l1 (up S)) (1,0) = some ((cnt S : Nat) : Int):=by
 have hl:=h.l
 have key : ∀ (j k acc : Nat),k + j = S.length→acc * cnt (S.drop k) ≤ 1000000→loopC (spec_cbCount_l1 (up S)) ((acc : Int),(k : Int)) = some ((acc * cnt (S.drop k) : Nat) : Int):=by
  intro j
  induction j with
  | zero =>
   intro k acc hk _
   rw [loopC_eq]
   simp only [spec_cbCount_l1,up_end (show S.length = k by omega),cond_false]
   rw [List.drop_of_length_le (show S.length ≤ k by omega)]
   simp [cnt]
  | succ j ih =>
   intro k acc hk hb
   have hs : S[k]? = some (S[k]'(by omega)):=by simp [show k < S.length by omega]
   generalize S[k]'(by omega) = s at hs
   obtain ⟨b1,b2⟩:=h.get hs
   rw [cnt_drop hs,← Nat.mul_assoc] at hb
   have hp:=cnt_pos (S.drop (k + 1))
   have hb3 : acc * (s + 1) ≤ acc * (s + 1) * cnt (S.drop (k + 1)):=Nat.le_mul_of_pos_right _ hp
   rw [loopC_eq]
   simp only [spec_cbCount_l1,up_lt hs,cond_true,up_at hs,Option.bind_some]
   rw [wid (n:=(s : Int) + 1) (by omega) (by omega),show ((s : Int) + 1) = ((s + 1 : Nat) : Int) by omega,← Int.natCast_mul,wnat (by omega),wid (n:=(k : Int) + 1) (by omega) (by omega),show ((k : Int) + 1) = ((k + 1 : Nat) : Int) by omega,ih (k + 1) _ (by omega) hb,cnt_drop hs,Nat.mul_assoc]
 have c0:=h.le 0
 have:=key S.length 0 1 (by omega) (by simp only [List.drop_zero] at c0 ⊢; omega)
 simpa using this

theorem vs_iff {l : List Int} : (l.length ≤ 4∧∀ v ∈ l,1 ≤ v∧v ≤ 30) ↔ ∃ S,l = up S∧VS S:=by
 constructor
 ·rintro ⟨h1,h2⟩
  refine ⟨l.map Int.toNat,(up_toNat fun v hv=>by have:=h2 v hv; omega).symm,by simpa using h1,fun s hs=>?_⟩
  obtain ⟨v,hv,rfl⟩:=List.mem_map.1 hs
  have:=h2 v hv
  omega
 ·rintro ⟨S,rfl,h⟩
  refine ⟨by rw [up_len]; exact h.l,fun v hv=>?_⟩
  obtain ⟨s,hs,rfl⟩:=List.mem_map.1 hv
  have:=h.b s hs
  omega

theorem counts (l : List Int) : ∃ n : Nat,impl_cubeCells l = some (n : Int)∧spec_cbCount l = some (n : Int)∧n ≤ 2000∧(n ≠ 0→∃ S,l = up S∧VC S∧n = cnt S)∧((∃ S,l = up S∧VC S)→n ≠ 0):=by
 unfold impl_cubeCells spec_cbCount
 by_cases hl : 4 < l.length
 ·rw [show decide (4 < goLen l) = true by simp [goLen]; omega]
  refine ⟨0,rfl,rfl,by omega,by simp,?_⟩
  rintro ⟨S,rfl,hv,_⟩
  have:=hv.l
  rw [up_len] at hl
  omega
 ·rw [show decide (4 < goLen l) = false by simp [goLen]; omega]
  obtain ⟨b,e,hb⟩:=lAll_bis (l:=l) (lo:=1) (hi:=30) (by omega)
  simp only [cond_false,e,Option.bind_some]
  cases b with
  | true =>
   obtain ⟨S,rfl,hv⟩:=vs_iff.1 ⟨by omega,hb.1 rfl⟩
   simp only [Bool.not_true,cond_false,cells_loop_impl hv,cells_loop_spec hv,Option.bind_some]
   by_cases hc : 2000 < cnt S
   ·rw [show decide ((2000 : Int) < ((cnt S : Nat) : Int)) = true by simp; omega]
    refine ⟨0,rfl,rfl,by omega,by simp,?_⟩
    rintro ⟨S',he,hv',hc'⟩
    rw [← up_inj he] at hc'
    omega
   ·rw [show decide ((2000 : Int) < ((cnt S : Nat) : Int)) = false by simp; omega]
    have:=cnt_pos S
    exact ⟨cnt S,rfl,rfl,by omega,fun _=>⟨S,rfl,⟨hv,by omega⟩,rfl⟩,fun _=>by omega⟩
  | false =>
   have hbad : ¬ ∀ v ∈ l,1 ≤ v∧v ≤ 30:=fun h=>by have:=hb.2 h; cases this
   refine ⟨0,?_,rfl,by omega,by simp,?_⟩
   ·obtain ⟨r,e1,e2⟩:=tot_loop (body:=impl_cubeCells_l1 l) (s:=(1,0)) (Q:=fun r=>r = .inr 0) (fun s=>∃ k : Nat,s.2 = (k : Int)∧k ≤ l.length∧∀ v ∈ l.take k,1 ≤ v∧v ≤ 30) (fun s=>l.length - s.2.toNat) ⟨0,rfl,by omega,by simp⟩ (by
     rintro ⟨n,t⟩ ⟨k,hk,hk2,hall⟩
     simp only at hk
     subst hk
     simp only [impl_cubeCells_l1]
     by_cases hlt : k < l.length
     ·have hx : l[k]? = some l[k]:=by simp [hlt]
      simp only [lt_ok hx,at_ok hx,cond_true,Option.bind_some]
      by_cases hv : 1 ≤ l[k]∧l[k] ≤ 30
      ·rw [show decide (l[k] < 1) = false by simp; omega,show decide (30 < l[k]) = false by simp; omega]
       simp only [cond_false,Option.bind_some,nx_ok hx (by omega)]
       refine tot_some ⟨⟨k + 1,rfl,by omega,fun v hv2=>?_⟩,by simp only; omega⟩
       rw [List.take_add_one,hx] at hv2
       rcases List.mem_append.1 hv2 with h1 | h1
       ·exact hall v h1
       ·simp at h1; subst h1; exact hv
      ·have e : (cond (decide (l[k] < 1)) (some true) (some (decide (30 < l[k]))) : Option Bool) = some true:=by
        by_cases h1 : l[k] < 1
        ·simp [h1]
        ·have : 30 < l[k]:=by omega
         simp [h1,this]
       rw [e]
       exact tot_some rfl
     ·rw [List.take_of_length_le (by omega)] at hall
      exact absurd hall hbad)
    rw [e1,e2]; rfl
   ·rintro ⟨S,rfl,hv,_⟩
    exact absurd (vs_iff.2 ⟨S,rfl,hv⟩).2 hbad

theorem counts_up {S : List Nat} (h : VC S) : impl_cubeCells (up S) = some ((cnt S : Nat) : Int)∧spec_cbCount (up S) = some ((cnt S : Nat) : Int):=by
 obtain ⟨n,e1,e2,h1,h2,h3⟩:=counts (up S)
 obtain ⟨S',he,_,rfl⟩:=h2 (h3 ⟨S,rfl,h⟩)
 rw [← up_inj he] at e1 e2
 exact ⟨e1,e2⟩

theorem areCubeValues_bis {l : List Int} (hl : l.length ≤ 9223372036854775807) : Bis (impl_areCubeValues l) (∀ v ∈ l,-1000000 ≤ v∧v ≤ 1000000):=by
 unfold impl_areCubeValues
 refine bis_iff (bis_loop (l:=l) (fun _ v=>-1000000 ≤ v∧v ≤ 1000000) (fun k x hx=>⟨decide (-1000000 ≤ x∧x ≤ 1000000),by simp,?_⟩) ?_) all_mem_iff
 ·simp only [impl_areCubeValues_l1,lt_ok hx,at_ok hx,cond_true,Option.bind_some,nx_ok hx hl]
  by_cases h : x < -1000000
  ·have : ¬ (-1000000 ≤ x∧x ≤ 1000000):=by omega
   simp [h,this]
  ·by_cases h2 : 1000000 < x
   ·have : ¬ (-1000000 ≤ x∧x ≤ 1000000):=by omega
    simp [h,h2,this]
   ·have : -1000000 ≤ x∧x ≤ 1000000:=by omega
    simp [h,h2,this]
 ·simp only [impl_areCubeValues_l1,lt_end,cond_false]

def ce (l : List Int) (i : Nat) : Int:=l.getD i 0

theorem ce_at {l : List Int} {i : Nat} (h : i < l.length) : goAt l (i : Int) = some (ce l i):=by
 rw [at_ok (x:=l[i]) (by simp [h])]
 simp [ce,List.getD_eq_getElem?_getD,h]

theorem ce_mem {l : List Int} {i : Nat} (h : i < l.length) : ce l i ∈ l:=by
 simp [ce,List.getD_eq_getElem?_getD,h]

def Bnd (l : List Int) : Prop:=∀ v ∈ l,-1000000 ≤ v∧v ≤ 1000000

def parts (S : List Nat) (f : Nat→Int) (i d s : Nat) : Int:=sg (fun k=>f (ix S ((dig S i).set d k))) s

def Brk (S : List Nat) (f : Nat→Int) (i : Nat) : Prop:=∃ d s,S[d]? = some s∧(dig S i)[d]? = some s∧parts S f i d s ≠ f i

theorem part_ix {S : List Nat} {i d s k : Nat} (hi : i < cnt S) (hs : S[d]? = some s) (hd : (dig S i)[d]? = some s) (hk : k ≤ s) : ix S ((dig S i).set d (s - k)) + k * cnt (S.drop (d + 1)) = i:=by
 have h1:=ix_set (S:=S) (X:=dig S i) (d:=d) (x:=s) (y:=s - k) (dig_len S i) hd
 rw [ix_dig hi] at h1
 have h2 : s * cnt (S.drop (d + 1)) = (s - k) * cnt (S.drop (d + 1)) + k * cnt (S.drop (d + 1)):=by rw [← Nat.add_mul]; congr 1; omega
 omega

theorem part_lt {S : List Nat} {i d s k : Nat} (hi : i < cnt S) (hs : S[d]? = some s) (hk : k ≤ s) : ix S ((dig S i).set d k) < cnt S:=ix_lt ((dig_ok hi).set hs hk)

theorem part_sum_impl {S : List Nat} (h : VC S) {c : impl_Cube} (hl : c.Cells.length = cnt S) (hB : Bnd c.Cells) {i d s : Nat} (hi : i < cnt S) (hs : S[d]? = some s) (hd : (dig S i)[d]? = some s) :
  loopC (impl_firstBreak_l3 c (up (strd S)) (i : Int) (d : Int) (s : Int)) (0,1) = some (parts S (ce c.Cells) i d s):=by
 obtain ⟨b1,b2⟩:=h.1.get hs
 have hc:=h.2
 refine tot_eq ?_
 have hf : ∀ k,k ≤ s→-1000000 ≤ ce c.Cells (ix S ((dig S i).set d k))∧ce c.Cells (ix S ((dig S i).set d k)) ≤ 1000000:=fun k hk=>hB _ (ce_mem (by rw [hl]; exact part_lt hi hs hk))
 refine tot_loop (fun t=>∃ j : Nat,t = (sg (fun k=>ce c.Cells (ix S ((dig S i).set d (s - 1 - k)))) j,((j + 1 : Nat) : Int))∧j ≤ s) (fun t=>40 - t.2.toNat) ⟨0,rfl,by omega⟩ ?_
 rintro t ⟨j,rfl,hj⟩
 simp only [impl_firstBreak_l3]
 refine tot_cond (fun hc2=>?_) fun hc2=>tot_some ?_
 ·have hlt : j < s:=by
   have:=of_decide_eq_true hc2
   omega
  have hp:=part_ix hi hs hd (k:=j + 1) (by omega)
  have hpl:=part_lt (k:=s - (j + 1)) hi hs (by omega)
  rw [up_at (strd_get hs),Option.bind_some,← Int.natCast_mul,wnat (by omega),show ((i : Int) - (((j + 1) * cnt (S.drop (d + 1)) : Nat) : Int)) = ((ix S ((dig S i).set d (s - (j + 1))) : Nat) : Int) by omega,wnat (by omega),ce_at (by rw [hl]; exact hpl),Option.bind_some]
  have hsb:=sg_bound (g:=fun k=>ce c.Cells (ix S ((dig S i).set d (s - 1 - k)))) (B:=1000000) (n:=j + 1) fun k hk=>hf _ (by omega)
  have e : s - 1 - j = s - (j + 1):=by omega
  rw [sg] at hsb
  simp only [e] at hsb
  refine tot_some ⟨⟨j + 1,?_,by omega⟩,by simp only; rw [wid (n:=((j + 1 : Nat) : Int) + 1) (by omega) (by omega)]; omega⟩
  rw [wid (by omega) (by omega),wid (n:=((j + 1 : Nat) : Int) + 1) (by omega) (by omega),sg]
  simp only [e]
  congr 1
 ·have hlt : j = s:=by
   have:=of_decide_eq_false hc2
   omega
  subst hlt
  exact sg_rev (fun k=>ce c.Cells (ix S ((dig S i).set d k))) j

theorem parts_list {S : List Nat} (h : VC S) {i d s : Nat} (hi : i < cnt S) (hs : S[d]? = some s) :
  spec_cbParts (up S) (i : Int) (d : Int) = some (up ((List.range s).map fun k=>ix S ((dig S i).set d k))):=by
 obtain ⟨b1,b2⟩:=h.1.get hs
 have hc:=h.2
 have hdl : d < (dig S i).length:=by rw [dig_len]; exact (List.getElem?_eq_some_iff.1 hs).1
 refine tot_eq ?_
 unfold spec_cbParts
 rw [cbIndices_eq h.1 hi,Option.bind_some]
 refine tot_bind (Q:=fun r=>r = up ((List.range s).map fun k=>ix S ((dig S i).set d k))) ?_ fun r hr=>tot_some hr
 refine tot_loop (fun t=>∃ (k : Nat) (Y : List Nat),t = (up Y,up ((List.range k).map fun k=>ix S ((dig S i).set d k)),(k : Int))∧k ≤ s∧Y.length = (dig S i).length∧∀ v,Y.set d v = (dig S i).set d v) (fun t=>40 - t.2.2.toNat) ⟨0,dig S i,rfl,by omega,rfl,fun _=>rfl⟩ ?_
 rintro t ⟨k,Y,rfl,hk,hYl,hY⟩
 simp only [spec_cbParts_l1]
 rw [up_at hs,Option.bind_some]
 refine tot_cond (fun hc2=>?_) fun hc2=>tot_some ?_
 ·have hlt : k < s:=Int.ofNat_lt.1 (of_decide_eq_true hc2)
  refine tot_bind (tot_at (Q:=fun _=>True) (by omega) (by rw [up_len]; omega) fun _ _ _=>trivial) fun _ _=>?_
  simp only [goSet,Int.toNat_natCast]
  rw [up_set,hY,cbAt_eq h.1 ((dig_ok hi).set hs (by omega)),Option.bind_some]
  refine tot_bind (tot_app (Q:=fun r=>r = up ((List.range (k + 1)).map fun k=>ix S ((dig S i).set d k))) (by simp [up]; omega) (by simp [up,List.range_succ])) fun r hr=>tot_some ?_
  subst hr
  rw [wid (n:=(k : Int) + 1) (by omega) (by omega)]
  refine ⟨⟨k + 1,(dig S i).set d k,rfl,by omega,by simp,fun v=>by rw [List.set_set]⟩,by simp only; omega⟩
 ·have hlt : ¬ k < s:=fun h=>of_decide_eq_false hc2 (Int.ofNat_lt.2 h)
  obtain rfl : k = s:=by omega
  rfl

theorem part_sum_spec {S : List Nat} (h : VC S) {c : impl_Cube} (hl : c.Cells.length = cnt S) (hB : Bnd c.Cells) {i d s : Nat} (hi : i < cnt S) (hs : S[d]? = some s) :
  loopC (spec_cbBroken_l2 c (up ((List.range s).map fun k=>ix S ((dig S i).set d k)))) (0,0) = some (parts S (ce c.Cells) i d s):=by
 obtain ⟨b1,b2⟩:=h.1.get hs
 refine tot_eq ?_
 have hf : ∀ k,k ≤ s→-1000000 ≤ ce c.Cells (ix S ((dig S i).set d k))∧ce c.Cells (ix S ((dig S i).set d k)) ≤ 1000000:=fun k hk=>hB _ (ce_mem (by rw [hl]; exact part_lt hi hs hk))
 refine tot_loop (fun t=>∃ j : Nat,t = (sg (fun k=>ce c.Cells (ix S ((dig S i).set d k))) j,(j : Int))∧j ≤ s) (fun t=>40 - t.2.toNat) ⟨0,rfl,by omega⟩ ?_
 rintro t ⟨j,rfl,hj⟩
 simp only [spec_cbBroken_l2]
 by_cases hlt : j < s
 ·have hx : ((List.range s).map fun k=>ix S ((dig S i).set d k))[j]? = some (ix S ((dig S i).set d j)):=by simp [hlt]
  have hpl:=part_lt (k:=j) hi hs (by omega)
  rw [up_lt hx,cond_true,up_at hx,Option.bind_some,ce_at (by rw [hl]; exact hpl),Option.bind_some]
  have hsb:=sg_bound (g:=fun k=>ce c.Cells (ix S ((dig S i).set d k))) (B:=1000000) (n:=j + 1) fun k hk=>hf _ (by omega)
  rw [sg] at hsb
  refine tot_some ⟨⟨j + 1,?_,by omega⟩,by simp only; rw [wid (n:=(j : Int) + 1) (by omega) (by omega)]; omega⟩
  rw [wid (by omega) (by omega),wid (n:=(j : Int) + 1) (by omega) (by omega),sg]
  rfl
 ·obtain rfl : j = s:=by omega
  rw [up_end (by simp),cond_false]
  exact tot_some rfl

theorem broken_impl {S : List Nat} (h : VC S) {c : impl_Cube} (hS : c.Sizes = up S) (hl : c.Cells.length = cnt S) (hB : Bnd c.Cells) {i : Nat} (hi : i < cnt S) :
  ∃ b : Bool,(b = true ↔ Brk S (ce c.Cells) i)∧loopC (impl_firstBreak_l2 c (up (strd S)) (i : Int) (ce c.Cells i) (up (dig S i))) 0 = some (cond b (.inr (.done (.inr (i : Int)))) (.inl ())):=by
 have hl4:=h.1.l
 obtain ⟨b,hb,e⟩:=loop_find (l:=up (dig S i)) (body:=impl_firstBreak_l2 c (up (strd S)) (i : Int) (ce c.Cells i) (up (dig S i))) (fun d x=>∃ s : Nat,x = (s : Int)∧S[d]? = some s∧parts S (ce c.Cells) i d s ≠ ce c.Cells i) (.done (.inr (i : Int))) (fun d x hx=>by
  have hdl : d < (dig S i).length:=by
   have:=(List.getElem?_eq_some_iff.1 hx).1
   rwa [up_len] at this
  have hd : (dig S i)[d]? = some (dig S i)[d]:=by simp [hdl]
  have hxe : x = (((dig S i)[d] : Nat) : Int):=by
   rw [up_get hd] at hx
   exact (Option.some.inj hx).symm
  have hsl : d < S.length:=by rw [dig_len] at hdl; exact hdl
  have hs : S[d]? = some S[d]:=by simp [hsl]
  simp only [impl_firstBreak_l2,lt_ok hx,at_ok hx,cond_true,Option.bind_some,hS,up_at hs]
  by_cases he : (dig S i)[d] = S[d]
  ·have hd' : (dig S i)[d]? = some S[d]:=by rw [hd,he]
   rw [hxe,he]
   rw [show ((((S[d] : Nat) : Int)) != ((S[d] : Nat) : Int)) = false by simp,cond_false,part_sum_impl h hl hB hi hs hd',Option.bind_some]
   refine ⟨parts S (ce c.Cells) i d S[d] != ce c.Cells i,?_,?_⟩
   ·simp only [bne_iff_ne,ne_eq]
    exact ⟨fun h=>⟨S[d],rfl,hs,h⟩,fun ⟨s,e1,e2,e3⟩=>by rw [hs] at e2; obtain rfl:=Option.some.inj e2; exact e3⟩
   ·cases (parts S (ce c.Cells) i d S[d] != ce c.Cells i)
    ·simp only [cond_false,Option.bind_some,nx_ok hx (by rw [up_len,dig_len]; omega)]
    ·rfl
  ·rw [hxe]
   rw [show ((((dig S i)[d] : Nat) : Int) != ((S[d] : Nat) : Int)) = true by simp; omega]
   refine ⟨false,?_,?_⟩
   ·simp only [Bool.false_eq_true,false_iff]
    rintro ⟨s,e1,e2,e3⟩
    rw [hs] at e2
    obtain rfl:=Option.some.inj e2
    exact he (by omega)
   ·simp only [cond_true,Option.bind_some,cond_false,nx_ok hx (by rw [up_len,dig_len]; omega)]) (by
  simp only [impl_firstBreak_l2,lt_end,cond_false])
 refine ⟨b,hb.trans ?_,e⟩
 constructor
 ·rintro ⟨d,x,hx,s,rfl,hs,hp⟩
  refine ⟨d,s,hs,?_,hp⟩
  have hdl : d < (dig S i).length:=by
   have:=(List.getElem?_eq_some_iff.1 hx).1
   rwa [up_len] at this
  have hd : (dig S i)[d]? = some (dig S i)[d]:=by simp [hdl]
  rw [up_get hd] at hx
  have:=Option.some.inj hx
  rw [hd]; congr 1; omega
 ·rintro ⟨d,s,hs,hd,hp⟩
  exact ⟨d,s,up_get hd,s,rfl,hs,hp⟩

theorem broken_spec {S : List Nat} (h : VC S) {c : impl_Cube} (hS : c.Sizes = up S) (hl : c.Cells.length = cnt S) (hB : Bnd c.Cells) {i : Nat} (hi : i < cnt S) : Bis (spec_cbBroken c (i : Int)) (Brk S (ce c.Cells) i):=by
 have hl4:=h.1.l
 unfold spec_cbBroken
 rw [hS,cbIndices_eq h.1 hi,Option.bind_some]
 obtain ⟨b,hb,e⟩:=loop_find (l:=up (dig S i)) (body:=spec_cbBroken_l1 c (i : Int) (up (dig S i))) (fun d x=>∃ s : Nat,x = (s : Int)∧S[d]? = some s∧parts S (ce c.Cells) i d s ≠ ce c.Cells i) true (fun d x hx=>by
  have hdl : d < (dig S i).length:=by
   have:=(List.getElem?_eq_some_iff.1 hx).1
   rwa [up_len] at this
  have hd : (dig S i)[d]? = some (dig S i)[d]:=by simp [hdl]
  have hxe : x = (((dig S i)[d] : Nat) : Int):=by
   rw [up_get hd] at hx
   exact (Option.some.inj hx).symm
  have hsl : d < S.length:=by rw [dig_len] at hdl; exact hdl
  have hs : S[d]? = some S[d]:=by simp [hsl]
  simp only [spec_cbBroken_l1,lt_ok hx,at_ok hx,cond_true,Option.bind_some,hS,up_at hs]
  by_cases he : (dig S i)[d] = S[d]
  ·have hd' : (dig S i)[d]? = some S[d]:=by rw [hd,he]
   rw [hxe,he]
   rw [show ((((S[d] : Nat) : Int)) != ((S[d] : Nat) : Int)) = false by simp,cond_false,parts_list h hi hs,Option.bind_some,part_sum_spec h hl hB hi hs,Option.bind_some,ce_at (by rw [hl]; exact hi),Option.bind_some]
   refine ⟨parts S (ce c.Cells) i d S[d] != ce c.Cells i,?_,?_⟩
   ·simp only [bne_iff_ne,ne_eq]
    exact ⟨fun h=>⟨S[d],rfl,hs,h⟩,fun ⟨s,e1,e2,e3⟩=>by rw [hs] at e2; obtain rfl:=Option.some.inj e2; exact e3⟩
   ·cases (parts S (ce c.Cells) i d S[d] != ce c.Cells i)
    ·simp only [cond_false,Option.bind_some,nx_ok hx (by rw [up_len,dig_len]; omega)]
    ·rfl
  ·rw [hxe]
   rw [show ((((dig S i)[d] : Nat) : Int) != ((S[d] : Nat) : Int)) = true by simp; omega]
   refine ⟨false,?_,?_⟩
   ·simp only [Bool.false_eq_true,false_iff]
    rintro ⟨s,e1,e2,e3⟩
    rw [hs] at e2
    obtain rfl:=Option.some.inj e2
    exact he (by omega)
   ·simp only [cond_true,Option.bind_some,cond_false,nx_ok hx (by rw [up_len,dig_len]; omega)]) (by
  simp only [spec_cbBroken_l1,lt_end,cond_false])
 rw [e]
 refine ⟨b,by cases b <;> rfl,hb.trans ?_⟩
 constructor
 ·rintro ⟨d,x,hx,s,rfl,hs,hp⟩
  refine ⟨d,s,hs,?_,hp⟩
  have hdl : d < (dig S i).length:=by
   have:=(List.getElem?_eq_some_iff.1 hx).1
   rwa [up_len] at this
  have hd : (dig S i)[d]? = some (dig S i)[d]:=by simp [hdl]
  rw [up_get hd] at hx
  have:=Option.some.inj hx
  rw [hd]; congr 1; omega
 ·rintro ⟨d,s,hs,hd,hp⟩
  exact ⟨d,s,up_get hd,s,rfl,hs,hp⟩

theorem firsts {S : List Nat} (h : VC S) {c : impl_Cube} (hS : c.Sizes = up S) (hl : c.Cells.length = cnt S) (hB : Bnd c.Cells) :
  ∃ r : Int,impl_firstBreak c = some r∧spec_cbFirst c = some r∧(r = (cnt S : Int) ↔ ∀ i,i < cnt S→¬ Brk S (ce c.Cells) i):=by
 have hc:=h.2
 unfold impl_firstBreak spec_cbFirst
 rw [hS,strides_eq h.1,Option.bind_some]
 have key : ∀ (j k : Nat),k + j = cnt S→(∀ i,i < k→¬ Brk S (ce c.Cells) i)→∃ r : Int,
   ((loopC (impl_firstBreak_l1 c (up (strd S))) (k : Int)).bind fun | .inl ()=>some (goLen c.Cells) | .inr o=>some o) = some r∧((loopC (spec_cbFirst_l1 c) (k : Int)).bind fun | .inl ()=>some (goLen c.Cells) | .inr o=>some o) = some r∧(r = (cnt S : Int) ↔ ∀ i,i < cnt S→¬ Brk S (ce c.Cells) i):=by
  intro j
  induction j with
  | zero =>
   intro k hk hall
   obtain rfl : k = cnt S:=by omega
   rw [loopC_eq,loopC_eq]
   simp only [impl_firstBreak_l1,spec_cbFirst_l1,goLen,hl]
   rw [show decide (((cnt S : Nat) : Int) < ((cnt S : Nat) : Int)) = false by simp]
   exact ⟨_,rfl,rfl,by simp only [true_iff]; exact hall⟩
  | succ j ih =>
   intro k hk hall
   have hlt : k < cnt S:=by omega
   obtain ⟨b,hb,e⟩:=broken_impl h hS hl hB hlt
   obtain ⟨b',e',hb'⟩:=broken_spec h hS hl hB hlt
   obtain rfl : b = b':=by rw [Bool.eq_iff_iff,hb,hb']
   rw [loopC_eq,loopC_eq]
   simp only [impl_firstBreak_l1,spec_cbFirst_l1]
   rw [show decide ((k : Int) < goLen c.Cells) = true by simp [goLen,hl]; omega]
   simp only [cond_true,ce_at (show k < c.Cells.length by omega),hS,indexOf_eq h.1 hlt,Option.bind_some,e,e']
   cases b with
   | true =>
    refine ⟨(k : Int),rfl,rfl,?_⟩
    constructor
    ·intro hh; omega
    ·exact fun hh=>absurd (hb.1 rfl) (hh k hlt)
   | false =>
    simp only [cond_false,Option.bind_some]
    rw [wid (n:=(k : Int) + 1) (by omega) (by omega)]
    exact ih (k + 1) (by omega) fun i hi=>by
     by_cases hik : i = k
     ·subst hik; exact fun hc=>by have:=hb.2 hc; cases this
     ·exact hall i (by omega)
 exact key (cnt S) 0 (by omega) fun i hi=>by omega

structure FormC (S : List Nat) (c : impl_Cube) : Prop where
 vc : VC S
 sz : c.Sizes = up S
 ln : c.Cells.length = cnt S
 bd : Bnd c.Cells

structure GoodC (S : List Nat) (c : impl_Cube) : Prop extends FormC S c where
 ok : ∀ i,i < cnt S→¬ Brk S (ce c.Cells) i

theorem FormC.uniq {S S' : List Nat} {c : impl_Cube} (h : FormC S c) (h' : FormC S' c) : S = S':=up_inj (h.sz.symm.trans h'.sz)

theorem form_impl (c : impl_Cube) : Bis (impl_hasRightForm c) (∃ S,FormC S c):=by
 unfold impl_hasRightForm
 obtain ⟨n,e1,e2,h1,h2,h3⟩:=counts c.Sizes
 rw [e1,Option.bind_some]
 refine bis_ret ?_
 by_cases hn : n = 0
 ·subst hn
  refine ⟨false,rfl,?_⟩
  simp only [Bool.false_eq_true,false_iff]
  rintro ⟨S,h⟩
  exact h3 ⟨S,h.sz,h.vc⟩ rfl
 ·obtain ⟨S,hS,hv,rfl⟩:=h2 hn
  rw [show decide ((0 : Int) < ((cnt S : Nat) : Int)) = true by simp; omega,cond_true]
  refine bis_iff (bis_and (Q:=c.Cells.length = cnt S) (by simp [goLen]; omega) fun hc=>bis_ret (areCubeValues_bis (l:=c.Cells) (by simp [goLen] at hc; omega))) ?_
  constructor
  ·rintro ⟨a,b⟩; exact ⟨S,hv,hS,a,b⟩
  ·rintro ⟨S',h⟩
   have : S = S':=up_inj (hS.symm.trans h.sz)
   subst this
   exact ⟨h.ln,h.bd⟩

theorem form_spec (c : impl_Cube) : Bis (spec_cbForm c) (∃ S,FormC S c):=by
 unfold spec_cbForm
 obtain ⟨n,e1,e2,h1,h2,h3⟩:=counts c.Sizes
 rw [e2,Option.bind_some]
 refine bis_ret ?_
 by_cases hn : n = 0
 ·subst hn
  refine ⟨false,rfl,?_⟩
  simp only [Bool.false_eq_true,false_iff]
  rintro ⟨S,h⟩
  exact h3 ⟨S,h.sz,h.vc⟩ rfl
 ·obtain ⟨S,hS,hv,rfl⟩:=h2 hn
  rw [show decide ((0 : Int) < ((cnt S : Nat) : Int)) = true by simp; omega,cond_true]
  refine bis_iff (bis_and (Q:=c.Cells.length = cnt S) (by simp [goLen]; omega) fun hc=>bis_ret (lAll_bis (l:=c.Cells) (by simp [goLen] at hc; omega))) ?_
  constructor
  ·rintro ⟨a,b⟩; exact ⟨S,hv,hS,a,b⟩
  ·rintro ⟨S',h⟩
   have : S = S':=up_inj (hS.symm.trans h.sz)
   subst this
   exact ⟨h.ln,h.bd⟩

theorem good_of {x : Option Bool} {y : Option Int} {c : impl_Cube} (hx : Bis x (∃ S,FormC S c)) (hy : ∀ S,FormC S c→∃ r : Int,y = some r∧(r = (cnt S : Int) ↔ ∀ i,i < cnt S→¬ Brk S (ce c.Cells) i)) :
  Bis (((x.bind fun t_4=>(cond t_4 (y.bind fun t_8=>some (t_8 == (goLen c.Cells))) (some false))) : Option Bool).bind fun t_9=>some t_9) (∃ S,GoodC S c):=by
 refine bis_ret (bis_iff (bis_bind_and (P:=∃ S,GoodC S c) hx ?_) ⟨fun h=>h.2,fun h=>⟨h.elim fun S hS=>⟨S,hS.toFormC⟩,h⟩⟩)
 rintro ⟨S,hS⟩
 obtain ⟨r,e,hr⟩:=hy S hS
 rw [e,Option.bind_some]
 refine bis_some ?_
 rw [beq_iff_eq]
 simp only [goLen,hS.ln]
 rw [hr]
 constructor
 ·exact fun h=>⟨S,hS,h⟩
 ·rintro ⟨S',h⟩
  have:=hS.uniq h.toFormC
  subst this
  exact h.ok

theorem IsCube_bis (c : impl_Cube) : Bis (impl_IsCube c) (∃ S,GoodC S c):=by
 unfold impl_IsCube
 exact good_of (form_impl c) fun S h=>by
  obtain ⟨r,e1,e2,e3⟩:=firsts h.vc h.sz h.ln h.bd
  exact ⟨r,e1,e3⟩

theorem cbGood_bis (c : impl_Cube) : Bis (spec_cbGood c) (∃ S,GoodC S c):=by
 unfold spec_cbGood
 exact good_of (form_spec c) fun S h=>by
  obtain ⟨r,e1,e2,e3⟩:=firsts h.vc h.sz h.ln h.bd
  exact ⟨r,e2,e3⟩

end Go.Gx.F
