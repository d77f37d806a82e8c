/- Plain laws: both ways of making a cube come to the sums. -/
import Derived.Test.YtmlegfogjdhhkaaGreatPCub2

namespace Go.Gx.F

open Go.Gx

set_option linter.all false

theorem count_base {S : List Nat} (h : VC S) {l : List Int} (hl : l.length = cnt S) : loopC (impl_cubeOf_l1 (up S) l) (0,0) = some ((rk S (cnt S) : Nat) : Int):=by
 have hc:=h.2
 refine tot_eq ?_
 refine tot_loop (fun s=>∃ k : Nat,s = (((rk S k : Nat) : Int),(k : Int))∧k ≤ cnt S) (fun s=>3000 - s.2.toNat) ⟨0,rfl,by omega⟩ ?_
 rintro s ⟨k,rfl,hk⟩
 simp only [impl_cubeOf_l1]
 refine tot_cond (fun hc2=>?_) fun hc2=>tot_some ?_
 ·have hlt : k < cnt S:=by
   have:=of_decide_eq_true hc2
   simp only [goLen,hl] at this
   omega
  rw [indexOf_eq h.1 hlt,Option.bind_some,isBase_eq (dig_ok hlt) h.1.l,Option.bind_some,cond_some,Option.bind_some]
  have:=rk_le S k
  rw [wid (n:=(k : Int) + 1) (by omega) (by omega),wid (n:=((rk S k : Nat) : Int) + 1) (by omega) (by omega)]
  refine tot_some ⟨⟨k + 1,?_,by omega⟩,by simp only; omega⟩
  congr 1
  rw [rk_succ]
  show cond (bB S k) _ _ = _
  cases bB S k <;> simp
 ·have hlt : ¬ k < cnt S:=by
   have:=of_decide_eq_false hc2
   simp only [goLen,hl] at this
   omega
  obtain rfl : k = cnt S:=by omega
  rfl

theorem fill_base {S : List Nat} (h : VC S) {base l : List Int} (hl : l.length = cnt S) (hb : base.length = rk S (cnt S)) : loopC (impl_cubeOf_l2 (up S) base l) (0,0,⟨up S,tab (cnt S) fun _=>0⟩) = some ⟨up S,tab (cnt S) fun i=>if bB S i = true then ce base (rk S i) else 0⟩:=by
 have hc:=h.2
 refine tot_eq ?_
 refine tot_loop (fun s=>∃ k : Nat,s = (((rk S k : Nat) : Int),(k : Int),⟨up S,tab (cnt S) fun i=>if i < k∧bB S i = true then ce base (rk S i) else 0⟩)∧k ≤ cnt S) (fun s=>3000 - s.2.1.toNat) ⟨0,by simp [rk,bs],by omega⟩ ?_
 rintro s ⟨k,rfl,hk⟩
 simp only [impl_cubeOf_l2]
 refine tot_cond (fun hc2=>?_) fun hc2=>tot_some ?_
 ·have hlt : k < cnt S:=by
   have:=of_decide_eq_true hc2
   simp only [goLen,hl] at this
   omega
  rw [indexOf_eq h.1 hlt,Option.bind_some,isBase_eq (dig_ok hlt) h.1.l,Option.bind_some]
  have:=rk_le S k
  refine tot_bind (Q:=fun r=>r = (((rk S (k + 1) : Nat) : Int),⟨up S,tab (cnt S) fun i=>if i < k + 1∧bB S i = true then ce base (rk S i) else 0⟩)) (tot_cond (fun hb1=>?_) fun hb1=>tot_some ?_) fun r hr=>?_
  ·have hb2 : bB S k = true:=hb1
   have hr:=rk_lt hlt hb2
   rw [ce_at (show rk S k < base.length by omega),Option.bind_some,tab_at hlt,Option.bind_some]
   refine tot_some ?_
   rw [wid (n:=((rk S k : Nat) : Int) + 1) (by omega) (by omega),rk_succ,if_pos hb2]
   refine Prod.ext rfl ?_
   simp only [goSet,Int.toNat_natCast,tab_set,impl_Cube.mk.injEq,true_and]
   refine tab_congr fun i hi=>?_
   by_cases hik : i = k
   ·subst hik; simp [hb2]
   ·have : (i < k + 1) ↔ i < k:=by omega
    simp [hik,this]
  ·have hb2 : ¬ bB S k = true:=by rw [show bB S k = false from hb1]; simp
   rw [rk_succ,if_neg hb2]
   refine Prod.ext rfl ?_
   simp only [impl_Cube.mk.injEq,true_and]
   refine tab_congr fun i hi=>?_
   by_cases hik : i = k
   ·subst hik; simp [hb2]
   ·have : (i < k + 1) ↔ i < k:=by omega
    simp [this]
  ·subst hr
   rw [wid (n:=(k : Int) + 1) (by omega) (by omega)]
   exact tot_some ⟨⟨k + 1,rfl,by omega⟩,by simp only; omega⟩
 ·have hlt : ¬ k < cnt S:=by
   have:=of_decide_eq_false hc2
   simp only [goLen,hl] at this
   omega
  obtain rfl : k = cnt S:=by omega
  simp only [impl_Cube.mk.injEq,true_and]
  refine tab_congr fun i hi=>?_
  simp [hi]

def sw (S : List Nat) (base : List Int) (d i : Nat) : Int:=if isB (S.drop d) ((dig S i).drop d) = true then T S base (dig S i) else 0

theorem isB_drop {S X : List Nat} {d s x : Nat} (hs : S[d]? = some s) (hx : X[d]? = some x) : isB (S.drop d) (X.drop d) = (decide (x < s) && isB (S.drop (d + 1)) (X.drop (d + 1))):=by
 rw [drop_cons hs,drop_cons hx]; rfl

theorem dig_set {S : List Nat} {i d s k : Nat} (hi : i < cnt S) (hs : S[d]? = some s) (hk : k ≤ s) : dig S (ix S ((dig S i).set d k)) = (dig S i).set d k:=dig_ix ((dig_ok hi).set hs hk)

theorem drop_set_succ {γ : Type} {l : List γ} {d : Nat} {k : γ} : (l.set d k).drop (d + 1) = l.drop (d + 1):=List.drop_set_of_lt (by omega)

theorem sw_part {S : List Nat} {base : List Int} {i d s k : Nat} (hi : i < cnt S) (hs : S[d]? = some s) (hk : k < s) (hb : isB (S.drop (d + 1)) ((dig S i).drop (d + 1)) = true) :
  sw S base d (ix S ((dig S i).set d k)) = T S base ((dig S i).set d k)∧sw S base (d + 1) (ix S ((dig S i).set d k)) = T S base ((dig S i).set d k):=by
 have hdl : d < (dig S i).length:=by rw [dig_len]; exact (List.getElem?_eq_some_iff.1 hs).1
 unfold sw
 rw [dig_set hi hs (by omega),isB_drop hs (show ((dig S i).set d k)[d]? = some k by simp [hdl]),drop_set_succ,hb]
 simp [hk]

theorem sw_inner {S : List Nat} (h : VC S) {base : List Int} (hB : Bnd base) (hl : base.length = rk S (cnt S)) {g : Nat→Int} {i d s : Nat} (hi : i < cnt S) (hs : S[d]? = some s) (hd : (dig S i)[d]? = some s)
  (hb : isB (S.drop (d + 1)) ((dig S i).drop (d + 1)) = true) (hg : ∀ k,k < s→g (ix S ((dig S i).set d k)) = T S base ((dig S i).set d k)) (hgi : g i = 0) :
  loopC (impl_cubeOf_l5 (up S) (d : Int) ((cnt (S.drop (d + 1)) : Nat) : Int) (i : Int)) (1,⟨up S,tab (cnt S) g⟩) = some ⟨up S,tab (cnt S) fun j=>if j = i then T S base (dig S i) else g j⟩:=by
 have hc:=h.2
 obtain ⟨b1,b2⟩:=h.1.get hs
 refine tot_eq ?_
 refine tot_loop (fun t=>∃ j : Nat,t = (((j + 1 : Nat) : Int),⟨up S,tab (cnt S) fun n=>if n = i then sg (fun k=>T S base ((dig S i).set d (s - 1 - k))) j else g n⟩)∧j ≤ s) (fun t=>40 - t.1.toNat) ⟨0,by
  refine Prod.ext rfl ?_
  simp only [impl_Cube.mk.injEq,true_and]
  refine tab_congr fun n hn=>?_
  by_cases hni : n = i
  ·subst hni; simp [sg,hgi]
  ·simp [hni],by omega⟩ ?_
 rintro t ⟨j,rfl,hj⟩
 simp only [impl_cubeOf_l5]
 rw [up_at hs,Option.bind_some]
 refine tot_cond (fun hc2=>?_) fun hc2=>tot_some ?_
 ·have hlt : j < s:=by
   have:=of_decide_eq_true hc2
   omega
  have hp:=part_ix hi hs hd (k:=j + 1) (by omega)
  have hpl:=part_lt (k:=s - (j + 1)) hi hs (by omega)
  have hne : ix S ((dig S i).set d (s - (j + 1))) ≠ i:=by
   have h1:=cnt_pos (S.drop (d + 1))
   have h2 : 0 < (j + 1) * cnt (S.drop (d + 1)):=Nat.mul_pos (by omega) h1
   omega
  rw [tab_at hi,Option.bind_some,← Int.natCast_mul,wnat (by omega),show ((i : Int) - (((j + 1) * cnt (S.drop (d + 1)) : Nat) : Int)) = ((ix S ((dig S i).set d (s - (j + 1))) : Nat) : Int) by omega,wnat (by omega),tab_at hpl,Option.bind_some,Option.bind_some,if_pos rfl,if_neg hne,hg _ (by omega)]
  have hsb:=sg_bound (g:=fun k=>T S base ((dig S i).set d (s - 1 - k))) (B:=2000000000) (n:=j + 1) fun k hk=>T_bound _ hB hl hc
  have e : s - 1 - j = s - (j + 1):=by omega
  rw [sg] at hsb
  simp only [e] at hsb
  refine tot_some ⟨⟨j + 1,?_,by omega⟩,by simp only; rw [wid (n:=((j + 1 : Nat) : Int) + 1) (by omega) (by omega)]; omega⟩
  rw [wid (n:=((j + 1 : Nat) : Int) + 1) (by omega) (by omega),wid (by omega) (by omega)]
  refine Prod.ext rfl ?_
  simp only [goSet,Int.toNat_natCast,tab_set,impl_Cube.mk.injEq,true_and]
  refine tab_congr fun n hn=>?_
  by_cases hni : n = i
  ·simp only [hni,if_true,sg,e]
  ·simp [hni]
 ·have hlt : j = s:=by
   have:=of_decide_eq_false hc2
   omega
  subst hlt
  simp only [impl_Cube.mk.injEq,true_and]
  refine tab_congr fun n hn=>?_
  by_cases hni : n = i
  ·simp only [hni,if_true]
   exact (sg_rev (fun k=>T S base ((dig S i).set d k)) j).trans (T_add (dig_len S i) hs hd)
  ·simp [hni]

theorem goSub_drop {γ : Type} {l : List γ} {k : Nat} (h : k ≤ l.length) : goSub l (k : Int) (goLen l) = some (l.drop k):=by
 unfold goSub goLen
 rw [show (decide (0 ≤ (k : Int)) && decide ((k : Int) ≤ (l.length : Int)) && decide ((l.length : Int) ≤ (l.length : Int))) = true by simp; omega]
 simp
 exact List.take_of_length_le (by simp)

theorem up_drop (l : List Nat) (k : Nat) : (up l).drop k = up (l.drop k):=by simp [up]

theorem sweep {S : List Nat} (h : VC S) {base : List Int} (hB : Bnd base) (hl : base.length = rk S (cnt S)) {d s : Nat} (hs : S[d]? = some s) {c0 : impl_Cube} (hc0 : c0.Cells.length = cnt S) :
  loopC (impl_cubeOf_l4 (up S) (d : Int) c0 ((cnt (S.drop (d + 1)) : Nat) : Int)) (0,⟨up S,tab (cnt S) (sw S base d)⟩) = some ⟨up S,tab (cnt S) (sw S base (d + 1))⟩:=by
 have hc:=h.2
 have hl4:=h.1.l
 have hdS:=(List.getElem?_eq_some_iff.1 hs).1
 refine tot_eq ?_
 refine tot_loop (fun t=>∃ i : Nat,t = ((i : Int),⟨up S,tab (cnt S) fun j=>if j < i then sw S base (d + 1) j else sw S base d j⟩)∧i ≤ cnt S) (fun t=>3000 - t.1.toNat) ⟨0,by simp,by omega⟩ ?_
 rintro t ⟨i,rfl,hi⟩
 simp only [impl_cubeOf_l4]
 refine tot_cond (fun hc2=>?_) fun hc2=>tot_some ?_
 ·have hlt : i < cnt S:=by
   have:=of_decide_eq_true hc2
   simp only [goLen,hc0] at this
   omega
  have hdl : d < (dig S i).length:=by rw [dig_len]; exact hdS
  have hd : (dig S i)[d]? = some (dig S i)[d]:=by simp [hdl]
  have hle:=(dig_ok hlt).get hs hd
  generalize hx : (dig S i)[d] = x at hd hle
  rw [indexOf_eq h.1 hlt,Option.bind_some]
  refine tot_bind (Q:=fun r=>r = ⟨up S,tab (cnt S) fun j=>if j < i + 1 then sw S base (d + 1) j else sw S base d j⟩) ?_ fun r hr=>?_
  ·-- does anything turn?
   have hcond : (((goAt (up (dig S i)) (d : Int)).bind fun e_62=>((goAt (up S) (d : Int)).bind fun e_64=>(cond (e_62 != e_64) (some true) ((goSub (up S) (w64 ((d : Int) + 1)) (goLen (up S))).bind fun l_66=>((goSub (up (dig S i)) (w64 ((d : Int) + 1)) (goLen (up (dig S i)))).bind fun l_69=>((impl_isBase l_66 l_69).bind fun t_71=>some (!t_71))))))) : Option Bool) = some (!(decide (x = s) && isB (S.drop (d + 1)) ((dig S i).drop (d + 1)))):=by
    rw [up_at hd,up_at hs,Option.bind_some,Option.bind_some]
    by_cases hxs : x = s
    ·rw [show ((x : Int) != (s : Int)) = false by simp [hxs],cond_false,wid (n:=(d : Int) + 1) (by omega) (by omega),show ((d : Int) + 1) = ((d + 1 : Nat) : Int) by omega,goSub_drop (by rw [up_len]; omega),goSub_drop (by rw [up_len,dig_len]; omega),Option.bind_some,Option.bind_some,up_drop,up_drop,isBase_eq ((dig_ok hlt).drop (d + 1)) (by simp; omega),Option.bind_some]
     simp [hxs]
    ·rw [show ((x : Int) != (s : Int)) = true by simp; omega]
     simp [hxs]
   rw [hcond,Option.bind_some]
   have hother : ∀ j,j ≠ i→(if j < i + 1 then sw S base (d + 1) j else sw S base d j) = if j < i then sw S base (d + 1) j else sw S base d j:=by
    intro j hj
    have : (j < i + 1) ↔ j < i:=by omega
    simp [this]
   cases hb : (decide (x = s) && isB (S.drop (d + 1)) ((dig S i).drop (d + 1))) with
   | true =>
    simp only [Bool.and_eq_true,decide_eq_true_eq] at hb
    obtain ⟨hxs,hbd⟩:=hb
    subst hxs
    simp only [Bool.not_true,cond_false]
    rw [sw_inner h hB hl (g:=fun j=>if j < i then sw S base (d + 1) j else sw S base d j) hlt hs hd hbd (fun k hk=>by
     obtain ⟨p1,p2⟩:=sw_part (base:=base) hlt hs hk hbd
     split
     ·exact p2
     ·exact p1) (by
     simp only [Nat.lt_irrefl,if_false]
     unfold sw
     rw [isB_drop hs hd]
     simp),Option.bind_some]
    refine tot_some ?_
    simp only [impl_Cube.mk.injEq,true_and]
    refine tab_congr fun j hj=>?_
    by_cases hji : j = i
    ·subst hji
     rw [if_pos rfl,if_pos (by omega)]
     unfold sw
     rw [hbd]; simp
    ·rw [if_neg hji,hother j hji]
   | false =>
    simp only [Bool.not_false,cond_true]
    refine tot_some ?_
    simp only [impl_Cube.mk.injEq,true_and]
    refine tab_congr fun j hj=>?_
    by_cases hji : j = i
    ·subst hji
     rw [if_neg (by omega),if_pos (by omega)]
     unfold sw
     rw [isB_drop hs hd]
     by_cases hxs : x = s
     ·subst hxs
      simp only [decide_true,Bool.true_and] at hb
      rw [hb]; simp
     ·have : x < s:=by omega
      simp [this]
    ·exact (hother j hji).symm
  ·subst hr
   rw [wid (n:=(i : Int) + 1) (by omega) (by omega)]
   exact tot_some ⟨⟨i + 1,rfl,by omega⟩,by simp only; omega⟩
 ·have hlt : ¬ i < cnt S:=by
   have:=of_decide_eq_false hc2
   simp only [goLen,hc0] at this
   omega
  obtain rfl : i = cnt S:=by omega
  simp only [impl_Cube.mk.injEq,true_and]
  exact tab_congr fun j hj=>by simp [hj]

theorem sweeps {S : List Nat} (h : VC S) {base : List Int} (hB : Bnd base) (hl : base.length = rk S (cnt S)) :
  loopC (impl_cubeOf_l3 (up S) (up (strd S))) (0,⟨up S,tab (cnt S) (sw S base 0)⟩) = some ⟨up S,tab (cnt S) fun i=>T S base (dig S i)⟩:=by
 have hl4:=h.1.l
 refine tot_eq ?_
 refine tot_loop (fun t=>∃ d : Nat,t = ((d : Int),⟨up S,tab (cnt S) (sw S base d)⟩)∧d ≤ S.length) (fun t=>10 - t.1.toNat) ⟨0,rfl,by omega⟩ ?_
 rintro t ⟨d,rfl,hd⟩
 simp only [impl_cubeOf_l3]
 by_cases hlt : d < S.length
 ·have hs : S[d]? = some S[d]:=by simp [hlt]
  rw [up_lt (strd_get hs),cond_true,up_at (strd_get hs),Option.bind_some,sweep h hB hl hs (tab_len _ _),Option.bind_some,wid (n:=(d : Int) + 1) (by omega) (by omega)]
  exact tot_some ⟨⟨d + 1,rfl,by omega⟩,by simp only; omega⟩
 ·obtain rfl : d = S.length:=by omega
  rw [up_end (strd_len S),cond_false]
  refine tot_some ?_
  simp only [impl_Cube.mk.injEq,true_and]
  refine tab_congr fun i hi=>?_
  unfold sw
  rw [List.drop_of_length_le (Nat.le_refl _)]
  simp [isB]

def cubeT (S : List Nat) (base : List Int) : impl_Cube:=⟨up S,tab (cnt S) fun i=>T S base (dig S i)⟩

theorem impl_cubeOf_eq {S : List Nat} (h : VC S) {base : List Int} (hbl : base.length ≤ 1000000) : ∃ p : impl_Cube × Bool,impl_cubeOf (up S) base = some p∧(p.2 = true ↔ base.length = rk S (cnt S)∧Bnd base∧Bnd (cubeT S base).Cells)∧(p.2 = true→p.1 = cubeT S base)∧(p.2 = false→p.1 = ⟨[],[]⟩):=by
 have hc:=h.2
 obtain ⟨e1,e2⟩:=counts_up h
 unfold impl_cubeOf
 rw [clone_eq (by rw [up_len]; have:=h.1.l; omega),Option.bind_some,e1,Option.bind_some,goMake_ok (by omega) (by omega),Option.bind_some,count_base h (by simp),Option.bind_some]
 by_cases hl : base.length = rk S (cnt S)
 ·rw [show (((rk S (cnt S) : Nat) : Int) != goLen base) = false by simp [goLen,hl],cond_false]
  obtain ⟨b,eb,hb⟩:=areCubeValues_bis (l:=base) (by omega)
  rw [eb,Option.bind_some,Option.bind_some]
  cases b with
  | false =>
   refine ⟨_,rfl,?_,nofun,fun _=>rfl⟩
   simp only [Bool.false_eq_true,false_iff]
   exact fun hh=>by have:=hb.2 hh.2.1; cases this
  | true =>
   have hB : Bnd base:=hb.1 rfl
   simp only [Bool.not_true,cond_false]
   rw [tab_zero,fill_base h (by rw [tab_len]) hl,Option.bind_some,strides_eq h.1,Option.bind_some]
   rw [tab_congr (h:=sw S base 0) fun i hi=>by
    unfold sw
    simp only [List.drop_zero]
    by_cases hbi : bB S i = true
    ·rw [if_pos hbi,if_pos (show isB S (dig S i) = true from hbi),T_base hi hbi]
    ·rw [if_neg hbi,if_neg (show ¬ isB S (dig S i) = true from hbi)],sweeps h hB hl,Option.bind_some]
   obtain ⟨b2,eb2,hb2⟩:=areCubeValues_bis (l:=tab (cnt S) fun i=>T S base (dig S i)) (by rw [tab_len]; omega)
   rw [eb2,Option.bind_some]
   cases b2 with
   | false =>
    refine ⟨_,rfl,?_,nofun,fun _=>rfl⟩
    simp only [Bool.false_eq_true,false_iff]
    exact fun hh=>by have:=hb2.2 hh.2.2; cases this
   | true=>exact ⟨_,rfl,by simp only [true_iff]; exact ⟨hl,hB,hb2.1 rfl⟩,fun _=>rfl,nofun⟩
 ·rw [show (((rk S (cnt S) : Nat) : Int) != goLen base) = true by simp [goLen]; omega]
  refine ⟨_,rfl,?_,nofun,fun _=>rfl⟩
  simp only [Bool.false_eq_true,false_iff]
  exact fun hh=>hl hh.1

def mkm : List Nat→List Nat→Nat→List Nat
 | s :: S,x :: X,m=>(if m % 2 = 1 then s else x) :: mkm S X (m / 2)
 | _,_,_=>[]

theorem mkm_len : ∀ {S X : List Nat} (m : Nat),X.length = S.length→(mkm S X m).length = S.length
 | [],[],_,_=>rfl
 | s :: S,x :: X,m,h=>by simp [mkm,mkm_len (m / 2) (show X.length = S.length by simpa using h)]
 | [],_ :: _,_,h=>by simp at h
 | _ :: _,[],_,h=>by simp at h

theorem mkm_get : ∀ {S X : List Nat} {m d s x : Nat},S[d]? = some s→X[d]? = some x→(mkm S X m)[d]? = some (if (m / 2 ^ d) % 2 = 1 then s else x)
 | a :: S,b :: X,m,0,s,x,h1,h2=>by simp at h1 h2; subst h1 h2; simp [mkm]
 | a :: S,b :: X,m,d + 1,s,x,h1,h2=>by
  have:=mkm_get (S:=S) (X:=X) (m:=m / 2) (d:=d) (by simpa using h1) (by simpa using h2)
  simp only [mkm,List.getElem?_cons_succ,this]
  rw [Nat.div_div_eq_div_mul,Nat.pow_succ,Nat.mul_comm]
 | [],_,_,_,_,_,h1,_=>by simp at h1
 | _ :: _,[],_,_,_,_,_,h2=>by simp at h2

theorem mkm_ok : ∀ {S X : List Nat} {m : Nat},VX S X→VX S (mkm S X m)
 | [],[],_,_=>trivial
 | s :: S,x :: X,m,h=>⟨by have:=h.1; split <;> omega,mkm_ok h.2⟩
 | [],_ :: _,_,h=>h.elim
 | _ :: _,[],_,h=>h.elim

theorem sg_double (g : Nat→Int) : ∀ n,sg g (2 * n) = sg (fun m=>g (2 * m) + g (2 * m + 1)) n
 | 0=>rfl
 | n + 1=>by
  rw [show 2 * (n + 1) = 2 * n + 1 + 1 by omega,sg,sg,sg,sg_double g n]
  omega

theorem sg_mul (c : Int) (g : Nat→Int) : ∀ n,sg (fun k=>c * g k) n = c * sg g n
 | 0=>by simp [sg]
 | n + 1=>by rw [sg,sg,sg_mul c g n,Int.mul_add]

theorem masks : ∀ {S B X : List Nat},isB S B = true→B.length = S.length→X.length = S.length→sg (fun m=>if mkm S B m = X then (1 : Int) else 0) (2 ^ S.length) = if comp S B X = true then 1 else 0
 | [],[],[],_,_,_=>by simp [sg,mkm,comp]
 | s :: S,b :: B,x :: X,hb,h1,h2=>by
  simp only [isB,Bool.and_eq_true,decide_eq_true_eq] at hb
  have ih:=masks (S:=S) (B:=B) (X:=X) hb.2 (by simpa using h1) (by simpa using h2)
  rw [List.length_cons,Nat.pow_succ,Nat.mul_comm,sg_double]
  have e : ∀ m,(if mkm (s :: S) (b :: B) (2 * m) = x :: X then (1 : Int) else 0) + (if mkm (s :: S) (b :: B) (2 * m + 1) = x :: X then 1 else 0) = (if x = s ∨ b = x then 1 else 0) * (if mkm S B m = X then 1 else 0):=by
   intro m
   have e0 : mkm (s :: S) (b :: B) (2 * m) = b :: mkm S B m:=by
    simp only [mkm]
    rw [if_neg (by omega),show 2 * m / 2 = m by omega]
   have e1 : mkm (s :: S) (b :: B) (2 * m + 1) = s :: mkm S B m:=by
    simp only [mkm]
    rw [if_pos (by omega),show (2 * m + 1) / 2 = m by omega]
   rw [e0,e1]
   simp only [List.cons.injEq]
   by_cases hm : mkm S B m = X
   ·by_cases hx : x = s
    ·have : b ≠ x:=by omega
     simp [hm,hx]
     omega
    ·by_cases hbx : b = x
     ·have : ¬ s = x:=by omega
      simp [hm,hx,hbx,this]
     ·have : ¬ s = x:=by omega
      simp [hm,hx,hbx,this]
   ·simp [hm]
  rw [sg_congr fun m _=>e m,sg_mul,ih]
  simp only [comp,Bool.and_eq_true,Bool.or_eq_true,beq_iff_eq]
  by_cases hA : x = s ∨ b = x <;> by_cases hC : comp S B X = true <;> simp [hA,hC]
 | [],_ :: _,_,_,h1,_=>by simp at h1
 | [],[],_ :: _,_,_,h2=>by simp at h2
 | _ :: _,[],_,_,h1,_=>by simp at h1
 | _ :: _,_ :: _,[],_,_,h2=>by simp at h2

theorem shr_small {m d : Nat} (hm : m < 16) (hd : d < 4) : goShr .i64 (m : Int) (IntKind.wrap .u64 (d : Int)) = some ((m / 2 ^ d : Nat) : Int):=by
 have : ∀ (m : Fin 16) (d : Fin 4),goShr .i64 (m.1 : Int) (IntKind.wrap .u64 (d.1 : Int)) = some ((m.1 / 2 ^ d.1 : Nat) : Int):=by decide +kernel
 exact this ⟨m,hm⟩ ⟨d,hd⟩

theorem bit_small {m : Nat} (hm : m < 16) : (goBits .and .i64 (m : Int) 1 == 1) = decide (m % 2 = 1):=by
 have : ∀ (m : Fin 16),(goBits .and .i64 (m.1 : Int) 1 == 1) = decide (m.1 % 2 = 1):=by decide +kernel
 exact this ⟨m,hm⟩

theorem shl_small {d : Nat} (hd : d ≤ 4) : goShl .i64 1 (IntKind.wrap .u64 (d : Int)) = some ((2 ^ d : Nat) : Int):=by
 have : ∀ (d : Fin 5),goShl .i64 1 (IntKind.wrap .u64 (d.1 : Int)) = some ((2 ^ d.1 : Nat) : Int):=by decide +kernel
 exact this ⟨d,by omega⟩

theorem mask_loop {S X : List Nat} (hX : VX S X) (hl : S.length ≤ 4) {m : Nat} (hm : m < 2 ^ S.length) : loopC (spec_cbOf_l3 (up S) (m : Int) (up X)) (up X,0) = some (up (mkm S X m)):=by
 have hlen:=hX.len
 have hm16 : m < 16:=by
  have : 2 ^ S.length ≤ 2 ^ 4:=Nat.pow_le_pow_right (by omega) hl
  omega
 refine tot_eq ?_
 refine tot_loop (fun t=>∃ (d : Nat) (A : List Nat),t = (up A,(d : Int))∧d ≤ X.length∧A.length = X.length∧A.take d = (mkm S X m).take d∧A.drop d = X.drop d) (fun t=>10 - t.2.toNat) ⟨0,X,rfl,by omega,rfl,by simp,rfl⟩ ?_
 rintro t ⟨d,A,rfl,hd,hA,ht,hdr⟩
 simp only [spec_cbOf_l3]
 by_cases hlt : d < X.length
 ·have hx : X[d]? = some X[d]:=by simp [hlt]
  have hs : S[d]? = some (S[d]'(by omega)):=by simp [show d < S.length by omega]
  generalize X[d] = x at hx
  generalize S[d]'(by omega) = s at hs
  have hAd : A[d]? = some x:=by
   have h1:=congrArg (fun l=>l[0]?) hdr
   simp only [List.getElem?_drop,Nat.add_zero] at h1
   rw [h1]; exact hx
  have hmg:=mkm_get (m:=m) hs hx
  rw [up_lt hx,cond_true,shr_small hm16 (by omega),Option.bind_some,bit_small (by have:=Nat.div_le_self m (2 ^ d); omega),up_at hs]
  simp only [Option.bind_some]
  rw [up_at hAd]
  simp only [Option.bind_some,cond_some,goSet,Int.toNat_natCast,up_set]
  rw [wid (n:=(d : Int) + 1) (by omega) (by omega)]
  have e : (bif decide (m / 2 ^ d % 2 = 1) then up (A.set d s) else up A) = up (A.set d (if m / 2 ^ d % 2 = 1 then s else x)):=by
   by_cases hbit : m / 2 ^ d % 2 = 1
   ·simp [hbit]
   ·simp only [hbit,decide_false,cond_false,if_false]
    congr 1
    apply List.ext_getElem?
    intro j
    rw [List.getElem?_set]
    split
    ·rename_i hj
     subst hj
     simp [hA,hlt]
     exact (List.getElem?_eq_some_iff.1 hAd).2
    ·rfl
  rw [e]
  refine tot_some ⟨⟨d + 1,A.set d (if m / 2 ^ d % 2 = 1 then s else x),rfl,by omega,by simpa using hA,?_,?_⟩,by simp only; omega⟩
  ·rw [List.take_add_one,List.take_add_one,List.take_set_of_le (Nat.le_refl _),ht,hmg]
   simp [hA,hlt]
  ·rw [drop_set_succ]
   have:=congrArg (List.drop 1) hdr
   simpa [List.drop_drop] using this
 ·rw [up_end (by omega),cond_false]
  refine tot_some ?_
  rw [List.take_of_length_le (by omega),List.take_of_length_le (by rw [mkm_len m hlen]; omega)] at ht
  rw [ht]

def us (S : List Nat) (base : List Int) (X : List Nat) (k : Nat) : Int:=sg (fun j=>if comp S (dig S ((bs S (cnt S)).getD j 0)) X = true then ce base j else 0) k

theorem us_all {S : List Nat} {base : List Int} {X : List Nat} : us S base X (rk S (cnt S)) = T S base X:=by
 unfold us T
 suffices h : ∀ n m,n ≤ m→sg (fun j=>if comp S (dig S ((bs S m).getD j 0)) X = true then ce base j else 0) (rk S n) = sg (wt S base X) n from h _ _ (Nat.le_refl _)
 intro n
 induction n with
 | zero=>intro m _; rfl
 | succ n ih =>
  intro m hm
  rw [sg,← ih m (by omega),rk_succ]
  cases hb : bB S n with
  | false =>
   simp only [Bool.false_eq_true,if_false]
   unfold wt
   rw [if_neg (by rw [hb]; simp)]
   omega
  | true =>
   simp only [if_true]
   rw [sg]
   congr 1
   have hg : ∀ m,n + 1 ≤ m→(bs S m).getD (rk S n) 0 = n:=by
    intro m
    induction m with
    | zero=>intro h; omega
    | succ m ihm =>
     intro h
     by_cases hmn : m = n
     ·subst hmn
      rw [bs_succ,if_pos hb]
      unfold rk
      simp [List.getD_eq_getElem?_getD]
     ·have h1:=ihm (by omega)
      rw [bs_succ]
      split
      ·have h2:=rk_lt (S:=S) (i:=n) (n:=m) (by omega) hb
       unfold rk at h2 ⊢
       unfold rk at h1
       rw [List.getD_eq_getElem?_getD,List.getElem?_append_left h2,← List.getD_eq_getElem?_getD]
       exact h1
      ·exact h1
   rw [hg m (by omega)]
   unfold wt
   simp [hb]

theorem bs_get {S : List Nat} {k i n : Nat} (h : (bs S n)[k]? = some i) : i < n∧bB S i = true:=by
 have hm:=List.mem_of_getElem? h
 unfold bs at hm
 rw [List.mem_filter,List.mem_range] at hm
 exact hm

theorem us_bound {S : List Nat} {base : List Int} (X : List Nat) (hB : Bnd base) (hl : base.length = rk S (cnt S)) (hc : cnt S ≤ 2000) {k : Nat} (hk : k ≤ rk S (cnt S)) : -2000000000 ≤ us S base X k∧us S base X k ≤ 2000000000:=by
 have:=sg_bound (g:=fun j=>if comp S (dig S ((bs S (cnt S)).getD j 0)) X = true then ce base j else 0) (n:=k) (B:=1000000) fun j hj=>by
  split
  ·exact hB _ (ce_mem (by omega))
  ·omega
 have:=rk_le S (cnt S)
 unfold us
 omega

theorem mask_sum_le (S B X : List Nat) (n : Nat) : 0 ≤ sg (fun m=>if mkm S B m = X then (1 : Int) else 0) n∧sg (fun m=>if mkm S B m = X then (1 : Int) else 0) n ≤ n:=by
 induction n with
 | zero=>simp [sg]
 | succ n ih=>rw [sg]; split <;> omega

theorem cbOf_inner {S : List Nat} (h : VC S) {base : List Int} (hB : Bnd base) (hl : base.length = rk S (cnt S)) {k i : Nat} (hk : (bs S (cnt S))[k]? = some i) :
  loopC (spec_cbOf_l2 (up S) base (k : Int) (up (dig S i))) (0,⟨up S,tab (cnt S) fun c=>us S base (dig S c) k⟩) = some ⟨up S,tab (cnt S) fun c=>us S base (dig S c) (k + 1)⟩:=by
 have hc:=h.2
 have hl4:=h.1.l
 obtain ⟨hi,hb⟩:=bs_get hk
 have hkl : k < rk S (cnt S):=(List.getElem?_eq_some_iff.1 hk).1
 have hp : 2 ^ S.length ≤ 16:=by
  have : 2 ^ S.length ≤ 2 ^ 4:=Nat.pow_le_pow_right (by omega) hl4
  omega
 have hv:=hB _ (ce_mem (l:=base) (i:=k) (by omega))
 refine tot_eq ?_
 refine tot_loop (fun t=>∃ m : Nat,t = ((m : Int),⟨up S,tab (cnt S) fun c=>us S base (dig S c) k + ce base k * sg (fun m=>if mkm S (dig S i) m = dig S c then (1 : Int) else 0) m⟩)∧m ≤ 2 ^ S.length) (fun t=>20 - t.1.toNat) ⟨0,by simp [sg],Nat.zero_le _⟩ ?_
 rintro t ⟨m,rfl,hm⟩
 simp only [spec_cbOf_l2]
 rw [show goLen (up S) = (S.length : Int) by simp [goLen,up],shl_small hl4,Option.bind_some]
 refine tot_cond (fun hc2=>?_) fun hc2=>tot_some ?_
 ·have hlt : m < 2 ^ S.length:=Int.ofNat_lt.1 (of_decide_eq_true hc2)
  have hmk:=mkm_ok (m:=m) (dig_ok hi)
  have hix:=ix_lt hmk
  rw [own_eq (by rw [up_len,dig_len]; omega),Option.bind_some,mask_loop (dig_ok hi) hl4 hlt,Option.bind_some,ce_at (show k < base.length by omega),Option.bind_some,cbAt_eq h.1 hmk,Option.bind_some,tab_at hix]
  simp only [Option.bind_some]
  refine tot_some ⟨⟨m + 1,?_,by omega⟩,by simp only; rw [wid (n:=(m : Int) + 1) (by omega) (by omega)]; omega⟩
  rw [wid (n:=(m : Int) + 1) (by omega) (by omega)]
  refine Prod.ext rfl ?_
  simp only [goSet,Int.toNat_natCast,tab_set,impl_Cube.mk.injEq,true_and]
  refine tab_congr fun c hcc=>?_
  by_cases hce : c = ix S (mkm S (dig S i) m)
  ·rw [if_pos hce,hce,dig_ix hmk]
   have hu:=us_bound (S:=S) (base:=base) (mkm S (dig S i) m) hB hl hc (k:=k) (by omega)
   have hs:=mask_sum_le S (dig S i) (mkm S (dig S i) m) m
   have hmul : -(1000000 * 16) ≤ ce base k * sg (fun m_1=>if mkm S (dig S i) m_1 = mkm S (dig S i) m then (1 : Int) else 0) m∧ce base k * sg (fun m_1=>if mkm S (dig S i) m_1 = mkm S (dig S i) m then (1 : Int) else 0) m ≤ 1000000 * 16:=by
    generalize sg (fun m_1=>if mkm S (dig S i) m_1 = mkm S (dig S i) m then (1 : Int) else 0) m = z at hs ⊢
    have h1 : (ce base k * z).natAbs ≤ 1000000 * 16:=by
     rw [Int.natAbs_mul]
     exact Nat.mul_le_mul (by omega) (by omega)
    omega
   rw [wid (by omega) (by omega),sg,if_pos rfl,Int.mul_add]
   omega
  ·rw [if_neg hce,sg,if_neg]
   ·simp
   ·intro he
    rw [he,ix_dig hcc] at hce
    exact hce rfl
 ·have hlt : ¬ m < 2 ^ S.length:=fun h=>of_decide_eq_false hc2 (Int.ofNat_lt.2 h)
  obtain rfl : m = 2 ^ S.length:=by omega
  simp only [impl_Cube.mk.injEq,true_and]
  refine tab_congr fun c hcc=>?_
  rw [masks hb (dig_len S i) (dig_len S c)]
  unfold us
  rw [sg]
  have : (bs S (cnt S)).getD k 0 = i:=by simp [List.getD_eq_getElem?_getD,hk]
  rw [this]
  split <;> simp

theorem spec_cbOf_eq {S : List Nat} (h : VC S) {base : List Int} (hB : Bnd base) (hl : base.length = rk S (cnt S)) : spec_cbOf (up S) base = some (cubeT S base):=by
 have hc:=h.2
 obtain ⟨e1,e2⟩:=counts_up h
 have hrk:=rk_le S (cnt S)
 refine tot_eq ?_
 unfold spec_cbOf
 rw [own_eq (by rw [up_len]; have:=h.1.l; omega),Option.bind_some,e2,Option.bind_some,goMake_ok (by omega) (by omega),Option.bind_some,cbBase_eq h,Option.bind_some,tab_zero]
 refine tot_bind (Q:=fun r=>r = cubeT S base) ?_ fun r hr=>tot_some hr
 refine tot_loop (fun t=>∃ k : Nat,t = ((k : Int),⟨up S,tab (cnt S) fun c=>us S base (dig S c) k⟩)∧k ≤ rk S (cnt S)) (fun t=>3000 - t.1.toNat) ⟨0,rfl,by omega⟩ ?_
 rintro t ⟨k,rfl,hk⟩
 simp only [spec_cbOf_l1]
 by_cases hlt : k < rk S (cnt S)
 ·have hlt' : k < (bs S (cnt S)).length:=hlt
  have hx : (bs S (cnt S))[k]? = some ((bs S (cnt S))[k]'hlt'):=List.getElem?_eq_getElem hlt'
  generalize (bs S (cnt S))[k]'hlt' = i at hx
  rw [up_lt hx,cond_true,up_at hx,Option.bind_some,cbIndices_eq h.1 (bs_get hx).1,Option.bind_some,cbOf_inner h hB hl hx,Option.bind_some,wid (n:=(k : Int) + 1) (by omega) (by omega)]
  exact tot_some ⟨⟨k + 1,rfl,by omega⟩,by simp only; omega⟩
 ·obtain rfl : k = rk S (cnt S):=by omega
  rw [up_end (show (bs S (cnt S)).length = rk S (cnt S) from rfl),cond_false]
  refine tot_some ?_
  simp only [cubeT,impl_Cube.mk.injEq,true_and]
  exact tab_congr fun c hcc=>us_all

theorem cubeT_good {S : List Nat} (h : VC S) {base : List Int} : (∃ S',GoodC S' (cubeT S base)) ↔ Bnd (cubeT S base).Cells:=by
 constructor
 ·rintro ⟨S',hg⟩
  exact hg.bd
 ·intro hb
  refine ⟨S,⟨h,rfl,tab_len _ _,hb⟩,fun i hi=>?_⟩
  rintro ⟨d,s,hs,hd,hp⟩
  apply hp
  unfold parts
  simp only [cubeT]
  rw [ce_tab hi,sg_congr (h:=fun k=>T S base ((dig S i).set d k)) fun k hk=>by
   rw [ce_tab (part_lt hi hs (by omega)),dig_set hi hs (by omega)]]
  exact T_add (dig_len S i) hs hd

end Go.Gx.F
