/- Plain laws: matrices as lists of rows; searches. -/
import Derived.Test.YtpjcfmpfiadkgaaGreatSPFlw4

namespace Go.Gx.F

open Go.Gx

set_option linter.all false

def mt (x : List (List Int)) : Nat→Nat→Int:=fun i j=>(x.getD i []).getD j 0

def vc (l : List Int) : Nat→Int:=fun i=>l.getD i 0

structure Shp (n m : Nat) (x : List (List Int)) : Prop where
 len : x.length = n
 row : ∀ r ∈ x,r.length = m

def upd (x : List (List Int)) (i j : Nat) (v : Int) : List (List Int):=x.set i ((x.getD i []).set j v)

section

variable {n m i j : Nat} {x y : List (List Int)} {v : Int}

theorem vc_at {l : List Int} {i : Nat} (h : i < l.length) : l[i]? = some (vc l i):=by simp [vc,h]

theorem Shp.get (h : Shp n m x) (hi : i < n) : ∃ r,x[i]? = some r∧r ∈ x∧r.length = m∧(∀ j,vc r j = mt x i j)∧x.getD i [] = r:=by
 have hl:=h.len
 have hlt : i < x.length:=by omega
 refine ⟨x[i],by simp [hlt],List.getElem_mem hlt,h.row _ (List.getElem_mem hlt),fun j=>?_,?_⟩
 ·unfold vc mt
  simp [hlt]
 ·simp [hlt]

theorem Shp.el (h : Shp n m x) {r : List Int} (hr : x[i]? = some r) (hj : j < m) : r[j]? = some (mt x i j):=by
 have hlt:=(List.getElem?_eq_some_iff.1 hr).1
 have hl:=h.len
 obtain ⟨r',e,hm,hl2,hv,_⟩:=h.get (i:=i) (by omega)
 rw [hr] at e
 obtain rfl:=Option.some.inj e
 rw [← hv j]
 exact vc_at (by omega)

theorem Shp.upd (h : Shp n m x) (hi : i < n) : Shp n m (upd x i j v):=by
 refine ⟨by unfold F.upd; rw [List.length_set]; exact h.len,fun r hr=>?_⟩
 unfold F.upd at hr
 rcases List.mem_or_eq_of_mem_set hr with hr | rfl
 ·exact h.row r hr
 ·rw [List.length_set]
  obtain ⟨r,_,hm,hl,_,e⟩:=h.get hi
  rw [e]; exact hl

theorem mt_upd (h : Shp n m x) (hi : i < n) (hj : j < m) (a b : Nat) : mt (upd x i j v) a b = if a = i∧b = j then v else mt x a b:=by
 obtain ⟨r,e,hm,hl,hv,e2⟩:=h.get hi
 have hlen:=h.len
 unfold upd
 rw [e2]
 by_cases ha : a = i
 ·subst ha
  have e3 : (x.set a (r.set j v)).getD a [] = r.set j v:=by
   rw [List.getD_eq_getElem?_getD,List.getElem?_set_self (by omega)]; rfl
  have e4 : mt (x.set a (r.set j v)) a b = (r.set j v).getD b 0:=by unfold mt; rw [e3]
  rw [e4]
  by_cases hb : b = j
  ·subst hb
   rw [if_pos ⟨rfl,rfl⟩,List.getD_eq_getElem?_getD,List.getElem?_set_self (by omega)]; rfl
  ·rw [if_neg (fun hc=>hb hc.2),← hv b,List.getD_eq_getElem?_getD,List.getElem?_set_ne (fun hc=>hb hc.symm)]
   unfold vc
   rw [List.getD_eq_getElem?_getD]
 ·rw [if_neg (fun hc=>ha hc.1)]
  have e3 : (x.set i (r.set j v)).getD a [] = x.getD a []:=by
   rw [List.getD_eq_getElem?_getD,List.getElem?_set_ne (fun hc=>ha hc.symm),← List.getD_eq_getElem?_getD]
  unfold mt
  rw [e3]

theorem set_upd {r : List Int} (hr : x[i]? = some r) : x.set i (r.set j v) = upd x i j v:=by
 unfold upd
 rw [List.getD_eq_getElem?_getD,hr]; rfl

theorem Shp.ext (h : Shp n m x) (h' : Shp n m y) (he : ∀ i j,i < n→j < m→mt x i j = mt y i j) : x = y:=by
 apply List.ext_getElem?
 intro i
 by_cases hi : i < n
 ·obtain ⟨r,e,hm,hl,hv,_⟩:=h.get hi
  obtain ⟨r',e',hm',hl',hv',_⟩:=h'.get hi
  rw [e,e']
  congr 1
  apply List.ext_getElem?
  intro j
  by_cases hj : j < m
  ·rw [h.el e hj,h'.el e' hj,he i j hi hj]
  ·rw [List.getElem?_eq_none (by omega),List.getElem?_eq_none (by omega)]
 ·have h1:=h.len; have h2:=h'.len
  rw [List.getElem?_eq_none (by omega),List.getElem?_eq_none (by omega)]

theorem sm_take (l : List Int) : ∀ n,n ≤ l.length→sm n (vc l) = (l.take n).sum
 | 0,_=>by simp [sm]
 | n + 1,h=>by
  simp only [sm]
  rw [sm_take l n (by omega),List.take_succ,vc_at (by omega)]
  simp

theorem sum_sm (l : List Int) : l.sum = sm l.length (vc l):=by rw [sm_take l _ (Nat.le_refl _),List.take_length]

theorem Shp.sum (h : Shp n m x) {r : List Int} (hr : x[i]? = some r) : r.sum = sm m (mt x i):=by
 have hlt:=(List.getElem?_eq_some_iff.1 hr).1
 have hl:=h.len
 obtain ⟨r',e,hm,hl2,hv,_⟩:=h.get (i:=i) (by omega)
 rw [hr] at e
 obtain rfl:=Option.some.inj e
 rw [sum_sm,hl2]
 exact sm_congr fun j _=>hv j

theorem mt_aug (h : Shp n n x) {p q : Nat} (hp : p < n) (hq : q < n) (hne : p ≠ q) (s : Int) (a b : Nat) : mt (upd (upd x p q (mt x p q - s)) q p (mt x q p + s)) a b = augE (mt x) p q s a b:=by
 rw [mt_upd (h.upd hp) hq hp,mt_upd h hp hq]
 unfold augE
 by_cases h1 : a = p∧b = q
 ·obtain ⟨rfl,rfl⟩:=h1
  rw [if_neg (fun hc=>hne hc.1),if_pos ⟨rfl,rfl⟩,if_pos ⟨rfl,rfl⟩]
 ·by_cases h2 : a = q∧b = p
  ·obtain ⟨rfl,rfl⟩:=h2
   rw [if_pos ⟨rfl,rfl⟩,if_neg h1,if_pos ⟨rfl,rfl⟩]
  ·rw [if_neg h2,if_neg h1,if_neg h1,if_neg h2]

end

theorem augP_congr {s : Int} : ∀ {path : List Nat} {r r' : Nat→Nat→Int},(∀ a b,r a b = r' a b)→∀ a b,augP s r path a b = augP s r' path a b
 | [],_,_,h,a,b=>h a b
 | [_],_,_,h,a,b=>h a b
 | v0 :: v1 :: rest,r,r',h,a,b=>augP_congr (path:=v1 :: rest) (fun a b=>by unfold augE; rw [h]) a b

theorem Srch.push {N : Nat} {r : Nat→Nat→Int} {root : Nat→Prop} {back back' : Nat→Int} {ord : List Nat} (h : Srch N r root back ord) {u v : Nat} (hv : v < N) (hn : v ∉ ord) (hnr : ¬ root v) (hu : u ∈ ord) (hr : 0 < r u v)
  (hb : ∀ w,back' w = if w = v then (u : Int) else back w) : Srch N r root back' (ord ++ [v]):=by
 refine ⟨List.nodup_append.2 ⟨h.nod,by simp,fun a ha b hb'=>?_⟩,fun w hw=>?_,fun k w hk=>?_⟩
 ·obtain rfl:=List.mem_singleton.1 hb'
  rintro rfl
  exact hn ha
 ·rcases List.mem_append.1 hw with hw | hw
  ·exact h.lt w hw
  ·obtain rfl:=List.mem_singleton.1 hw; exact hv
 ·by_cases hkl : k < ord.length
  ·rw [List.getElem?_append_left hkl] at hk
   have hw : w ≠ v:=fun e=>hn (e ▸ List.mem_of_getElem? hk)
   rcases h.bk k w hk with h1 | ⟨h1,k',u',h2,h3,h4,h5⟩
   ·exact .inl h1
   ·exact .inr ⟨h1,k',u',h2,by rw [List.getElem?_append_left (by omega)]; exact h3,by rw [hb,if_neg hw]; exact h4,h5⟩
  ·rw [List.getElem?_append_right (by omega)] at hk
   have hlt:=(List.getElem?_eq_some_iff.1 hk).1
   simp at hlt
   have e0 : k - ord.length = 0:=by omega
   rw [e0] at hk
   simp at hk
   subst hk
   obtain ⟨i,hi⟩:=List.getElem?_of_mem hu
   have hil:=(List.getElem?_eq_some_iff.1 hi).1
   exact .inr ⟨hnr,i,u,by omega,by rw [List.getElem?_append_left hil]; exact hi,by rw [hb,if_pos rfl],hr⟩

theorem nd_len : ∀ (N : Nat) (l : List Nat),l.Nodup→(∀ v ∈ l,v < N)→l.length ≤ N
 | 0,l,_,h=>by
  cases l with
  | nil=>simp
  | cons a l=>exact absurd (h a (by simp)) (by omega)
 | N + 1,l,hn,h=>by
  by_cases hm : N ∈ l
  ·have h1:=nd_len N (l.erase N) (hn.erase N) fun v hv=>by
    have h2:=(hn.mem_erase_iff).1 hv
    have h3:=h v h2.2
    have h4:=h2.1
    omega
   rw [List.length_erase_of_mem hm] at h1
   omega
  ·have h1:=nd_len N l hn fun v hv=>by
    have h3:=h v hv
    have h4 : v ≠ N:=fun e=>hm (e ▸ hv)
    omega
   omega

theorem Srch.len {N : Nat} {r : Nat→Nat→Int} {root : Nat→Prop} {back : Nat→Int} {ord : List Nat} (h : Srch N r root back ord) : ord.length ≤ N:=nd_len N ord h.nod h.lt

end Go.Gx.F
