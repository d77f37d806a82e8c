/- Plain laws: the cells of a cube and their indices. -/
import Derived.Test.YtmlegfogjdhhkaaGreatPDr

namespace Go.Gx.F

open Go.Gx

set_option linter.all false

def up (l : List Nat) : List Int:=l.map fun (n : Nat)=>(n : Int)

theorem up_len (l : List Nat) : (up l).length = l.length:=by simp [up]

theorem up_get {l : List Nat} {k x : Nat} (h : l[k]? = some x) : (up l)[k]? = some (x : Int):=by simp [up,h]

theorem up_at {l : List Nat} {k x : Nat} (h : l[k]? = some x) : goAt (up l) (k : Int) = some (x : Int):=at_ok (up_get h)

theorem up_lt {l : List Nat} {k x : Nat} (h : l[k]? = some x) : decide ((k : Int) < goLen (up l)) = true:=lt_ok (up_get h)

theorem up_end {l : List Nat} {n : Nat} (h : l.length = n) : decide ((n : Int) < goLen (up l)) = false:=by subst h; simp [goLen,up]

theorem up_set (l : List Nat) (k x : Nat) : (up l).set k (x : Int) = up (l.set k x):=by simp [up,List.map_set]

theorem up_inj {a b : List Nat} (h : up a = up b) : a = b:=by
 unfold up at h
 exact List.map_inj_right (fun _ _ h=>by omega) |>.1 h

theorem drop_cons {γ : Type} {l : List γ} {k : Nat} {x : γ} (h : l[k]? = some x) : l.drop k = x :: l.drop (k + 1):=by
 have hlt:=(List.getElem?_eq_some_iff.1 h).1
 have he:=(List.getElem?_eq_some_iff.1 h).2
 rw [List.drop_eq_getElem_cons hlt,he]

theorem set_drop_cons {γ : Type} {l : List γ} {k : Nat} {x : γ} (h : k < l.length) : (l.set k x).drop k = x :: l.drop (k + 1):=by
 have e : (l.set k x)[k]? = some x:=by simp [h]
 rw [drop_cons e]
 congr 1
 rw [List.drop_set_of_lt (by omega)]

def cnt : List Nat→Nat
 | []=>1
 | s :: S=>(s + 1) * cnt S

def strd : List Nat→List Nat
 | []=>[]
 | _ :: S=>cnt S :: strd S

def dig : List Nat→Nat→List Nat
 | [],_=>[]
 | _ :: S,i=>i / cnt S :: dig S (i % cnt S)

def ix : List Nat→List Nat→Nat
 | _ :: S,x :: X=>x * cnt S + ix S X
 | _,_=>0

def VX : List Nat→List Nat→Prop
 | [],[]=>True
 | s :: S,x :: X=>x ≤ s∧VX S X
 | _,_=>False

theorem cnt_pos : ∀ S : List Nat,0 < cnt S
 | []=>Nat.one_pos
 | s :: S=>Nat.mul_pos (Nat.succ_pos s) (cnt_pos S)

theorem cnt_le : ∀ {S : List Nat},(∀ s ∈ S,s ≤ 30)→cnt S ≤ 31 ^ S.length
 | [],_=>Nat.le_refl _
 | s :: S,h=>by
  have h1:=h s (by simp)
  have h2:=cnt_le fun x hx=>h x (List.mem_cons_of_mem _ hx)
  simp only [cnt,List.length_cons,Nat.pow_succ]
  rw [Nat.mul_comm (31 ^ S.length)]
  exact Nat.mul_le_mul (by omega) h2

theorem strd_len : ∀ S : List Nat,(strd S).length = S.length
 | []=>rfl
 | s :: S=>by simp [strd,strd_len S]

theorem dig_len : ∀ (S : List Nat) (i : Nat),(dig S i).length = S.length
 | [],_=>rfl
 | s :: S,i=>by simp [dig,dig_len S]

theorem VX.len : ∀ {S X : List Nat},VX S X→X.length = S.length
 | [],[],_=>rfl
 | s :: S,x :: X,h=>by simp [VX.len h.2]
 | [],_ :: _,h=>h.elim
 | _ :: _,[],h=>h.elim

theorem VX.get : ∀ {S X : List Nat},VX S X→∀ {k s x : Nat},S[k]? = some s→X[k]? = some x→x ≤ s
 | s :: S,x :: X,h,0,_,_,h1,h2=>by simp at h1 h2; subst h1 h2; exact h.1
 | s :: S,x :: X,h,k + 1,_,_,h1,h2=>VX.get h.2 (by simpa using h1) (by simpa using h2)
 | [],[],_,k,_,_,h1,_=>by simp at h1
 | [],_ :: _,h,_,_,_,_,_=>h.elim
 | _ :: _,[],h,_,_,_,_,_=>h.elim

theorem VX.of_get : ∀ {S X : List Nat},X.length = S.length→(∀ (k s x : Nat),S[k]? = some s→X[k]? = some x→x ≤ s)→VX S X
 | [],[],_,_=>trivial
 | s :: S,x :: X,hl,h=>⟨h 0 s x rfl rfl,VX.of_get (by simpa using hl) fun k a b h1 h2=>h (k + 1) a b (by simpa using h1) (by simpa using h2)⟩
 | [],_ :: _,hl,_=>by simp at hl
 | _ :: _,[],hl,_=>by simp at hl

theorem VX.set {S X : List Nat} (h : VX S X) {d s k : Nat} (hs : S[d]? = some s) (hk : k ≤ s) : VX S (X.set d k):=by
 refine VX.of_get (by simpa using h.len) fun j a b h1 h2=>?_
 rw [List.getElem?_set] at h2
 split at h2
 ·rename_i hj
  subst hj
  rw [hs] at h1
  split at h2
  ·simp at h1 h2; omega
  ·cases h2
 ·exact h.get h1 h2

theorem dig_ok : ∀ {S : List Nat} {i : Nat},i < cnt S→VX S (dig S i)
 | [],_,_=>trivial
 | s :: S,i,h=>by
  refine ⟨?_,dig_ok (Nat.mod_lt _ (cnt_pos S))⟩
  have : i / cnt S < s + 1:=(Nat.div_lt_iff_lt_mul (cnt_pos S)).2 h
  omega

theorem ix_dig : ∀ {S : List Nat} {i : Nat},i < cnt S→ix S (dig S i) = i
 | [],i,h=>by simp only [cnt] at h; simp only [dig,ix]; omega
 | s :: S,i,h=>by
  simp only [dig,ix]
  rw [ix_dig (Nat.mod_lt _ (cnt_pos S))]
  rw [Nat.mul_comm]
  exact Nat.div_add_mod i (cnt S)

theorem ix_lt : ∀ {S X : List Nat},VX S X→ix S X < cnt S
 | [],[],_=>Nat.one_pos
 | s :: S,x :: X,h=>by
  have h1:=ix_lt h.2
  have h2:=h.1
  simp only [ix,cnt]
  calc x * cnt S + ix S X < x * cnt S + cnt S:=by omega
   _ = (x + 1) * cnt S:=by rw [Nat.add_mul,Nat.one_mul]
   _ ≤ (s + 1) * cnt S:=Nat.mul_le_mul_right _ (by omega)
 | [],_ :: _,h=>h.elim
 | _ :: _,[],h=>h.elim

theorem dig_ix : ∀ {S X : List Nat},VX S X→dig S (ix S X) = X
 | [],[],_=>rfl
 | s :: S,x :: X,h=>by
  have h1:=ix_lt h.2
  simp only [ix,dig]
  rw [Nat.add_comm,Nat.add_mul_div_right _ _ (cnt_pos S),Nat.div_eq_of_lt h1,Nat.zero_add,Nat.add_mul_mod_self_right,Nat.mod_eq_of_lt h1,dig_ix h.2]
 | [],_ :: _,h=>h.elim
 | _ :: _,[],h=>h.elim

theorem strd_get : ∀ {S : List Nat} {d s : Nat},S[d]? = some s→(strd S)[d]? = some (cnt (S.drop (d + 1)))
 | a :: S,0,s,h=>by simp [strd]
 | a :: S,d + 1,s,h=>by simpa [strd] using strd_get (S:=S) (d:=d) (by simpa using h)
 | [],_,_,h=>by simp at h

theorem cnt_drop {S : List Nat} {d s : Nat} (h : S[d]? = some s) : cnt (S.drop d) = (s + 1) * cnt (S.drop (d + 1)):=by
 rw [drop_cons h]; rfl

theorem cnt_drop_le {S : List Nat} (h : ∀ s ∈ S,s ≤ 30) (hl : S.length ≤ 4) (d : Nat) : cnt (S.drop d) ≤ 923521:=by
 have h1:=cnt_le (S:=S.drop d) fun s hs=>h s (List.mem_of_mem_drop hs)
 have h2 : (S.drop d).length ≤ 4:=by simp; omega
 have : 31 ^ (S.drop d).length ≤ 31 ^ 4:=Nat.pow_le_pow_right (by omega) h2
 omega

theorem ix_set : ∀ {S X : List Nat} {d x y : Nat},X.length = S.length→X[d]? = some x→ix S (X.set d y) + x * cnt (S.drop (d + 1)) = ix S X + y * cnt (S.drop (d + 1))
 | s :: S,a :: X,0,x,y,_,h=>by
  simp at h; subst h
  simp only [List.set_cons_zero,ix,List.drop_succ_cons,List.drop_zero]
  omega
 | s :: S,a :: X,d + 1,x,y,hl,h=>by
  have:=ix_set (S:=S) (X:=X) (d:=d) (x:=x) (y:=y) (by simpa using hl) (by simpa using h)
  simp only [List.set_cons_succ,ix,List.drop_succ_cons]
  omega
 | [],[],_,_,_,_,h=>by simp at h
 | [],_ :: _,_,_,_,hl,_=>by simp at hl
 | _ :: _,[],_,_,_,hl,_=>by simp at hl

theorem dig_get : ∀ {S : List Nat} {i k s : Nat},i < cnt S→S[k]? = some s→(dig S i)[k]? = some (i % cnt (S.drop k) / cnt (S.drop (k + 1)))
 | a :: S,i,0,s,hi,h=>by
  simp only [dig,List.getElem?_cons_zero,List.drop_zero,List.drop_succ_cons]
  rw [Nat.mod_eq_of_lt hi]
 | a :: S,i,k + 1,s,hi,h=>by
  have hk : S[k]? = some s:=by simpa using h
  have:=dig_get (S:=S) (i:=i % cnt S) (Nat.mod_lt _ (cnt_pos S)) hk
  simp only [dig,List.getElem?_cons_succ,List.drop_succ_cons]
  rw [this]
  congr 2
  have hd : cnt (S.drop k) ∣ cnt S:=by
   clear this hk h hi
   induction k generalizing S with
   | zero=>exact Nat.dvd_refl _
   | succ k ih =>
    cases S with
    | nil=>exact Nat.dvd_refl _
    | cons b S=>exact Nat.dvd_trans (by simpa using ih (S:=S)) ⟨b + 1,by simp only [cnt]; rw [Nat.mul_comm]⟩
  exact Nat.mod_mod_of_dvd _ hd
 | [],_,_,_,_,h=>by simp at h

structure VS (S : List Nat) : Prop where
 l : S.length ≤ 4
 b : ∀ s ∈ S,1 ≤ s∧s ≤ 30

theorem VS.le {S : List Nat} (h : VS S) (d : Nat) : cnt (S.drop d) ≤ 923521:=cnt_drop_le (fun s hs=>(h.b s hs).2) h.l d

theorem VS.get {S : List Nat} (h : VS S) {d s : Nat} (hs : S[d]? = some s) : 1 ≤ s∧s ≤ 30:=h.b s (List.mem_of_getElem? hs)

theorem strides_eq {S : List Nat} (h : VS S) : impl_strides (up S) = some (up (strd S)):=by
 have hl:=h.l
 refine tot_eq ?_
 unfold impl_strides
 refine tot_bind (tot_make (n:=S.length) (Q:=fun l=>l = List.replicate S.length 0) (by simp [goLen,up]) (by omega) (by omega) rfl) fun l0 hl0=>?_
 subst hl0
 refine tot_bind (Q:=fun t=>t = up (strd S)) ?_ fun t ht=>tot_some ht
 rw [show goLen (up S) = (S.length : Int) by simp [goLen,up],wid (by omega) (by omega)]
 refine tot_loop (fun s=>∃ (p : Nat) (out : List Int),s = (out,((cnt (S.drop p) : Nat) : Int),(p : Int) - 1)∧p ≤ S.length∧out.length = S.length∧out.drop p = up (strd (S.drop p))) (fun s=>(s.2.2 + 1).toNat) ⟨S.length,List.replicate S.length 0,by simp [cnt],by omega,by simp,by simp [strd,up]⟩ ?_
 rintro s ⟨p,out,rfl,hp,ho,hd⟩
 simp only [impl_strides_l1]
 refine tot_cond (fun hc=>?_) fun hc=>tot_some ?_
 ·have hc' : 0 ≤ (p : Int) - 1:=by simpa using hc
  obtain ⟨q,rfl⟩ : ∃ q,p = q + 1:=⟨p - 1,by omega⟩
  rw [show ((q + 1 : Nat) : Int) - 1 = (q : Int) by omega]
  have hs : S[q]? = some (S[q]'(by omega)):=by simp [show q < S.length by omega]
  generalize S[q]'(by omega) = s at hs
  obtain ⟨b1,b2⟩:=h.get hs
  have c1:=h.le q
  have c2:=cnt_drop hs
  have c3:=h.le (q + 1)
  refine tot_bind (tot_at (Q:=fun _=>True) (by omega) (by omega) fun _ _ _=>trivial) fun _ _=>?_
  rw [up_at hs,Option.bind_some]
  refine tot_some ⟨⟨q,out.set q (cnt (S.drop (q + 1)) : Nat),?_,by omega,by simpa using ho,?_⟩,by simp only; rw [wid (by omega) (by omega)]; omega⟩
  ·rw [wid (n:=(s : Int) + 1) (by omega) (by omega),wid (n:=(q : Int) - 1) (by omega) (by omega),wid (by
    have : ((cnt (S.drop (q + 1)) : Nat) : Int) * (s + 1) = ((cnt (S.drop q) : Nat) : Int):=by rw [c2]; simp [Int.mul_comm]
    omega) (by
    have : ((cnt (S.drop (q + 1)) : Nat) : Int) * (s + 1) = ((cnt (S.drop q) : Nat) : Int):=by rw [c2]; simp [Int.mul_comm]
    omega)]
   congr 2
   rw [c2]
   simp [Int.mul_comm]
  ·rw [set_drop_cons (by omega),hd,drop_cons hs]
   rfl
 ·have hc' : ¬ 0 ≤ (p : Int) - 1:=by simpa using hc
  obtain rfl : p = 0:=by omega
  simpa using hd

theorem indexOf_eq {S : List Nat} (h : VS S) {i : Nat} (hi : i < cnt S) : impl_indexOf (up S) (i : Int) = some (up (dig S i)):=by
 have hl:=h.l
 have c0:=h.le 0
 simp only [List.drop_zero] at c0
 refine tot_eq ?_
 unfold impl_indexOf
 refine tot_bind (tot_make (n:=S.length) (Q:=fun l=>l = List.replicate S.length 0) (by simp [goLen,up]) (by omega) (by omega) rfl) fun l0 hl0=>?_
 subst hl0
 rw [strides_eq h,Option.bind_some]
 refine tot_bind (Q:=fun t=>t = up (dig S i)) ?_ fun t ht=>tot_some ht
 refine tot_loop (fun s=>∃ (k : Nat) (out : List Int),s = (((i % cnt (S.drop k) : Nat) : Int),out,(k : Int))∧k ≤ S.length∧out.length = S.length∧out.take k = (up (dig S i)).take k) (fun s=>S.length - s.2.2.toNat) ⟨0,List.replicate S.length 0,by simp [Nat.mod_eq_of_lt hi],by omega,by simp,by simp⟩ ?_
 rintro s ⟨k,out,rfl,hk,ho,ht⟩
 simp only [impl_indexOf_l1]
 refine tot_cond (fun hc=>?_) fun hc=>tot_some ?_
 ·have hlt : k < S.length:=by simp [goLen,up,strd_len] at hc; omega
  have hs : S[k]? = some S[k]:=by simp [hlt]
  have hw:=strd_get hs
  have hdg:=dig_get hi hs
  have p1:=cnt_pos (S.drop (k + 1))
  have p2:=cnt_pos (S.drop k)
  have l1:=h.le k
  have l2:=h.le (k + 1)
  have m1 : i % cnt (S.drop k) < cnt (S.drop k):=Nat.mod_lt _ p2
  rw [up_at hw,Option.bind_some]
  generalize hM : i % cnt (S.drop k) = M at *
  have hq : goQuo .i64 (M : Int) ((cnt (S.drop (k + 1)) : Nat) : Int) = some ((M / cnt (S.drop (k + 1)) : Nat) : Int):=by
   unfold goQuo
   rw [show (((cnt (S.drop (k + 1)) : Nat) : Int) == 0) = false by simp; omega,cond_false]
   congr 1
   rw [Int.tdiv_eq_ediv_of_nonneg (by omega),← Int.natCast_ediv]
   have : M / cnt (S.drop (k + 1)) ≤ M:=Nat.div_le_self _ _
   exact wnat (by omega)
  have hr : goRem (M : Int) ((cnt (S.drop (k + 1)) : Nat) : Int) = some ((M % cnt (S.drop (k + 1)) : Nat) : Int):=by
   unfold goRem
   rw [show (((cnt (S.drop (k + 1)) : Nat) : Int) == 0) = false by simp; omega,cond_false]
   congr 1
  rw [hq,Option.bind_some]
  refine tot_bind (tot_at (Q:=fun _=>True) (by omega) (by omega) fun _ _ _=>trivial) fun _ _=>?_
  rw [hr,Option.bind_some]
  refine tot_some ⟨⟨k + 1,out.set k ((M / cnt (S.drop (k + 1)) : Nat) : Int),?_,by omega,by simpa using ho,?_⟩,by simp only; rw [wid (by omega) (by omega)]; omega⟩
  ·rw [wid (by omega) (by omega)]
   congr 2
   rw [← hM,Nat.mod_mod_of_dvd]
   exact ⟨S[k] + 1,by rw [cnt_drop hs,Nat.mul_comm]⟩
  ·rw [List.take_add_one,List.take_add_one,List.take_set_of_le (Nat.le_refl _),ht,up_get hdg]
   simp [ho,hlt]
 ·have hlt : ¬ k < S.length:=by simp [goLen,up,strd_len] at hc; omega
  rw [List.take_of_length_le (by omega),List.take_of_length_le (by simp [up,dig_len]; omega)] at ht
  exact ht

theorem cbIndices_eq {S : List Nat} (h : VS S) {i : Nat} (hi : i < cnt S) : spec_cbIndices (up S) (i : Int) = some (up (dig S i)):=by
 have hl:=h.l
 have c0:=h.le 0
 simp only [List.drop_zero] at c0
 refine tot_eq ?_
 unfold spec_cbIndices
 refine tot_bind (tot_make (n:=S.length) (Q:=fun l=>l = List.replicate S.length 0) (by simp [goLen,up]) (by omega) (by omega) rfl) fun l0 hl0=>?_
 subst hl0
 refine tot_bind (Q:=fun t=>t = up (dig S i)) ?_ fun t ht=>tot_some ht
 rw [show goLen (up S) = (S.length : Int) by simp [goLen,up],wid (by omega) (by omega)]
 refine tot_loop (fun s=>∃ (p : Nat) (out : List Int),s = (((i / cnt (S.drop p) : Nat) : Int),out,(p : Int) - 1)∧p ≤ S.length∧out.length = S.length∧out.drop p = up ((dig S i).drop p)) (fun s=>(s.2.2 + 1).toNat) ⟨S.length,List.replicate S.length 0,by simp [cnt],by omega,by simp,by simp [up,dig_len]⟩ ?_
 rintro s ⟨p,out,rfl,hp,ho,hd⟩
 simp only [spec_cbIndices_l1]
 refine tot_cond (fun hc=>?_) fun hc=>tot_some ?_
 ·have hc' : 0 ≤ (p : Int) - 1:=by simpa using hc
  obtain ⟨q,rfl⟩ : ∃ q,p = q + 1:=⟨p - 1,by omega⟩
  rw [show ((q + 1 : Nat) : Int) - 1 = (q : Int) by omega]
  have hs : S[q]? = some (S[q]'(by omega)):=by simp [show q < S.length by omega]
  generalize S[q]'(by omega) = s at hs
  obtain ⟨b1,b2⟩:=h.get hs
  have c2:=cnt_drop hs
  have hdg:=dig_get hi hs
  rw [c2,Nat.mul_comm (s + 1),Nat.mod_mul_right_div_self] at hdg
  have p1:=cnt_pos (S.drop (q + 1))
  have hle : i / cnt (S.drop (q + 1)) ≤ i:=Nat.div_le_self _ _
  generalize hM : i / cnt (S.drop (q + 1)) = M at *
  have hle2 : M / (s + 1) ≤ M:=Nat.div_le_self _ _
  rw [up_at hs]
  simp only [Option.bind_some]
  rw [wid (n:=(s : Int) + 1) (by omega) (by omega)]
  have hq : goQuo .i64 (M : Int) ((s : Int) + 1) = some ((M / (s + 1) : Nat) : Int):=by
   unfold goQuo
   rw [show (((s : Int) + 1) == 0) = false by simp; omega,cond_false]
   congr 1
   rw [Int.tdiv_eq_ediv_of_nonneg (by omega),show ((s : Int) + 1) = ((s + 1 : Nat) : Int) by omega,← Int.natCast_ediv]
   exact wnat (by omega)
  have hr : goRem (M : Int) ((s : Int) + 1) = some ((M % (s + 1) : Nat) : Int):=by
   unfold goRem
   rw [show (((s : Int) + 1) == 0) = false by simp; omega,cond_false]
   rfl
  rw [hq,hr]
  simp only [Option.bind_some]
  refine tot_bind (tot_at (Q:=fun _=>True) (by omega) (by omega) fun _ _ _=>trivial) fun _ _=>?_
  refine tot_some ⟨⟨q,out.set q ((M % (s + 1) : Nat) : Int),?_,by omega,by simpa using ho,?_⟩,by simp only; rw [wid (by omega) (by omega)]; omega⟩
  ·rw [wid (n:=(q : Int) - 1) (by omega) (by omega)]
   congr 2
   rw [c2,Nat.mul_comm,← Nat.div_div_eq_div_mul,hM]
  ·rw [set_drop_cons (by omega),hd,drop_cons hdg]
   rfl
 ·have hc' : ¬ 0 ≤ (p : Int) - 1:=by simpa using hc
  obtain rfl : p = 0:=by omega
  simpa using hd

theorem ix_drop {S X : List Nat} {k s x : Nat} (hs : S[k]? = some s) (hx : X[k]? = some x) : ix (S.drop k) (X.drop k) = x * cnt (S.drop (k + 1)) + ix (S.drop (k + 1)) (X.drop (k + 1)):=by
 rw [drop_cons hs,drop_cons hx]; rfl

theorem VX.drop {S X : List Nat} (h : VX S X) (k : Nat) : VX (S.drop k) (X.drop k):=by
 refine VX.of_get (by simp [h.len]) fun j a b h1 h2=>?_
 rw [List.getElem?_drop] at h1 h2
 exact h.get h1 h2

theorem cbAt_eq {S X : List Nat} (h : VS S) (hX : VX S X) : spec_cbAt (up S) (up X) = some ((ix S X : Nat) : Int):=by
 have hl:=h.l
 have c0:=h.le 0
 simp only [List.drop_zero] at c0
 unfold spec_cbAt
 have key : ∀ (j k acc : Nat),k + j = S.length→(acc + 1) * cnt (S.drop k) ≤ 1000000→loopC (spec_cbAt_l1 (up S) (up X)) ((acc : Int),(k : Int)) = some ((acc * cnt (S.drop k) + ix (S.drop k) (X.drop k) : Nat) : Int):=by
  intro j
  induction j with
  | zero =>
   intro k acc hk _
   rw [loopC_eq]
   simp only [spec_cbAt_l1,up_end (show S.length = k by omega),cond_false]
   rw [List.drop_of_length_le (show S.length ≤ k by omega)]
   simp [ix,cnt]
  | succ j ih =>
   intro k acc hk hb
   have hlt : k < S.length:=by omega
   have hs : S[k]? = some S[k]:=by simp [hlt]
   have hx : X[k]? = some (X[k]'(by rw [hX.len]; exact hlt)):=by simp
   have e:=ix_drop hs hx
   have hxs:=hX.get hs hx
   have c2:=cnt_drop hs
   have hp:=cnt_pos (S.drop (k + 1))
   have hbs:=h.get hs
   rw [loopC_eq]
   simp only [spec_cbAt_l1,up_lt hs,cond_true,up_at hs,up_at hx,Option.bind_some]
   generalize X[k]'(by rw [hX.len]; exact hlt) = x at *
   generalize S[k] = s at *
   have hm : (acc * (s + 1) + x + 1) * cnt (S.drop (k + 1)) ≤ (acc + 1) * cnt (S.drop k):=by
    rw [c2,← Nat.mul_assoc]
    refine Nat.mul_le_mul_right _ ?_
    rw [Nat.add_mul acc 1]
    omega
   have hb2 : acc * (s + 1) + x + 1 ≤ 1000000:=by
    have : acc * (s + 1) + x + 1 ≤ (acc * (s + 1) + x + 1) * cnt (S.drop (k + 1)):=Nat.le_mul_of_pos_right _ hp
    omega
   have hb3 : acc * (s + 1) ≤ 1000000:=by omega
   rw [wid (n:=(s : Int) + 1) (by omega) (by omega),show ((s : Int) + 1) = ((s + 1 : Nat) : Int) by omega,← Int.natCast_mul,wid (n:=((acc * (s + 1) : Nat) : Int)) (by omega) (by omega),← Int.natCast_add,wid (n:=((acc * (s + 1) + x : Nat) : Int)) (by omega) (by omega),wid (n:=(k : Int) + 1) (by omega) (by omega)]
   rw [show ((k : Int) + 1) = ((k + 1 : Nat) : Int) by omega,ih (k + 1) _ (by omega) (by omega),e,c2]
   congr 2
   rw [Nat.add_mul,Nat.mul_assoc]
   omega
 have:=key S.length 0 0 (by omega) (by simp only [List.drop_zero]; omega)
 simp only [List.drop_zero,Nat.zero_add,Nat.zero_mul] at this
 rw [show ((0 : Nat) : Int) = 0 from rfl] at this
 rw [this]; rfl

end Go.Gx.F
