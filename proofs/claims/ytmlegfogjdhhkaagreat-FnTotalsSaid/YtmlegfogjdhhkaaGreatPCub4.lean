/- Plain laws: cubes made,read and margined alike. -/
import Derived.Test.YtmlegfogjdhhkaaGreatPCub3

namespace Go.Gx.F

open Go.Gx

set_option linter.all false

def noCube : impl_Cube:=⟨[],[]⟩

theorem cbIf_eq (c : impl_Cube) : ∃ p : impl_Cube × Bool,spec_cbIf c = some p∧(p.2 = true ↔ ∃ S,GoodC S c)∧(p.2 = true→p.1 = c)∧(p.2 = false→p.1 = noCube):=by
 unfold spec_cbIf
 obtain ⟨b,e,hb⟩:=cbGood_bis c
 rw [e,Option.bind_some]
 cases b with
 | true=>exact ⟨_,rfl,by simp only [true_iff]; exact hb.1 rfl,fun _=>rfl,nofun⟩
 | false =>
  refine ⟨_,rfl,?_,nofun,fun _=>rfl⟩
  simp only [Bool.false_eq_true,false_iff]
  exact fun h=>by have:=hb.2 h; cases this

theorem pair_ext {p q : impl_Cube × Bool} (h : p.2 = q.2) (h1 : p.2 = true→p.1 = q.1) (h2 : p.2 = false→p.1 = q.1) : p = q:=by
 refine Prod.ext ?_ h
 cases hp : p.2 with
 | true=>exact h1 hp
 | false=>exact h2 hp

theorem IsCube_true {S : List Nat} {c : impl_Cube} (h : GoodC S c) : impl_IsCube c = some true:=by
 obtain ⟨b,e,hb⟩:=IsCube_bis c
 rw [e,hb.2 ⟨S,h⟩]

def bvals (S : List Nat) (f : Nat→Int) (n : Nat) : List Int:=(bs S n).map f

theorem BaseOf_ok {S : List Nat} {c : impl_Cube} (h : GoodC S c) : impl_BaseOf c = some (bvals S (ce c.Cells) (cnt S),true):=by
 have hc:=h.vc.2
 unfold impl_BaseOf
 rw [IsCube_true h,Option.bind_some]
 simp only [Bool.not_true,cond_false]
 have : impl_baseOf c = some (bvals S (ce c.Cells) (cnt S)):=by
  refine tot_eq ?_
  unfold impl_baseOf
  refine tot_bind (Q:=fun r=>r = bvals S (ce c.Cells) (cnt S)) ?_ fun r hr=>tot_some hr
  refine tot_loop (fun s=>∃ k : Nat,s = (bvals S (ce c.Cells) k,(k : Int))∧k ≤ cnt S) (fun s=>3000 - s.2.toNat) ⟨0,rfl,by omega⟩ ?_
  rintro s ⟨k,rfl,hk⟩
  simp only [impl_baseOf_l1]
  refine tot_cond (fun hc2=>?_) fun hc2=>tot_some ?_
  ·have hlt : k < cnt S:=by
    have:=of_decide_eq_true hc2
    simp only [goLen,h.ln] at this
    omega
   have hr:=rk_le S k
   rw [ce_at (by rw [h.ln]; exact hlt),Option.bind_some,h.sz,indexOf_eq h.vc.1 hlt,Option.bind_some,isBase_eq (dig_ok hlt) h.vc.1.l,Option.bind_some,wid (n:=(k : Int) + 1) (by omega) (by omega)]
   refine tot_bind (Q:=fun r=>r = bvals S (ce c.Cells) (k + 1)) (tot_cond (fun hb=>?_) fun hb=>tot_some ?_) fun r hr=>tot_some ?_
   ·refine tot_bind (tot_app (Q:=fun r=>r = bvals S (ce c.Cells) (k + 1)) (by unfold rk at hr; simp [bvals]; omega) ?_) fun r hr=>tot_some hr
    unfold bvals
    rw [bs_succ,if_pos (show bB S k = true from hb)]; simp
   ·unfold bvals
    rw [bs_succ,if_neg (show ¬ bB S k = true by rw [show bB S k = false from hb]; simp)]
   ·subst hr
    exact ⟨⟨k + 1,rfl,by omega⟩,by simp only; omega⟩
  ·have hlt : ¬ k < cnt S:=by
    have:=of_decide_eq_false hc2
    simp only [goLen,h.ln] at this
    omega
   obtain rfl : k = cnt S:=by omega
   rfl
 rw [this]; rfl

theorem bvals_base {S : List Nat} {base : List Int} (hl : base.length = rk S (cnt S)) : bvals S (ce (cubeT S base).Cells) (cnt S) = base:=by
 have key : ∀ n,n ≤ cnt S→bvals S (ce (cubeT S base).Cells) n = base.take (rk S n):=by
  intro n
  induction n with
  | zero=>intro _; simp [bvals,bs,rk]
  | succ n ih =>
   intro hn
   have h1:=ih (by omega)
   unfold bvals at h1 ⊢
   rw [bs_succ,rk_succ]
   cases hb : bB S n with
   | false=>simpa using h1
   | true =>
    have hr:=rk_lt (S:=S) (i:=n) (n:=cnt S) (by omega) hb
    have hx : base[rk S n]? = some (base[rk S n]'(by omega)):=by simp [show rk S n < base.length by omega]
    simp only [if_true,List.map_append,h1,List.map_cons,List.map_nil]
    rw [List.take_add_one,hx]
    congr 1
    simp only [Option.toList_some,List.cons.injEq,and_true,cubeT]
    rw [ce_tab (by omega),T_base (by omega) hb]
    simp [ce,List.getD_eq_getElem?_getD,hx]
 rw [key _ (Nat.le_refl _),← hl,List.take_length]

def put : List Nat→List Nat→List Nat→List Nat
 | F,d :: D,y :: Y=>put (F.set d y) D Y
 | F,_,_=>F

def pick (S D : List Nat) : List Nat:=D.map fun d=>S.getD d 0

structure RD (n : Nat) (D : List Nat) : Prop where
 lt : ∀ d ∈ D,d < n
 pw : D.Pairwise (· < ·)

def takeC (S : List Nat) (f : Nat→Int) (D F : List Nat) : impl_Cube:=⟨up (pick S D),tab (cnt (pick S D)) fun i=>f (ix S (put F D (dig (pick S D) i)))⟩

def Rise (n : Nat) (dims : List Int) : Prop:=∀ (k : Nat) (x : Int),dims[k]? = some x→(0 ≤ x∧x < n)∧∀ y,0 < k→dims[k - 1]? = some y→y < x

theorem Rise.rd {n : Nat} {dims : List Int} (h : Rise n dims) : ∃ D,dims = up D∧RD n D:=by
 refine ⟨dims.map Int.toNat,(up_toNat fun v hv=>?_).symm,fun d hd=>?_,?_⟩
 ·obtain ⟨k,hk⟩:=List.getElem?_of_mem hv
  exact (h k v hk).1.1
 ·obtain ⟨v,hv,rfl⟩:=List.mem_map.1 hd
  obtain ⟨k,hk⟩:=List.getElem?_of_mem hv
  have:=(h k v hk).1
  omega
 ·rw [List.pairwise_map]
  have key : ∀ (j i : Nat) (x y : Int),i < j→dims[i]? = some x→dims[j]? = some y→x < y:=by
   intro j
   induction j with
   | zero=>intro i x y hi; omega
   | succ j ih =>
    intro i x y hi hx hy
    have hj : j < dims.length:=by have:=(List.getElem?_eq_some_iff.1 hy).1; omega
    have hz : dims[j]? = some dims[j]:=by simp [hj]
    have h1:=(h (j + 1) y hy).2 dims[j] (by omega) hz
    by_cases hij : i = j
    ·subst hij
     rw [hz] at hx
     obtain rfl:=Option.some.inj hx
     exact h1
    ·have:=ih i x _ (by omega) hx hz
     omega
  rw [List.pairwise_iff_getElem]
  intro i j hi hj hij
  have h1:=key j i dims[i] dims[j] hij (by simp [hi]) (by simp [hj])
  have h2:=(h i dims[i] (by simp [hi])).1
  omega

end Go.Gx.F
