/- Plain laws: slices and differences of cubes. -/
import Derived.Test.YtmlegfogjdhhkaaGreatPCub4

namespace Go.Gx.F

open Go.Gx

set_option linter.all false

def oth (n d : Nat) : List Nat:=(List.range n).filter fun k=>decide (k ≠ d)

def sliceC (S : List Nat) (f : Nat→Int) (d i : Nat) : impl_Cube:=takeC S f (oth S.length d) (S.set d i)

theorem Equal_bis {a b : List Int} (hl : a.length ≤ 1000000) : Bis (slices_Equal_int_int a b) (a = b):=by
 unfold slices_Equal_int_int
 by_cases h : a.length = b.length
 ·rw [show (goLen a != goLen b) = false by simp [goLen,h],cond_false]
  refine bis_iff (bis_loop (l:=a) (fun k x=>b[k]? = some x) (fun k x hx=>?_) (by simp only [slices_Equal_int_int_l1,lt_end,cond_false])) ?_
  ·have hk:=(List.getElem?_eq_some_iff.1 hx).1
   have hy : b[k]? = some (b[k]'(by omega)):=by simp [show k < b.length by omega]
   generalize b[k]'(by omega) = y at hy
   simp only [slices_Equal_int_int_l1,lt_ok hx,at_ok hx,at_ok hy,cond_true,Option.bind_some]
   refine ⟨x == y,by rw [hy,beq_iff_eq]; exact ⟨fun h=>by rw [h],fun h=>(Option.some.inj h).symm⟩,?_⟩
   by_cases hxy : x = y
   ·subst hxy; simp [nx_ok hx (show a.length ≤ 9223372036854775807 by omega)]
   ·rw [show (x != y) = true by simpa using hxy,show (x == y) = false by simpa using hxy]; rfl
  ·constructor
   ·intro hh
    apply List.ext_getElem?
    intro k
    by_cases hk : k < a.length
    ·have hx : a[k]? = some a[k]:=by simp [hk]
     rw [hx,hh k _ hx]
    ·rw [List.getElem?_eq_none (by omega),List.getElem?_eq_none (by omega)]
   ·rintro rfl k x hx; exact hx
 ·rw [show (goLen a != goLen b) = true by simp [goLen]; omega]
  refine ⟨false,rfl,?_⟩
  simp only [Bool.false_eq_true,false_iff]
  exact fun e=>h (by rw [e])

def diffC (S : List Nat) (f g : Nat→Int) : impl_Cube:=⟨up S,tab (cnt S) fun i=>f i - g i⟩

theorem diff_loop {S : List Nat} {a b : impl_Cube} (ha : GoodC S a) (hb : GoodC S b) : loopC (impl_DifferenceOf_l1 b) (0,⟨up S,a.Cells⟩) = some (diffC S (ce a.Cells) (ce b.Cells)):=by
 have hc:=ha.vc.2
 refine tot_eq ?_
 refine tot_loop (fun s=>∃ k : Nat,s = ((k : Int),⟨up S,tab (cnt S) fun i=>if i < k then ce a.Cells i - ce b.Cells i else ce a.Cells i⟩)∧k ≤ cnt S) (fun s=>3000 - s.1.toNat) ⟨0,by simp only [Nat.not_lt_zero,if_false]; rw [← tab_ce ha.ln]; rfl,by omega⟩ ?_
 rintro s ⟨k,rfl,hk⟩
 simp only [impl_DifferenceOf_l1]
 refine tot_cond (fun hcc=>?_) fun hcc=>tot_some ?_
 ·have hlt : k < cnt S:=by
   have:=of_decide_eq_true hcc
   simp only [goLen,hb.ln] at this; omega
  rw [ce_at (by rw [hb.ln]; exact hlt),Option.bind_some,tab_at hlt,Option.bind_some,Option.bind_some,wid (n:=(k : Int) + 1) (by omega) (by omega)]
  have h1:=ha.bd _ (ce_mem (l:=a.Cells) (i:=k) (by rw [ha.ln]; exact hlt))
  have h2:=hb.bd _ (ce_mem (l:=b.Cells) (i:=k) (by rw [hb.ln]; exact hlt))
  refine tot_some ⟨⟨k + 1,?_,by omega⟩,by simp only; omega⟩
  refine Prod.ext rfl ?_
  simp only [goSet,Int.toNat_natCast,tab_set,impl_Cube.mk.injEq,true_and,Nat.lt_irrefl,if_false]
  rw [wid (by omega) (by omega)]
  refine tab_congr fun i hi=>?_
  by_cases hik : i = k
  ·subst hik; simp
  ·have : (i < k + 1) ↔ i < k:=by omega
   simp [hik,this]
 ·have hlt : ¬ k < cnt S:=by
   have:=of_decide_eq_false hcc
   simp only [goLen,hb.ln] at this; omega
  obtain rfl : k = cnt S:=by omega
  simp only [diffC,impl_Cube.mk.injEq,true_and]
  exact tab_congr fun i hi=>by simp [hi]

def left (S : List Nat) (f : Nat→Int) (d s k j : Nat) : Int :=
 f (ix S ((put S (oth S.length d) (dig (pick S (oth S.length d)) j)).set d s)) - sg (fun t=>f (ix S ((put S (oth S.length d) (dig (pick S (oth S.length d)) j)).set d t))) k

end Go.Gx.F
