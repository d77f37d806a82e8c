/- Plain laws: a matrix changed along a path; a flow with other bounds at one element; least values by halving. -/
import Derived.Test.YtpjcfmpfiadkgaaGreatSPFlw5

namespace Go.Gx.F

open Go.Gx

set_option linter.all false

def tt : Nat→Nat→Bool:=fun _ _=>true

def stX (n : Nat) (x : Nat→Nat→Int) (u v : Nat) (s : Int) : Nat→Nat→Int:=fun a b=>if n ≤ v then (if a = u∧b = v - n then x a b + s else x a b) else (if a = v∧b = u - n then x a b - s else x a b)

def Opp (n : Nat) : List Nat→Prop
 | v0 :: v1 :: rest=>((v1 < n∧n ≤ v0) ∨ (v0 < n∧n ≤ v1))∧Opp n (v1 :: rest)
 | _=>True

def xP (n : Nat) (s : Int) : (Nat→Nat→Int)→List Nat→Nat→Nat→Int
 | x,v0 :: v1 :: rest=>xP n s (stX n x v1 v0 s) (v1 :: rest)
 | x,_=>x

section

variable {n m : Nat} {lo hi x : Nat→Nat→Int}

theorem rsd_tt_up {u v : Nat} (h1 : u < n) (h2 : n ≤ v) : rsd n lo hi x tt u v = hi u (v - n) - x u (v - n):=by
 unfold rsd tt
 rw [if_pos ⟨h1,h2⟩,if_pos rfl]

theorem rsd_tt_dn {u v : Nat} (h1 : v < n) (h2 : n ≤ u) : rsd n lo hi x tt u v = x v (u - n) - lo v (u - n):=by
 unfold rsd tt
 rw [if_neg (by omega),if_pos ⟨h1,h2⟩,if_pos rfl]

theorem rsd_tt_0 {u v : Nat} (h : ¬ ((u < n∧n ≤ v) ∨ (v < n∧n ≤ u))) : rsd n lo hi x tt u v = 0:=by
 unfold rsd
 rw [if_neg (by omega),if_neg (by omega)]

theorem rsd_st {u v : Nat} {s : Int} (h : (u < n∧n ≤ v) ∨ (v < n∧n ≤ u)) (i j : Nat) : rsd n lo hi (stX n x u v s) tt i j = augE (rsd n lo hi x tt) u v s i j:=by
 unfold augE
 by_cases h1 : i < n∧n ≤ j
 ·rw [rsd_tt_up h1.1 h1.2,rsd_tt_up h1.1 h1.2]
  rcases h with h | h
  ·by_cases h2 : i = u∧j = v
   ·rw [if_pos h2]
    obtain ⟨rfl,rfl⟩:=h2
    unfold stX
    rw [if_pos h.2,if_pos ⟨rfl,rfl⟩]; omega
   ·rw [if_neg h2,if_neg (by omega)]
    unfold stX
    rw [if_pos h.2,if_neg (by omega)]
  ·rw [if_neg (by omega)]
   by_cases h2 : i = v∧j = u
   ·rw [if_pos h2]
    obtain ⟨rfl,rfl⟩:=h2
    unfold stX
    rw [if_neg (by omega),if_pos ⟨rfl,rfl⟩]; omega
   ·rw [if_neg h2]
    unfold stX
    rw [if_neg (by omega),if_neg (by omega)]
 ·by_cases h1' : j < n∧n ≤ i
  ·rw [rsd_tt_dn h1'.1 h1'.2,rsd_tt_dn h1'.1 h1'.2]
   rcases h with h | h
   ·rw [if_neg (by omega)]
    by_cases h2 : i = v∧j = u
    ·rw [if_pos h2]
     obtain ⟨rfl,rfl⟩:=h2
     unfold stX
     rw [if_pos h.2,if_pos ⟨rfl,rfl⟩]; omega
    ·rw [if_neg h2]
     unfold stX
     rw [if_pos h.2,if_neg (by omega)]
   ·by_cases h2 : i = u∧j = v
    ·rw [if_pos h2]
     obtain ⟨rfl,rfl⟩:=h2
     unfold stX
     rw [if_neg (by omega),if_pos ⟨rfl,rfl⟩]; omega
    ·rw [if_neg h2,if_neg (by omega)]
     unfold stX
     rw [if_neg (by omega),if_neg (by omega)]
  ·rw [rsd_tt_0 (by omega),rsd_tt_0 (by omega),if_neg (by omega),if_neg (by omega)]

theorem opp_of : ∀ {path : List Nat},EdgesOk (rsd n lo hi x tt) 1 path→Opp n path
 | [],_=>trivial
 | [_],_=>trivial
 | v0 :: v1 :: rest,h=>by
  refine ⟨?_,opp_of h.2⟩
  by_cases hc : (v1 < n∧n ≤ v0) ∨ (v0 < n∧n ≤ v1)
  ·exact hc
  ·have h1:=h.1
   rw [rsd_tt_0 hc] at h1
   omega

theorem rsd_xP {s : Int} : ∀ {path : List Nat} {x : Nat→Nat→Int},Opp n path→∀ i j,rsd n lo hi (xP n s x path) tt i j = augP s (rsd n lo hi x tt) path i j
 | [],_,_,_,_=>rfl
 | [_],_,_,_,_=>rfl
 | v0 :: v1 :: rest,x,h,i,j=>by
  show rsd n lo hi (xP n s (stX n x v1 v0 s) (v1 :: rest)) tt i j = augP s (augE (rsd n lo hi x tt) v1 v0 s) (v1 :: rest) i j
  rw [rsd_xP h.2]
  exact augP_congr (fun a b=>rsd_st h.1 a b) i j

theorem xP_ok (hl : ∀ i j,i < n→j < m→lo i j ≤ x i j) (hh : ∀ i j,i < n→j < m→x i j ≤ hi i j) {path : List Nat} {a b : Nat} {s : Int} (hs : 0 ≤ s) (hnd : path.Nodup) (hlt : ∀ v ∈ path,v < n + m) (he1 : EdgesOk (rsd n lo hi x tt) 1 path) (he : EdgesOk (rsd n lo hi x tt) s path)
  (hb : path.head? = some (n + b)) (ha : path.getLast? = some a) (han : a < n) (hbm : b < m) :
  (∀ i j,i < n→j < m→lo i j ≤ xP n s x path i j∧xP n s x path i j ≤ hi i j)∧(∀ i,i < n→sm m (xP n s x path i) = sm m (x i) + if i = a then s else 0)∧(∀ j,j < m→sm n (fun i=>xP n s x path i j) = sm n (fun i=>x i j) + if j = b then s else 0):=by
 have hnn : ∀ u v,u < n + m→v < n + m→0 ≤ rsd n lo hi x tt u v:=rsd_nn (fun i j h1 h2 _=>hl i j h1 h2) fun i j h1 h2 _=>hh i j h1 h2
 have hR:=(Res.start (a:=a) (b:=n + b) hnn).aug hs hnd hlt he hb ha
 rw [Int.zero_add] at hR
 obtain ⟨h1,_,h3,h4⟩:=dlt_ok hR
 have hopp:=opp_of he1
 have hd : ∀ i j,i < n→dlt n lo hi x tt (augP s (rsd n lo hi x tt) path) i j = xP n s x path i j - x i j:=fun i j hi'=>by
  unfold dlt
  rw [← rsd_xP hopp,rsd_tt_up hi' (by omega),rsd_tt_up hi' (by omega),show n + j - n = j by omega]
  omega
 refine ⟨fun i j hi' hj=>?_,fun i hi'=>?_,fun j hj=>?_⟩
 ·have:=h1 i j hi' hj rfl
  rw [hd i j hi'] at this
  omega
 ·have e:=h3 i hi'
  rw [sm_congr (g:=fun j=>xP n s x path i j - x i j) fun j _=>hd i j hi',sm_sub,if_neg (show ¬ i = n + b by omega)] at e
  have e2 : sm m (xP n s x path i) = sm m (fun j=>xP n s x path i j):=rfl
  have e3 : sm m (x i) = sm m (fun j=>x i j):=rfl
  omega
 ·have e:=h4 j hj
  rw [sm_congr (g:=fun i=>xP n s x path i j - x i j) fun i hi'=>hd i j hi',sm_sub,if_neg (show ¬ n + j = a by omega)] at e
  by_cases hjb : j = b
  ·rw [if_pos (by omega)] at e; rw [if_pos hjb]; omega
  ·rw [if_neg (by omega)] at e; rw [if_neg hjb]; omega

theorem fl_with {R C : Nat→Int} {lo' hi' y : Nat→Nat→Int} {i j : Nat} {l h : Int} (hi1 : i < n) (hj1 : j < m) (hl : lo i j ≤ l) (hh : h ≤ hi i j) (el : ∀ a b,lo' a b = if a = i∧b = j then l else lo a b) (eh : ∀ a b,hi' a b = if a = i∧b = j then h else hi a b) :
  IsFl n m R C lo' hi' y ↔ IsFl n m R C lo hi y∧l ≤ y i j∧y i j ≤ h:=by
 constructor
 ·intro hy
  have h1:=hy.lo i j hi1 hj1
  have h2:=hy.hi i j hi1 hj1
  rw [el,if_pos ⟨rfl,rfl⟩] at h1
  rw [eh,if_pos ⟨rfl,rfl⟩] at h2
  refine ⟨⟨fun a b ha hb=>?_,fun a b ha hb=>?_,hy.row,hy.col⟩,h1,h2⟩
  ·have:=hy.lo a b ha hb
   rw [el] at this
   by_cases hc : a = i∧b = j
   ·rw [if_pos hc] at this; obtain ⟨rfl,rfl⟩:=hc; omega
   ·rw [if_neg hc] at this; exact this
  ·have:=hy.hi a b ha hb
   rw [eh] at this
   by_cases hc : a = i∧b = j
   ·rw [if_pos hc] at this; obtain ⟨rfl,rfl⟩:=hc; omega
   ·rw [if_neg hc] at this; exact this
 ·rintro ⟨hy,h1,h2⟩
  refine ⟨fun a b ha hb=>?_,fun a b ha hb=>?_,hy.row,hy.col⟩
  ·rw [el]
   by_cases hc : a = i∧b = j
   ·rw [if_pos hc]; obtain ⟨rfl,rfl⟩:=hc; exact h1
   ·rw [if_neg hc]; exact hy.lo a b ha hb
  ·rw [eh]
   by_cases hc : a = i∧b = j
   ·rw [if_pos hc]; obtain ⟨rfl,rfl⟩:=hc; exact h2
   ·rw [if_neg hc]; exact hy.hi a b ha hb

def Lst (F : (Nat→Nat→Int)→Prop) (i j : Nat) (v : Int) : Prop:=(∃ y,F y∧y i j = v)∧∀ y,F y→v ≤ y i j

def Gst (F : (Nat→Nat→Int)→Prop) (i j : Nat) (v : Int) : Prop:=(∃ y,F y∧y i j = v)∧∀ y,F y→y i j ≤ v

theorem Lst.one {F : (Nat→Nat→Int)→Prop} {i j : Nat} {v w : Int} (h : Lst F i j v) (h' : Lst F i j w) : v = w:=by
 obtain ⟨⟨y,h1,h2⟩,h3⟩:=h
 obtain ⟨⟨z,g1,g2⟩,g3⟩:=h'
 have:=h3 z g1; have:=g3 y h1
 omega

theorem Gst.one {F : (Nat→Nat→Int)→Prop} {i j : Nat} {v w : Int} (h : Gst F i j v) (h' : Gst F i j w) : v = w:=by
 obtain ⟨⟨y,h1,h2⟩,h3⟩:=h
 obtain ⟨⟨z,g1,g2⟩,g3⟩:=h'
 have:=h3 z g1; have:=g3 y h1
 omega

theorem low_is {R C : Nat→Int} {i j : Nat} {ok : Nat→Nat→Bool} (hx : IsFl n m R C lo hi x) (hi1 : i < n) (hj1 : j < m) (hok : ok i j = false) {r : Nat→Nat→Int} {w : Int} (hw0 : 0 ≤ w) (hw : w ≤ x i j - lo i j) (h : Res (n + m) (rsd n lo hi x ok) r i (n + j) w)
  (hmax : w = x i j - lo i j ∨ ∀ v g,FlowN (n + m) (rsd n lo hi x ok) i (n + j) v g→v ≤ w) :
  Lst (fun y=>IsFl n m R C lo hi y∧∀ a b,a < n→b < m→ok a b = false→¬ (a = i∧b = j)→y a b = x a b) i j (x i j - w):=by
 have hhi:=hx.hi i j hi1 hj1
 obtain ⟨g1,g2,g3⟩:=moved_flow hx hi1 hj1 hok (z:=-w) (by omega) (by omega) h (.inl ⟨rfl,rfl,rfl⟩)
 refine ⟨⟨_,⟨g1,g3⟩,by rw [g2]; omega⟩,fun y ⟨hy,hag⟩=>?_⟩
 rcases hmax with hm | hm
 ·have:=hy.lo i j hi1 hj1; omega
 ·exact low_bound hx hi1 hj1 hok hy hag hm

theorem high_is {R C : Nat→Int} {i j : Nat} {ok : Nat→Nat→Bool} (hx : IsFl n m R C lo hi x) (hi1 : i < n) (hj1 : j < m) (hok : ok i j = false) {r : Nat→Nat→Int} {w : Int} (hw0 : 0 ≤ w) (hw : w ≤ hi i j - x i j) (h : Res (n + m) (rsd n lo hi x ok) r (n + j) i w)
  (hmax : w = hi i j - x i j ∨ ∀ v g,FlowN (n + m) (rsd n lo hi x ok) (n + j) i v g→v ≤ w) :
  Gst (fun y=>IsFl n m R C lo hi y∧∀ a b,a < n→b < m→ok a b = false→¬ (a = i∧b = j)→y a b = x a b) i j (x i j + w):=by
 have hlo:=hx.lo i j hi1 hj1
 obtain ⟨g1,g2,g3⟩:=moved_flow hx hi1 hj1 hok (z:=w) (by omega) (by omega) h (.inr ⟨rfl,rfl,rfl⟩)
 refine ⟨⟨_,⟨g1,g3⟩,g2⟩,fun y ⟨hy,hag⟩=>?_⟩
 rcases hmax with hm | hm
 ·have:=hy.hi i j hi1 hj1; omega
 ·exact high_bound hx hi1 hj1 hok hy hag hm

end

end Go.Gx.F
