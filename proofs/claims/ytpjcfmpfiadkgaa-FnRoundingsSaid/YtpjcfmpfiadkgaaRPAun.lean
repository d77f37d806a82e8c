/- Plain laws: FnAudits. -/
import Derived.Test.YtpjcfmpfiadkgaaRPFld

namespace Go.Gx.F

open Go.Gx

set_option linter.all false

set_option maxRecDepth 10000

def Sz5 (x : List (List Int)) : Prop:=x.length ≤ 5∧∀ r ∈ x,r.length ≤ 5

theorem Two.sz5 {x : List (List Int)} (h : Two x) : Sz5 x:=⟨by have:=h.2.1; omega,fun r hr=>by have:=(h.2.2 r hr).2; omega⟩

theorem Sz5.sz {x : List (List Int)} (h : Sz5 x) : Sz x:=⟨by have:=h.1; omega,fun r hr=>by have:=h.2 r hr; omega⟩

structure Sup (n m : Nat) (x p : List (List Int)) : Prop where
 n1 : 1 ≤ n
 n8 : n ≤ 8
 m1 : 1 ≤ m
 m8 : m ≤ 8
 xs : Shp n m x
 ps : Shp n m p
 xb : ∀ i j,i < n→j < m→0 ≤ mt x i j∧mt x i j ≤ 1000
 pb : ∀ i j,i < n→j < m→0 ≤ mt p i j∧mt p i j ≤ 1

section

variable {n m : Nat} {x p : List (List Int)}

def nlo (x p : List (List Int)) : Nat→Nat→Int:=fun i j=>if mt p i j = 1 then 0 else mt x i j

def nhi (x p : List (List Int)) : Nat→Nat→Int:=fun i j=>if mt p i j = 1 then 100000 else mt x i j

structure Net (n m : Nat) (x p : List (List Int)) (t : impl_Transport) : Prop where
 rl : t.Rows.length = n
 cl : t.Cols.length = m
 lo : Shp n m t.Lo
 hi : Shp n m t.Hi
 rv : ∀ i,i < n→vc t.Rows i = sm m (mt x i)
 cv : ∀ j,j < m→vc t.Cols j = sm n (fun i=>mt x i j)
 lv : ∀ i j,i < n→j < m→mt t.Lo i j = nlo x p i j
 hv : ∀ i j,i < n→j < m→mt t.Hi i j = nhi x p i j

theorem Net.one {t t' : impl_Transport} (h : Net n m x p t) (h' : Net n m x p t') : t = t':=by
 have e1 : t.Rows = t'.Rows:=vc_ext (by rw [h.rl,h'.rl]) fun i hi=>by rw [h.rl] at hi; rw [h.rv i hi,h'.rv i hi]
 have e2 : t.Cols = t'.Cols:=vc_ext (by rw [h.cl,h'.cl]) fun i hi=>by rw [h.cl] at hi; rw [h.cv i hi,h'.cv i hi]
 have e3 : t.Lo = t'.Lo:=h.lo.ext h'.lo fun i j hi hj=>by rw [h.lv i j hi hj,h'.lv i j hi hj]
 have e4 : t.Hi = t'.Hi:=h.hi.ext h'.hi fun i j hi hj=>by rw [h.hv i j hi hj,h'.hv i j hi hj]
 cases t; cases t'
 simp only at e1 e2 e3 e4
 subst e1 e2 e3 e4
 rfl

theorem Sup.rb (hS : Sup n m x p) {i : Nat} (hi : i < n) : 0 ≤ sm m (mt x i)∧sm m (mt x i) ≤ 1000 * 20:=by
 have h1:=hS.m8
 have a1:=sm_nonneg (n:=m) (f:=mt x i) fun j hj=>(hS.xb i j hi hj).1
 have a2:=sm_bd8 (n:=m) (f:=mt x i) (B:=1000) (by omega) (by omega) fun j hj=>by have:=hS.xb i j hi hj; omega
 omega

theorem Sup.cb (hS : Sup n m x p) {j : Nat} (hj : j < m) : 0 ≤ sm n (fun i=>mt x i j)∧sm n (fun i=>mt x i j) ≤ 1000 * 20:=by
 have h1:=hS.n8
 have a1:=sm_nonneg (n:=n) (f:=fun i=>mt x i j) fun i hi=>(hS.xb i j hi hj).1
 have a2:=sm_bd8 (n:=n) (f:=fun i=>mt x i j) (B:=1000) (by omega) (by omega) fun i hi=>by have:=hS.xb i j hi hj; omega
 omega

theorem Net.tr {t : impl_Transport} (hS : Sup n m x p) (h : Net n m x p t) : Tr n m t :=
 ⟨h.rl,h.cl,hS.n1,hS.n8,hS.m1,hS.m8,h.lo,h.hi,fun i hi=>by rw [h.rv i hi]; have:=hS.rb hi; omega,fun j hj=>by rw [h.cv j hj]; have:=hS.cb hj; omega,fun i j hi hj=>by
  rw [h.lv i j hi hj,h.hv i j hi hj]
  have:=hS.xb i j hi hj
  unfold nlo nhi
  split <;> omega⟩

end

end Go.Gx.F
