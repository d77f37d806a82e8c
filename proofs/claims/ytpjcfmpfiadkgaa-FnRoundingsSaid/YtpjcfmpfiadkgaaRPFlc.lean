/- Plain laws: whether the program finds a flow; next flows; how many there are. -/
import Derived.Test.YtpjcfmpfiadkgaaRPFlb

namespace Go.Gx.F

open Go.Gx

set_option linter.all false

set_option maxRecDepth 10000

section

variable {n m : Nat} {t : impl_Transport} {x : List (List Int)}

theorem mt_of {r : List (List Int)} {u : Nat} {row : List Int} (h : r[u]? = some row) (v : Nat) : mt r u v = vc row v:=by
 unfold mt vc
 rw [List.getD_eq_getElem?_getD (l:=r),h]; rfl

theorem copy_row {N k : Nat} {row : List Int} (hk : row.length = k) (h0 : 0 < k) (hkN : k ≤ N) : ∃ y,goCopy (List.replicate N (0 : Int)) row = some y∧y.length = N∧∀ v,vc y v = if v < k then vc row v else 0:=by
 unfold goCopy
 rw [decide_eq_true (by simp; omega),cond_true]
 refine ⟨_,rfl,by simp; omega,fun v=>?_⟩
 rw [List.take_of_length_le (by simp; omega)]
 unfold vc
 by_cases hv : v < k
 ·rw [if_pos hv,List.getD_eq_getElem?_getD,List.getElem?_append_left (by omega),← List.getD_eq_getElem?_getD]
 ·rw [if_neg hv,List.getD_eq_getElem?_getD,List.getElem?_append_right (by omega),List.getElem?_drop,List.getElem?_replicate]
  split <;> rfl

theorem fill1 (hT : Tr n m t) {inner : List (List Int)} (hin : Shp (n + m) (n + m) inner) : Tot (loopC (impl_fill_l1 t inner (List.replicate (n + m + 2) [])) (List.replicate (n + m + 2) [],0)) fun r=>Shp (n + m + 2) (n + m + 2) r∧∀ u v,u < n + m + 2→v < n + m + 2→mt r u v = if u < n + m∧v < n + m then mt inner u v else 0:= by
 have h1:=hT.rl; have h2:=hT.cl; have h3:=hT.n8; have h4:=hT.m8; have h5:=hT.n1; have h6:=hT.m1
 have gR : goLen t.Rows = (n : Int):=by simp only [goLen]; rw [h1]
 have gC : goLen t.Cols = (m : Int):=by simp only [goLen]; rw [h2]
 have gN : w64 ((n : Int) + m) = ((n + m : Nat) : Int):=by rw [wid (by omega) (by omega)]; omega
 have gN2 : w64 (((n + m : Nat) : Int) + 2) = ((n + m + 2 : Nat) : Int):=by rw [wid (by omega) (by omega)]; omega
 have gN1 : w64 (((n + m : Nat) : Int) + 1) = ((n + m + 1 : Nat) : Int):=by rw [wid (by omega) (by omega)]; omega
 refine tot_loop (fun s=>∃ k : Nat,k ≤ n + m + 2∧s.2 = (k : Int)∧s.1.length = n + m + 2∧∀ u,u < k→∃ row,s.1[u]? = some row∧row.length = n + m + 2∧∀ v,v < n + m + 2→vc row v = if u < n + m∧v < n + m then mt inner u v else 0) (fun s=>n + m + 2 - s.2.toNat) ⟨0,by omega,rfl,by simp,fun u hu=>by omega⟩ ?_
 rintro ⟨r,_⟩ ⟨k,hk,rfl,hl,hv⟩
 simp only at hl hv
 by_cases hlt : k < n + m + 2
 ·have hx : (List.replicate (n + m + 2) ([] : List Int))[k]? = some []:=by simp [hlt]
  have hr : r[k]? = some r[k]:=by simp [hl,hlt]
  simp only [impl_fill_l1,lt_ok hx,cond_true]
  rw [gR,gC,gN,gN2,goMake_ok (by omega) (by omega),Option.bind_some,at_ok hr,Option.bind_some]
  simp only [goSet,Int.toNat_natCast]
  have hset : (r.set k (List.replicate (n + m + 2) (0 : Int)))[k]? = some (List.replicate (n + m + 2) 0):=by rw [List.getElem?_set_self (by omega)]
  by_cases hkn : k < n + m
  ·obtain ⟨irow,hirow,_,hil,hiv2,_⟩:=hin.get hkn
   obtain ⟨y,ey,hyl,hyv⟩:=copy_row (N:=n + m + 2) hil (by omega) (by omega)
   rw [decide_eq_true (by omega),cond_true,at_ok hset,Option.bind_some,at_ok hirow,Option.bind_some,ey,Option.bind_some,Option.bind_some,List.set_set,wid (by omega) (by omega)]
   refine tot_some ⟨⟨k + 1,by omega,by simp only; omega,by simp [hl],fun u hu=>?_⟩,by simp only; omega⟩
   by_cases huk : u = k
   ·subst huk
    refine ⟨y,by simp only; rw [List.getElem?_set_self (by omega)],hyl,fun v hv'=>?_⟩
    rw [hyv]
    by_cases hvn : v < n + m
    ·rw [if_pos hvn,if_pos ⟨hkn,hvn⟩,hiv2]
    ·rw [if_neg hvn,if_neg (fun h=>hvn h.2)]
   ·obtain ⟨row,q1,q2,q3⟩:=hv u (by omega)
    exact ⟨row,by simp only; rw [List.getElem?_set_ne (fun e=>huk e.symm)]; exact q1,q2,q3⟩
  ·rw [decide_eq_false (by omega),cond_false,Option.bind_some,wid (by omega) (by omega)]
   refine tot_some ⟨⟨k + 1,by omega,by simp only; omega,by simp [hl],fun u hu=>?_⟩,by simp only; omega⟩
   by_cases huk : u = k
   ·subst huk
    refine ⟨_,hset,by simp,fun v hv'=>?_⟩
    rw [vc_rep,if_neg (fun h=>hkn h.1)]
   ·obtain ⟨row,q1,q2,q3⟩:=hv u (by omega)
    exact ⟨row,by simp only; rw [List.getElem?_set_ne (fun e=>huk e.symm)]; exact q1,q2,q3⟩
 ·obtain rfl : k = n + m + 2:=by omega
  have e3 : decide (((n + m + 2 : Nat) : Int) < goLen (List.replicate (n + m + 2) ([] : List Int))) = false:=decide_eq_false (by simp [goLen])
  simp only [impl_fill_l1,e3,cond_false]
  refine tot_some ⟨⟨hl,fun row hrow=>?_⟩,fun u v hu hv'=>?_⟩
  ·obtain ⟨u,hu⟩:=List.getElem?_of_mem hrow
   have:=(List.getElem?_eq_some_iff.1 hu).1
   obtain ⟨row',q1,q2,_⟩:=hv u (by omega)
   rw [hu] at q1
   rw [Option.some.inj q1]; exact q2
  ·obtain ⟨row,q1,q2,q3⟩:=hv u hu
   rw [mt_of q1,q3 v hv']

theorem fill2 (hT : Tr n m t) {r1 : List (List Int)} {rs : List Int} (hr1 : Shp (n + m + 2) (n + m + 2) r1) (rsl : rs.length = n) (rsv : ∀ i,i < n→vc rs i = sm m (mt t.Lo i)) : Tot (loopC (impl_fill_l2 t rs) (r1,0)) fun o=>match o with
   | .inl r=>(∀ i,i < n→sm m (mt t.Lo i) ≤ vc t.Rows i)∧Shp (n + m + 2) (n + m + 2) r∧∀ u v,u < n + m + 2→v < n + m + 2→mt r u v = if u = n + m∧v < n then vc t.Rows v - sm m (mt t.Lo v) else mt r1 u v
   | .inr l=>l = []∧∃ i,i < n∧vc t.Rows i < sm m (mt t.Lo i):= by
 have h1:=hT.rl; have h2:=hT.cl; have h3:=hT.n8; have h4:=hT.m8; have h5:=hT.n1; have h6:=hT.m1
 have gR : goLen t.Rows = (n : Int):=by simp only [goLen]; rw [h1]
 have gC : goLen t.Cols = (m : Int):=by simp only [goLen]; rw [h2]
 have gN : w64 ((n : Int) + m) = ((n + m : Nat) : Int):=by rw [wid (by omega) (by omega)]; omega
 have gN2 : w64 (((n + m : Nat) : Int) + 2) = ((n + m + 2 : Nat) : Int):=by rw [wid (by omega) (by omega)]; omega
 have gN1 : w64 (((n + m : Nat) : Int) + 1) = ((n + m + 1 : Nat) : Int):=by rw [wid (by omega) (by omega)]; omega
 have hlb : ∀ i j,i < n→j < m→-1000000 ≤ mt t.Lo i j∧mt t.Lo i j ≤ 1000000:=fun i j hi hj=>by have:=hT.bd i j hi hj; omega
 have hrs : ∀ i,i < n→0 ≤ sm m (mt t.Lo i)∧sm m (mt t.Lo i) ≤ 100000 * 20:=fun i hi=>by
  have a1:=sm_nonneg (n:=m) (f:=mt t.Lo i) fun j hj=>(hT.bd i j hi hj).1
  have a2:=sm_bd8 (n:=m) (f:=mt t.Lo i) (B:=100000) (by omega) (by omega) fun j hj=>by have:=hT.bd i j hi hj; omega
  omega
 have hcs : ∀ j,j < m→0 ≤ sm n (fun i=>mt t.Lo i j)∧sm n (fun i=>mt t.Lo i j) ≤ 100000 * 20:=fun j hj=>by
  have a1:=sm_nonneg (n:=n) (f:=fun i=>mt t.Lo i j) fun i hi=>(hT.bd i j hi hj).1
  have a2:=sm_bd8 (n:=n) (f:=fun i=>mt t.Lo i j) (B:=100000) (by omega) (by omega) fun i hi=>by have:=hT.bd i j hi hj; omega
  omega
 refine tot_loop (fun s=>∃ k : Nat,k ≤ n∧s.2 = (k : Int)∧(∀ i,i < k→sm m (mt t.Lo i) ≤ vc t.Rows i)∧Shp (n + m + 2) (n + m + 2) s.1∧∀ u v,u < n + m + 2→v < n + m + 2→mt s.1 u v = if u = n + m∧v < k then vc t.Rows v - sm m (mt t.Lo v) else mt r1 u v) (fun s=>n - s.2.toNat) ⟨0,by omega,rfl,fun i hi=>by omega,hr1,fun u v hu hv=>by rw [if_neg (by omega)]⟩ ?_
 rintro ⟨r,_⟩ ⟨k,hk,rfl,hle,hr,hv⟩
 simp only at hr hv
 by_cases hlt : k < n
 ·have hx:=vc_at (l:=t.Rows) (i:=k) (by omega)
  have hy:=vc_at (l:=rs) (i:=k) (by omega)
  rw [rsv k hlt] at hy
  have b1:=hrs k hlt; have b2:=hT.rb k hlt
  simp only [impl_fill_l2,lt_ok hx,cond_true,at_ok hx,at_ok hy,Option.bind_some]
  by_cases hc : vc t.Rows k < sm m (mt t.Lo k)
  ·rw [decide_eq_true hc,cond_true]
   exact tot_some ⟨rfl,k,hlt,hc⟩
  ·obtain ⟨row,hrow,_,_,_,_⟩:=hr.get (i:=n + m) (by omega)
   rw [decide_eq_false hc,cond_false,gR,gC,gN,at_ok hrow]
   simp only [Option.bind_some,at_ok (hr.el hrow (show k < n + m + 2 by omega)),goSet,Int.toNat_natCast]
   rw [wid (n:=vc t.Rows k - sm m (mt t.Lo k)) (by omega) (by omega),set_upd hrow,wid (by omega) (by omega)]
   refine tot_some ⟨⟨k + 1,by omega,by simp only; omega,fun i hi=>?_,hr.upd (by omega),fun u v hu hv'=>?_⟩,by simp only; omega⟩
   ·by_cases hik : i = k
    ·subst hik; omega
    ·exact hle i (by omega)
   ·simp only
    rw [mt_upd hr (by omega) (by omega),hv u v hu hv']
    by_cases hc2 : u = n + m∧v = k
    ·rw [if_pos hc2,if_pos ⟨hc2.1,by omega⟩,hc2.2]
    ·rw [if_neg hc2]
     by_cases hc3 : u = n + m∧v < k
     ·rw [if_pos hc3,if_pos ⟨hc3.1,by omega⟩]
     ·rw [if_neg hc3,if_neg (by omega)]
 ·obtain rfl : k = n:=by omega
  have e3 : decide ((k : Int) < goLen t.Rows) = false:=decide_eq_false (by simp only [goLen]; omega)
  simp only [impl_fill_l2,e3,cond_false]
  exact tot_some ⟨hle,hr,hv⟩

theorem fill3 (hT : Tr n m t) {r2 : List (List Int)} {cs : List Int} (hr2 : Shp (n + m + 2) (n + m + 2) r2) (csl : cs.length = m) (csv : ∀ j,j < m→vc cs j = sm n (fun i=>mt t.Lo i j)) : Tot (loopC (impl_fill_l3 t cs) (r2,0)) fun o=>match o with
    | .inl r=>(∀ j,j < m→sm n (fun i=>mt t.Lo i j) ≤ vc t.Cols j)∧Shp (n + m + 2) (n + m + 2) r∧∀ u v,u < n + m + 2→v < n + m + 2→mt r u v = if n ≤ u∧u < n + m∧v = n + m + 1 then vc t.Cols (u - n) - sm n (fun i=>mt t.Lo i (u - n)) else mt r2 u v
    | .inr l=>l = []∧∃ j,j < m∧vc t.Cols j < sm n (fun i=>mt t.Lo i j):= by
 have h1:=hT.rl; have h2:=hT.cl; have h3:=hT.n8; have h4:=hT.m8; have h5:=hT.n1; have h6:=hT.m1
 have gR : goLen t.Rows = (n : Int):=by simp only [goLen]; rw [h1]
 have gC : goLen t.Cols = (m : Int):=by simp only [goLen]; rw [h2]
 have gN : w64 ((n : Int) + m) = ((n + m : Nat) : Int):=by rw [wid (by omega) (by omega)]; omega
 have gN2 : w64 (((n + m : Nat) : Int) + 2) = ((n + m + 2 : Nat) : Int):=by rw [wid (by omega) (by omega)]; omega
 have gN1 : w64 (((n + m : Nat) : Int) + 1) = ((n + m + 1 : Nat) : Int):=by rw [wid (by omega) (by omega)]; omega
 have hlb : ∀ i j,i < n→j < m→-1000000 ≤ mt t.Lo i j∧mt t.Lo i j ≤ 1000000:=fun i j hi hj=>by have:=hT.bd i j hi hj; omega
 have hrs : ∀ i,i < n→0 ≤ sm m (mt t.Lo i)∧sm m (mt t.Lo i) ≤ 100000 * 20:=fun i hi=>by
  have a1:=sm_nonneg (n:=m) (f:=mt t.Lo i) fun j hj=>(hT.bd i j hi hj).1
  have a2:=sm_bd8 (n:=m) (f:=mt t.Lo i) (B:=100000) (by omega) (by omega) fun j hj=>by have:=hT.bd i j hi hj; omega
  omega
 have hcs : ∀ j,j < m→0 ≤ sm n (fun i=>mt t.Lo i j)∧sm n (fun i=>mt t.Lo i j) ≤ 100000 * 20:=fun j hj=>by
  have a1:=sm_nonneg (n:=n) (f:=fun i=>mt t.Lo i j) fun i hi=>(hT.bd i j hi hj).1
  have a2:=sm_bd8 (n:=n) (f:=fun i=>mt t.Lo i j) (B:=100000) (by omega) (by omega) fun i hi=>by have:=hT.bd i j hi hj; omega
  omega
 refine tot_loop (fun s=>∃ k : Nat,k ≤ m∧s.2 = (k : Int)∧(∀ j,j < k→sm n (fun i=>mt t.Lo i j) ≤ vc t.Cols j)∧Shp (n + m + 2) (n + m + 2) s.1∧∀ u v,u < n + m + 2→v < n + m + 2→mt s.1 u v = if n ≤ u∧u < n + k∧v = n + m + 1 then vc t.Cols (u - n) - sm n (fun i=>mt t.Lo i (u - n)) else mt r2 u v) (fun s=>m - s.2.toNat) ⟨0,by omega,rfl,fun i hi=>by omega,hr2,fun u v hu hv=>by rw [if_neg (by omega)]⟩ ?_
 rintro ⟨r,_⟩ ⟨k,hk,rfl,hle,hr,hv⟩
 simp only at hr hv
 by_cases hlt : k < m
 ·have hx:=vc_at (l:=t.Cols) (i:=k) (by omega)
  have hy:=vc_at (l:=cs) (i:=k) (by omega)
  rw [csv k hlt] at hy
  have b1:=hcs k hlt; have b2:=hT.cb k hlt
  simp only [impl_fill_l3,lt_ok hx,cond_true,at_ok hx,at_ok hy,Option.bind_some]
  by_cases hc : vc t.Cols k < sm n (fun i=>mt t.Lo i k)
  ·rw [decide_eq_true hc,cond_true]
   exact tot_some ⟨rfl,k,hlt,hc⟩
  ·obtain ⟨row,hrow,_,_,_,_⟩:=hr.get (i:=n + k) (by omega)
   rw [decide_eq_false hc,cond_false,gR,gC,gN,gN1,wid (n:=(n : Int) + k) (by omega) (by omega),show (n : Int) + k = ((n + k : Nat) : Int) by omega,at_ok hrow]
   simp only [Option.bind_some,at_ok (hr.el hrow (show n + m + 1 < n + m + 2 by omega)),goSet,Int.toNat_natCast]
   rw [wid (n:=vc t.Cols k - sm n (fun i=>mt t.Lo i k)) (by omega) (by omega),set_upd hrow,wid (by omega) (by omega)]
   refine tot_some ⟨⟨k + 1,by omega,by simp only; omega,fun i hi=>?_,hr.upd (by omega),fun u v hu hv'=>?_⟩,by simp only; omega⟩
   ·by_cases hik : i = k
    ·subst hik; omega
    ·exact hle i (by omega)
   ·simp only
    rw [mt_upd hr (by omega) (by omega),hv u v hu hv']
    by_cases hc2 : u = n + k∧v = n + m + 1
    ·rw [if_pos hc2,if_pos ⟨by omega,by omega,hc2.2⟩,hc2.1,show n + k - n = k by omega]
    ·rw [if_neg hc2]
     by_cases hc3 : n ≤ u∧u < n + k∧v = n + m + 1
     ·rw [if_pos hc3,if_pos ⟨hc3.1,by omega,hc3.2.2⟩]
     ·rw [if_neg hc3,if_neg (by omega)]
 ·obtain rfl : k = m:=by omega
  have e3 : decide ((k : Int) < goLen t.Cols) = false:=decide_eq_false (by simp only [goLen]; omega)
  simp only [impl_fill_l3,e3,cond_false]
  exact tot_some ⟨hle,hr,hv⟩

theorem fill4 {inner r1 r2 r3 : List (List Int)} (hiv : ∀ u v,u < n + m→v < n + m→mt inner u v = rsd n (mt t.Lo) (mt t.Hi) (mt t.Lo) (okf m (-1)) u v) (hv1 : ∀ u v,u < n + m + 2→v < n + m + 2→mt r1 u v = if u < n + m∧v < n + m then mt inner u v else 0)
  (hv2 : ∀ u v,u < n + m + 2→v < n + m + 2→mt r2 u v = if u = n + m∧v < n then vc t.Rows v - sm m (mt t.Lo v) else mt r1 u v)
  (hv3 : ∀ u v,u < n + m + 2→v < n + m + 2→mt r3 u v = if n ≤ u∧u < n + m∧v = n + m + 1 then vc t.Cols (u - n) - sm n (fun i=>mt t.Lo i (u - n)) else mt r2 u v) : ∀ u v,u < n + m + 2→v < n + m + 2→mt r3 u v = fil n m (mt t.Lo) (mt t.Hi) (vc t.Rows) (vc t.Cols) u v:= fun u v hu hv=>by
 have hoki : ∀ a b,okf m (-1) a b = true:=fun a b=>by unfold okf; exact decide_eq_true (by omega)
 rw [hv3 u v hu hv]
 by_cases c1 : n ≤ u∧u < n + m∧v = n + m + 1
 ·rw [if_pos c1]
  obtain ⟨j,rfl⟩ : ∃ j,u = n + j:=⟨u - n,by omega⟩
  rw [c1.2.2,fil_ct (by omega),show n + j - n = j by omega]
 ·rw [if_neg c1,hv2 u v hu hv]
  by_cases c2 : u = n + m∧v < n
  ·rw [if_pos c2,c2.1,fil_sr c2.2]
  ·rw [if_neg c2,hv1 u v hu hv]
   by_cases c3 : u < n + m∧v < n + m
   ·rw [if_pos c3,hiv u v c3.1 c3.2]
    unfold rsd fil
    by_cases c4 : u < n∧n ≤ v
    ·rw [if_pos c4,hoki,if_pos rfl,if_pos ⟨c4.1,c4.2,c3.2⟩]
    ·rw [if_neg c4,if_neg (show ¬ (u < n∧n ≤ v∧v < n + m) by omega),if_neg c2,if_neg c1]
     by_cases c5 : v < n∧n ≤ u
     ·rw [if_pos c5,hoki,if_pos rfl]; omega
     ·rw [if_neg c5]
   ·rw [if_neg c3,fil_0 (by omega) c2 c1]

theorem fill5 (hT : Tr n m t) {r3 : List (List Int)} (hfil : ∀ u v,u < n + m + 2→v < n + m + 2→mt r3 u v = fil n m (mt t.Lo) (mt t.Hi) (vc t.Rows) (vc t.Cols) u v) (hRle : ∀ i,i < n→sm m (mt t.Lo i) ≤ vc t.Rows i) (hCle : ∀ j,j < m→sm n (fun i=>mt t.Lo i j) ≤ vc t.Cols j) : ∀ u v,u < n + m + 2→v < n + m + 2→0 ≤ mt r3 u v∧mt r3 u v ≤ 1000000:= fun u v hu hv=>by
 have h3:=hT.n8; have h4:=hT.m8
 have hlb : ∀ i j,i < n→j < m→-1000000 ≤ mt t.Lo i j∧mt t.Lo i j ≤ 1000000:=fun i j hi hj=>by have:=hT.bd i j hi hj; omega
 have hrs : ∀ i,i < n→0 ≤ sm m (mt t.Lo i)∧sm m (mt t.Lo i) ≤ 100000 * 20:=fun i hi=>by
  have a1:=sm_nonneg (n:=m) (f:=mt t.Lo i) fun j hj=>(hT.bd i j hi hj).1
  have a2:=sm_bd8 (n:=m) (f:=mt t.Lo i) (B:=100000) (by omega) (by omega) fun j hj=>by have:=hT.bd i j hi hj; omega
  omega
 have hcs : ∀ j,j < m→0 ≤ sm n (fun i=>mt t.Lo i j)∧sm n (fun i=>mt t.Lo i j) ≤ 100000 * 20:=fun j hj=>by
  have a1:=sm_nonneg (n:=n) (f:=fun i=>mt t.Lo i j) fun i hi=>(hT.bd i j hi hj).1
  have a2:=sm_bd8 (n:=n) (f:=fun i=>mt t.Lo i j) (B:=100000) (by omega) (by omega) fun i hi=>by have:=hT.bd i j hi hj; omega
  omega
 have hlh : ∀ i j,i < n→j < m→mt t.Lo i j ≤ mt t.Hi i j:=fun i j hi hj=>(hT.bd i j hi hj).2.1
 have h3:=hT.n8; have h4:=hT.m8
 rw [hfil u v hu hv]
 refine ⟨fil_nn hlh hRle hCle u v hu hv,?_⟩
 by_cases c4 : u < n∧n ≤ v∧v < n + m
 ·obtain ⟨j,rfl⟩ : ∃ j,v = n + j:=⟨v - n,by omega⟩
  rw [fil_rc c4.1 (by omega)]
  have:=hT.bd u j c4.1 (by omega); omega
 ·by_cases c2 : u = n + m∧v < n
  ·rw [c2.1,fil_sr c2.2]; have:=hT.rb v c2.2; have:=hrs v c2.2; omega
  ·by_cases c1 : n ≤ u∧u < n + m∧v = n + m + 1
   ·obtain ⟨j,rfl⟩ : ∃ j,u = n + j:=⟨u - n,by omega⟩
    rw [c1.2.2,fil_ct (by omega)]; have:=hT.cb j (by omega); have:=hcs j (by omega); omega
   ·rw [fil_0 c4 c2 c1]; omega

theorem fill_ok2 (hT : Tr n m t) : ∃ x,impl_fill t = some x∧((x = []∧∀ y,¬ IsF n m t y) ∨ (Shp n m x∧(∀ i j,i < n→j < m→mt t.Lo i j ≤ mt x i j∧mt x i j ≤ mt t.Hi i j)∧(∀ y,IsF n m t y→∀ i,i < n→sm m (mt x i) = vc t.Rows i)∧((∀ i,i < n→sm m (mt x i) = vc t.Rows i)→sm n (vc t.Rows) = sm m (vc t.Cols)→IsF n m t (mt x)))):=by
 have h1:=hT.rl; have h2:=hT.cl; have h3:=hT.n8; have h4:=hT.m8; have h5:=hT.n1; have h6:=hT.m1
 have gR : goLen t.Rows = (n : Int):=by simp only [goLen]; rw [h1]
 have gC : goLen t.Cols = (m : Int):=by simp only [goLen]; rw [h2]
 have gN : w64 ((n : Int) + m) = ((n + m : Nat) : Int):=by rw [wid (by omega) (by omega)]; omega
 have gN2 : w64 (((n + m : Nat) : Int) + 2) = ((n + m + 2 : Nat) : Int):=by rw [wid (by omega) (by omega)]; omega
 have gN1 : w64 (((n + m : Nat) : Int) + 1) = ((n + m + 1 : Nat) : Int):=by rw [wid (by omega) (by omega)]; omega
 have hlb : ∀ i j,i < n→j < m→-1000000 ≤ mt t.Lo i j∧mt t.Lo i j ≤ 1000000:=fun i j hi hj=>by have:=hT.bd i j hi hj; omega
 have hrs : ∀ i,i < n→0 ≤ sm m (mt t.Lo i)∧sm m (mt t.Lo i) ≤ 100000 * 20:=fun i hi=>by
  have a1:=sm_nonneg (n:=m) (f:=mt t.Lo i) fun j hj=>(hT.bd i j hi hj).1
  have a2:=sm_bd8 (n:=m) (f:=mt t.Lo i) (B:=100000) (by omega) (by omega) fun j hj=>by have:=hT.bd i j hi hj; omega
  omega
 have hcs : ∀ j,j < m→0 ≤ sm n (fun i=>mt t.Lo i j)∧sm n (fun i=>mt t.Lo i j) ≤ 100000 * 20:=fun j hj=>by
  have a1:=sm_nonneg (n:=n) (f:=fun i=>mt t.Lo i j) fun i hi=>(hT.bd i j hi hj).1
  have a2:=sm_bd8 (n:=n) (f:=fun i=>mt t.Lo i j) (B:=100000) (by omega) (by omega) fun i hi=>by have:=hT.bd i j hi hj; omega
  omega
 obtain ⟨inner,ei,hin,hiv⟩:=residual_ok (f:=-1) (x:=t.Lo) hT hT.lo (fun i j hi hj=>by have:=hT.bd i j hi hj; omega) ⟨by omega,by omega⟩
 obtain ⟨rs,ers,rsl,rsv⟩:=rowSums_ok hT.lo (by omega) (by omega) hlb
 obtain ⟨cs,ecs,csl,csv⟩:=colSums_ok hT.lo h5 (by omega) (by omega) hlb
 unfold impl_fill
 rw [ei,Option.bind_some,gR,gC,gN,gN2,goMake_ok (by omega) (by omega),Option.bind_some]
 have L1:=fill1 hT hin
 obtain ⟨r1,e1,hr1,hv1⟩:=L1
 rw [e1,Option.bind_some,ers,Option.bind_some,ecs,Option.bind_some]
 have L2:=fill2 hT hr1 rsl rsv
 obtain ⟨o2,e2,ho2⟩:=L2
 rw [e2,Option.bind_some]
 cases o2 with
 | inr l =>
  obtain ⟨rfl,i,hi,hlt⟩:=ho2
  refine ⟨[],rfl,.inl ⟨rfl,fun y hy=>?_⟩⟩
  have:=sm_le (n:=m) (f:=mt t.Lo i) (g:=y i) fun j hj=>hy.lo i j hi hj
  rw [hy.row i hi] at this
  omega
 | inl r2 =>
  obtain ⟨hRle,hr2,hv2⟩:=ho2
  simp only
  have L3:=fill3 hT hr2 csl csv
  obtain ⟨o3,e3,ho3⟩:=L3
  rw [e3,Option.bind_some]
  cases o3 with
  | inr l =>
   obtain ⟨rfl,j,hj,hlt⟩:=ho3
   refine ⟨[],rfl,.inl ⟨rfl,fun y hy=>?_⟩⟩
   have:=sm_le (n:=n) (f:=fun i=>mt t.Lo i j) (g:=fun i=>y i j) fun i hi=>hy.lo i j hi hj
   rw [hy.col j hj] at this
   omega
  | inl r3 =>
   obtain ⟨hCle,hr3,hv3⟩:=ho3
   simp only
   have hfil:=fill4 hiv hv1 hv2 hv3
   have hlh : ∀ i j,i < n→j < m→mt t.Lo i j ≤ mt t.Hi i j:=fun i j hi hj=>(hT.bd i j hi hj).2.1
   have hfb:=fill5 hT hfil hRle hCle
   have hRt:=total_ok (l:=t.Rows) (by omega) (fun i hi=>by have:=hT.rb i (by omega); omega)
   rw [h1] at hRt
   have hRs:=sm_nonneg (n:=n) (f:=vc t.Rows) fun i hi=>(hT.rb i hi).1
   have hRs2:=sm_bd8 (n:=n) (f:=vc t.Rows) (B:=100000) (by omega) (by omega) fun i hi=>by have:=hT.rb i hi; omega
   obtain ⟨w,y1,p1,q1,p2,p3,p4,p5⟩:=push_ok (f:=n + m) (t:=n + m + 1) (limit:=sm n (vc t.Rows)) hr3 hfb (by omega) (by omega) (by omega) (by omega) ⟨hRs,by omega⟩
   have hR:=p2.of hfil
   obtain ⟨out,eo,ho,hov⟩:=restore_ok (f:=-1) (x:=t.Lo) hT hT.lo q1 (by omega) (fun u v hu hv=>res_bd p2 hfb hu hv) ⟨by omega,by omega⟩
   have hoe : ∀ i j,i < n→j < m→mt out i j = fill n (mt t.Hi) (mt y1) i j:=fun i j hi hj=>by
    rw [hov i j hi hj,if_pos (by unfold okf; exact decide_eq_true (by omega))]
    rfl
   have hrow : ∀ i,i < n→sm m (mt out i) = sm m (fill n (mt t.Hi) (mt y1) i):=fun i hi=>sm_congr fun j hj=>hoe i j hi hj
   rw [hRt,Option.bind_some,gN1,p1,Option.bind_some]
   simp only
   rw [eo]
   obtain ⟨f1,f2,f3,f4⟩:=fill_ok hR
   refine ⟨out,rfl,.inr ⟨ho,fun i j hi hj=>by rw [hoe i j hi hj]; exact f1 i j hi hj,fun y hy i hi=>?_,fun hfull htot=>?_⟩⟩
   ·rw [hrow i hi,(f2 i hi).2]
    have hz : mt y1 (n + m) i = 0:=by
     rcases p5 with p5 | p5
     ·have g1 : sm n (fun i=>vc t.Rows i - sm m (mt t.Lo i)) = sm n (vc t.Rows) - sm n (fun i=>sm m (mt t.Lo i)):=sm_sub _ _ _
      have g2:=sm_nonneg (n:=n) (f:=fun i=>sm m (mt t.Lo i)) fun i hi=>(hrs i hi).1
      have g3 : mt y1 (n + m) i ≤ sm n (fun i=>mt y1 (n + m) i):=sm_one (f:=fun i=>mt y1 (n + m) i) (fun i hi=>(f2 i hi).1) hi
      have g4:=(f2 i hi).1
      omega
     ·exact fill_full hR (fun v g hg=>p5 v g (hg.of fun a b ha hb=>(hfil a b ha hb).symm)) hy i hi
    rw [hz]; omega
   ·exact (fill_flow hR (fun i hi=>by rw [← hrow i hi]; exact hfull i hi) htot).congr hoe

theorem anyFlow_ok (hT : Tr n m t) : ∃ x,impl_anyFlow t = some x∧((x = []∧∀ y,¬ IsF n m t y) ∨ (Shp n m x∧IsF n m t (mt x))):=by
 have h1:=hT.rl; have h2:=hT.cl; have h3:=hT.n8; have h4:=hT.m8
 unfold impl_anyFlow
 have e1:=total_ok (l:=t.Rows) (by omega) (fun i hi=>by have:=hT.rb i (by omega); omega)
 have e2:=total_ok (l:=t.Cols) (by omega) (fun i hi=>by have:=hT.cb i (by omega); omega)
 rw [h1] at e1; rw [h2] at e2
 rw [e1,Option.bind_some,e2,Option.bind_some]
 have htot : ∀ y,IsF n m t y→sm n (vc t.Rows) = sm m (vc t.Cols):=fun y hy=>by
  rw [← sm_congr hy.row,← sm_congr hy.col]
  exact sm_comm n m y
 by_cases hs : sm n (vc t.Rows) = sm m (vc t.Cols)
 ·rw [show (sm n (vc t.Rows) != sm m (vc t.Cols)) = false by rw [bne_eq_false_iff_eq]; exact hs,cond_false]
  obtain ⟨x,ex,hx⟩:=fill_ok2 hT
  rw [ex,Option.bind_some]
  rcases hx with ⟨rfl,hno⟩ | ⟨hx,hxb,hful,hfl⟩
  ·exact ⟨[],rfl,.inl ⟨rfl,hno⟩⟩
  ·rw [(ne_ok hx hT.n1).2,cond_false]
   have hb : ∀ i j,i < n→j < m→-1000000 ≤ mt x i j∧mt x i j ≤ 1000000:=fun i j hi hj=>by have:=hxb i j hi hj; have:=hT.bd i j hi hj; omega
   ·obtain ⟨l,el,hl,hlv⟩:=rowSums_ok hx (by omega) (by omega) hb
    obtain ⟨c,ec,hc⟩:=equal_bis (a:=l) (b:=t.Rows) (by omega)
    rw [el,Option.bind_some,ec,Option.bind_some]
    cases c with
    | true =>
     refine ⟨x,rfl,.inr ⟨hx,hfl (fun i hi=>?_) hs⟩⟩
     rw [← hlv i hi,hc.1 rfl]
    | false =>
     refine ⟨[],rfl,.inl ⟨rfl,fun y hy=>?_⟩⟩
     have:=hc.2 (vc_ext (by omega) fun i hi=>by rw [hlv i (by omega)]; exact hful y hy i (by omega))
     cases this
 ·rw [show (sm n (vc t.Rows) != sm m (vc t.Cols)) = true by rw [bne_iff_ne]; exact hs,cond_true]
  exact ⟨[],rfl,.inl ⟨rfl,fun y hy=>hs (htot y hy)⟩⟩

end

end Go.Gx.F
