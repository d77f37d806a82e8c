/- Plain laws: the program's matrices of what is left. -/
import Derived.Test.YtpjcfmpfiadkgaaGreatSPFlw7
import Derived.Test.YtpjcfmpfiadkgaaGreatSPSen2

namespace Go.Gx.F

open Go.Gx

set_option linter.all false

structure Tr (n m : Nat) (t : impl_Transport) : Prop where
 rl : t.Rows.length = n
 cl : t.Cols.length = m
 n1 : 1 ≤ n
 n8 : n ≤ 8
 m1 : 1 ≤ m
 m8 : m ≤ 8
 lo : Shp n m t.Lo
 hi : Shp n m t.Hi
 rb : ∀ i,i < n→0 ≤ vc t.Rows i∧vc t.Rows i ≤ 100000
 cb : ∀ j,j < m→0 ≤ vc t.Cols j∧vc t.Cols j ≤ 100000
 bd : ∀ i j,i < n→j < m→0 ≤ mt t.Lo i j∧mt t.Lo i j ≤ mt t.Hi i j∧mt t.Hi i j ≤ 100000

abbrev IsF (n m : Nat) (t : impl_Transport) (y : Nat→Nat→Int) : Prop:=IsFl n m (vc t.Rows) (vc t.Cols) (mt t.Lo) (mt t.Hi) y

theorem vc_set {l : List Int} {k : Nat} {x : Int} (h : k < l.length) (w : Nat) : vc (l.set k x) w = if w = k then x else vc l w:=by
 unfold vc
 by_cases hw : w = k
 ·subst hw
  rw [if_pos rfl,List.getD_eq_getElem?_getD,List.getElem?_set_self h]; rfl
 ·rw [if_neg hw,List.getD_eq_getElem?_getD,List.getElem?_set_ne (fun e=>hw e.symm),← List.getD_eq_getElem?_getD]

theorem vc_rep {n w : Nat} : vc (List.replicate n (0 : Int)) w = 0:=by
 unfold vc
 rw [List.getD_eq_getElem?_getD,List.getElem?_replicate]
 split <;> rfl

theorem vc_ext {a b : List Int} (h : a.length = b.length) (he : ∀ i,i < a.length→vc a i = vc b i) : a = b:=by
 apply List.ext_getElem?
 intro i
 by_cases hi : i < a.length
 ·rw [vc_at hi,vc_at (by omega),he i hi]
 ·rw [List.getElem?_eq_none (by omega),List.getElem?_eq_none (by omega)]

theorem sm_bd {n : Nat} {f : Nat→Int} {B : Int} (h : ∀ i,i < n→-B ≤ f i∧f i ≤ B) : -(B * n) ≤ sm n f∧sm n f ≤ B * n:=by
 induction n with
 | zero=>simp [sm]
 | succ n ih =>
  simp only [sm]
  have h1:=ih fun i hi=>h i (by omega)
  have h2:=h n (by omega)
  rw [Int.natCast_add,Int.mul_add]
  omega

theorem sm_bd8 {n : Nat} {f : Nat→Int} {B : Int} (hn : n ≤ 20) (hB : 0 ≤ B) (h : ∀ i,i < n→-B ≤ f i∧f i ≤ B) : -(B * 20) ≤ sm n f∧sm n f ≤ B * 20:=by
 have h1:=sm_bd h
 have h2 : B * n ≤ B * 20:=Int.mul_le_mul_of_nonneg_left (by omega) hB
 omega

theorem rowSums_ok {n m : Nat} {x : List (List Int)} (hs : Shp n m x) (hn : n ≤ 20) (hm : m ≤ 20) (hb : ∀ i j,i < n→j < m→-1000000 ≤ mt x i j∧mt x i j ≤ 1000000) : ∃ l,impl_rowSums x = some l∧l.length = n∧∀ i,i < n→vc l i = sm m (mt x i):=by
 have hl:=hs.len
 unfold impl_rowSums
 rw [show goLen x = ((n : Nat) : Int) by simp only [goLen]; rw [hl],goMake_ok (by omega) (by omega),Option.bind_some]
 have h : Tot (loopC (impl_rowSums_l1 x) (List.replicate n 0,0)) fun l=>l.length = n∧∀ i,i < n→vc l i = sm m (mt x i):=by
  refine tot_loop (fun s=>∃ k : Nat,k ≤ n∧s.2 = (k : Int)∧s.1.length = n∧∀ i,i < n→vc s.1 i = if i < k then sm m (mt x i) else 0) (fun s=>n - s.2.toNat) ⟨0,by omega,rfl,by simp,fun i hi=>by simp [vc_rep]⟩ ?_
  rintro ⟨l,_⟩ ⟨k,hk,rfl,hll,hv⟩
  simp only at hll hv
  by_cases hlt : k < n
  ·obtain ⟨row,hrow,_,hrl,hrv,_⟩:=hs.get hlt
   simp only [impl_rowSums_l1,lt_ok hrow,cond_true,at_ok hrow,Option.bind_some]
   have h2 : Tot (loopC (impl_rowSums_l2 (k : Int) row) (l,0)) fun l'=>l'.length = n∧∀ i,i < n→vc l' i = if i < k + 1 then sm m (mt x i) else 0:=by
    refine tot_loop (fun s=>∃ j : Nat,j ≤ m∧s.2 = (j : Int)∧s.1.length = n∧∀ i,i < n→vc s.1 i = if i < k then sm m (mt x i) else if i = k then sm j (mt x k) else 0) (fun s=>m - s.2.toNat) ⟨0,by omega,rfl,hll,fun i hi=>by rw [hv i hi]; by_cases h1 : i < k <;> by_cases h2 : i = k <;> simp [h1,h2,sm]⟩ ?_
    rintro ⟨l2,_⟩ ⟨j,hj,rfl,hl2,hv2⟩
    simp only at hl2 hv2
    by_cases hjl : j < m
    ·have hy:=hs.el hrow hjl
     have ha:=vc_at (l:=l2) (i:=k) (by omega)
     have e2:=hv2 k hlt
     rw [if_neg (by omega),if_pos rfl] at e2
     rw [e2] at ha
     have h1:=sm_bd8 (n:=j + 1) (f:=mt x k) (B:=1000000) (by omega) (by omega) fun i hi=>hb k i hlt (by omega)
     simp only [sm] at h1
     simp only [impl_rowSums_l2,lt_ok hy,cond_true,at_ok hy,at_ok ha,Option.bind_some,goSet,Int.toNat_natCast]
     rw [wid (n:=sm j (mt x k) + mt x k j) (by omega) (by omega),wid (by omega) (by omega)]
     refine tot_some ⟨⟨j + 1,by omega,by simp only; omega,by simp [hl2],fun i hi=>?_⟩,by simp only; omega⟩
     simp only
     rw [vc_set (by omega),hv2 i hi]
     by_cases h1 : i = k
     ·subst h1; simp [sm]
     ·simp [h1]
    ·obtain rfl : j = m:=by omega
     have e3 : decide ((j : Int) < goLen row) = false:=decide_eq_false (by simp only [goLen]; omega)
     simp only [impl_rowSums_l2,e3,cond_false]
     refine tot_some ⟨hl2,fun i hi=>?_⟩
     rw [hv2 i hi]
     by_cases h1 : i < k
     ·rw [if_pos h1,if_pos (by omega)]
     ·by_cases h2 : i = k
      ·subst h2; simp
      ·rw [if_neg h1,if_neg h2,if_neg (by omega)]
   obtain ⟨l',e',hl',hv'⟩:=h2
   rw [e',Option.bind_some,wid (by omega) (by omega)]
   exact tot_some ⟨⟨k + 1,by omega,by simp only; omega,hl',hv'⟩,by simp only; omega⟩
  ·obtain rfl : k = n:=by omega
   have e3 : decide ((k : Int) < goLen x) = false:=decide_eq_false (by simp only [goLen]; omega)
   simp only [impl_rowSums_l1,e3,cond_false]
   exact tot_some ⟨hll,fun i hi=>by rw [hv i hi,if_pos hi]⟩
 obtain ⟨l,e,h1,h2⟩:=h
 rw [e]
 exact ⟨l,rfl,h1,h2⟩

theorem colSums_ok {n m : Nat} {x : List (List Int)} (hs : Shp n m x) (hn1 : 1 ≤ n) (hn : n ≤ 20) (hm : m ≤ 20) (hb : ∀ i j,i < n→j < m→-1000000 ≤ mt x i j∧mt x i j ≤ 1000000) : ∃ l,impl_colSums x = some l∧l.length = m∧∀ j,j < m→vc l j = sm n (fun i=>mt x i j):=by
 have hl:=hs.len
 unfold impl_colSums
 obtain ⟨r0,hr0,_,hr0l,_,_⟩:=hs.get (i:=0) (by omega)
 have g0 : goAt x 0 = some r0:=at_ok (k:=0) hr0
 rw [g0,Option.bind_some,show goLen r0 = ((m : Nat) : Int) by simp only [goLen]; rw [hr0l],goMake_ok (by omega) (by omega),Option.bind_some]
 have h : Tot (loopC (impl_colSums_l1 x) (List.replicate m 0,0)) fun l=>l.length = m∧∀ j,j < m→vc l j = sm n (fun i=>mt x i j):=by
  refine tot_loop (fun s=>∃ k : Nat,k ≤ n∧s.2 = (k : Int)∧s.1.length = m∧∀ j,j < m→vc s.1 j = sm k (fun i=>mt x i j)) (fun s=>n - s.2.toNat) ⟨0,by omega,rfl,by simp,fun i hi=>by simp [vc_rep,sm]⟩ ?_
  rintro ⟨l,_⟩ ⟨k,hk,rfl,hll,hv⟩
  simp only at hll hv
  by_cases hlt : k < n
  ·obtain ⟨row,hrow,_,hrl,hrv,_⟩:=hs.get hlt
   simp only [impl_colSums_l1,lt_ok hrow,cond_true,at_ok hrow,Option.bind_some]
   have h2 : Tot (loopC (impl_colSums_l2 row) (l,0)) fun l'=>l'.length = m∧∀ j,j < m→vc l' j = sm (k + 1) (fun i=>mt x i j):=by
    refine tot_loop (fun s=>∃ j : Nat,j ≤ m∧s.2 = (j : Int)∧s.1.length = m∧∀ b,b < m→vc s.1 b = if b < j then sm (k + 1) (fun i=>mt x i b) else sm k (fun i=>mt x i b)) (fun s=>m - s.2.toNat) ⟨0,by omega,rfl,hll,fun i hi=>by rw [hv i hi,if_neg (by omega)]⟩ ?_
    rintro ⟨l2,_⟩ ⟨j,hj,rfl,hl2,hv2⟩
    simp only at hl2 hv2
    by_cases hjl : j < m
    ·have hy:=hs.el hrow hjl
     have ha:=vc_at (l:=l2) (i:=j) (by omega)
     have e2:=hv2 j hjl
     rw [if_neg (by omega)] at e2
     rw [e2] at ha
     have h1:=sm_bd8 (n:=k + 1) (f:=fun i=>mt x i j) (B:=1000000) (by omega) (by omega) fun i hi=>hb i j (by omega) hjl
     simp only [sm] at h1
     simp only [impl_colSums_l2,lt_ok hy,cond_true,at_ok hy,at_ok ha,Option.bind_some,goSet,Int.toNat_natCast]
     rw [wid (n:=sm k (fun i=>mt x i j) + mt x k j) (by omega) (by omega),wid (by omega) (by omega)]
     refine tot_some ⟨⟨j + 1,by omega,by simp only; omega,by simp [hl2],fun b hb'=>?_⟩,by simp only; omega⟩
     simp only
     rw [vc_set (by omega),hv2 b hb']
     by_cases h1 : b = j
     ·subst h1; simp [sm]
     ·by_cases h2 : b < j
      ·rw [if_neg h1,if_pos h2,if_pos (by omega)]
      ·rw [if_neg h1,if_neg h2,if_neg (by omega)]
    ·obtain rfl : j = m:=by omega
     have e3 : decide ((j : Int) < goLen row) = false:=decide_eq_false (by simp only [goLen]; omega)
     simp only [impl_colSums_l2,e3,cond_false]
     exact tot_some ⟨hl2,fun b hb'=>by rw [hv2 b hb',if_pos hb']⟩
   obtain ⟨l',e',hl',hv'⟩:=h2
   rw [e',Option.bind_some,wid (by omega) (by omega)]
   exact tot_some ⟨⟨k + 1,by omega,by simp only; omega,hl',hv'⟩,by simp only; omega⟩
  ·obtain rfl : k = n:=by omega
   have e3 : decide ((k : Int) < goLen x) = false:=decide_eq_false (by simp only [goLen]; omega)
   simp only [impl_colSums_l1,e3,cond_false]
   exact tot_some ⟨hll,hv⟩
 obtain ⟨l,e,h1,h2⟩:=h
 rw [e]
 exact ⟨l,rfl,h1,h2⟩

theorem mt_rep {n m a b : Nat} : mt (List.replicate n (List.replicate m (0 : Int))) a b = 0:=by
 have h : (List.replicate n (List.replicate m (0 : Int))).getD a [] = if a < n then List.replicate m 0 else []:=by
  rw [List.getD_eq_getElem?_getD,List.getElem?_replicate]
  split <;> rfl
 unfold mt
 rw [h]
 split
 ·exact vc_rep
 ·rfl

theorem shp_rep {n m : Nat} {v : Int} : Shp n m (List.replicate n (List.replicate m v)):=⟨by simp,fun r hr=>by rw [(List.mem_replicate.1 hr).2]; simp⟩

def okf (m : Nat) (f : Int) : Nat→Nat→Bool:=fun a b=>decide (f < ((a * m + b : Nat) : Int))

def okk (m : Nat) (f : Int) (k : Nat) : Nat→Nat→Bool:=fun a b=>okf m f a b && decide (a * m + b < k)

theorem pos_one {m a b i j : Nat} (hb : b < m) (hj : j < m) (h : a * m + b = i * m + j) : a = i∧b = j:=by
 have h1 : (a * m + b) / m = (i * m + j) / m:=by rw [h]
 have h2 : (a * m + b) % m = (i * m + j) % m:=by rw [h]
 rw [Nat.mul_comm a,Nat.mul_comm i,Nat.mul_add_div (by omega),Nat.mul_add_div (by omega),Nat.div_eq_of_lt hb,Nat.div_eq_of_lt hj] at h1
 rw [Nat.mul_comm a,Nat.mul_comm i,Nat.mul_add_mod,Nat.mul_add_mod,Nat.mod_eq_of_lt hb,Nat.mod_eq_of_lt hj] at h2
 omega

theorem okk_step {m : Nat} {f : Int} {i j a b : Nat} (hb : b < m) (hj : j < m) (hne : ¬ (a = i∧b = j)) : okk m f (i * m + j + 1) a b = okk m f (i * m + j) a b:=by
 have h : a * m + b ≠ i * m + j:=fun e=>hne (pos_one hb hj e)
 unfold okk
 congr 1
 rw [decide_eq_decide]
 omega

theorem rsd_add {n m : Nat} {lo hi x : Nat→Nat→Int} {ok ok' : Nat→Nat→Bool} {i j : Nat} (hi' : i < n) (hj : j < m) (h : ∀ a b,a < n→b < m→¬ (a = i∧b = j)→ok' a b = ok a b) (hij : ok' i j = true) {u v : Nat} (hu : u < n + m) (hv : v < n + m) :
  rsd n lo hi x ok' u v = if u = n + j∧v = i then x i j - lo i j else if u = i∧v = n + j then hi i j - x i j else rsd n lo hi x ok u v:=by
 by_cases h1 : u < n∧n ≤ v
 ·have e1 : ∀ k,rsd n lo hi x k u v = if k u (v - n) = true then hi u (v - n) - x u (v - n) else 0:=fun k=>by unfold rsd; rw [if_pos h1]
  rw [e1,e1,if_neg (show ¬ (u = n + j∧v = i) by omega)]
  by_cases h2 : u = i∧v = n + j
  ·rw [if_pos h2]
   obtain ⟨rfl,rfl⟩:=h2
   rw [show n + j - n = j by omega,hij,if_pos rfl]
  ·rw [if_neg h2,h u (v - n) h1.1 (by omega) (by omega)]
 ·by_cases h3 : v < n∧n ≤ u
  ·have e1 : ∀ k,rsd n lo hi x k u v = if k v (u - n) = true then x v (u - n) - lo v (u - n) else 0:=fun k=>by unfold rsd; rw [if_neg h1,if_pos h3]
   rw [e1,e1]
   by_cases h2 : u = n + j∧v = i
   ·rw [if_pos h2]
    obtain ⟨rfl,rfl⟩:=h2
    rw [show n + j - n = j by omega,hij,if_pos rfl]
   ·rw [if_neg h2,if_neg (show ¬ (u = i∧v = n + j) by omega),h v (u - n) h3.1 (by omega) (by omega)]
  ·have e1 : ∀ k,rsd n lo hi x k u v = 0:=fun k=>by unfold rsd; rw [if_neg h1,if_neg h3]
   rw [e1,e1,if_neg (show ¬ (u = n + j∧v = i) by omega),if_neg (show ¬ (u = i∧v = n + j) by omega)]

theorem rsd_same {n m : Nat} {lo hi x : Nat→Nat→Int} {ok ok' : Nat→Nat→Bool} (h : ∀ a b,a < n→b < m→ok' a b = ok a b) {u v : Nat} (hu : u < n + m) (hv : v < n + m) : rsd n lo hi x ok' u v = rsd n lo hi x ok u v:=by
 unfold rsd
 by_cases h1 : u < n∧n ≤ v
 ·rw [if_pos h1,if_pos h1,h u (v - n) h1.1 (by omega)]
 ·rw [if_neg h1,if_neg h1]
  by_cases h3 : v < n∧n ≤ u
  ·rw [if_pos h3,if_pos h3,h v (u - n) h3.1 (by omega)]
  ·rw [if_neg h3,if_neg h3]

section

variable {n m : Nat} {t : impl_Transport} {x : List (List Int)} {f : Int}

theorem res_zero (hT : Tr n m t) : loopC (impl_residual_l1 t (List.replicate (n + m) [])) (List.replicate (n + m) [],0) = some (List.replicate (n + m) (List.replicate (n + m) 0)):=by
 have h1:=hT.rl; have h2:=hT.cl; have h3:=hT.n8; have h4:=hT.m8
 have h:=loop_map (l:=List.replicate (n + m) ([] : List Int)) (fun _=>List.replicate (n + m) (0 : Int)) ([] : List Int) (impl_residual_l1 t (List.replicate (n + m) [])) (fun k v out hv ho=>by
  have hk:=(List.getElem?_eq_some_iff.1 hv).1
  have e : goAt out (k : Int) = some out[k]:=at_ok (by simp [ho,hk])
  simp only [impl_residual_l1,lt_ok hv,cond_true]
  rw [show w64 (goLen t.Rows + goLen t.Cols) = ((n + m : Nat) : Int) by rw [wid (by simp only [goLen]; omega) (by simp only [goLen]; omega)]; simp only [goLen]; omega,goMake_ok (by omega) (by omega)]
  simp only [Option.bind_some,e,nx_ok hv (show (List.replicate (n + m) ([] : List Int)).length ≤ 9223372036854775807 by simp; omega),goSet,Int.toNat_natCast]) (fun out=>by
  simp only [impl_residual_l1,lt_end,cond_false])
 simpa using h

theorem residual_ok (hT : Tr n m t) (hx : Shp n m x) (hb : ∀ i j,i < n→j < m→mt t.Lo i j ≤ mt x i j∧mt x i j ≤ mt t.Hi i j) (hf : -1 ≤ f∧f ≤ 1000) :
  ∃ r,impl_residual t x f = some r∧Shp (n + m) (n + m) r∧∀ u v,u < n + m→v < n + m→mt r u v = rsd n (mt t.Lo) (mt t.Hi) (mt x) (okf m f) u v:=by
 have h1:=hT.rl; have h2:=hT.cl; have h3:=hT.n8; have h4:=hT.m8; have hxl:=hx.len
 have gR : goLen t.Rows = (n : Int):=by simp only [goLen]; rw [h1]
 have gC : goLen t.Cols = (m : Int):=by simp only [goLen]; rw [h2]
 unfold impl_residual
 rw [gR,gC,wid (by omega) (by omega),show (n : Int) + m = ((n + m : Nat) : Int) by omega,goMake_ok (by omega) (by omega),Option.bind_some,res_zero hT,Option.bind_some]
 have h : Tot (loopC (impl_residual_l2 t x f) (List.replicate (n + m) (List.replicate (n + m) 0),0)) fun r=>Shp (n + m) (n + m) r∧∀ u v,u < n + m→v < n + m→mt r u v = rsd n (mt t.Lo) (mt t.Hi) (mt x) (okf m f) u v:=by
  refine tot_loop (fun s=>∃ i : Nat,i ≤ n∧s.2 = (i : Int)∧Shp (n + m) (n + m) s.1∧∀ u v,u < n + m→v < n + m→mt s.1 u v = rsd n (mt t.Lo) (mt t.Hi) (mt x) (okk m f (i * m)) u v) (fun s=>n - s.2.toNat) ⟨0,by omega,rfl,shp_rep,fun u v hu hv=>?_⟩ ?_
  ·rw [mt_rep]
   unfold rsd okk
   simp
  rintro ⟨r,_⟩ ⟨i,hi',rfl,hr,hv⟩
  simp only at hr hv
  by_cases hlt : i < n
  ·obtain ⟨row,hrow,_,hrl,hrv,_⟩:=hx.get hlt
   simp only [impl_residual_l2,lt_ok hrow,cond_true,at_ok hrow,Option.bind_some]
   have h2 : Tot (loopC (impl_residual_l3 t f (i : Int) row) (r,0)) fun r'=>Shp (n + m) (n + m) r'∧∀ u v,u < n + m→v < n + m→mt r' u v = rsd n (mt t.Lo) (mt t.Hi) (mt x) (okk m f (i * m + m)) u v:=by
    refine tot_loop (fun s=>∃ j : Nat,j ≤ m∧s.2 = (j : Int)∧Shp (n + m) (n + m) s.1∧∀ u v,u < n + m→v < n + m→mt s.1 u v = rsd n (mt t.Lo) (mt t.Hi) (mt x) (okk m f (i * m + j)) u v) (fun s=>m - s.2.toNat) ⟨0,by omega,rfl,hr,hv⟩ ?_
    rintro ⟨r2,_⟩ ⟨j,hj',rfl,hr2,hv2⟩
    simp only at hr2 hv2
    by_cases hjl : j < m
    ·have hy:=hx.el hrow hjl
     have hbx:=hb i j hlt hjl
     have hbt:=hT.bd i j hlt hjl
     have him : i * m ≤ 64:=Nat.le_trans (Nat.mul_le_mul (show i ≤ 8 by omega) h4) (by omega)
     simp only [impl_residual_l3,lt_ok hy,cond_true,at_ok hy,Option.bind_some]
     rw [gC,gR,wid (n:=(i : Int) * m) (by rw [← Int.natCast_mul]; omega) (by rw [← Int.natCast_mul]; omega),wid (n:=(i : Int) * m + j) (by rw [← Int.natCast_mul]; omega) (by rw [← Int.natCast_mul]; omega),show (i : Int) * m + j = ((i * m + j : Nat) : Int) by rw [Int.natCast_add,Int.natCast_mul]]
     rw [wid (n:=(n : Int) + j) (by omega) (by omega),show (n : Int) + j = ((n + j : Nat) : Int) by omega,wid (n:=(j : Int) + 1) (by omega) (by omega)]
     by_cases hfx : f < ((i * m + j : Nat) : Int)
     ·rw [decide_eq_true hfx,cond_true]
      obtain ⟨ri,hri,_,_,_,_⟩:=hr2.get (i:=i) (by omega)
      obtain ⟨hrow2,hh2,_,_,_,_⟩:=hT.hi.get hlt
      obtain ⟨lrow2,ll2,_,_,_,_⟩:=hT.lo.get hlt
      rw [at_ok hri,Option.bind_some,at_ok hh2,Option.bind_some,at_ok (hT.hi.el hh2 hjl),Option.bind_some,at_ok (hr2.el hri (show n + j < n + m by omega)),Option.bind_some]
      simp only [goSet,Int.toNat_natCast]
      rw [wid (n:=mt t.Hi i j - mt x i j) (by omega) (by omega),set_upd hri]
      have hs1:=hr2.upd (j:=n + j) (v:=mt t.Hi i j - mt x i j) (show i < n + m by omega)
      obtain ⟨rj,hrj,_,_,_,_⟩:=hs1.get (i:=n + j) (by omega)
      rw [at_ok hrj,Option.bind_some,at_ok ll2,Option.bind_some,at_ok (hT.lo.el ll2 hjl),Option.bind_some,at_ok (hs1.el hrj (show i < n + m by omega)),Option.bind_some,Option.bind_some,wid (n:=mt x i j - mt t.Lo i j) (by omega) (by omega),set_upd hrj]
      refine tot_some ⟨⟨j + 1,by omega,by simp only; omega,hs1.upd (by omega),fun u v hu hv=>?_⟩,by simp only; omega⟩
      simp only
      rw [mt_upd hs1 (by omega) (by omega),mt_upd hr2 (by omega) (by omega),hv2 u v hu hv]
      exact (rsd_add hlt hjl (fun a b ha hb hne=>okk_step hb hjl hne) (by unfold okk okf; simp; omega) hu hv).symm
     ·rw [decide_eq_false hfx,cond_false,Option.bind_some]
      refine tot_some ⟨⟨j + 1,by omega,by simp only; omega,hr2,fun u v hu hv=>?_⟩,by simp only; omega⟩
      simp only
      rw [hv2 u v hu hv]
      refine (rsd_same (fun a b ha hb=>?_) hu hv).symm
      by_cases hne : a = i∧b = j
      ·obtain ⟨rfl,rfl⟩:=hne
       unfold okk okf
       rw [decide_eq_false hfx]
       rfl
      ·exact okk_step hb hjl hne
    ·obtain rfl : j = m:=by omega
     have e3 : decide ((j : Int) < goLen row) = false:=decide_eq_false (by simp only [goLen]; omega)
     simp only [impl_residual_l3,e3,cond_false]
     exact tot_some ⟨hr2,hv2⟩
   obtain ⟨r',e',hr',hv'⟩:=h2
   rw [e',Option.bind_some,wid (by omega) (by omega)]
   exact tot_some ⟨⟨i + 1,by omega,by simp only; omega,hr',by rw [Nat.succ_mul]; exact hv'⟩,by simp only; omega⟩
  ·obtain rfl : i = n:=by omega
   have e3 : decide ((i : Int) < goLen x) = false:=decide_eq_false (by simp only [goLen]; omega)
   simp only [impl_residual_l2,e3,cond_false]
   refine tot_some ⟨hr,fun u v hu hv'=>?_⟩
   rw [hv u v hu hv']
   refine rsd_same (fun a b ha hb=>?_) hu hv'
   have:=pos_lt ha hb
   unfold okk
   rw [decide_eq_true this,Bool.and_true]
 obtain ⟨r,e,g1,g2⟩:=h
 rw [e]
 exact ⟨r,rfl,g1,g2⟩

theorem Shp.sz (hx : Shp n m x) (hn : n ≤ 10) (hm : m ≤ 10) : Sz x:=⟨by rw [hx.len]; exact hn,fun r hr=>by rw [hx.row r hr]; exact hm⟩

end

end Go.Gx.F
