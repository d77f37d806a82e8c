/- Plain laws: the rounding of a flow,on both sides; it is a rounding. -/
import Derived.Test.YtpjcfmpfiadkgaaRPRo4

namespace Go.Gx.F

open Go.Gx

set_option linter.all false

set_option maxRecDepth 10000

theorem sm_mul (f : Nat→Int) (b : Int) : ∀ k,sm k (fun i=>f i * b) = sm k f * b
 | 0=>by simp [sm]
 | k + 1=>by
  simp only [sm]
  rw [sm_mul f b k,Int.add_mul]

section

variable {n m : Nat} {x f : List (List Int)} {b : Int} {t : impl_Transport}

theorem rnd_of (hb : 2 ≤ b∧b ≤ 100) {v q : Int} (hv : 0 ≤ v) (h1 : dn b v ≤ q) (h2 : q ≤ up b v) : 0 ≤ q * b∧v - b < q * b∧q * b < v + b:=by
 have hd:=dnup hb hv
 have g1 : b * dn b v ≤ b * q:=Int.mul_le_mul_of_nonneg_left h1 (by omega)
 have g2 : b * q ≤ b * up b v:=Int.mul_le_mul_of_nonneg_left h2 (by omega)
 have g3 : 0 ≤ b * q:=Int.mul_nonneg (by omega) (by omega)
 rw [Int.mul_comm q b]
 omega

structure RF (n m : Nat) (x f : List (List Int)) (b : Int) : Prop where
 sh : Shp (n + 1) (m + 1) f
 el : ∀ i j,i < n→j < m→dn b (mt x i j) ≤ mt f i j∧mt f i j ≤ up b (mt x i j)
 row : ∀ i,i < n→dn b (rR m x i) ≤ sm m (mt f i)∧sm m (mt f i) ≤ up b (rR m x i)
 col : ∀ j,j < m→dn b (rC n x j) ≤ sm n (fun i=>mt f i j)∧sm n (fun i=>mt f i j) ≤ up b (rC n x j)
 tot : dn b (rT n m x) ≤ (sm n fun i=>sm m (mt f i))∧(sm n fun i=>sm m (mt f i)) ≤ up b (rT n m x)

theorem NetR.rf (hN : NetR n m x b t) (hf : Shp (n + 1) (m + 1) f) (hF : IsF (n + 1) (m + 1) t (mt f)) : RF n m x f b:=by
 have L : ∀ i j,i < n + 1→j < m + 1→rlo n m x b i j ≤ mt f i j∧mt f i j ≤ rhi n m x b i j:=fun i j hi hj=>by
  have a:=hF.lo i j hi hj; have c:=hF.hi i j hi hj
  rw [hN.lv i j hi hj] at a; rw [hN.hv i j hi hj] at c
  exact ⟨a,c⟩
 have hrow : ∀ i,i < n→sm m (mt f i) + mt f i m = up b (rR m x i):=fun i hi=>by
  have:=hF.row i (by omega)
  rw [hN.rv i (by omega),if_pos hi] at this
  simpa only [sm] using this
 have hcol : ∀ j,j < m→sm n (fun i=>mt f i j) + mt f n j = up b (rC n x j):=fun j hj=>by
  have:=hF.col j (by omega)
  rw [hN.cv j (by omega),if_pos hj] at this
  simpa only [sm] using this
 have hlast : sm m (mt f n) + mt f n m = (sm m fun j=>up b (rC n x j)) - dn b (rT n m x):=by
  have:=hF.row n (by omega)
  rw [hN.rv n (by omega),if_neg (by omega)] at this
  simpa only [sm] using this
 refine ⟨hf,fun i j hi hj=>?_,fun i hi=>?_,fun j hj=>?_,?_⟩
 ·have:=L i j (by omega) (by omega)
  unfold rlo rhi at this
  rw [if_pos ⟨hi,hj⟩,if_pos hi,if_pos hj] at this
  exact this
 ·have:=L i m (by omega) (by omega)
  unfold rlo rhi at this
  rw [if_neg (by omega),if_pos hi,if_neg (by omega)] at this
  have:=hrow i hi
  omega
 ·have:=L n j (by omega) (by omega)
  unfold rlo rhi at this
  rw [if_neg (by omega),if_neg (by omega),if_pos hj] at this
  have:=hcol j hj
  omega
 ·have hn:=L n m (by omega) (by omega)
  unfold rlo rhi at hn
  rw [if_neg (by omega),if_neg (by omega),if_neg (by omega)] at hn
  have e1 : (sm n fun i=>sm m (mt f i)) = sm m fun j=>sm n fun i=>mt f i j:=sm_comm n m (mt f)
  have e2 : (sm m fun j=>sm n fun i=>mt f i j) = sm m (fun j=>up b (rC n x j)) - sm m (mt f n):=by
   rw [← sm_sub]
   exact sm_congr fun j hj=>by have:=hcol j hj; omega
  omega

theorem RF.bd (hb : 2 ≤ b∧b ≤ 100) (hx : Mx n m x) (h : RF n m x f b) {i j : Nat} (hi : i < n) (hj : j < m) : 0 ≤ mt f i j * b∧mt x i j - b < mt f i j * b∧mt f i j * b < mt x i j + b:=by
 have:=h.el i j hi hj
 exact rnd_of hb (hx.bd i j hi hj).1 this.1 this.2

theorem cellsI (hb : 2 ≤ b∧b ≤ 100) (hx : Mx n m x) (h : RF n m x f b) : Tot (loopC (impl_roundingOf_l1 b f x) (x,0)) fun c=>Shp n m c∧∀ i j,i < n→j < m→mt c i j = mt f i j * b:=by
 have n7:=hx.n7; have m7:=hx.m7; have hxl:=hx.sh.len
 refine tot_loop (fun s=>∃ i : Nat,i ≤ n∧s.2 = (i : Int)∧Shp n m s.1∧∀ a c,a < n→c < m→mt s.1 a c = if a < i then mt f a c * b else mt x a c) (fun s=>n - s.2.toNat) ⟨0,by omega,rfl,hx.sh,fun a c _ _=>by rw [if_neg (by omega)]⟩ ?_
 rintro ⟨y,_⟩ ⟨i,hi',rfl,g1,g2⟩
 simp only at g1 g2
 by_cases hi : i < n
 ·have e0 : decide ((i : Int) < goLen x) = true:=decide_eq_true (by simp only [goLen]; omega)
  obtain ⟨yr,hyr,_,hyl,_,_⟩:=g1.get hi
  obtain ⟨fr,hfr,_,_,_,_⟩:=h.sh.get (i:=i) (by omega)
  have e2 : Tot (loopC (impl_roundingOf_l2 b f (i : Int) yr) (y,0,yr)) fun y'=>Shp n m y'∧∀ a c,a < n→c < m→mt y' a c = if a < i + 1 then mt f a c * b else mt x a c:=by
   refine tot_loop (fun s=>∃ j : Nat,j ≤ m∧s.2.1 = (j : Int)∧Shp n m s.1∧s.1[i]? = some s.2.2∧∀ a c,a < n→c < m→mt s.1 a c = if a < i ∨ a = i∧c < j then mt f a c * b else mt x a c) (fun s=>m - s.2.1.toNat) ⟨0,by omega,rfl,g1,hyr,fun a c ha hc=>?_⟩ ?_
   ·have:=g2 a c ha hc
    by_cases hai : a < i
    ·rw [if_pos hai] at this; rw [if_pos (.inl hai)]; exact this
    ·rw [if_neg hai] at this; rw [if_neg (by omega)]; exact this
   ·rintro ⟨z,_,zr⟩ ⟨j,hj',rfl,k1,k2,k3⟩
    simp only at k1 k2 k3
    by_cases hj : j < m
    ·have e1 : decide ((j : Int) < goLen yr) = true:=decide_eq_true (by simp only [goLen]; omega)
     have hbd:=h.bd hb hx hi hj
     have hxb:=hx.bd i j hi hj
     have hzl:=(List.getElem?_eq_some_iff.1 k2).1
     simp only [impl_roundingOf_l2,e1,cond_true,at_ok hfr,at_ok (h.sh.el hfr (show j < m + 1 by omega)),at_ok (k1.el k2 hj),Option.bind_some,goSet,Int.toNat_natCast]
     rw [wid (n:=mt f i j * b) (by omega) (by omega),wid (by omega) (by omega),set_upd k2]
     refine tot_some ⟨⟨j + 1,by omega,by simp only; omega,k1.upd hi,?_,fun a c ha hc=>?_⟩,by simp only; omega⟩
     ·simp only
      rw [← set_upd k2,List.getElem?_set_self hzl]
     ·simp only
      rw [mt_upd k1 hi hj,k3 a c ha hc]
      by_cases hac : a = i∧c = j
      ·rw [if_pos hac,if_pos (by omega),hac.1,hac.2]
      ·rw [if_neg hac]
       by_cases hd : a < i ∨ a = i∧c < j
       ·rw [if_pos hd,if_pos (by omega)]
       ·rw [if_neg hd,if_neg (by omega)]
    ·obtain rfl : j = m:=by omega
     have e1 : decide ((j : Int) < goLen yr) = false:=decide_eq_false (by simp only [goLen]; omega)
     simp only [impl_roundingOf_l2,e1,cond_false]
     refine tot_some ⟨k1,fun a c ha hc=>?_⟩
     rw [k3 a c ha hc]
     by_cases hd : a < i ∨ a = i∧c < j
     ·rw [if_pos hd,if_pos (by omega)]
     ·rw [if_neg hd,if_neg (by omega)]
  obtain ⟨y',ey,q1,q2⟩:=e2
  simp only [impl_roundingOf_l1,e0,cond_true,at_ok hyr,Option.bind_some]
  rw [ey,Option.bind_some,wid (by omega) (by omega)]
  exact tot_some ⟨⟨i + 1,by omega,by simp only; omega,q1,q2⟩,by simp only; omega⟩
 ·obtain rfl : i = n:=by omega
  have e0 : decide ((i : Int) < goLen x) = false:=decide_eq_false (by simp only [goLen]; omega)
  simp only [impl_roundingOf_l1,e0,cond_false]
  exact tot_some ⟨g1,fun a c ha hc=>by rw [g2 a c ha hc,if_pos ha]⟩

theorem cellsS (hb : 2 ≤ b∧b ≤ 100) (hx : Mx n m x) (h : RF n m x f b) : ∃ l,goSub f 0 (w64 ((goLen f) - 1)) = some l∧Tot (loopC (spec_oFrom_l1 b l) (([] : List (List Int)),0)) fun c=>Shp n m c∧∀ i j,i < n→j < m→mt c i j = mt f i j * b:=by
 have n7:=hx.n7; have m7:=hx.m7; have hfl:=h.sh.len
 have e1 : w64 (goLen f - 1) = (n : Int):=by simp only [goLen]; rw [hfl,wid (by omega) (by omega)]; omega
 rw [e1]
 obtain ⟨l,el,hl⟩:=tot_sub (l:=f) (i:=0) (j:=(n : Int)) (Q:=fun l=>l = f.take n) (by omega) (by omega) (by omega) (by simp)
 refine ⟨l,el,?_⟩
 have hll : l.length = n:=by rw [hl,List.length_take]; omega
 refine tot_loop (fun s=>∃ i : Nat,i ≤ n∧s.2 = (i : Int)∧Shp i m s.1∧∀ a c,a < i→c < m→mt s.1 a c = mt f a c * b) (fun s=>n - s.2.toNat) ⟨0,by omega,rfl,⟨rfl,fun r hr=>(by cases hr)⟩,fun a c ha=>by omega⟩ ?_
 rintro ⟨y,_⟩ ⟨i,hi',rfl,g1,g2⟩
 simp only at g1 g2
 have hyl:=g1.len
 by_cases hi : i < n
 ·have e0 : decide ((i : Int) < goLen l) = true:=decide_eq_true (by simp only [goLen]; omega)
  obtain ⟨fr,hfr,_,hfrl,hfrv,_⟩:=h.sh.get (i:=i) (by omega)
  have hlr : l[i]? = some fr:=by rw [hl,List.getElem?_take_of_lt hi]; exact hfr
  have e3 : w64 (goLen fr - 1) = (m : Int):=by simp only [goLen]; rw [hfrl,wid (by omega) (by omega)]; omega
  obtain ⟨r,er,hr⟩:=tot_sub (l:=fr) (i:=0) (j:=(m : Int)) (Q:=fun l=>l = fr.take m) (by omega) (by omega) (by omega) (by simp)
  have hrl : r.length = m:=by rw [hr,List.length_take]; omega
  have e2 : Tot (loopC (spec_oFrom_l2 b r) (([] : List Int),0)) fun o=>o.length = m∧∀ c,c < m→vc o c = mt f i c * b:=by
   refine tot_loop (fun s=>∃ j : Nat,j ≤ m∧s.2 = (j : Int)∧s.1.length = j∧∀ c,c < j→vc s.1 c = mt f i c * b) (fun s=>m - s.2.toNat) ⟨0,by omega,rfl,rfl,fun c hc=>by omega⟩ ?_
   rintro ⟨o,_⟩ ⟨j,hj',rfl,k1,k2⟩
   simp only at k1 k2
   by_cases hj : j < m
   ·have hbd:=h.bd hb hx hi hj
    have hxb:=hx.bd i j hi hj
    have hy:=vc_at (l:=r) (i:=j) (by omega)
    have hv : vc r j = mt f i j:=by rw [hr,vc_take hj,hfrv j]
    rw [hv] at hy
    simp only [spec_oFrom_l2,lt_ok hy,cond_true,at_ok hy,Option.bind_some]
    rw [wid (n:=mt f i j * b) (by omega) (by omega),goApp_ok (by simp; omega),Option.bind_some,wid (by omega) (by omega)]
    refine tot_some ⟨⟨j + 1,by omega,by simp only; omega,by simp; omega,fun c hc=>?_⟩,by simp only; omega⟩
    simp only
    rw [vc_app,k1]
    by_cases hcj : c = j
    ·rw [if_pos hcj,hcj]
    ·rw [if_neg hcj]; exact k2 c (by omega)
   ·obtain rfl : j = m:=by omega
    have e4 : decide ((j : Int) < goLen r) = false:=decide_eq_false (by simp only [goLen]; omega)
    simp only [spec_oFrom_l2,e4,cond_false]
    exact tot_some ⟨k1,k2⟩
  obtain ⟨o,eo,q1,q2⟩:=e2
  simp only [spec_oFrom_l1,e0,cond_true,at_ok hlr,Option.bind_some]
  rw [e3,er,Option.bind_some,eo,Option.bind_some,goApp_ok (by simp; omega),Option.bind_some,wid (by omega) (by omega)]
  refine tot_some ⟨⟨i + 1,by omega,by simp only; omega,⟨by simp; omega,fun r hr=>?_⟩,fun a c ha hc=>?_⟩,by simp only; omega⟩
  ·rcases List.mem_append.1 hr with hr | hr
   ·exact g1.row r hr
   ·rw [List.mem_singleton.1 hr]; exact q1
  ·simp only
   rw [mt_app,hyl]
   by_cases hai : a = i
   ·rw [if_pos hai,hai]; exact q2 c hc
   ·rw [if_neg hai]; exact g2 a c (by omega) hc
 ·obtain rfl : i = n:=by omega
  have e0 : decide ((i : Int) < goLen l) = false:=decide_eq_false (by simp only [goLen]; omega)
  simp only [spec_oFrom_l1,e0,cond_false]
  exact tot_some ⟨g1,g2⟩

theorem isRounded_ok (hb : 2 ≤ b∧b ≤ 100) {v q y : Int} (hv : 0 ≤ v) (hv2 : v ≤ 100000000) (hy : y = q * b) (h : v - b < y∧y < v + b) : impl_isRounded v b y = some true:=by
 have e : goRem y b = some 0:=tot_eq (tot_rem (by omega) (by rw [hy]; exact Int.mul_tmod_left _ _))
 unfold impl_isRounded
 rw [e]
 simp only [Option.bind_some]
 rw [wid (n:=v - b) (by omega) (by omega),wid (n:=v + b) (by omega) (by omega),decide_eq_true h.1,decide_eq_true h.2]
 rfl

theorem round_ok (hb : 2 ≤ b∧b ≤ 100) (hx : Mx n m x) (h : RF n m x f b) (hM : impl_isMatrix x = some true) (hB : impl_isBaseOf b = some true) :
  ∃ c rs cs tot,impl_roundingOf x b f = some ⟨c,rs,cs,tot⟩∧spec_oFrom f b = some ⟨c,rs,cs,tot⟩∧Shp n m c∧(∀ i j,i < n→j < m→mt c i j = mt f i j * b)∧rs.length = n∧cs.length = m∧impl_IsRounding x b ⟨c,rs,cs,tot⟩ = some (true,true):=by
 have n7:=hx.n7; have m7:=hx.m7; have hxl:=hx.sh.len; have n1:=hx.n1; have B:=hx.rb
 obtain ⟨c,ec,hc,hcv⟩:=cellsI hb hx h
 obtain ⟨l,el,c',ec',hc',hcv'⟩:=cellsS hb hx h
 obtain rfl : c = c':=hc.ext hc' fun i j hi hj=>by rw [hcv i j hi hj,hcv' i j hi hj]
 have hcb : ∀ i j,i < n→j < m→0 ≤ mt c i j∧mt c i j ≤ 20000:=fun i j hi hj=>by
  rw [hcv i j hi hj]
  have a:=h.bd hb hx hi hj
  have:=hx.bd i j hi hj
  omega
 obtain ⟨rs,cs,i1,i2,i3,i4,i5,rsl,csl,rsv,csv,rbd,cbd,t0,t1⟩:=margins_ok hc hx.n1 (by omega) (by omega) hcb
 obtain ⟨rx,cx,j1,j2,j3,j4,j5,rxl,cxl,rxv,cxv,_,_,_,_⟩:=margins_ok hx.sh hx.n1 (by omega) (by omega) (fun i j hi hj=>by have:=hx.bd i j hi hj; omega)
 have hcl:=hc.len
 refine ⟨c,rs,cs,(sm n fun i=>sm m (mt c i)),?_,?_,hc,hcv,rsl,csl,?_⟩
 ·unfold impl_roundingOf
  rw [copy_eq (hx.sh.sz (by omega) (by omega)) (by omega),Option.bind_some,ec,Option.bind_some,i1]
  rfl
 ·unfold spec_oFrom
  rw [el,Option.bind_some,ec',Option.bind_some,i2]
  rfl
 ·obtain ⟨row0,hrow0,_,hrow0l,_,_⟩:=hx.sh.get (i:=0) (by omega)
  have g0 : goAt x 0 = some row0:=at_ok (k:=0) hrow0
  have gn : goLen x = (n : Int):=by simp only [goLen]; rw [hxl]
  have gm : goLen row0 = (m : Int):=by simp only [goLen]; rw [hrow0l]
  have hT : (sm n fun i=>sm m (mt x i)) = rT n m x:=rfl
  generalize htot : (sm n fun i=>sm m (mt c i)) = tot at i1 i2 i5 t0 t1 ⊢
  have hto : tot = (sm n fun i=>sm m (mt f i)) * b:=by
   rw [← htot,← sm_mul]
   exact sm_congr fun i hi=>by
    rw [← sm_mul]
    exact sm_congr fun j hj=>hcv i j hi hj
  have L1 : loopC (impl_IsRounding_l1 x b ⟨c,rs,cs,tot⟩) 0 = some (.inl ()):=by
   refine runM (N:=n) (by omega) (fun i hi=>?_) ?_
   ·obtain ⟨xr,hxr,_,hxrl,_,_⟩:=hx.sh.get hi
    obtain ⟨cr,hcr,_,_,_,_⟩:=hc.get hi
    have L2 : loopC (impl_IsRounding_l2 b ⟨c,rs,cs,tot⟩ (i : Int) xr) 0 = some (.inl ()):=by
     refine runM (N:=m) (by omega) (fun j hj=>?_) ?_
     ·have hy:=hx.sh.el hxr hj
      have hbd:=h.bd hb hx hi hj
      have hxb:=hx.bd i j hi hj
      simp only [impl_IsRounding_l2,lt_ok hy,cond_true,at_ok hy,at_ok hcr,at_ok (hc.el hcr hj),Option.bind_some]
      rw [isRounded_ok hb hxb.1 (by omega) (hcv i j hi hj) (by rw [hcv i j hi hj]; exact hbd.2)]
      rfl
     ·have e3 : decide ((m : Int) < goLen xr) = false:=decide_eq_false (by simp only [goLen]; omega)
      simp only [impl_IsRounding_l2,e3,cond_false]
    simp only [impl_IsRounding_l1,lt_ok hxr,cond_true,at_ok hxr,Option.bind_some]
    rw [L2]
    rfl
   ·have e3 : decide ((n : Int) < goLen x) = false:=decide_eq_false (by simp only [goLen]; omega)
    simp only [impl_IsRounding_l1,e3,cond_false]
  have L3 : loopC (impl_IsRounding_l3 b ⟨c,rs,cs,tot⟩ ⟨x,rx,cx,rT n m x⟩) 0 = some (.inl ()):=by
   refine runM (N:=n) (by omega) (fun i hi=>?_) ?_
   ·have hy:=vc_at (l:=rx) (i:=i) (by omega)
    have hz:=vc_at (l:=rs) (i:=i) (by omega)
    have hr:=B.r i hi
    have hq:=h.row i hi
    have hv : vc rs i = sm m (mt f i) * b:=by
     rw [rsv i hi,← sm_mul]
     exact sm_congr fun j hj=>hcv i j hi hj
    rw [rxv i hi,show sm m (mt x i) = rR m x i from rfl] at hy
    simp only [impl_IsRounding_l3,lt_ok hy,cond_true,at_ok hy,at_ok hz,Option.bind_some]
    rw [isRounded_ok hb hr.1 (by omega) hv (by rw [hv]; exact (rnd_of hb hr.1 hq.1 hq.2).2)]
    rfl
   ·have e3 : decide ((n : Int) < goLen rx) = false:=decide_eq_false (by simp only [goLen]; omega)
    simp only [impl_IsRounding_l3,e3,cond_false]
  have L4 : loopC (impl_IsRounding_l4 b ⟨c,rs,cs,tot⟩ ⟨x,rx,cx,rT n m x⟩) 0 = some (.inl ()):=by
   refine runM (N:=m) (by omega) (fun j hj=>?_) ?_
   ·have hy:=vc_at (l:=cx) (i:=j) (by omega)
    have hz:=vc_at (l:=cs) (i:=j) (by omega)
    have hr:=B.c j hj
    have hq:=h.col j hj
    have hv : vc cs j = sm n (fun i=>mt f i j) * b:=by
     rw [csv j hj,← sm_mul]
     exact sm_congr fun i hi=>hcv i j hi hj
    rw [cxv j hj,show (sm n fun i=>mt x i j) = rC n x j from rfl] at hy
    simp only [impl_IsRounding_l4,lt_ok hy,cond_true,at_ok hy,at_ok hz,Option.bind_some]
    rw [isRounded_ok hb hr.1 (by omega) hv (by rw [hv]; exact (rnd_of hb hr.1 hq.1 hq.2).2)]
    rfl
   ·have e3 : decide ((m : Int) < goLen cx) = false:=decide_eq_false (by simp only [goLen]; omega)
    simp only [impl_IsRounding_l4,e3,cond_false]
  obtain ⟨b1,e1,q1⟩:=equal_bis (a:=rs) (b:=rs) (by omega)
  obtain ⟨b2,e2,q2⟩:=equal_bis (a:=cs) (b:=cs) (by omega)
  obtain rfl:=q1.2 rfl
  obtain rfl:=q2.2 rfl
  have j1' : impl_summed x = some ⟨x,rx,cx,rT n m x⟩:=j1
  unfold impl_IsRounding
  rw [hM,hB,g0]
  simp only [Option.bind_some,Bool.not_true,cond_false]
  rw [gn,gm,shape_t hc (by omega)]
  simp only [Option.bind_some,Bool.not_true,cond_false]
  rw [show (goLen rs != (n : Int)) = false by simp [goLen,rsl],show (goLen cs != (m : Int)) = false by simp [goLen,csl]]
  simp only [cond_false,Option.bind_some]
  rw [j1',Option.bind_some,L1]
  simp only [Option.bind_some]
  rw [i1]
  simp only [Option.bind_some,e1,e2,Bool.not_true,cond_false,bne_self_eq_false]
  rw [L3]
  simp only [Option.bind_some]
  rw [L4]
  simp only [Option.bind_some]
  rw [isRounded_ok hb B.t0 (by have:=B.t1; omega) hto (by rw [hto]; exact (rnd_of hb B.t0 h.tot.1 h.tot.2).2)]
  rfl

end

end Go.Gx.F
