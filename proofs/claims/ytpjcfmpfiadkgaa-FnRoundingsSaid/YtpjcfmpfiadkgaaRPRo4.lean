/- Plain laws: the network of roundings as the reference builds it. -/
import Derived.Test.YtpjcfmpfiadkgaaRPRo3

namespace Go.Gx.F

open Go.Gx

set_option linter.all false

set_option maxRecDepth 10000

section

variable {n m : Nat} {x : List (List Int)} {b : Int}

theorem sNetL2 (hb : 2 ≤ b∧b ≤ 100) (hx : Mx n m x) {i : Nat} (hi : i < n) {row : List Int} (hrow : x[i]? = some row) (hrl : row.length = m) :
  Tot (loopC (spec_oNetwork_l2 b row) (([] : List Int),([] : List Int),0)) fun r=>r.1.length = m∧r.2.length = m∧∀ c,c < m→vc r.1 c = dn b (mt x i c)∧vc r.2 c = up b (mt x i c):=by
 have m7:=hx.m7
 refine tot_loop (fun s=>∃ j : Nat,j ≤ m∧s.2.2 = (j : Int)∧s.1.length = j∧s.2.1.length = j∧∀ c,c < j→vc s.1 c = dn b (mt x i c)∧vc s.2.1 c = up b (mt x i c)) (fun s=>m - s.2.2.toNat) ⟨0,by omega,rfl,rfl,rfl,fun c hc=>by omega⟩ ?_
 rintro ⟨lo,hh,_⟩ ⟨j,hj',rfl,g1,g2,g3⟩
 simp only at g1 g2 g3
 by_cases hj : j < m
 ·have hy:=hx.sh.el hrow hj
  have hv:=hx.bd i j hi hj
  simp only [spec_oNetwork_l2,lt_ok hy,cond_true,at_ok hy,Option.bind_some]
  rw [sDown hb hv.1 (by omega),Option.bind_some,goApp_ok (by simp; omega),Option.bind_some,sUp hb hv.1 (by omega),Option.bind_some,goApp_ok (by simp; omega),Option.bind_some,wid (by omega) (by omega)]
  refine tot_some ⟨⟨j + 1,by omega,by simp only; omega,by simp; omega,by simp; omega,fun c hc=>?_⟩,by simp only; omega⟩
  simp only
  rw [vc_app,vc_app,g1,g2]
  by_cases hcj : c = j
  ·rw [if_pos hcj,if_pos hcj,hcj]; exact ⟨rfl,rfl⟩
  ·rw [if_neg hcj,if_neg hcj]; exact g3 c (by omega)
 ·obtain rfl : j = m:=by omega
  have e3 : decide ((j : Int) < goLen row) = false:=decide_eq_false (by simp only [goLen]; omega)
  simp only [spec_oNetwork_l2,e3,cond_false]
  exact tot_some ⟨g1,g2,g3⟩

theorem sNetL1 (hb : 2 ≤ b∧b ≤ 100) (hx : Mx n m x) {t3 : impl_Rounding} (hrl : t3.Rows.length = n) (hrv : ∀ i,i < n→vc t3.Rows i = rR m x i) {d : Int} (hd : 0 ≤ d∧d ≤ 1000000) :
  Tot (loopC (spec_oNetwork_l1 x b t3) (-d,0,⟨[],[],[],[]⟩)) fun r=>r.1 = (sm n fun i=>up b (rR m x i)) - d∧r.2.Rows.length = n∧(∀ k,k < n→vc r.2.Rows k = up b (rR m x k))∧Shp n (m + 1) r.2.Lo∧Shp n (m + 1) r.2.Hi∧∀ a c,a < n→c < m + 1→mt r.2.Lo a c = rlo n m x b a c∧mt r.2.Hi a c = rhi n m x b a c:=by
 have n7:=hx.n7; have m7:=hx.m7; have B:=hx.rb; have hxl:=hx.sh.len
 have ub : ∀ i,i < n→0 ≤ up b (rR m x i)∧up b (rR m x i) ≤ 70001:=fun i hi=>by
  have a:=B.r i hi
  have:=dnup hb a.1
  omega
 refine tot_loop (fun s=>∃ i : Nat,i ≤ n∧s.2.1 = (i : Int)∧s.1 = (sm i fun i=>up b (rR m x i)) - d∧s.2.2.Rows.length = i∧(∀ k,k < i→vc s.2.2.Rows k = up b (rR m x k))∧Shp i (m + 1) s.2.2.Lo∧Shp i (m + 1) s.2.2.Hi∧∀ a c,a < i→c < m + 1→mt s.2.2.Lo a c = rlo n m x b a c∧mt s.2.2.Hi a c = rhi n m x b a c) (fun s=>n - s.2.1.toNat)
  ⟨0,by omega,rfl,by simp [sm],rfl,fun k hk=>by omega,⟨rfl,fun r hr=>(by cases hr)⟩,⟨rfl,fun r hr=>(by cases hr)⟩,fun a c ha=>by omega⟩ ?_
 rintro ⟨cols,_,t⟩ ⟨i,hi',rfl,g0,g1,g2,g3,g4,g5⟩
 simp only at g0 g1 g2 g3 g4 g5
 by_cases hi : i < n
 ·obtain ⟨row,hrow,_,hrl',_,_⟩:=hx.sh.get hi
  obtain ⟨⟨lo,hh⟩,e2,l1,l2,l3⟩:=sNetL2 hb hx hi hrow hrl'
  simp only at l1 l2 l3
  have hy:=vc_at (l:=t3.Rows) (i:=i) (by omega)
  rw [hrv i hi] at hy
  have hr:=B.r i hi
  have hdu:=dnup hb hr.1
  have s1:=g3.len; have s2:=g4.len
  have sb:=(sm_bd (n:=i) (f:=fun i=>up b (rR m x i)) (B:=70001) fun k hk=>by have:=ub k (by omega); omega)
  simp only [spec_oNetwork_l1,lt_ok hrow,cond_true,at_ok hrow,Option.bind_some]
  rw [e2]
  simp only [Option.bind_some,at_ok hy]
  rw [goApp_ok (l:=lo) (by simp; omega),Option.bind_some,goApp_ok (l:=t.Lo) (by simp; omega)]
  simp only [Option.bind_some]
  rw [sUp hb hr.1 (by omega),sDown hb hr.1 (by omega)]
  simp only [Option.bind_some]
  rw [goApp_ok (l:=hh) (by simp; omega),Option.bind_some,goApp_ok (l:=t.Hi) (by simp; omega)]
  simp only [Option.bind_some]
  rw [goApp_ok (l:=t.Rows) (by simp; omega)]
  simp only [Option.bind_some]
  rw [wid (n:=(i : Int) + 1) (by omega) (by omega),wid (n:=cols + up b (rR m x i)) (by omega) (by omega),wid (n:=up b (rR m x i) - dn b (rR m x i)) (by omega) (by omega)]
  refine tot_some ⟨⟨i + 1,by omega,by simp only; omega,by simp only [sm]; omega,by simp; omega,fun k hk=>?_,⟨by simp; omega,fun r hr=>?_⟩,⟨by simp; omega,fun r hr=>?_⟩,fun a c ha hc=>?_⟩,by simp only; omega⟩
  ·simp only
   rw [vc_app,g1]
   by_cases hki : k = i
   ·rw [if_pos hki,hki]
   ·rw [if_neg hki]; exact g2 k (by omega)
  ·rcases List.mem_append.1 hr with hr | hr
   ·exact g3.row r hr
   ·rw [List.mem_singleton.1 hr]; simp; omega
  ·rcases List.mem_append.1 hr with hr | hr
   ·exact g4.row r hr
   ·rw [List.mem_singleton.1 hr]; simp; omega
  ·simp only
   rw [mt_app,mt_app,s1,s2]
   by_cases hai : a = i
   ·rw [if_pos hai,if_pos hai,vc_app,vc_app,l1,l2,hai]
    unfold rlo rhi
    by_cases hcm : c = m
    ·rw [if_pos hcm,if_pos hcm,if_neg (by omega),if_pos hi,if_neg (by omega)]; exact ⟨rfl,rfl⟩
    ·rw [if_neg hcm,if_neg hcm,if_pos (by omega),if_pos hi,if_pos (by omega)]
     exact l3 c (by omega)
   ·rw [if_neg hai,if_neg hai]; exact g5 a c (by omega) hc
 ·obtain rfl : i = n:=by omega
  have e3 : decide ((i : Int) < goLen x) = false:=decide_eq_false (by simp only [goLen]; omega)
  simp only [spec_oNetwork_l1,e3,cond_false]
  exact tot_some ⟨g0,g1,g2,g3,g4,g5⟩

theorem sNetL3 (hb : 2 ≤ b∧b ≤ 100) (hx : Mx n m x) {t3 : impl_Rounding} (hcl : t3.Cols.length = m) (hcv : ∀ j,j < m→vc t3.Cols j = rC n x j) {d : Int} (hd : 0 ≤ d∧d ≤ 1000000) {R : List Int} {L H : List (List Int)} :
  Tot (loopC (spec_oNetwork_l3 b t3) (([] : List Int),([] : List Int),-d,0,⟨R,[],L,H⟩)) fun r=>r.1.length = m∧r.2.1.length = m∧(∀ c,c < m→vc r.1 c = 0∧vc r.2.1 c = up b (rC n x c) - dn b (rC n x c))∧r.2.2.1 = (sm m fun j=>up b (rC n x j)) - d∧r.2.2.2.Rows = R∧r.2.2.2.Lo = L∧r.2.2.2.Hi = H∧r.2.2.2.Cols.length = m∧∀ c,c < m→vc r.2.2.2.Cols c = up b (rC n x c):=by
 have n7:=hx.n7; have m7:=hx.m7; have B:=hx.rb; have hxl:=hx.sh.len
 have ub : ∀ i,i < m→0 ≤ up b (rC n x i)∧up b (rC n x i) ≤ 70001:=fun i hi=>by
  have a:=B.c i hi
  have:=dnup hb a.1
  omega
 refine tot_loop (fun s=>∃ j : Nat,j ≤ m∧s.2.2.2.1 = (j : Int)∧s.1.length = j∧s.2.1.length = j∧(∀ c,c < j→vc s.1 c = 0∧vc s.2.1 c = up b (rC n x c) - dn b (rC n x c))∧s.2.2.1 = (sm j fun j=>up b (rC n x j)) - d∧s.2.2.2.2.Rows = R∧s.2.2.2.2.Lo = L∧s.2.2.2.2.Hi = H∧s.2.2.2.2.Cols.length = j∧∀ c,c < j→vc s.2.2.2.2.Cols c = up b (rC n x c)) (fun s=>m - s.2.2.2.1.toNat)
  ⟨0,by omega,rfl,rfl,rfl,fun c hc=>by omega,by simp [sm],rfl,rfl,rfl,rfl,fun c hc=>by omega⟩ ?_
 rintro ⟨lo,hh,rows,_,t⟩ ⟨j,hj',rfl,g1,g2,g3,g4,g5,g6,g7,g8,g9⟩
 simp only at g1 g2 g3 g4 g5 g6 g7 g8 g9
 by_cases hj : j < m
 ·have hy:=vc_at (l:=t3.Cols) (i:=j) (by omega)
  rw [hcv j hj] at hy
  have hr:=B.c j hj
  have hdu:=dnup hb hr.1
  have sb:=(sm_bd (n:=j) (f:=fun i=>up b (rC n x i)) (B:=70001) fun k hk=>by have:=ub k (by omega); omega)
  simp only [spec_oNetwork_l3,lt_ok hy,cond_true,at_ok hy,Option.bind_some]
  rw [goApp_ok (l:=lo) (by simp; omega),sUp hb hr.1 (by omega),sDown hb hr.1 (by omega)]
  simp only [Option.bind_some]
  rw [goApp_ok (l:=hh) (by simp; omega),Option.bind_some,goApp_ok (l:=t.Cols) (by simp; omega)]
  simp only [Option.bind_some]
  rw [wid (n:=(j : Int) + 1) (by omega) (by omega),wid (n:=rows + up b (rC n x j)) (by omega) (by omega),wid (n:=up b (rC n x j) - dn b (rC n x j)) (by omega) (by omega)]
  refine tot_some ⟨⟨j + 1,by omega,by simp only; omega,by simp; omega,by simp; omega,fun c hc=>?_,by simp only [sm]; omega,g5,g6,g7,by simp; omega,fun c hc=>?_⟩,by simp only; omega⟩
  ·simp only
   rw [vc_app,vc_app,g1,g2]
   by_cases hcj : c = j
   ·rw [if_pos hcj,if_pos hcj,hcj]; exact ⟨rfl,rfl⟩
   ·rw [if_neg hcj,if_neg hcj]; exact g3 c (by omega)
  ·simp only
   rw [vc_app,g8]
   by_cases hcj : c = j
   ·rw [if_pos hcj,hcj]
   ·rw [if_neg hcj]; exact g9 c (by omega)
 ·obtain rfl : j = m:=by omega
  have e3 : decide ((j : Int) < goLen t3.Cols) = false:=decide_eq_false (by simp only [goLen]; omega)
  simp only [spec_oNetwork_l3,e3,cond_false]
  exact tot_some ⟨g1,g2,g3,g4,g5,g6,g7,g8,g9⟩

theorem spec_netR (hb : 2 ≤ b∧b ≤ 100) (hx : Mx n m x) : ∃ t,spec_oNetwork x b = some t∧NetR n m x b t:=by
 have n7:=hx.n7; have m7:=hx.m7; have B:=hx.rb; have hxl:=hx.sh.len
 obtain ⟨rs,cs,_,em,_,_,_,rsl,csl,rsv,csv,_,_,_,_⟩:=margins_ok hx.sh hx.n1 (by omega) (by omega) (fun i j hi hj=>by have:=hx.bd i j hi hj; omega)
 have em : spec_oMargins x = some ⟨x,rs,cs,rT n m x⟩:=em
 have T0:=B.t0; have T1:=B.t1
 have hT:=dnup hb B.t0
 have hd : 0 ≤ dn b (rT n m x)∧dn b (rT n m x) ≤ 1000000:=by omega
 obtain ⟨⟨cols,t1⟩,e1,p1,p2,p3,p4,p5,p6⟩:=sNetL1 hb hx (t3:=⟨x,rs,cs,rT n m x⟩) rsl rsv hd
 simp only at p1 p2 p3 p4 p5 p6
 obtain ⟨⟨lo,hh,rows,t2⟩,e2,q1,q2,q3,q4,q5,q6,q7,q8,q9⟩:=sNetL3 hb hx (t3:=⟨x,rs,cs,rT n m x⟩) csl csv hd (R:=t1.Rows) (L:=t1.Lo) (H:=t1.Hi)
 simp only at q1 q2 q3 q4 q5 q6 q7 q8 q9
 have l1:=p4.len; have l2:=p5.len
 unfold spec_oNetwork
 rw [em]
 simp only [Option.bind_some]
 rw [sDown hb B.t0 (by omega),sUp hb B.t0 (by omega)]
 simp only [Option.bind_some]
 rw [wid (n:=-dn b (rT n m x)) (by omega) (by omega),e1]
 simp only [Option.bind_some]
 rw [e2]
 simp only [Option.bind_some]
 rw [goApp_ok (l:=lo) (by simp; omega),Option.bind_some,goApp_ok (l:=t2.Lo) (by rw [q6]; simp; omega)]
 simp only [Option.bind_some]
 rw [goApp_ok (l:=hh) (by simp; omega),Option.bind_some,goApp_ok (l:=t2.Hi) (by rw [q7]; simp; omega)]
 simp only [Option.bind_some]
 rw [goApp_ok (l:=t2.Rows) (by rw [q5]; simp; omega),Option.bind_some,goApp_ok (l:=t2.Cols) (by simp; omega),Option.bind_some,wid (n:=up b (rT n m x) - dn b (rT n m x)) (by omega) (by omega)]
 refine ⟨_,rfl,by simp only [q5]; simp; omega,by simp; omega,⟨by simp only [q6]; simp; omega,fun r hr=>?_⟩,⟨by simp only [q7]; simp; omega,fun r hr=>?_⟩,fun i hi=>?_,fun j hj=>?_,fun i j hi hj=>?_,fun i j hi hj=>?_⟩
 ·rw [q6] at hr
  rcases List.mem_append.1 hr with hr | hr
  ·exact p4.row r hr
  ·rw [List.mem_singleton.1 hr]; simp; omega
 ·rw [q7] at hr
  rcases List.mem_append.1 hr with hr | hr
  ·exact p5.row r hr
  ·rw [List.mem_singleton.1 hr]; simp; omega
 ·simp only
  rw [vc_app,q5,p2]
  by_cases hc : i = n
  ·rw [if_pos hc,if_neg (by omega),q4]
  ·rw [if_neg hc,if_pos (by omega)]; exact p3 i (by omega)
 ·simp only
  rw [vc_app,q8]
  by_cases hc : j = m
  ·rw [if_pos hc,if_neg (by omega),p1]
  ·rw [if_neg hc,if_pos (by omega)]; exact q9 j (by omega)
 ·simp only
  rw [mt_app,q6,l1]
  by_cases hc : i = n
  ·rw [if_pos hc,vc_app,q1]
   unfold rlo
   rw [if_neg (show ¬ (i < n∧j < m) by omega)]
   by_cases hcm : j = m
   ·rw [if_pos hcm]
   ·rw [if_neg hcm]; exact (q3 j (by omega)).1
  ·rw [if_neg hc]; exact (p6 i j (by omega) hj).1
 ·simp only
  rw [mt_app,q7,l2]
  by_cases hc : i = n
  ·rw [if_pos hc,vc_app,q2]
   unfold rhi
   rw [if_neg (show ¬ i < n by omega)]
   by_cases hcm : j = m
   ·rw [if_pos hcm,if_neg (show ¬ j < m by omega)]
   ·rw [if_neg hcm,if_pos (show j < m by omega)]; exact (q3 j (by omega)).2
  ·rw [if_neg hc]; exact (p6 i j (by omega) hj).2

theorem nets_r (hb : 2 ≤ b∧b ≤ 100) (hx : Mx n m x) : ∃ t,impl_roundingNetwork x b = some t∧spec_oNetwork x b = some t∧NetR n m x b t∧Tr (n + 1) (m + 1) t:=by
 obtain ⟨t,e1,h1⟩:=impl_netR hb hx
 obtain ⟨u,e2,h2⟩:=spec_netR hb hx
 obtain rfl:=h1.one h2
 exact ⟨t,e1,e2,h1,h1.tr hb hx⟩

end

end Go.Gx.F
