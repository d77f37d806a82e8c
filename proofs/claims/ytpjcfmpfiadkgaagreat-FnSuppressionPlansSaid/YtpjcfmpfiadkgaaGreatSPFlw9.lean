/- Plain laws: ranges,first and next flows of the program. -/
import Derived.Test.YtpjcfmpfiadkgaaGreatSPFlw8

namespace Go.Gx.F

open Go.Gx

set_option linter.all false

theorem IsFl.congr {n m : Nat} {R C : Nat→Int} {lo hi x y : Nat→Nat→Int} (h : IsFl n m R C lo hi x) (he : ∀ i j,i < n→j < m→y i j = x i j) : IsFl n m R C lo hi y :=
 ⟨fun i j a b=>by rw [he i j a b]; exact h.lo i j a b,fun i j a b=>by rw [he i j a b]; exact h.hi i j a b,fun i a=>by rw [← h.row i a]; exact sm_congr fun j b=>he i j a b,fun j b=>by rw [← h.col j b]; exact sm_congr fun i a=>he i j a b⟩

section

variable {n m : Nat} {t : impl_Transport} {x : List (List Int)}

theorem Tr.fb (hT : Tr n m t) {y : Nat→Nat→Int} (h : IsF n m t y) {i j : Nat} (hi : i < n) (hj : j < m) : 0 ≤ y i j∧y i j ≤ 100000:=by
 have h1:=hT.bd i j hi hj; have h2:=h.lo i j hi hj; have h3:=h.hi i j hi hj
 omega

theorem rsd_bd (hT : Tr n m t) (hb : ∀ i j,i < n→j < m→mt t.Lo i j ≤ mt x i j∧mt x i j ≤ mt t.Hi i j) {ok : Nat→Nat→Bool} {u v : Nat} (hu : u < n + m) (hv : v < n + m) : 0 ≤ rsd n (mt t.Lo) (mt t.Hi) (mt x) ok u v∧rsd n (mt t.Lo) (mt t.Hi) (mt x) ok u v ≤ 100000:=by
 unfold rsd
 by_cases h1 : u < n∧n ≤ v
 ·rw [if_pos h1]
  have h2:=hb u (v - n) h1.1 (by omega); have h3:=hT.bd u (v - n) h1.1 (by omega)
  split <;> omega
 ·rw [if_neg h1]
  by_cases h3 : v < n∧n ≤ u
  ·rw [if_pos h3]
   have h2:=hb v (u - n) h3.1 (by omega); have h4:=hT.bd v (u - n) h3.1 (by omega)
   split <;> omega
  ·rw [if_neg h3]; omega

theorem Res.of {N : Nat} {r0 r0' r : Nat→Nat→Int} {a b : Nat} {v : Int} (h : Res N r0 r a b v) (he : ∀ i j,i < N→j < N→r0 i j = r0' i j) : Res N r0' r a b v :=
 ⟨h.nn,fun i j hi hj=>by rw [← he i j hi hj,← he j i hj hi]; exact h.sym i j hi hj,fun i hi=>by rw [h.sum i hi,sm_congr fun j hj=>he i j hi hj]⟩

theorem FlowN.of {N : Nat} {c c' : Nat→Nat→Int} {a b : Nat} {v : Int} {g : Nat→Nat→Int} (h : FlowN N c a b v g) (he : ∀ i j,i < N→j < N→c i j = c' i j) : FlowN N c' a b v g :=
 ⟨h.anti,fun i j hi hj=>by rw [← he i j hi hj]; exact h.cap i j hi hj,h.bal,h.val⟩

theorem but_ok {i j a b : Nat} (hi : i < n) : rsd n (mt t.Lo) (mt t.Hi) (mt x) (but i j) a b = if a = n + j∧b = i then 0 else if a = i∧b = n + j then 0 else rsd n (mt t.Lo) (mt t.Hi) (mt x) (okf m (-1)) a b:=by
 have hok : ∀ c d,okf m (-1) c d = true:=fun c d=>by unfold okf; exact decide_eq_true (by omega)
 unfold rsd
 by_cases h1 : a < n∧n ≤ b
 ·simp only [if_pos h1,hok,if_true]
  rw [if_neg (show ¬ (a = n + j∧b = i) by omega)]
  by_cases h2 : a = i∧b = n + j
  ·rw [if_pos h2,if_neg (by obtain ⟨rfl,rfl⟩:=h2; rw [show n + j - n = j by omega]; simp [but])]
  ·rw [if_neg h2,if_pos (but_t.2 (by omega))]
 ·simp only [if_neg h1]
  by_cases h3 : b < n∧n ≤ a
  ·simp only [if_pos h3,hok,if_true]
   by_cases h2 : a = n + j∧b = i
   ·rw [if_pos h2,if_neg (by obtain ⟨rfl,rfl⟩:=h2; rw [show n + j - n = j by omega]; simp [but])]
   ·rw [if_neg h2,if_neg (show ¬ (a = i∧b = n + j) by omega),if_pos (but_t.2 (by omega))]
  ·simp only [if_neg h3]
   split <;> (try split) <;> rfl

theorem free_ok (hT : Tr n m t) (hx : Shp n m x) (hb : ∀ i j,i < n→j < m→mt t.Lo i j ≤ mt x i j∧mt x i j ≤ mt t.Hi i j) {i j : Nat} (hi : i < n) (hj : j < m) :
  ∃ r,impl_rangeOf_1 t x (i : Int) (n : Int) (j : Int) = some r∧Shp (n + m) (n + m) r∧∀ u v,u < n + m→v < n + m→mt r u v = rsd n (mt t.Lo) (mt t.Hi) (mt x) (but i j) u v:=by
 have h3:=hT.n8; have h4:=hT.m8
 obtain ⟨r,e,hr,hv⟩:=residual_ok (f:=-1) hT hx hb ⟨by omega,by omega⟩
 unfold impl_rangeOf_1
 rw [e,Option.bind_some,wid (by omega) (by omega),show (n : Int) + j = ((n + j : Nat) : Int) by omega]
 obtain ⟨ri,hri,_,_,_,_⟩:=hr.get (i:=i) (by omega)
 obtain ⟨rj,hrj,_,_,_,_⟩:=hr.get (i:=n + j) (by omega)
 rw [at_ok hri,Option.bind_some,at_ok hrj,Option.bind_some,at_ok (hr.el hri (show n + j < n + m by omega)),Option.bind_some]
 simp only [goSet,Int.toNat_natCast]
 rw [set_upd hri]
 have hs1:=hr.upd (j:=n + j) (v:=0) (show i < n + m by omega)
 obtain ⟨rj2,hrj2,_,_,_,_⟩:=hs1.get (i:=n + j) (by omega)
 rw [at_ok hrj2,Option.bind_some,at_ok (hs1.el hrj2 (show i < n + m by omega)),Option.bind_some,set_upd hrj2]
 have hs2:=hs1.upd (j:=i) (v:=0) (show n + j < n + m by omega)
 obtain ⟨ri2,hri2,_,_,_,_⟩:=hs2.get (i:=i) (by omega)
 refine ⟨upd (upd r i (n + j) 0) (n + j) i 0,?_,hs2,fun u v hu hv'=>?_⟩
 ·first | rfl | (rw [at_ok hri2]; rfl)
 ·rw [mt_upd hs1 (by omega) (by omega),mt_upd hr (by omega) (by omega),hv u v hu hv',but_ok (m:=m) hi]

theorem range_ok (hT : Tr n m t) (hx : Shp n m x) (hF : IsF n m t (mt x)) {i j : Nat} (hi : i < n) (hj : j < m) :
  ∃ lo hi',impl_rangeOf t x (i : Int) (j : Int) = some (lo,hi')∧Lst (IsF n m t) i j lo∧Gst (IsF n m t) i j hi':=by
 have h1:=hT.rl; have h2:=hT.cl; have h3:=hT.n8; have h4:=hT.m8
 have hb : ∀ i j,i < n→j < m→mt t.Lo i j ≤ mt x i j∧mt x i j ≤ mt t.Hi i j:=fun i j a b=>⟨hF.lo i j a b,hF.hi i j a b⟩
 have hbt:=hT.bd i j hi hj; have hbx:=hb i j hi hj
 obtain ⟨row,hrow,_,_,_,_⟩:=hx.get hi
 obtain ⟨lrow,hlrow,_,_,_,_⟩:=hT.lo.get hi
 obtain ⟨hrow',hhrow,_,_,_,_⟩:=hT.hi.get hi
 obtain ⟨r,er,hr,hrv⟩:=free_ok hT hx hb hi hj
 have hr0 : ∀ u v,u < n + m→v < n + m→0 ≤ mt r u v∧mt r u v ≤ 1000000:=fun u v hu hv=>by
  rw [hrv u v hu hv]
  have:=rsd_bd hT hb (ok:=but i j) hu hv
  omega
 obtain ⟨w1,y1,p1,_,p2,p3,p4,p5⟩:=push_ok (f:=i) (t:=n + j) (limit:=mt x i j - mt t.Lo i j) hr hr0 (by omega) (by omega) (by omega) (by omega) ⟨by omega,by omega⟩
 obtain ⟨w2,y2,q1,_,q2,q3,q4,q5⟩:=push_ok (f:=n + j) (t:=i) (limit:=mt t.Hi i j - mt x i j) hr hr0 (by omega) (by omega) (by omega) (by omega) ⟨by omega,by omega⟩
 unfold impl_rangeOf
 have e1:=at_ok hrow; have e2:=at_ok (hx.el hrow hj); have e3:=at_ok hlrow; have e4:=at_ok (hT.lo.el hlrow hj); have e5:=at_ok hhrow; have e6:=at_ok (hT.hi.el hhrow hj)
 have gR : goLen t.Rows = (n : Int):=by simp only [goLen]; rw [h1]
 simp only [e1,e2,e3,e4,e5,e6,Option.bind_some,gR,er]
 rw [wid (n:=(n : Int) + j) (by omega) (by omega),show (n : Int) + j = ((n + j : Nat) : Int) by omega,wid (n:=mt x i j - mt t.Lo i j) (by omega) (by omega),p1]
 simp only [Option.bind_some]
 rw [wid (n:=mt t.Hi i j - mt x i j) (by omega) (by omega),q1]
 simp only [Option.bind_some]
 rw [wid (n:=mt x i j - w1) (by omega) (by omega),wid (n:=mt x i j + w2) (by omega) (by omega)]
 have hbf : but i j i j = false:=by simp [but]
 have hl:=low_is hF hi hj hbf p3 p4 (p2.of hrv) (p5.imp id fun h v g hg=>h v g (hg.of fun a b ha hb=>(hrv a b ha hb).symm))
 have hg:=high_is hF hi hj hbf q3 q4 (q2.of hrv) (q5.imp id fun h v g hg=>h v g (hg.of fun a b ha hb=>(hrv a b ha hb).symm))
 have all : ∀ y : Nat→Nat→Int,∀ a b,a < n→b < m→but i j a b = false→¬ (a = i∧b = j)→y a b = mt x a b:=fun y a b _ _ hf hc=>absurd (but_f.1 hf) hc
 exact ⟨_,_,rfl,⟨by obtain ⟨⟨y,h1,h2⟩,_⟩:=hl; exact ⟨y,h1.1,h2⟩,fun y hy=>hl.2 y ⟨hy,all y⟩⟩,⟨by obtain ⟨⟨y,h1,h2⟩,_⟩:=hg; exact ⟨y,h1.1,h2⟩,fun y hy=>hg.2 y ⟨hy,all y⟩⟩⟩

theorem quo_nat {a b : Nat} (hb : 0 < b) (ha : a ≤ 1000000) : goQuo .i64 (a : Int) (b : Int) = some ((a / b : Nat) : Int):=by
 refine tot_eq (tot_quo (by omega) ?_)
 rw [Int.tdiv_eq_ediv_of_nonneg (by omega),← Int.natCast_ediv]
 have h : a / b ≤ a:=Nat.div_le_self a b
 generalize a / b = q at h ⊢
 show w64 (q : Int) = _
 rw [wid (by omega) (by omega)]

theorem rem_nat {a b : Nat} (hb : 0 < b) : goRem (a : Int) (b : Int) = some ((a % b : Nat) : Int):=by
 refine tot_eq (tot_rem (by omega) ?_)
 rw [Int.tmod_eq_emod_of_nonneg (by omega)]
 exact (Int.natCast_emod a b).symm

end

end Go.Gx.F
