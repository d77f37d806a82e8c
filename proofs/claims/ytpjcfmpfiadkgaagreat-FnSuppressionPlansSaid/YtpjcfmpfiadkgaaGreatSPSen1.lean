/- Plain laws: two-way tables,patterns and amounts that are drawn. -/
import Derived.Test.YtpjcfmpfiadkgaaGreatSPLst

namespace Go.Gx.F

open Go.Gx

set_option linter.all false

def Sz (x : List (List Int)) : Prop:=x.length ≤ 10∧∀ r ∈ x,r.length ≤ 10

def Two (x : List (List Int)) : Prop:=1 ≤ x.length∧x.length ≤ 4∧∀ r ∈ x,1 ≤ r.length∧r.length ≤ 4

theorem ttwo {B : Nat} {c : spec_l1Cur} (h : Cur B c) (hB : B ≤ 1000000:=by omega) : Tot (spec_l1Cur_twoWay c) fun r=>Two r.1∧Cur (B + 100) r.2:=by
 unfold spec_l1Cur_twoWay
 refine tot_bind (tpick h) fun ⟨x,c1⟩ ⟨x0,x1,_,k1⟩=>?_
 refine tot_bind (tpick k1) fun ⟨y,c2⟩ ⟨y0,y1,_,k2⟩=>?_
 simp only at x0 x1 y0 y1 k2
 have hx:=x1 (by omega)
 have hy:=y1 (by omega)
 have wx : w64 (1 + x) = 1 + x:=wid (by omega) (by omega)
 have wy : w64 (1 + y) = 1 + y:=wid (by omega) (by omega)
 refine tot_bind (Q:=fun r=>Two r.1∧Cur (B + 100) r.2) (tot_loop (fun s=>∃ k : Nat,s.2.1 = (k : Int)∧(k : Int) ≤ 1 + x∧s.1.length = k∧(∀ r ∈ s.1,1 ≤ r.length∧r.length ≤ 4)∧Cur (B + 4 + 16 * k) s.2.2) (fun s=>10 - s.2.1.toNat) ⟨0,rfl,by omega,rfl,fun r hr=>by simp at hr,k2.le (by omega)⟩ ?_) fun ⟨o,c3⟩ ho=>tot_some ho
 rintro ⟨out,i,c3⟩ ⟨k,hk,hkx,hlen,hrs,k3⟩
 simp only at hk hlen hrs k3
 subst hk
 simp only [spec_l1Cur_twoWay_l1,wx]
 refine tot_cond (fun hc=>?_) fun hc=>tot_some ?_
 ·have hc' : (k : Int) < 1 + x:=by simpa using hc
  refine tot_bind (Q:=fun r=>(1 ≤ r.1.length∧r.1.length ≤ 4)∧Cur (B + 4 + 16 * (k + 1)) r.2) (tot_loop (fun s=>∃ j : Nat,s.2.1 = (j : Int)∧(j : Int) ≤ 1 + y∧s.1.length = j∧Cur (B + 4 + 16 * k + 4 * j) s.2.2) (fun s=>10 - s.2.1.toNat) ⟨0,rfl,by omega,rfl,k3.le (by omega)⟩ ?_) fun ⟨row,c4⟩ ⟨hrow,k4⟩=>?_
  ·rintro ⟨row,j',c4⟩ ⟨j,hj,hjy,hrl,k4⟩
   simp only at hj hrl k4
   subst hj
   simp only [spec_l1Cur_twoWay_l2,wy]
   refine tot_cond (fun hd=>?_) fun hd=>tot_some ?_
   ·have hd' : (j : Int) < 1 + y:=by simpa using hd
    refine tot_bind (tpick k4) fun ⟨z,c5⟩ ⟨_,_,_,k5⟩=>?_
    refine tot_bind (tamong k5) fun ⟨v,c6⟩ ⟨_,k6⟩=>?_
    refine tot_bind (tot_app (Q:=fun l=>l.length = j + 1) (by simp; omega) (by simp [hrl])) fun l hl=>tot_some ⟨⟨j + 1,?_,by omega,hl,k6.le (by omega)⟩,?_⟩
    ·simp only; rw [wid (by omega) (by omega)]; omega
    ·simp only; rw [wid (by omega) (by omega)]; omega
   ·have hd' : ¬ (j : Int) < 1 + y:=by simpa using hd
    exact ⟨by simp only; omega,k4.le (by omega)⟩
  ·refine tot_bind (tot_app (Q:=fun l=>l = out ++ [row]) (by simp; omega) rfl) fun l hl=>tot_some ⟨⟨k + 1,?_,by omega,by simp only; rw [hl]; simp [hlen],fun r hr=>?_,k4⟩,?_⟩
   ·simp only; rw [wid (by omega) (by omega)]; omega
   ·simp only at hr
    rw [hl,List.mem_append,List.mem_singleton] at hr
    rcases hr with hr | rfl
    ·exact hrs r hr
    ·exact hrow
   ·simp only; rw [wid (by omega) (by omega)]; omega
 ·have hc' : ¬ (k : Int) < 1 + x:=by simpa using hc
  exact ⟨⟨by simp only; omega,by simp only; omega,hrs⟩,k3.le (by omega)⟩

theorem Two.sz {x : List (List Int)} (h : Two x) : Sz x:=⟨by have:=h.2.1; omega,fun r hr=>by have:=(h.2.2 r hr).2; omega⟩

theorem Two.at0 {x : List (List Int)} (h : Two x) : ∃ r,goAt x 0 = some r∧1 ≤ r.length∧r.length ≤ 4:=by
 obtain ⟨h1,h2,h3⟩:=h
 cases x with
 | nil=>simp at h1
 | cons r x=>exact ⟨r,rfl,h3 r (by simp)⟩

end Go.Gx.F
