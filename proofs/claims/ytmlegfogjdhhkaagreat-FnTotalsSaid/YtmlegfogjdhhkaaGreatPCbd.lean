/- Plain laws: cubes that are drawn. -/
import Derived.Test.YtmlegfogjdhhkaaGreatPCub4

namespace Go.Gx.F

open Go.Gx

set_option linter.all false

theorem tsizes {B : Nat} {c : spec_l1Cur} (h : Cur B c) (hB : B ≤ 1000000000) : Tot (spec_l1Cur_sizes c) fun r=>r.1.length ≤ 5∧(∀ v ∈ r.1,v ≤ 31)∧Cur (B + 50) r.2:=by
 unfold spec_l1Cur_sizes
 refine tot_bind (tpick h) fun ⟨n,c1⟩ ⟨n0,n1,_,k1⟩=>?_
 have hn:=n1 (by omega)
 simp only at n0 hn
 refine tot_bind (Q:=fun r=>r.1.length ≤ 3∧(∀ v ∈ r.1,v ≤ 31)∧Cur (B + 20) r.2) ?_ fun ⟨l,c2⟩ ⟨hl,hv,k2⟩=>?_
 ·refine tot_loop (fun s=>(s.1.length : Int) + s.2.1 ≤ 3∧0 ≤ s.2.1∧(∀ v ∈ s.1,v ≤ 31)∧Cur (B + 2 + 2 * s.1.length) s.2.2) (fun s=>s.2.1.toNat) ⟨by simp; omega,n0,fun v hv=>by simp at hv,k1.le (by simp)⟩ ?_
  rintro ⟨l,k,c2⟩ ⟨h1,h2,hv,k2⟩
  simp only at h1 h2 hv k2
  simp only [spec_l1Cur_sizes_l1]
  refine tot_cond (fun hc=>?_) fun _=>tot_some ⟨by simp only; omega,hv,k2.le (by omega)⟩
  have hc' : 0 < k:=by simpa using hc
  refine tot_bind (tpick k2) fun ⟨x,c3⟩ ⟨x0,x1,_,k3⟩=>?_
  have hx:=x1 (by omega)
  simp only at x0 hx
  refine tot_bind (tot_app (Q:=fun r=>r = l ++ [w64 (1 + x)]) (by simp; omega) rfl) fun r hr=>tot_some ?_
  subst hr
  rw [wid (n:=k - 1) (by omega) (by omega),wid (n:=1 + x) (by omega) (by omega)]
  refine ⟨⟨by simp; omega,by simp only; omega,fun v hv2=>?_,k3.le (by simp; omega)⟩,by simp only; omega⟩
  rcases List.mem_append.1 hv2 with h1 | h1
  ·exact hv v h1
  ·simp at h1; omega
 replace hl : l.length ≤ 3:=hl
 replace hv : ∀ v ∈ l,v ≤ 31:=hv
 refine tot_bind (tpick k2) fun ⟨x,c3⟩ ⟨_,_,_,k3⟩=>?_
 refine tot_bind (Q:=fun r=>match r with | .inl x=>x.1.length ≤ 5∧(∀ v ∈ x.1,v ≤ 31)∧Cur (B + 50) x.2 | .inr x=>x.1.length ≤ 5∧(∀ v ∈ x.1,v ≤ 31)∧Cur (B + 50) x.2) ?_ fun r hr=>?_
 ·refine tot_cond (fun _=>?_) fun _=>tot_cond (fun _=>?_) fun _=>tot_cond (fun _=>tot_some ⟨by simp,by simp,k3.le (by omega)⟩) fun _=>tot_cond (fun _=>?_) fun _=>tot_some ⟨by simp only; omega,hv,k3.le (by omega)⟩
  ·refine tot_bind (tamong k3) fun ⟨v,c4⟩ ⟨hv2,k4⟩=>?_
   refine tot_bind (tot_app (Q:=fun r=>r = l ++ [v]) (by simp; omega) rfl) fun r hr=>tot_some ⟨by rw [hr]; simp; omega,fun w hw=>?_,k4.le (by omega)⟩
   rw [hr] at hw
   simp at hv2
   rcases List.mem_append.1 hw with h1 | h1
   ·exact hv w h1
   ·simp at h1; omega
  ·refine tot_bind (tpick k3) fun ⟨y,c4⟩ ⟨y0,y1,_,k4⟩=>?_
   have hy:=y1 (by omega)
   simp only at y0 hy
   rw [wid (n:=3 + y) (by omega) (by omega)]
   refine tot_bind (tot_sub (Q:=fun r=>r.length ≤ 5∧∀ v ∈ r,v ≤ 31) (by omega) (by omega) (by simp; omega) ⟨by simp; omega,fun v hv=>?_⟩) fun r hr=>tot_some ⟨hr.1,hr.2,k4.le (by omega)⟩
   have:=List.mem_of_mem_take hv
   simp at this
   omega
  ·refine tot_bind (tpick k3) fun ⟨y,c4⟩ ⟨y0,y1,_,k4⟩=>?_
   have hy:=y1 (by omega)
   simp only at y0 hy
   refine tot_bind (tot_at (Q:=fun r=>r.length ≤ 5∧∀ v ∈ r,v ≤ 31) y0 (by simp; omega) fun e _ he=>?_) fun r hr=>tot_some ⟨hr.1,hr.2,k4.le (by omega)⟩
   simp at he
   rcases he with rfl | rfl <;> simp
 ·rcases r with ⟨x,y⟩ | ⟨x,y⟩ <;> exact tot_some hr

theorem tbase {B : Nat} {c : spec_l1Cur} {sizes : List Int} (h : Cur B c) (hB : B ≤ 1000000000) : Tot (spec_l1Cur_baseCells c sizes) fun r=>r.1.length ≤ 2000∧Bnd r.1∧(∀ S,sizes = up S→VC S→r.1.length = rk S (cnt S))∧Cur (B + 20000) r.2:=by
 unfold spec_l1Cur_baseCells
 have hb : ∃ l : List Int,spec_cbBase sizes = some l∧l.length ≤ 2000∧(∀ S,sizes = up S→VC S→l.length = rk S (cnt S)):=by
  by_cases hv : ∃ S,sizes = up S∧VC S
  ·obtain ⟨S,rfl,hv⟩:=hv
   have h1:=rk_le S (cnt S)
   have h2:=hv.2
   refine ⟨_,cbBase_eq hv,by rw [up_len]; unfold rk at h1; omega,fun S' e _=>?_⟩
   rw [← up_inj e,up_len]; rfl
  ·exact ⟨[],cbBase_bad hv,by simp,fun S e hS=>absurd ⟨S,e,hS⟩ hv⟩
 obtain ⟨l,e,hl,hS⟩:=hb
 rw [e,Option.bind_some]
 refine tot_bind (Q:=fun r=>r.1.length = l.length∧Bnd r.1∧Cur (B + 20000) r.2) ?_ fun ⟨r,c2⟩ ⟨h1,h2,k2⟩=>tot_some ⟨by simp only at h1 ⊢; omega,h2,fun S e1 e2=>by simp only at h1 ⊢; rw [h1]; exact hS S e1 e2,k2⟩
 refine tot_loop (fun s=>∃ k : Nat,s.2.1 = (k : Int)∧k ≤ l.length∧s.1.length = k∧Bnd s.1∧Cur (B + 6 * k) s.2.2) (fun s=>l.length - s.2.1.toNat) ⟨0,rfl,by omega,rfl,fun v hv=>by simp at hv,h⟩ ?_
 rintro ⟨out,t,c1⟩ ⟨k,rfl,hk,ho,hb,k1⟩
 simp only at ho hb k1
 simp only [spec_l1Cur_baseCells_l1]
 refine tot_cond (fun hc=>?_) fun hc=>tot_some ?_
 ·have hlt : k < l.length:=by
   have:=of_decide_eq_true hc
   simp only [goLen] at this; omega
  refine tot_bind (tpick k1) fun ⟨x,c2⟩ ⟨x0,x1,_,k2⟩=>?_
  have hx:=x1 (by omega)
  simp only at x0 hx
  refine tot_bind (tone k2) fun ⟨b,c3⟩ k3=>?_
  refine tot_bind (Q:=fun r=>(-1000000 ≤ r.1∧r.1 ≤ 1000000)∧Cur (B + 6 * k + 6) r.2) (tot_cond (fun _=>?_) fun _=>tot_some ⟨by simp only; omega,k3.le (by omega)⟩) fun ⟨y,c4⟩ ⟨hy,k4⟩=>?_
  ·refine tot_bind (tpick k3) fun ⟨z,c4⟩ ⟨z0,z1,_,k4⟩=>tot_some ?_
   have hz:=z1 (by omega)
   simp only at z0 hz ⊢
   rw [wid (by omega) (by omega)]
   exact ⟨by omega,k4.le (by omega)⟩
  ·refine tot_bind (tot_app (Q:=fun r=>r = out ++ [y]) (by simp; omega) rfl) fun r hr=>tot_some ?_
   subst hr
   rw [wid (n:=(k : Int) + 1) (by omega) (by omega)]
   refine ⟨⟨k + 1,rfl,by omega,by simp [ho],fun v hv=>?_,k4.le (by omega)⟩,by simp only; omega⟩
   rcases List.mem_append.1 hv with h1 | h1
   ·exact hb v h1
   ·simp at h1; subst h1; exact hy
 ·have hlt : ¬ k < l.length:=by
   have:=of_decide_eq_false hc
   simp only [goLen] at this; omega
  exact ⟨by simp only; omega,hb,k1.le (by omega)⟩

theorem tcube {B : Nat} {c : spec_l1Cur} (h : Cur B c) (hB : B ≤ 900000000) : Tot (spec_l1Cur_cube c) fun r=>r.1.Sizes.length ≤ 5∧(∀ v ∈ r.1.Sizes,v ≤ 31)∧r.1.Cells.length ≤ 2001∧Cur (B + 30000) r.2:=by
 unfold spec_l1Cur_cube
 refine tot_bind (tsizes h (by omega)) fun ⟨sizes,c1⟩ ⟨hs,hv31,k1⟩=>?_
 replace hs : sizes.length ≤ 5:=hs
 replace hv31 : ∀ v ∈ sizes,v ≤ 31:=hv31
 obtain ⟨n,e1,e2,h1,h2,h3⟩:=counts sizes
 simp only
 rw [e2,Option.bind_some]
 refine tot_cond (fun _=>tot_some ⟨hs,hv31,by simp,k1.le (by omega)⟩) fun hn=>?_
 have hn' : n ≠ 0:=by simpa using hn
 obtain ⟨S,rfl,hv,rfl⟩:=h2 hn'
 have hp:=cnt_pos S
 refine tot_bind (tbase k1 (by omega)) fun ⟨base,c2⟩ ⟨hb,hBd,hrk,k2⟩=>?_
 simp only at hBd hrk ⊢
 rw [spec_cbOf_eq hv hBd (hrk S rfl hv),Option.bind_some]
 have hcl : (cubeT S base).Cells.length = cnt S:=tab_len _ _
 have hcs : (cubeT S base).Sizes = up S:=rfl
 generalize cubeT S base = x at hcl hcs ⊢
 have hc2:=hv.2
 rw [up_len] at hs
 refine tot_bind (tpick k2) fun ⟨v,c3⟩ ⟨_,_,_,k3⟩=>?_
 have hok : ∀ l : List Int,l.length ≤ 2001→∀ c4,Cur (B + 25000) c4→(⟨x.Sizes,l⟩ : impl_Cube).Sizes.length ≤ 5∧(∀ v ∈ (⟨x.Sizes,l⟩ : impl_Cube).Sizes,v ≤ 31)∧(⟨x.Sizes,l⟩ : impl_Cube).Cells.length ≤ 2001∧Cur (B + 30000) c4:=fun l hl c4 k4=>⟨by rw [hcs,up_len]; exact hs,by rw [hcs]; exact hv31,hl,k4.le (by omega)⟩
 refine tot_bind (Q:=fun r=>r.2.Sizes.length ≤ 5∧(∀ v ∈ r.2.Sizes,v ≤ 31)∧r.2.Cells.length ≤ 2001∧Cur (B + 30000) r.1) (tot_cond (fun _=>?_) fun _=>?_) fun ⟨r1,r2⟩ hr=>tot_some hr
 ·refine tot_bind (tpick k3 (by omega) (by simp only [goLen]; omega)) fun ⟨i,c4⟩ ⟨i0,i1,_,k4⟩=>?_
  have hi:=i1 (by simp only [goLen]; omega)
  simp only [goLen] at i0 hi
  refine tot_bind (tot_at (Q:=fun _=>True) i0 hi fun _ _ _=>trivial) fun _ _=>?_
  exact tot_bind (tot_at (Q:=fun _=>True) i0 hi fun _ _ _=>trivial) fun _ _=>tot_some (hok _ (by simp; omega) _ (k4.le (by omega)))
 ·refine tot_bind (Q:=fun r=>r.2.Sizes.length ≤ 5∧(∀ v ∈ r.2.Sizes,v ≤ 31)∧r.2.Cells.length ≤ 2001∧Cur (B + 30000) r.1) (tot_cond (fun _=>?_) fun _=>?_) fun ⟨r1,r2⟩ hr=>tot_some hr
  ·exact tot_bind (tot_app (Q:=fun r=>r.length ≤ 2001) (by simp; omega) (by simp; omega)) fun r hr=>tot_some (hok _ hr _ (k3.le (by omega)))
  ·refine tot_bind (Q:=fun r=>r.2.Sizes.length ≤ 5∧(∀ v ∈ r.2.Sizes,v ≤ 31)∧r.2.Cells.length ≤ 2001∧Cur (B + 30000) r.1) (tot_cond (fun _=>?_) fun _=>tot_some (hok _ (by omega) _ (k3.le (by omega)))) fun ⟨r1,r2⟩ hr=>tot_some hr
   refine tot_bind (tamong k3) fun ⟨y,c4⟩ ⟨_,k4⟩=>?_
   exact tot_bind (tot_at (Q:=fun _=>True) (by omega) (by omega) fun _ _ _=>trivial) fun _ _=>tot_some (hok _ (by simp; omega) _ (k4.le (by omega)))

end Go.Gx.F
