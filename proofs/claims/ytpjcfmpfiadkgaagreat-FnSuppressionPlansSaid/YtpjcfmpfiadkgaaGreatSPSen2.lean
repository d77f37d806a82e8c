/- Plain laws: sensitive cells: two-way tables,thresholds,patterns joined. -/
import Derived.Test.YtpjcfmpfiadkgaaGreatSPSen1

namespace Go.Gx.F

open Go.Gx

set_option linter.all false

theorem bis_cnot {z x : Option Bool} {P Q : Prop} (h1 : Bis z Q) (h : ¬ Q→Bis x P) : Bis (z.bind fun t=>cond t (some false) x) (¬ Q∧P):=by
 obtain ⟨b,rfl,hb⟩:=h1
 cases b with
 | true=>exact ⟨false,rfl,by simp; intro hq; exact absurd (hb.1 rfl) hq⟩
 | false =>
  have hq : ¬ Q:=fun hq=>by have:=hb.2 hq; cases this
  obtain ⟨c,e,hc⟩:=h hq
  exact ⟨c,e,by rw [hc]; simp [hq]⟩

def wdt (x : List (List Int)) : Nat:=(x.headD []).length

theorem head_ok {x : List (List Int)} (h : 1 ≤ x.length) : goAt x 0 = some (x.headD []):=by
 cases x with
 | nil=>simp at h
 | cons a x=>rfl

theorem head_mem {x : List (List Int)} (h : 1 ≤ x.length) : x.headD [] ∈ x:=by
 cases x with
 | nil=>simp at h
 | cons a x=>simp

def Grid (m : Int) (x : List (List Int)) : Prop:=1 ≤ x.length∧x.length ≤ 8∧1 ≤ wdt x∧wdt x ≤ 8∧(∀ r ∈ x,r.length = wdt x)∧∀ r ∈ x,∀ v ∈ r,0 ≤ v∧v ≤ m

theorem shape_bis {x : List (List Int)} {n w : Int} (hx : x.length ≤ 1000) : Bis (impl_hasShape x n w) ((x.length : Int) = n∧∀ r ∈ x,(r.length : Int) = w):=by
 unfold impl_hasShape
 by_cases h : (x.length : Int) = n
 ·have e : ((goLen x) != n) = false:=by simp [goLen,h]
  rw [e,cond_false]
  refine bis_iff (bis_loop (l:=x) (fun _ r=>(r.length : Int) = w) (fun k r hr=>⟨decide ((r.length : Int) = w),by simp,?_⟩) ?_) ?_
  ·simp only [impl_hasShape_l1,lt_ok hr,at_ok hr,cond_true,Option.bind_some,nx_ok hr (show x.length ≤ 9223372036854775807 by omega),goLen]
   by_cases h : (r.length : Int) = w
   ·simp [h]
   ·rw [show ((r.length : Int) != w) = true by simpa using h,decide_eq_false h]; rfl
  ·simp only [impl_hasShape_l1,lt_end,cond_false]
  ·rw [all_mem_iff]; simp [h]
 ·have e : ((goLen x) != n) = true:=by simp [goLen,h]
  rw [e,cond_true]
  exact bis_some (by simp [h])

theorem grid_bis {x : List (List Int)} {m : Int} (hx : Sz x) : Bis (impl_isGrid x m) (Grid m x):=by
 unfold impl_isGrid
 obtain ⟨s1,s2⟩:=hx
 have main : Bis ((cond (decide ((goLen x) < 1)) (some true) (cond (decide (8 < (goLen x))) (some true) ((goAt x 0).bind fun e_2=>(cond (decide ((goLen e_2) < 1)) (some true) ((goAt x 0).bind fun e_5=>(cond (decide (8 < (goLen e_5))) (some true) ((goAt x 0).bind fun e_8=>((impl_hasShape x (goLen x) (goLen e_8)).bind fun t_11=>some (!t_11))))))))) : Option Bool)
   (¬ (1 ≤ x.length∧x.length ≤ 8∧1 ≤ wdt x∧wdt x ≤ 8∧∀ r ∈ x,r.length = wdt x)):=by
  by_cases h1 : 1 ≤ x.length
  ·rw [decide_eq_false (show ¬ goLen x < 1 by simp only [goLen]; omega),cond_false]
   by_cases h2 : x.length ≤ 8
   ·rw [decide_eq_false (show ¬ 8 < goLen x by simp only [goLen]; omega),cond_false,head_ok h1]
    simp only [Option.bind_some]
    by_cases h3 : 1 ≤ wdt x
    ·have h3' : 1 ≤ (x.headD []).length:=h3
     rw [decide_eq_false (show ¬ goLen (x.headD []) < 1 by simp only [goLen]; omega),cond_false]
     by_cases h4 : wdt x ≤ 8
     ·have h4' : (x.headD []).length ≤ 8:=h4
      rw [decide_eq_false (show ¬ 8 < goLen (x.headD []) by simp only [goLen]; omega),cond_false]
      refine bis_iff (bis_not (shape_bis (by omega))) ?_
      simp only [h1,h2,h3,h4,true_and,goLen]
      refine not_congr ⟨fun h r hr=>?_,fun h r hr=>?_⟩
      ·have:=h r hr; unfold wdt; omega
      ·have:=h r hr; unfold wdt at this; omega
     ·have h4' : ¬ (x.headD []).length ≤ 8:=h4
      rw [decide_eq_true (show 8 < goLen (x.headD []) by simp only [goLen]; omega),cond_true]
      exact bis_some (by simp [h4])
    ·have h3' : ¬ 1 ≤ (x.headD []).length:=h3
     rw [decide_eq_true (show goLen (x.headD []) < 1 by simp only [goLen]; omega),cond_true]
     exact bis_some (by simp only [true_iff]; rintro ⟨_,_,h,_⟩; exact h3 h)
   ·rw [decide_eq_true (show 8 < goLen x by simp only [goLen]; omega),cond_true]
    exact bis_some (by simp [h2])
  ·rw [decide_eq_true (show goLen x < 1 by simp only [goLen]; omega),cond_true]
   exact bis_some (by simp only [true_iff]; rintro ⟨h,_⟩; exact h1 h)
 refine bis_iff (bis_cnot main fun hq=>bis_loop (l:=x) (fun _ r=>∀ v ∈ r,0 ≤ v∧v ≤ m) (fun k r hr=>?_) ?_) ?_
 ·have hrl : r.length ≤ 10:=s2 r (List.mem_of_getElem? hr)
  obtain ⟨b,hb,e⟩:=loop_find (l:=r) (fun _ v=>v < 0 ∨ m < v) (.done (.inr false) : Stp Int (Unit ⊕ Bool)) (body:=impl_isGrid_l2 m r) (fun j v hv=>⟨decide (v < 0) || decide (m < v),by simp,by
   simp only [impl_isGrid_l2,lt_ok hv,at_ok hv,cond_true,Option.bind_some,nx_ok hv (show r.length ≤ 9223372036854775807 by omega)]
   by_cases h1 : v < 0 <;> by_cases h2 : m < v <;> simp [h1,h2]⟩) (by simp only [impl_isGrid_l2,lt_end,cond_false])
  refine ⟨!b,?_,?_⟩
  ·rw [Bool.not_eq_true',← Bool.not_eq_true,hb]
   constructor
   ·intro h v hv
    obtain ⟨j,hj⟩:=List.getElem?_of_mem hv
    have : ¬ (v < 0 ∨ m < v):=fun hc=>h ⟨j,v,hj,hc⟩
    omega
   ·rintro h ⟨j,v,hj,hc⟩
    have:=h v (List.mem_of_getElem? hj)
    omega
  ·simp only [impl_isGrid_l1,lt_ok hr,at_ok hr,cond_true,Option.bind_some,nx_ok hr (show x.length ≤ 9223372036854775807 by omega),e]
   cases b <;> rfl
 ·simp only [impl_isGrid_l1,lt_end,cond_false]
 ·rw [all_mem_iff]
  unfold Grid
  constructor
  ·rintro ⟨h1,h2⟩
   have h3:=Classical.not_not.1 h1
   exact ⟨h3.1,h3.2.1,h3.2.2.1,h3.2.2.2.1,h3.2.2.2.2,h2⟩
  ·rintro ⟨a,b,c,d,e,f⟩
   exact ⟨fun h=>h ⟨a,b,c,d,e⟩,f⟩

theorem form_bis {x : List (List Int)} {m : Int} (hx : Sz x) : Bis (spec_qForm x m) (Grid m x):=by
 unfold spec_qForm
 obtain ⟨s1,s2⟩:=hx
 have main : Bis (((spec_l1In (goLen x) 1 8).bind fun t_2=>(cond (!t_2) (some true) ((goAt x 0).bind fun e_3=>((spec_l1In (goLen e_3) 1 8).bind fun t_6=>some (!t_6))))) : Option Bool)
   (¬ (1 ≤ x.length∧x.length ≤ 8∧1 ≤ wdt x∧wdt x ≤ 8)):=by
  rw [lIn_eq,Option.bind_some]
  by_cases h1 : 1 ≤ x.length∧x.length ≤ 8
  ·rw [decide_eq_true (show 1 ≤ goLen x∧goLen x ≤ 8 by simp only [goLen]; omega),Bool.not_true,cond_false,head_ok h1.1,Option.bind_some,lIn_eq,Option.bind_some]
   refine bis_some ?_
   simp only [Bool.not_eq_true',decide_eq_false_iff_not,goLen]
   unfold wdt
   constructor
   ·rintro h ⟨_,_,h3,h4⟩; exact h ⟨by omega,by omega⟩
   ·rintro h ⟨h3,h4⟩; exact h ⟨h1.1,h1.2,by omega,by omega⟩
  ·rw [decide_eq_false (show ¬ (1 ≤ goLen x∧goLen x ≤ 8) by simp only [goLen]; omega),Bool.not_false,cond_true]
   exact bis_some (by simp only [true_iff]; rintro ⟨h,h',_⟩; exact h1 ⟨h,h'⟩)
 refine bis_iff (bis_cnot main fun hq=>bis_loop (l:=x) (fun _ r=>r.length = wdt x∧∀ v ∈ r,0 ≤ v∧v ≤ m) (fun k r hr=>?_) ?_) ?_
 ·have hrl : r.length ≤ 10:=s2 r (List.mem_of_getElem? hr)
  have hq':=Classical.not_not.1 hq
  simp only [spec_qForm_l1,lt_ok hr,at_ok hr,cond_true,Option.bind_some,head_ok hq'.1,nx_ok hr (show x.length ≤ 9223372036854775807 by omega)]
  by_cases h1 : r.length = wdt x
  ·have h1' : r.length = (x.headD []).length:=h1
   have e : ((goLen r) != (goLen (x.headD []))) = false:=by simp only [goLen,h1',bne_self_eq_false]
   obtain ⟨b,e2,hb⟩:=lAll_bis (l:=r) (lo:=0) (hi:=m) (by omega)
   rw [e,cond_false,e2]
   refine ⟨b,by rw [hb]; simp [h1],?_⟩
   cases b <;> rfl
  ·have h1' : ¬ r.length = (x.headD []).length:=h1
   have e : ((goLen r) != (goLen (x.headD []))) = true:=by simp only [goLen,bne_iff_ne,ne_eq]; omega
   rw [e,cond_true]
   exact ⟨false,by simp [h1],rfl⟩
 ·simp only [spec_qForm_l1,lt_end,cond_false]
 ·rw [all_mem_iff]
  unfold Grid
  constructor
  ·rintro ⟨h1,h2⟩
   have h3:=Classical.not_not.1 h1
   exact ⟨h3.1,h3.2.1,h3.2.2.1,h3.2.2.2,fun r hr=>(h2 r hr).1,fun r hr=>(h2 r hr).2⟩
  ·rintro ⟨a,b,c,d,e,f⟩
   exact ⟨fun h=>h ⟨a,b,c,d⟩,fun r hr=>⟨e r hr,f r hr⟩⟩

section

variable {α : Type} {new old : List α} {k : Nat} {y : α}

def mx (k : Nat) (new old : List α) : List α:=new.take k ++ old.drop k

end

theorem copy_eq {x : List (List Int)} (hx : Sz x) (hn : 1 ≤ x.length:=by omega) : impl_copyMatrix x = some x:=by
 unfold impl_copyMatrix
 obtain ⟨s1,s2⟩:=hx
 rw [show goLen x = ((x.length : Nat) : Int) from rfl,goMake_ok (by omega) (by omega),Option.bind_some]
 have h:=loop_map (l:=x) id ([] : List Int) (impl_copyMatrix_l1 x) (fun k r out hr hl=>by
  have h2:=s2 r (List.mem_of_getElem? hr)
  have hk:=(List.getElem?_eq_some_iff.1 hr).1
  have e : goAt out (k : Int) = some out[k]:=at_ok (by simp [hl,hk])
  simp only [impl_copyMatrix_l1,lt_ok hr,at_ok hr,cond_true,Option.bind_some,clone_eq (show r.length ≤ 1000000 by omega),e,nx_ok hr (show x.length ≤ 9223372036854775807 by omega),goSet,Int.toNat_natCast,id]) (fun out=>by simp only [impl_copyMatrix_l1,lt_end,cond_false])
 have hg : goNE (List.replicate x.length ([] : List Int)) = some ():=by
  unfold goNE
  cases x with
  | nil=>simp at hn
  | cons a x=>rfl
 rw [h]
 simp [hg]

def thr (t v : Int) : Int:=if 0 < v∧v < t then 1 else 0

def thrs (t : Int) (x : List (List Int)) : List (List Int):=x.map fun r=>r.map (thr t)

theorem app_loop {α β τ : Type} (l : List α) (f : α→β) (body : List β × Int→Option (Stp (List β × Int) (List β)))
  (h1 : ∀ (k : Nat) (x : α) (out : List β),l[k]? = some x→out.length = k→body (out,(k : Int)) = some (.next (out ++ [f x],((k + 1 : Nat) : Int)))) (h2 : ∀ out,body (out,(l.length : Int)) = some (.done out)) :
  loopC body ([],0) = some (l.map f):=by
 refine tot_eq (tot_loop (fun s=>∃ k : Nat,k ≤ l.length∧s = ((l.take k).map f,(k : Int))) (fun s=>l.length - s.2.toNat) ⟨0,by omega,by simp⟩ ?_)
 rintro s ⟨k,hk,rfl⟩
 by_cases hlt : k < l.length
 ·rw [h1 k l[k] _ (by simp [hlt]) (by simp; omega)]
  refine tot_some ⟨⟨k + 1,by omega,?_⟩,by simp only; omega⟩
  rw [List.take_succ,List.map_append,List.getElem?_eq_getElem hlt]; rfl
 ·obtain rfl : k = l.length:=by omega
  rw [h2]
  exact tot_some (by simp)

def jn (a b : List Int) : List Int:=List.zipWith max a b

def jns (a b : List (List Int)) : List (List Int):=List.zipWith jn a b

structure Pair (a b : List (List Int)) : Prop where
 sza : Sz a
 szb : Sz b
 len : b.length = a.length
 row : ∀ (i : Nat) (r q : List Int),a[i]? = some r→b[i]? = some q→q.length = r.length
 va : ∀ r ∈ a,∀ v ∈ r,0 ≤ v∧v ≤ 1
 vb : ∀ r ∈ b,∀ v ∈ r,0 ≤ v∧v ≤ 1

end Go.Gx.F
