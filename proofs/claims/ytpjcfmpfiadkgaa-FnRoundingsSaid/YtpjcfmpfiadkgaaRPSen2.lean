/- Plain laws: sensitive cells: two-way tables,thresholds,patterns joined. -/
import Derived.Test.YtpjcfmpfiadkgaaRPSen1

namespace Go.Gx.F

open Go.Gx

set_option linter.all false

theorem bis_cnot {z x : Option Bool} {P Q : Prop} (h1 : Bis z Q) (h : ¬ Q→Bis x P) : Bis (z.bind fun t=>cond t (some false) x) (¬ Q∧P):=by
 obtain ⟨b,rfl,hb⟩:=h1
 cases b with
 | true=>exact ⟨false,rfl,by simp; intro hq; exact absurd (hb.1 rfl) hq⟩
 | false =>
  have hq : ¬ Q:=fun hq=>by have:=hb.2 hq; cases this
  obtain ⟨c,e,hc⟩:=h hq
  exact ⟨c,e,by rw [hc]; simp [hq]⟩

def wdt (x : List (List Int)) : Nat:=(x.headD []).length

theorem head_ok {x : List (List Int)} (h : 1 ≤ x.length) : goAt x 0 = some (x.headD []):=by
 cases x with
 | nil=>simp at h
 | cons a x=>rfl

def Grid (m : Int) (x : List (List Int)) : Prop:=1 ≤ x.length∧x.length ≤ 8∧1 ≤ wdt x∧wdt x ≤ 8∧(∀ r ∈ x,r.length = wdt x)∧∀ r ∈ x,∀ v ∈ r,0 ≤ v∧v ≤ m

theorem shape_bis {x : List (List Int)} {n w : Int} (hx : x.length ≤ 1000) : Bis (impl_hasShape x n w) ((x.length : Int) = n∧∀ r ∈ x,(r.length : Int) = w):=by
 unfold impl_hasShape
 by_cases h : (x.length : Int) = n
 ·have e : ((goLen x) != n) = false:=by simp [goLen,h]
  rw [e,cond_false]
  refine bis_iff (bis_loop (l:=x) (fun _ r=>(r.length : Int) = w) (fun k r hr=>⟨decide ((r.length : Int) = w),by simp,?_⟩) ?_) ?_
  ·simp only [impl_hasShape_l1,lt_ok hr,at_ok hr,cond_true,Option.bind_some,nx_ok hr (show x.length ≤ 9223372036854775807 by omega),goLen]
   by_cases h : (r.length : Int) = w
   ·simp [h]
   ·rw [show ((r.length : Int) != w) = true by simpa using h,decide_eq_false h]; rfl
  ·simp only [impl_hasShape_l1,lt_end,cond_false]
  ·rw [all_mem_iff]; simp [h]
 ·have e : ((goLen x) != n) = true:=by simp [goLen,h]
  rw [e,cond_true]
  exact bis_some (by simp [h])

section

variable {α : Type} {new old : List α} {k : Nat} {y : α}

def mx (k : Nat) (new old : List α) : List α:=new.take k ++ old.drop k

theorem mx0 : mx 0 new old = old:=by simp [mx]

theorem mx_end (h : old.length = new.length) : mx new.length new old = new:=by
 unfold mx
 rw [List.take_length,List.drop_eq_nil_of_le (by omega),List.append_nil]

theorem mx_at (h : old.length = new.length) (hk : k ≤ new.length) : (mx k new old)[k]? = old[k]?:=by
 unfold mx
 rw [List.getElem?_append_right (by simp; omega),List.getElem?_drop,List.length_take,Nat.min_eq_left hk]
 congr 1; omega

theorem mx_set (h : old.length = new.length) (hy : new[k]? = some y) : (mx k new old).set k y = mx (k + 1) new old:=by
 obtain ⟨hk,e⟩:=List.getElem?_eq_some_iff.1 hy
 apply List.ext_getElem?
 intro j
 unfold mx
 by_cases hj : j = k
 ·subst hj
  rw [List.getElem?_set_self (by simp; omega),List.getElem?_append_left (by simp; omega),List.getElem?_take_of_lt (by omega),hy]
 ·rw [List.getElem?_set_ne (by omega)]
  by_cases h2 : j < k
  ·rw [List.getElem?_append_left (by simp; omega),List.getElem?_append_left (by simp; omega),List.getElem?_take_of_lt h2,List.getElem?_take_of_lt (by omega)]
  ·rw [List.getElem?_append_right (by simp; omega),List.getElem?_append_right (by simp; omega),List.getElem?_drop,List.getElem?_drop,List.length_take,List.length_take,Nat.min_eq_left (by omega),Nat.min_eq_left (by omega)]
   congr 1; omega

end

theorem copy_eq {x : List (List Int)} (hx : Sz x) (hn : 1 ≤ x.length:=by omega) : impl_copyMatrix x = some x:=by
 unfold impl_copyMatrix
 obtain ⟨s1,s2⟩:=hx
 rw [show goLen x = ((x.length : Nat) : Int) from rfl,goMake_ok (by omega) (by omega),Option.bind_some]
 have h:=loop_map (l:=x) id ([] : List Int) (impl_copyMatrix_l1 x) (fun k r out hr hl=>by
  have h2:=s2 r (List.mem_of_getElem? hr)
  have hk:=(List.getElem?_eq_some_iff.1 hr).1
  have e : goAt out (k : Int) = some out[k]:=at_ok (by simp [hl,hk])
  simp only [impl_copyMatrix_l1,lt_ok hr,at_ok hr,cond_true,Option.bind_some,clone_eq (show r.length ≤ 1000000 by omega),e,nx_ok hr (show x.length ≤ 9223372036854775807 by omega),goSet,Int.toNat_natCast,id]) (fun out=>by simp only [impl_copyMatrix_l1,lt_end,cond_false])
 have hg : goNE (List.replicate x.length ([] : List Int)) = some ():=by
  unfold goNE
  cases x with
  | nil=>simp at hn
  | cons a x=>rfl
 rw [h]
 simp [hg]

def thr (t v : Int) : Int:=if 0 < v∧v < t then 1 else 0

def thrs (t : Int) (x : List (List Int)) : List (List Int):=x.map fun r=>r.map (thr t)

theorem app_loop {α β τ : Type} (l : List α) (f : α→β) (body : List β × Int→Option (Stp (List β × Int) (List β)))
  (h1 : ∀ (k : Nat) (x : α) (out : List β),l[k]? = some x→out.length = k→body (out,(k : Int)) = some (.next (out ++ [f x],((k + 1 : Nat) : Int)))) (h2 : ∀ out,body (out,(l.length : Int)) = some (.done out)) :
  loopC body ([],0) = some (l.map f):=by
 refine tot_eq (tot_loop (fun s=>∃ k : Nat,k ≤ l.length∧s = ((l.take k).map f,(k : Int))) (fun s=>l.length - s.2.toNat) ⟨0,by omega,by simp⟩ ?_)
 rintro s ⟨k,hk,rfl⟩
 by_cases hlt : k < l.length
 ·rw [h1 k l[k] _ (by simp [hlt]) (by simp; omega)]
  refine tot_some ⟨⟨k + 1,by omega,?_⟩,by simp only; omega⟩
  rw [List.take_succ,List.map_append,List.getElem?_eq_getElem hlt]; rfl
 ·obtain rfl : k = l.length:=by omega
  rw [h2]
  exact tot_some (by simp)

def jn (a b : List Int) : List Int:=List.zipWith max a b

def jns (a b : List (List Int)) : List (List Int):=List.zipWith jn a b

structure Pair (a b : List (List Int)) : Prop where
 sza : Sz a
 szb : Sz b
 len : b.length = a.length
 row : ∀ (i : Nat) (r q : List Int),a[i]? = some r→b[i]? = some q→q.length = r.length
 va : ∀ r ∈ a,∀ v ∈ r,0 ≤ v∧v ≤ 1
 vb : ∀ r ∈ b,∀ v ∈ r,0 ≤ v∧v ≤ 1

end Go.Gx.F
