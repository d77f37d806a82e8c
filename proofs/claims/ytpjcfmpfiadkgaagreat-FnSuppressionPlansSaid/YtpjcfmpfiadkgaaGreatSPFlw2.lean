/- Plain laws: paths in networks,and what is sent along them. -/
import Derived.Test.YtpjcfmpfiadkgaaGreatSPFlw1

namespace Go.Gx.F

open Go.Gx

set_option linter.all false

def augE (r : Nat→Nat→Int) (p q : Nat) (s : Int) : Nat→Nat→Int:=fun i j=>if i = p∧j = q then r i j - s else if i = q∧j = p then r i j + s else r i j

theorem augE_sum {N : Nat} {r : Nat→Nat→Int} {p q : Nat} {s : Int} (hp : p < N) (hq : q < N) (hne : p ≠ q) (i : Nat) (hi : i < N) :
  sm N (augE r p q s i) = sm N (r i) - (if i = p then s else 0) + (if i = q then s else 0):=by
 by_cases h1 : i = p
 ·subst h1
  rw [if_pos rfl,if_neg hne]
  rw [sm_upd (f:=r i) hq fun j _ hj=>by simp [augE,hj,hne]]
  simp [augE]
  omega
 ·rw [if_neg h1]
  by_cases h2 : i = q
  ·subst h2
   rw [if_pos rfl]
   rw [sm_upd (f:=r i) hp fun j _ hj=>by simp [augE,hj,h1]]
   simp [augE,h1]
   omega
  ·rw [if_neg h2,sm_congr (g:=r i) fun j _=>by simp [augE,h1,h2]]
   omega

theorem augE_sym {r : Nat→Nat→Int} {p q : Nat} {s : Int} (hne : p ≠ q) (i j : Nat) : augE r p q s i j + augE r p q s j i = r i j + r j i:=by
 unfold augE
 by_cases h1 : i = p∧j = q
 ·obtain ⟨rfl,rfl⟩:=h1
  have h2 : ¬ (j = i∧i = j):=fun h=>hne h.2
  rw [if_pos ⟨rfl,rfl⟩,if_neg h2,if_pos ⟨rfl,rfl⟩]
  omega
 ·by_cases h2 : i = q∧j = p
  ·obtain ⟨rfl,rfl⟩:=h2
   rw [if_neg h1,if_pos ⟨rfl,rfl⟩,if_pos ⟨rfl,rfl⟩]
   omega
  ·rw [if_neg h1,if_neg h2,if_neg fun h=>h2 ⟨h.2,h.1⟩,if_neg fun h=>h1 ⟨h.2,h.1⟩]

theorem augE_nn {N : Nat} {r : Nat→Nat→Int} {p q : Nat} {s : Int} (h : ∀ i j,i < N→j < N→0 ≤ r i j) (hs : 0 ≤ s) (he : s ≤ r p q) : ∀ i j,i < N→j < N→0 ≤ augE r p q s i j:=by
 intro i j hi hj
 have:=h i j hi hj
 unfold augE
 split
 ·rename_i hc; obtain ⟨rfl,rfl⟩:=hc; omega
 ·split <;> omega

def EdgesOk (r : Nat→Nat→Int) (s : Int) : List Nat→Prop
 | v0 :: v1 :: rest=>s ≤ r v1 v0∧EdgesOk r s (v1 :: rest)
 | _=>True

def augP (s : Int) : (Nat→Nat→Int)→List Nat→(Nat→Nat→Int)
 | r,v0 :: v1 :: rest=>augP s (augE r v1 v0 s) (v1 :: rest)
 | r,_=>r

theorem EdgesOk.keep {r : Nat→Nat→Int} {s s' : Int} {v0 w : Nat} : ∀ {path : List Nat},v0 ∉ path→EdgesOk r s path→EdgesOk (augE r w v0 s') s path
 | [],_,_=>trivial
 | [_],_,_=>trivial
 | a :: b :: rest,hn,h=>by
  simp only [List.mem_cons,not_or] at hn
  refine ⟨?_,EdgesOk.keep (by simp only [List.mem_cons,not_or]; exact hn.2) h.2⟩
  have h1:=h.1
  unfold augE
  rw [if_neg (fun hc=>hn.1 hc.2.symm),if_neg (fun hc=>hn.2.1 hc.1.symm)]
  exact h1

theorem augP_ok {N : Nat} {s : Int} (hs : 0 ≤ s) : ∀ {path : List Nat} {r : Nat→Nat→Int},path.Nodup→(∀ v ∈ path,v < N)→(∀ i j,i < N→j < N→0 ≤ r i j)→EdgesOk r s path→∀ (a b : Nat),path.head? = some b→path.getLast? = some a →
  (∀ i j,i < N→j < N→0 ≤ augP s r path i j)∧(∀ i j,augP s r path i j + augP s r path j i = r i j + r j i) ∧
  ∀ i,i < N→sm N (augP s r path i) = sm N (r i) - (if i = a then s else 0) + (if i = b then s else 0)
 | [],_,_,_,_,_,a,b,h,_=>by simp at h
 | [v],r,_,_,hr,_,a,b,h1,h2=>by
  simp only [List.head?_cons,Option.some.injEq,List.getLast?_singleton] at h1 h2
  subst h1; subst h2
  refine ⟨hr,fun _ _=>rfl,fun i hi=>?_⟩
  show sm N (r i) = _
  omega
 | v0 :: v1 :: rest,r,hnd,hlt,hr,he,a,b,h1,h2=>by
  simp only [List.head?_cons,Option.some.injEq] at h1
  subst h1
  obtain ⟨hn0,hnd'⟩:=List.nodup_cons.1 hnd
  have hv0:=hlt v0 (by simp)
  have hv1:=hlt v1 (by simp)
  have hne : v1 ≠ v0:=fun h=>hn0 (by simp [h])
  obtain ⟨g1,g2,g3⟩:=augP_ok (N:=N) hs (path:=v1 :: rest) (r:=augE r v1 v0 s) hnd' (fun v hv=>hlt v (List.mem_cons_of_mem _ hv)) (augE_nn hr hs he.1) (EdgesOk.keep hn0 he.2) a v1 rfl (by rw [List.getLast?_cons_cons] at h2; exact h2)
  refine ⟨g1,fun i j=>by show augP s (augE r v1 v0 s) (v1 :: rest) i j + augP s (augE r v1 v0 s) (v1 :: rest) j i = _; rw [g2,augE_sym hne],fun i hi=>?_⟩
  show sm N (augP s (augE r v1 v0 s) (v1 :: rest) i) = _
  rw [g3 i hi,augE_sum hv1 hv0 hne i hi]
  by_cases h3 : i = v1
  ·subst h3
   rw [if_pos rfl,if_neg hne]; omega
  ·rw [if_neg h3]; omega

structure Res (N : Nat) (r0 r : Nat→Nat→Int) (a b : Nat) (v : Int) : Prop where
 nn : ∀ i j,i < N→j < N→0 ≤ r i j
 sym : ∀ i j,i < N→j < N→r i j + r j i = r0 i j + r0 j i
 sum : ∀ i,i < N→sm N (r i) = sm N (r0 i) - (if i = a then v else 0) + (if i = b then v else 0)

theorem Res.start {N : Nat} {r0 : Nat→Nat→Int} {a b : Nat} (h : ∀ i j,i < N→j < N→0 ≤ r0 i j) : Res N r0 r0 a b 0:=⟨h,fun _ _ _ _=>rfl,fun i _=>by simp⟩

theorem Res.aug {N : Nat} {r0 r : Nat→Nat→Int} {a b : Nat} {v s : Int} (h : Res N r0 r a b v) (hs : 0 ≤ s) {path : List Nat} (hnd : path.Nodup) (hlt : ∀ x ∈ path,x < N) (he : EdgesOk r s path) (hb : path.head? = some b) (ha : path.getLast? = some a) : Res N r0 (augP s r path) a b (v + s):=by
 obtain ⟨g1,g2,g3⟩:=augP_ok (N:=N) hs hnd hlt h.nn he a b hb ha
 refine ⟨g1,fun i j hi hj=>by rw [g2,h.sym i j hi hj],fun i hi=>?_⟩
 rw [g3 i hi,h.sum i hi]
 by_cases h1 : i = a <;> by_cases h2 : i = b <;> simp [h1,h2] <;> omega

theorem Res.flow {N : Nat} {r0 r : Nat→Nat→Int} {a b : Nat} {v : Int} (h : Res N r0 r a b v) (ha : a < N) (hab : a ≠ b) : FlowN N r0 a b v (fun i j=>r0 i j - r i j):=by
 refine ⟨fun i j hi hj=>by have:=h.sym i j hi hj; omega,fun i j hi hj=>by have:=h.nn i j hi hj; omega,fun i hi h1 h2=>?_,?_⟩
 ·rw [sm_sub,h.sum i hi,if_neg h1,if_neg h2]; omega
 ·rw [sm_sub,h.sum a ha,if_pos rfl,if_neg hab]; omega

theorem Res.max {N : Nat} {r0 r : Nat→Nat→Int} {a b : Nat} {v : Int} (h : Res N r0 r a b v) (ha : a < N) (hab : a ≠ b) {S : Nat→Bool} (hSa : S a = true) (hSb : S b = false) (hS : ∀ i j,i < N→j < N→S i = true→S j = false→r i j = 0) :
  ∀ w g,FlowN N r0 a b w g→w ≤ v:=fun w g hg=>cut_max (h.flow ha hab) hg ha hSa hSb fun i j hi hj h1 h2=>by have:=hS i j hi hj h1 h2; omega

structure Srch (N : Nat) (r : Nat→Nat→Int) (root : Nat→Prop) (back : Nat→Int) (ord : List Nat) : Prop where
 nod : ord.Nodup
 lt : ∀ v ∈ ord,v < N
 bk : ∀ (k : Nat) (v : Nat),ord[k]? = some v→root v ∨ (¬ root v∧∃ (k' u : Nat),k' < k∧ord[k']? = some u∧back v = (u : Int)∧0 < r u v)

def WayB (root : Nat→Prop) (back : Nat→Int) : List Nat→Prop
 | v0 :: v1 :: rest=>¬ root v0∧back v0 = (v1 : Int)∧WayB root back (v1 :: rest)
 | [v]=>root v
 | []=>True

theorem nodup_at {α : Type} {l : List α} (h : l.Nodup) {i k : Nat} {v : α} (hi : l[i]? = some v) (hk : l[k]? = some v) : i = k:=by
 obtain ⟨i1,i2⟩:=List.getElem?_eq_some_iff.1 hi
 obtain ⟨k1,k2⟩:=List.getElem?_eq_some_iff.1 hk
 have hp:=List.nodup_iff_pairwise_ne.1 h
 rcases Nat.lt_trichotomy i k with h1 | h1 | h1
 ·have:=List.pairwise_iff_getElem.1 hp i k i1 k1 h1
  rw [i2,k2] at this
  exact absurd rfl this
 ·exact h1
 ·have:=List.pairwise_iff_getElem.1 hp k i k1 i1 h1
  rw [i2,k2] at this
  exact absurd rfl this

theorem Srch.path {N : Nat} {r : Nat→Nat→Int} {root : Nat→Prop} {back : Nat→Int} {ord : List Nat} (h : Srch N r root back ord) : ∀ (k v : Nat),ord[k]? = some v →
  ∃ (path : List Nat) (a : Nat),path.head? = some v∧path.getLast? = some a∧root a∧path.Nodup∧(∀ x ∈ path,∃ i,i ≤ k∧ord[i]? = some x)∧WayB root back path∧EdgesOk r 1 path:=by
 intro k
 induction k using Nat.strongRecOn with
 | ind k ih =>
  intro v hv
  rcases h.bk k v hv with hroot | ⟨hnr,k',u,hk',hu,hb,hr⟩
  ·exact ⟨[v],v,rfl,rfl,hroot,by simp,fun x hx=>by simp at hx; subst hx; exact ⟨k,by omega,hv⟩,hroot,trivial⟩
  ·obtain ⟨path,a,p1,p2,p2',p3,p4,p5,p6⟩:=ih k' hk' u hu
   cases path with
   | nil=>simp at p1
   | cons x rest =>
    simp only [List.head?_cons,Option.some.injEq] at p1
    subst p1
    refine ⟨v :: x :: rest,a,rfl,by rw [List.getLast?_cons_cons]; exact p2,p2',List.nodup_cons.2 ⟨fun hm=>?_,p3⟩,fun y hy=>?_,⟨hnr,hb,p5⟩,⟨by omega,p6⟩⟩
    ·obtain ⟨i,hi,hi2⟩:=p4 v hm
     have:=nodup_at h.nod hi2 hv
     omega
    ·rcases List.mem_cons.1 hy with rfl | hy
     ·exact ⟨k,by omega,hv⟩
     ·obtain ⟨i,hi,hi2⟩:=p4 y hy
      exact ⟨i,by omega,hi2⟩

theorem EdgesOk.mono {r : Nat→Nat→Int} {s s' : Int} (hs : s ≤ s') : ∀ {path : List Nat},EdgesOk r s' path→EdgesOk r s path
 | [],_=>trivial
 | [_],_=>trivial
 | _ :: _ :: _,h=>⟨by have:=h.1; omega,EdgesOk.mono hs h.2⟩

end Go.Gx.F
