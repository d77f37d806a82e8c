/- Plain laws: the next cell of the greedy plan,on both sides. -/
import Derived.Test.YtpjcfmpfiadkgaaGreatSPSp5

namespace Go.Gx.F

open Go.Gx

set_option linter.all false

set_option maxRecDepth 10000

def betB (m : Nat) (x : List (List Int)) (b : Option Nat) (k : Nat) : Bool:=match b with | none=>true | some e=>decide (at1 m (mt x) k < at1 m (mt x) e)

def bstF (m : Nat) (x : List (List Int)) (c : Nat→Bool) (b : Option Nat) (k : Nat) : Option Nat :=
 cond (c k && betB m x b k) (some k) b

def bstL (m : Nat) (x : List (List Int)) (c : Nat→Bool) (l : List Nat) : Option Nat:=l.foldl (bstF m x c) none

def optI (m : Nat) : Option Nat→List Int
 | none=>[]
 | some k=>posI m k

def optS : Option Nat→Int
 | none=>-1
 | some k=>(k : Int)

section

variable {n m : Nat} {x p q : List (List Int)} {c : Nat→Bool}

theorem bstL_snoc (l : List Nat) (k : Nat) : bstL m x c (l ++ [k]) = bstF m x c (bstL m x c l) k:=by
 unfold bstL
 rw [List.foldl_append]; rfl

theorem bstF_mem {l : List Nat} : ∀ {b : Option Nat} {e : Nat},l.foldl (bstF m x c) b = some e→b = some e ∨ (e ∈ l∧c e = true):=by
 induction l with
 | nil=>intro b e h; exact .inl h
 | cons k l ih =>
  intro b e h
  rw [List.foldl_cons] at h
  rcases ih h with h1 | ⟨h1,h2⟩
  ·unfold bstF at h1
   cases hc : (c k && betB m x b k) with
   | true =>
    rw [hc,cond_true] at h1
    obtain rfl:=Option.some.inj h1
    rw [Bool.and_eq_true] at hc
    exact .inr ⟨by simp,hc.1⟩
   | false=>rw [hc,cond_false] at h1; exact .inl h1
  ·exact .inr ⟨by simp [h1],h2⟩

theorem bstL_mem {l : List Nat} {e : Nat} (h : bstL m x c l = some e) : e ∈ l∧c e = true:=by
 rcases bstF_mem h with h | h
 ·cases h
 ·exact h

theorem bstF_some {l : List Nat} : ∀ {b : Option Nat},(b ≠ none ∨ ∃ k ∈ l,c k = true)→l.foldl (bstF m x c) b ≠ none:=by
 induction l with
 | nil =>
  intro b h
  rcases h with h | ⟨k,hk,_⟩
  ·exact h
  ·cases hk
 | cons k l ih =>
  intro b h
  rw [List.foldl_cons]
  apply ih
  by_cases hb : b = none
  ·subst hb
   rcases h with h | ⟨e,he,hce⟩
   ·exact absurd rfl h
   ·rcases List.mem_cons.1 he with rfl | he
    ·left
     unfold bstF
     simp [hce,betB]
    ·exact .inr ⟨e,he,hce⟩
  ·left
   unfold bstF
   cases (c k && betB m x b k) with
   | true=>simp
   | false=>simpa using hb

theorem bstL_none {l : List Nat} (h : bstL m x c l = none) : ∀ k ∈ l,c k = false:=fun k hk=>by
 cases hc : c k with
 | false=>rfl
 | true=>exact absurd h (bstF_some (.inr ⟨k,hk,hc⟩))

theorem bstL_filter (P : Nat→Bool) (l : List Nat) : bstL m x c (l.filter P) = bstL m x (fun k=>P k && c k) l:=by
 unfold bstL
 rw [List.foldl_filter]
 congr 1
 funext b k
 unfold bstF
 cases hP : P k <;> simp [hP]

theorem cheap_ok {fr : List Nat} {body : List Int × Int→Option (Stp (List Int × Int) (List Int))} (hfr : fr.length ≤ 1000)
  (h1 : ∀ (a : Nat) (ha : a < fr.length) (b : Option Nat),(∀ e,b = some e→e ∈ fr)→body (optI m b,(a : Int)) = some (.next (optI m (bstF m x c b fr[a]),w64 ((a : Int) + 1)))) (h2 : ∀ l,body (l,(fr.length : Int)) = some (.done l)) :
  loopC body (([] : List Int),0) = some (optI m (bstL m x c fr)):=by
 refine tot_eq (tot_loop (fun s=>∃ a : Nat,a ≤ fr.length∧s = (optI m (bstL m x c (fr.take a)),(a : Int))) (fun s=>fr.length - s.2.toNat) ⟨0,by omega,rfl⟩ ?_)
 rintro _ ⟨a,ha',rfl⟩
 by_cases ha : a < fr.length
 ·rw [h1 a ha _ (fun e he=>List.mem_of_mem_take (bstL_mem he).1),wid (by omega) (by omega)]
  refine tot_some ⟨⟨a + 1,by omega,?_⟩,by simp only; omega⟩
  rw [List.take_succ,List.getElem?_eq_getElem ha,Option.toList_some,bstL_snoc]; rfl
 ·obtain rfl : a = fr.length:=by omega
  rw [h2]
  exact tot_some (by rw [List.take_length])

theorem cheap_step (hS : Sup n m x p) {k : Nat} (hk : k < n * m) {b : Option Nat} (hb : ∀ e,b = some e→e < n * m) (g : Bool) :
  ((cond g (cond (optI m b).isEmpty (some true) ((goAt (posI m k) 0).bind fun e_15=>((goAt x e_15).bind fun e_17=>((goNE e_17).bind fun u_19=>((goAt (posI m k) 1).bind fun e_21=>((goAt e_17 e_21).bind fun e_23=>((goAt (optI m b) 0).bind fun e_25=>((goAt x e_25).bind fun e_27=>((goNE e_27).bind fun u_29=>((goAt (optI m b) 1).bind fun e_31=>((goAt e_27 e_31).bind fun e_33=>some (decide (e_23 < e_33))))))))))))) (some false)) : Option Bool) = some (g && betB m x b k):=by
 cases g with
 | false=>rfl
 | true =>
  rw [cond_true,Bool.true_and]
  cases b with
  | none=>rfl
  | some e =>
   have he:=hb e rfl
   have m1:=hS.m1
   obtain ⟨h1,h2,_⟩:=pos_bd hk
   obtain ⟨h3,h4,_⟩:=pos_bd he
   obtain ⟨r,hr,_,hrl,_,_⟩:=hS.xs.get h1
   obtain ⟨s,hs,_,hsl,_,_⟩:=hS.xs.get h3
   have z0 : goAt (posI m k) 0 = some ((k / m : Nat) : Int):=rfl
   have z1 : goAt (posI m k) 1 = some ((k % m : Nat) : Int):=rfl
   have z2 : goAt (optI m (some e)) 0 = some ((e / m : Nat) : Int):=rfl
   have z3 : goAt (optI m (some e)) 1 = some ((e % m : Nat) : Int):=rfl
   have ne : ∀ l : List Int,l.length = m→goNE l = some ():=fun l hl=>by
    unfold goNE
    cases l with
    | nil=>simp at hl; omega
    | cons a l=>rfl
   rw [show (optI m (some e)).isEmpty = false from rfl,cond_false,z0,z1,z2,z3]
   simp only [Option.bind_some,at_ok hr,at_ok hs,at_ok (hS.xs.el hr h2),at_ok (hS.xs.el hs h4),ne r hrl,ne s hsl]
   rfl

theorem free_at {a : Nat} (ha : a < (freeK n m p).length) : ((freeK n m p).map (posI m))[a]? = some (posI m (freeK n m p)[a])∧(freeK n m p)[a] < n * m:=by
 refine ⟨by simp [ha],(freeK_mem.1 (List.getElem_mem ha)).1⟩

theorem optI_cond {b : Option Nat} {k : Nat} {g : Bool} : ((cond (g && betB m x b k) (some (posI m k)) (some (optI m b))) : Option (List Int)) = some (optI m (cond (g && betB m x b k) (some k) b)):=by
 cases (g && betB m x b k) <;> rfl

theorem cheap1 (hS : Sup n m x p) (i : Int) : impl_cheapestCell_own_of_impl_GreedyPlan_1 x p i = some (optI m (bstL m x (fun k=>((k / m : Nat) : Int) == i) (freeK n m p))):=by
 have hfl:=freeK_len (n:=n) (m:=m) (p:=p)
 have hnm : n * m ≤ 64:=Nat.mul_le_mul hS.n8 hS.m8
 unfold impl_cheapestCell_own_of_impl_GreedyPlan_1
 rw [freeO_eq,freeI_ok hS.ps hS.n1 hS.m1 hS.n8 hS.m8 hS.pb,Option.bind_some,cheap_ok (m:=m) (x:=x) (c:=fun k=>((k / m : Nat) : Int) == i) (fr:=freeK n m p) (by omega) ?_ ?_]
 ·rfl
 ·intro a ha b hb
  obtain ⟨hx,hk⟩:=free_at ha
  have hne : goNE (posI m (freeK n m p)[a]) = some ():=rfl
  have hcl : impl_GreedyPlan_1 (posI m (freeK n m p)[a]) i = some (((((freeK n m p)[a] / m : Nat) : Int)) == i):=rfl
  simp only [impl_cheapestCell_own_of_impl_GreedyPlan_1_l1,lt_ok hx,cond_true,at_ok hx,Option.bind_some,hne,hcl]
  rw [cheap_step hS hk (fun e he=>(freeK_mem.1 (hb e he)).1),Option.bind_some,optI_cond]
  rfl
 ·intro l
  have e3 : decide ((((freeK n m p).length : Nat) : Int) < goLen ((freeK n m p).map (posI m))) = false:=decide_eq_false (by simp only [goLen,List.length_map]; omega)
  simp only [impl_cheapestCell_own_of_impl_GreedyPlan_1_l1,e3,cond_false]

theorem cheap2 (hS : Sup n m x p) (j : Int) : impl_cheapestCell_own_of_impl_GreedyPlan_2 x p j = some (optI m (bstL m x (fun k=>((k % m : Nat) : Int) == j) (freeK n m p))):=by
 have hfl:=freeK_len (n:=n) (m:=m) (p:=p)
 have hnm : n * m ≤ 64:=Nat.mul_le_mul hS.n8 hS.m8
 unfold impl_cheapestCell_own_of_impl_GreedyPlan_2
 rw [freeO_eq,freeI_ok hS.ps hS.n1 hS.m1 hS.n8 hS.m8 hS.pb,Option.bind_some,cheap_ok (m:=m) (x:=x) (c:=fun k=>((k % m : Nat) : Int) == j) (fr:=freeK n m p) (by omega) ?_ ?_]
 ·rfl
 ·intro a ha b hb
  obtain ⟨hx,hk⟩:=free_at ha
  have hne : goNE (posI m (freeK n m p)[a]) = some ():=rfl
  have hcl : impl_GreedyPlan_2 (posI m (freeK n m p)[a]) j = some (((((freeK n m p)[a] % m : Nat) : Int)) == j):=rfl
  simp only [impl_cheapestCell_own_of_impl_GreedyPlan_2_l1,lt_ok hx,cond_true,at_ok hx,Option.bind_some,hne,hcl]
  rw [cheap_step hS hk (fun e he=>(freeK_mem.1 (hb e he)).1),Option.bind_some,optI_cond]
  rfl
 ·intro l
  have e3 : decide ((((freeK n m p).length : Nat) : Int) < goLen ((freeK n m p).map (posI m))) = false:=decide_eq_false (by simp only [goLen,List.length_map]; omega)
  simp only [impl_cheapestCell_own_of_impl_GreedyPlan_2_l1,e3,cond_false]

theorem cheap3 (hS : Sup n m x p) : impl_cheapestCell_own_of_impl_GreedyPlan_3 x p = some (optI m (bstL m x (fun _=>true) (freeK n m p))):=by
 have hfl:=freeK_len (n:=n) (m:=m) (p:=p)
 have hnm : n * m ≤ 64:=Nat.mul_le_mul hS.n8 hS.m8
 unfold impl_cheapestCell_own_of_impl_GreedyPlan_3
 rw [freeO_eq,freeI_ok hS.ps hS.n1 hS.m1 hS.n8 hS.m8 hS.pb,Option.bind_some,cheap_ok (m:=m) (x:=x) (c:=fun _=>true) (fr:=freeK n m p) (by omega) ?_ ?_]
 ·rfl
 ·intro a ha b hb
  obtain ⟨hx,hk⟩:=free_at ha
  have hne : goNE (posI m (freeK n m p)[a]) = some ():=rfl
  have hcl : impl_GreedyPlan_3 (posI m (freeK n m p)[a]) = some true:=rfl
  simp only [impl_cheapestCell_own_of_impl_GreedyPlan_3_l1,lt_ok hx,cond_true,at_ok hx,Option.bind_some,hne,hcl]
  have:=cheap_step hS hk (fun e he=>(freeK_mem.1 (hb e he)).1) true
  rw [cond_true] at this
  rw [this,Option.bind_some,optI_cond]
  rfl
 ·intro l
  have e3 : decide ((((freeK n m p).length : Nat) : Int) < goLen ((freeK n m p).map (posI m))) = false:=decide_eq_false (by simp only [goLen,List.length_map]; omega)
  simp only [impl_cheapestCell_own_of_impl_GreedyPlan_3_l1,e3,cond_false]

def cnd (m : Nat) (i j : Int) (s : Nat) (k : Nat) : Bool:=cond (s == 0) (((k / m : Nat) : Int) == i) (cond (s == 1) (((k % m : Nat) : Int) == j) true)

theorem stage_ok (hS : Sup n m x p) {x0 : List Int} (hx0 : x0.length = m) (i j : Int) {s : Nat} (hs : s < 3) : loopC (spec_vNext_l2 x p i j x0 (s : Int)) (-1,0) = some (optS (bstL m x (cnd m i j s) (freeK n m p))):=by
 have h8:=hS.n8; have m8:=hS.m8; have m1:=hS.m1; have hxl:=hS.xs.len
 have hnm : n * m ≤ 64:=Nat.mul_le_mul h8 m8
 have gm : goLen x0 = (m : Int):=by simp only [goLen]; rw [hx0]
 have gn : w64 (goLen x * goLen x0) = ((n * m : Nat) : Int):=by
  rw [gm]; simp only [goLen]; rw [hxl,← Int.natCast_mul,wid (by omega) (by omega)]
 have hfr : freeK n m p = (List.range (n * m)).filter (frB m p):=rfl
 rw [hfr,bstL_filter]
 refine tot_eq (tot_loop (fun t=>∃ k : Nat,k ≤ n * m∧t = (optS (bstL m x (fun k=>frB m p k && cnd m i j s k) (List.range k)),(k : Int))) (fun t=>n * m - t.2.toNat) ⟨0,by omega,rfl⟩ ?_)
 rintro _ ⟨k,hk',rfl⟩
 by_cases hk : k < n * m
 ·obtain ⟨h1,h2,_⟩:=pos_bd hk
  obtain ⟨pr,hpr,_,_,_,_⟩:=hS.ps.get h1
  obtain ⟨xr,hxr,_,_,_,_⟩:=hS.xs.get h1
  obtain ⟨e1,e2⟩:=goNum m1 hk h8 m8
  generalize hb : bstL m x (fun k=>frB m p k && cnd m i j s k) (List.range k) = b
  have hbm : ∀ e,b = some e→e < n * m:=fun e he=>by
   rw [← hb] at he
   have:=List.mem_range.1 (bstL_mem he).1
   omega
  have hpb:=hS.pb _ _ h1 h2
  simp only [spec_vNext_l2]
  rw [gn,decide_eq_true (by omega),cond_true,gm,e1,e2]
  simp only [Option.bind_some,at_ok hpr,at_ok (hS.ps.el hpr h2)]
  have hskip : ((cond (mt p (k / m) (k % m) == 1) (some true) (cond ((s : Int) == 0) (cond (((k / m : Nat) : Int) != i) (some true) (cond ((s : Int) == 1) (some (((k % m : Nat) : Int) != j)) (some false))) (cond ((s : Int) == 1) (some (((k % m : Nat) : Int) != j)) (some false)))) : Option Bool) = some (!(frB m p k && cnd m i j s k)):=by
   have hf : frB m p k = !(mt p (k / m) (k % m) == 1):=by
    unfold frB at1
    rw [Bool.eq_iff_iff,Bool.not_eq_true',beq_iff_eq,beq_eq_false_iff_ne]
    omega
   rw [hf]
   unfold cnd
   cases (mt p (k / m) (k % m) == 1) with
   | true=>rfl
   | false =>
    rcases (show s = 0 ∨ s = 1 ∨ s = 2 by omega) with rfl | rfl | rfl
    ·show (cond (!(((k / m : Nat) : Int) == i)) (some true) (some false) : Option Bool) = some (!(((k / m : Nat) : Int) == i))
     cases (((k / m : Nat) : Int) == i) <;> rfl
    ·rfl
    ·rfl
  rw [hskip,Option.bind_some,wid (by omega) (by omega)]
  have hnext : ∀ b',b' = bstF m x (fun k=>frB m p k && cnd m i j s k) b k→∃ k2 : Nat,k2 ≤ n * m∧(optS b',(k : Int) + 1) = (optS (bstL m x (fun k=>frB m p k && cnd m i j s k) (List.range k2)),(k2 : Int)):=fun b' hb' =>
   ⟨k + 1,by omega,by rw [List.range_succ,bstL_snoc,hb,← hb']; rfl⟩
  have hF : bstF m x (fun k=>frB m p k && cnd m i j s k) b k = cond ((frB m p k && cnd m i j s k) && betB m x b k) (some k) b:=rfl
  cases hc : (frB m p k && cnd m i j s k) with
  | false =>
   rw [hc] at hF
   simp only [Bool.not_false,cond_true,Option.bind_some]
   exact tot_some ⟨hnext b (by rw [hF]; rfl),by simp only; omega⟩
  | true =>
   rw [hc] at hF
   simp only [Bool.not_true,cond_false]
   cases b with
   | none =>
    rw [show decide (optS none < 0) = true from rfl]
    simp only [cond_true,Option.bind_some]
    exact tot_some ⟨hnext (some k) (by rw [hF]; rfl),by simp only; omega⟩
   | some e =>
    have he:=hbm e rfl
    obtain ⟨h3,h4,_⟩:=pos_bd he
    obtain ⟨er,her,_,_,_,_⟩:=hS.xs.get h3
    obtain ⟨f1,f2⟩:=goNum m1 he h8 m8
    rw [show optS (some e) = (e : Int) from rfl,decide_eq_false (show ¬ ((e : Int)) < 0 by omega),f1,f2]
    simp only [cond_false,Option.bind_some,at_ok hxr,at_ok (hS.xs.el hxr h2),at_ok her,at_ok (hS.xs.el her h4)]
    have hd : decide (mt x (k / m) (k % m) < mt x (e / m) (e % m)) = decide (at1 m (mt x) k < at1 m (mt x) e):=rfl
    rw [hd]
    cases hdd : decide (at1 m (mt x) k < at1 m (mt x) e) with
    | true =>
     simp only [cond_true,Option.bind_some]
     exact tot_some ⟨hnext (some k) (by rw [hF,show betB m x (some e) k = true from hdd]; rfl),by simp only; omega⟩
    | false =>
     simp only [cond_false,Option.bind_some]
     exact tot_some ⟨hnext (some e) (by rw [hF,show betB m x (some e) k = false from hdd]; rfl),by simp only; omega⟩
 ·obtain rfl : k = n * m:=by omega
  simp only [spec_vNext_l2]
  rw [gn,decide_eq_false (by omega),cond_false]
  exact tot_some rfl

def nextK (n m : Nat) (x p : List (List Int)) (i j : Int) : Option Nat :=
 match bstL m x (fun k=>((k / m : Nat) : Int) == i) (freeK n m p) with
 | some k=>some k
 | none=>match bstL m x (fun k=>((k % m : Nat) : Int) == j) (freeK n m p) with
  | some k=>some k
  | none=>bstL m x (fun _=>true) (freeK n m p)

theorem nextK_mem {i j : Int} {k : Nat} (h : nextK n m x p i j = some k) : k ∈ freeK n m p:=by
 unfold nextK at h
 cases h1 : bstL m x (fun k=>((k / m : Nat) : Int) == i) (freeK n m p) with
 | some e=>rw [h1] at h; obtain rfl:=Option.some.inj h; exact (bstL_mem h1).1
 | none =>
  rw [h1] at h
  cases h2 : bstL m x (fun k=>((k % m : Nat) : Int) == j) (freeK n m p) with
  | some e=>rw [h2] at h; obtain rfl:=Option.some.inj h; exact (bstL_mem h2).1
  | none=>rw [h2] at h; exact (bstL_mem h).1

theorem nextK_none {i j : Int} (h : nextK n m x p i j = none) : freeK n m p = []:=by
 unfold nextK at h
 cases h1 : bstL m x (fun k=>((k / m : Nat) : Int) == i) (freeK n m p) with
 | some e=>rw [h1] at h; cases h
 | none =>
  rw [h1] at h
  cases h2 : bstL m x (fun k=>((k % m : Nat) : Int) == j) (freeK n m p) with
  | some e=>rw [h2] at h; cases h
  | none =>
   rw [h2] at h
   have:=bstL_none h
   cases hl : freeK n m p with
   | nil=>rfl
   | cons a l=>rw [hl] at this; have:=this a (by simp); cases this

theorem vNext_ok (hS : Sup n m x p) (i j : Int) : spec_vNext x p i j = some (optS (nextK n m x p i j)):=by
 have n1:=hS.n1
 obtain ⟨x0,hx0,_,hx0l,_,_⟩:=hS.xs.get (i:=0) (by omega)
 have gz : goAt x 0 = some x0:=at_ok (k:=0) hx0
 have neg : decide ((0 : Int) ≤ optS none) = false:=rfl
 have pos : ∀ k,decide ((0 : Int) ≤ optS (some k)) = true:=fun k=>decide_eq_true (by show (0 : Int) ≤ (k : Int); omega)
 have s0:=stage_ok hS hx0l i j (s:=0) (by omega)
 have s1:=stage_ok hS hx0l i j (s:=1) (by omega)
 have s2:=stage_ok hS hx0l i j (s:=2) (by omega)
 have c0 : cnd m i j 0 = fun k=>((k / m : Nat) : Int) == i:=rfl
 have c1 : cnd m i j 1 = fun k=>((k % m : Nat) : Int) == j:=rfl
 have c2 : cnd m i j 2 = fun _=>true:=rfl
 rw [c0] at s0; rw [c1] at s1; rw [c2] at s2
 unfold spec_vNext nextK
 rw [gz,Option.bind_some,loopC_eq]
 simp only [spec_vNext_l1]
 rw [show decide ((0 : Int) < 3) = true from rfl,cond_true]
 have s0' : loopC (spec_vNext_l2 x p i j x0 0) (-1,0) = _:=s0
 rw [s0',Option.bind_some]
 cases h0 : bstL m x (fun k=>((k / m : Nat) : Int) == i) (freeK n m p) with
 | some k=>rw [pos]; rfl
 | none =>
  rw [neg,cond_false]
  simp only
  rw [show w64 ((0 : Int) + 1) = 1 from by rw [wid (by omega) (by omega)]; rfl,loopC_eq]
  simp only [spec_vNext_l1]
  rw [show decide ((1 : Int) < 3) = true from rfl,cond_true]
  have s1' : loopC (spec_vNext_l2 x p i j x0 1) (-1,0) = _:=s1
  rw [s1',Option.bind_some]
  cases h1 : bstL m x (fun k=>((k % m : Nat) : Int) == j) (freeK n m p) with
  | some k=>rw [pos]; rfl
  | none =>
   rw [neg,cond_false]
   simp only
   rw [show w64 ((1 : Int) + 1) = 2 from by rw [wid (by omega) (by omega)]; rfl,loopC_eq]
   simp only [spec_vNext_l1]
   rw [show decide ((2 : Int) < 3) = true from rfl,cond_true]
   have s2' : loopC (spec_vNext_l2 x p i j x0 2) (-1,0) = _:=s2
   rw [s2',Option.bind_some]
   cases h2 : bstL m x (fun _=>true) (freeK n m p) with
   | some k=>rw [pos]; rfl
   | none =>
    rw [neg,cond_false]
    simp only
    rw [show w64 ((2 : Int) + 1) = 3 from by rw [wid (by omega) (by omega)]; rfl,loopC_eq]
    simp only [spec_vNext_l1]
    rw [show decide ((3 : Int) < 3) = false from rfl,cond_false]
    rfl

end

end Go.Gx.F
