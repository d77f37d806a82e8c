/- Plain laws: what can be changed in a matrix between rows and columns. -/
import Derived.Test.YtpjcfmpfiadkgaaGreatSPFlw2

namespace Go.Gx.F

open Go.Gx

set_option linter.all false

theorem sm_split (n m : Nat) (f : Nat→Int) : sm (n + m) f = sm n f + sm m (fun j=>f (n + j)):=by
 induction m with
 | zero=>simp [sm]
 | succ m ih=>rw [show n + (m + 1) = (n + m) + 1 by omega]; simp only [sm]; rw [ih]; omega

def rsd (n : Nat) (lo hi x : Nat→Nat→Int) (ok : Nat→Nat→Bool) : Nat→Nat→Int:=fun u v =>
 if u < n∧n ≤ v then (if ok u (v - n) = true then hi u (v - n) - x u (v - n) else 0)
 else if v < n∧n ≤ u then (if ok v (u - n) = true then x v (u - n) - lo v (u - n) else 0) else 0

def chg (n : Nat) (d : Nat→Nat→Int) : Nat→Nat→Int:=fun u v=>if u < n∧n ≤ v then d u (v - n) else if v < n∧n ≤ u then - d v (u - n) else 0

theorem chg_row {n m : Nat} (d : Nat→Nat→Int) {a : Nat} (ha : a < n) : sm (n + m) (chg n d a) = sm m (d a):=by
 rw [sm_split,sm_congr (g:=fun _=>0) fun v hv=>by simp [chg,show ¬ n ≤ v by omega,show ¬ n ≤ a by omega],sm_zero]
 rw [sm_congr (g:=d a) fun j hj=>by simp [chg,ha]]
 omega

theorem chg_col {n m : Nat} (d : Nat→Nat→Int) {b : Nat} (hb : b < m) : sm (n + m) (chg n d (n + b)) = - sm n (fun a=>d a b):=by
 rw [sm_split,← sm_neg]
 have e : sm m (fun j=>chg n d (n + b) (n + j)) = 0:=by
  rw [sm_congr (g:=fun _=>0) fun j hj=>by simp [chg,show ¬ n + j < n by omega,show ¬ n + b < n by omega],sm_zero]
 rw [e,sm_congr (g:=fun a=>- d a b) fun a ha=>by simp [chg,show ¬ n + b < n by omega,ha]]
 omega

theorem chg_flow {n m : Nat} {lo hi x d : Nat→Nat→Int} {ok : Nat→Nat→Bool} {a b : Nat} {w : Int}
  (hup : ∀ i j,i < n→j < m→ok i j = true→x i j + d i j ≤ hi i j) (hdn : ∀ i j,i < n→j < m→ok i j = true→lo i j ≤ x i j + d i j) (hno : ∀ i j,i < n→j < m→ok i j = false→d i j = 0)
  (hbal : ∀ u,u < n + m→u ≠ a→u ≠ b→sm (n + m) (chg n d u) = 0) (hval : sm (n + m) (chg n d a) = w) : FlowN (n + m) (rsd n lo hi x ok) a b w (chg n d):=by
 refine ⟨fun u v hu hv=>?_,fun u v hu hv=>?_,hbal,hval⟩
 ·unfold chg
  by_cases h1 : u < n <;> by_cases h2 : v < n
  ·simp [h1,h2,show ¬ n ≤ v by omega,show ¬ n ≤ u by omega]
  ·simp [h1,h2,show n ≤ v by omega,show ¬ n ≤ u by omega]
  ·simp [h1,h2,show ¬ n ≤ v by omega,show n ≤ u by omega]
  ·simp [h1,h2]
 ·unfold chg rsd
  by_cases h1 : u < n∧n ≤ v
  ·rw [if_pos h1,if_pos h1]
   cases hok : ok u (v - n) with
   | true=>have:=hup u (v - n) h1.1 (by omega) hok; simp; omega
   | false=>have:=hno u (v - n) h1.1 (by omega) hok; simp; omega
  ·rw [if_neg h1,if_neg h1]
   by_cases h2 : v < n∧n ≤ u
   ·rw [if_pos h2,if_pos h2]
    cases hok : ok v (u - n) with
    | true=>have:=hdn v (u - n) h2.1 (by omega) hok; simp; omega
    | false=>have:=hno v (u - n) h2.1 (by omega) hok; simp; omega
   ·rw [if_neg h2,if_neg h2]; exact Int.le_refl _

theorem rsd_nn {n m : Nat} {lo hi x : Nat→Nat→Int} {ok : Nat→Nat→Bool} (hl : ∀ i j,i < n→j < m→ok i j = true→lo i j ≤ x i j) (hh : ∀ i j,i < n→j < m→ok i j = true→x i j ≤ hi i j) : ∀ u v,u < n + m→v < n + m→0 ≤ rsd n lo hi x ok u v:=by
 intro u v hu hv
 unfold rsd
 by_cases h1 : u < n∧n ≤ v
 ·rw [if_pos h1]
  split
  ·rename_i h; have:=hh u (v - n) h1.1 (by omega) h; omega
  ·omega
 ·rw [if_neg h1]
  by_cases h2 : v < n∧n ≤ u
  ·rw [if_pos h2]
   split
   ·rename_i h; have:=hl v (u - n) h2.1 (by omega) h; omega
   ·omega
  ·rw [if_neg h2]; exact Int.le_refl _

def dlt (n : Nat) (lo hi x : Nat→Nat→Int) (ok : Nat→Nat→Bool) (r : Nat→Nat→Int) : Nat→Nat→Int:=fun i j=>rsd n lo hi x ok i (n + j) - r i (n + j)

theorem dlt_ok {n m : Nat} {lo hi x : Nat→Nat→Int} {ok : Nat→Nat→Bool} {r : Nat→Nat→Int} {a b : Nat} {w : Int} (h : Res (n + m) (rsd n lo hi x ok) r a b w) :
  (∀ i j,i < n→j < m→ok i j = true→r i (n + j) = hi i j - (x i j + dlt n lo hi x ok r i j)∧x i j + dlt n lo hi x ok r i j ≤ hi i j∧lo i j ≤ x i j + dlt n lo hi x ok r i j) ∧
  (∀ i j,i < n→j < m→ok i j = false→dlt n lo hi x ok r i j = 0) ∧
  (∀ i,i < n→sm m (dlt n lo hi x ok r i) = (if i = a then w else 0) - (if i = b then w else 0)) ∧
  (∀ j,j < m→sm n (fun i=>dlt n lo hi x ok r i j) = (if n + j = b then w else 0) - (if n + j = a then w else 0)):=by
 have hup : ∀ i j,i < n→rsd n lo hi x ok i (n + j) = if ok i j = true then hi i j - x i j else 0:=fun i j hi'=>by
  unfold rsd
  rw [if_pos ⟨hi',by omega⟩,show n + j - n = j by omega]
 have hdn : ∀ i j,i < n→rsd n lo hi x ok (n + j) i = if ok i j = true then x i j - lo i j else 0:=fun i j hi'=>by
  unfold rsd
  rw [if_neg (by omega),if_pos ⟨hi',by omega⟩,show n + j - n = j by omega]
 have hsame : ∀ u v,u < n + m→v < n + m→(u < n∧v < n ∨ n ≤ u∧n ≤ v)→r u v = 0∧rsd n lo hi x ok u v = 0:=by
  intro u v hu hv hc
  have h1 : rsd n lo hi x ok u v = 0:=by unfold rsd; rw [if_neg (by omega),if_neg (by omega)]
  have h2 : rsd n lo hi x ok v u = 0:=by unfold rsd; rw [if_neg (by omega),if_neg (by omega)]
  have h3:=h.sym u v hu hv
  have h4:=h.nn u v hu hv
  have h5:=h.nn v u hv hu
  exact ⟨by omega,h1⟩
 refine ⟨fun i j hi' hj hok=>?_,fun i j hi' hj hok=>?_,fun i hi'=>?_,fun j hj=>?_⟩
 ·have h1:=hup i j hi'; have h2:=hdn i j hi'
  rw [if_pos hok] at h1 h2
  have h3:=h.sym i (n + j) (by omega) (by omega)
  have h4:=h.nn i (n + j) (by omega) (by omega)
  have h5:=h.nn (n + j) i (by omega) (by omega)
  unfold dlt
  rw [h1]
  exact ⟨by omega,by omega,by omega⟩
 ·have h1:=hup i j hi'; have h2:=hdn i j hi'
  rw [hok] at h1 h2
  simp at h1 h2
  have h3:=h.sym i (n + j) (by omega) (by omega)
  have h4:=h.nn i (n + j) (by omega) (by omega)
  have h5:=h.nn (n + j) i (by omega) (by omega)
  unfold dlt
  rw [h1]; omega
 ·have h1:=h.sum i (by omega)
  rw [sm_split,sm_split] at h1
  rw [sm_congr (f:=r i) (g:=fun _=>0) fun v hv=>(hsame i v (by omega) (by omega) (.inl ⟨hi',hv⟩)).1,sm_congr (f:=rsd n lo hi x ok i) (g:=fun _=>0) fun v hv=>(hsame i v (by omega) (by omega) (.inl ⟨hi',hv⟩)).2,sm_zero] at h1
  unfold dlt
  rw [sm_sub]
  omega
 ·have h1:=h.sum (n + j) (by omega)
  rw [sm_split,sm_split] at h1
  rw [sm_congr (f:=fun k=>r (n + j) (n + k)) (g:=fun _=>0) fun v hv=>(hsame (n + j) (n + v) (by omega) (by omega) (.inr ⟨by omega,by omega⟩)).1,sm_congr (f:=fun k=>rsd n lo hi x ok (n + j) (n + k)) (g:=fun _=>0) fun v hv=>(hsame (n + j) (n + v) (by omega) (by omega) (.inr ⟨by omega,by omega⟩)).2,sm_zero] at h1
  have e : sm n (fun i=>dlt n lo hi x ok r i j) = sm n (fun i=>r (n + j) i) - sm n (fun i=>rsd n lo hi x ok (n + j) i):=by
   rw [← sm_sub]
   refine sm_congr fun i hi'=>?_
   have h3:=h.sym i (n + j) (by omega) (by omega)
   unfold dlt; omega
  rw [e]
  have e1 : sm n (r (n + j)) = sm n (fun i=>r (n + j) i):=rfl
  have e2 : sm n (rsd n lo hi x ok (n + j)) = sm n (fun i=>rsd n lo hi x ok (n + j) i):=rfl
  omega

def but (i j : Nat) : Nat→Nat→Bool:=fun a b=>!(a == i && b == j)

theorem but_t {i j a b : Nat} : but i j a b = true ↔ ¬ (a = i∧b = j):=by simp [but]; omega

theorem but_f {i j a b : Nat} : but i j a b = false ↔ (a = i∧b = j):=by simp [but]

section

variable {n m : Nat} {R C : Nat→Int} {lo hi x : Nat→Nat→Int} {i j : Nat} {ok : Nat→Nat→Bool}

theorem ok_sums {y : Nat→Nat→Int} (hx : IsFl n m R C lo hi x) (hi' : i < n) (hj : j < m) (hok : ok i j = false) (hy : IsFl n m R C lo hi y) (hag : ∀ a b,a < n→b < m→ok a b = false→¬ (a = i∧b = j)→y a b = x a b) :
  (∀ a,a < n→sm m (fun b=>if ok a b = true then y a b - x a b else 0) = if a = i then x i j - y i j else 0)∧(∀ b,b < m→sm n (fun a=>if ok a b = true then y a b - x a b else 0) = if b = j then x i j - y i j else 0):=by
 have hs : ∀ a b,a < n→b < m→¬ (a = i∧b = j)→(if ok a b = true then y a b - x a b else 0) = y a b - x a b:=fun a b ha hb hc=>by
  cases h : ok a b with
  | true=>simp
  | false=>rw [hag a b ha hb h hc]; simp
 refine ⟨fun a ha=>?_,fun b hb=>?_⟩
 ·have h0 : sm m (fun b=>y a b - x a b) = 0:=by rw [sm_sub,hy.row a ha,hx.row a ha]; omega
  by_cases h : a = i
  ·subst h
   rw [if_pos rfl,sm_upd (f:=fun b=>y a b - x a b) hj fun b hb hne=>hs a b ha hb fun hc=>hne hc.2,h0,hok]
   simp
   omega
  ·rw [if_neg h]
   exact (sm_congr fun b hb=>hs a b ha hb fun hc=>h hc.1).trans h0
 ·have h0 : sm n (fun a=>y a b - x a b) = 0:=by rw [sm_sub,hy.col b hb,hx.col b hb]; omega
  by_cases h : b = j
  ·subst h
   rw [if_pos rfl,sm_upd (f:=fun a=>y a b - x a b) hi' fun a ha hne=>hs a b ha hb fun hc=>hne hc.1,h0,hok]
   simp
   omega
  ·rw [if_neg h]
   exact (sm_congr fun a ha=>hs a b ha hb fun hc=>h hc.2).trans h0

theorem low_bound (hx : IsFl n m R C lo hi x) (hi' : i < n) (hj : j < m) (hok : ok i j = false) {y : Nat→Nat→Int} (hy : IsFl n m R C lo hi y) (hag : ∀ a b,a < n→b < m→ok a b = false→¬ (a = i∧b = j)→y a b = x a b) {w : Int} (hw : ∀ v g,FlowN (n + m) (rsd n lo hi x ok) i (n + j) v g→v ≤ w) : x i j - w ≤ y i j:=by
 obtain ⟨hrow,hcol⟩:=ok_sums hx hi' hj hok hy hag
 have hfl : FlowN (n + m) (rsd n lo hi x ok) i (n + j) (x i j - y i j) (chg n fun a b=>if ok a b = true then y a b - x a b else 0):=by
  refine chg_flow (fun a b ha hb hok=>?_) (fun a b ha hb hok=>?_) (fun a b ha hb hok=>?_) (fun u hu h1 h2=>?_) ?_
  ·simp only [hok,if_true]; have:=hy.hi a b ha hb; omega
  ·simp only [hok,if_true]; have:=hy.lo a b ha hb; omega
  ·simp [hok]
  ·by_cases hun : u < n
   ·rw [chg_row _ hun,hrow u hun,if_neg h1]
   ·obtain ⟨b,rfl⟩ : ∃ b,u = n + b:=⟨u - n,by omega⟩
    rw [chg_col _ (by omega),hcol b (by omega),if_neg (by omega)]; rfl
  ·rw [chg_row _ hi',hrow i hi',if_pos rfl]
 have:=hw _ _ hfl
 omega

theorem high_bound (hx : IsFl n m R C lo hi x) (hi' : i < n) (hj : j < m) (hok : ok i j = false) {y : Nat→Nat→Int} (hy : IsFl n m R C lo hi y) (hag : ∀ a b,a < n→b < m→ok a b = false→¬ (a = i∧b = j)→y a b = x a b) {w : Int} (hw : ∀ v g,FlowN (n + m) (rsd n lo hi x ok) (n + j) i v g→v ≤ w) : y i j ≤ x i j + w:=by
 obtain ⟨hrow,hcol⟩:=ok_sums hx hi' hj hok hy hag
 have hfl : FlowN (n + m) (rsd n lo hi x ok) (n + j) i (y i j - x i j) (chg n fun a b=>if ok a b = true then y a b - x a b else 0):=by
  refine chg_flow (fun a b ha hb hok=>?_) (fun a b ha hb hok=>?_) (fun a b ha hb hok=>?_) (fun u hu h1 h2=>?_) ?_
  ·simp only [hok,if_true]; have:=hy.hi a b ha hb; omega
  ·simp only [hok,if_true]; have:=hy.lo a b ha hb; omega
  ·simp [hok]
  ·by_cases hun : u < n
   ·rw [chg_row _ hun,hrow u hun,if_neg h2]
   ·obtain ⟨b,rfl⟩ : ∃ b,u = n + b:=⟨u - n,by omega⟩
    rw [chg_col _ (by omega),hcol b (by omega),if_neg (by omega)]; rfl
  ·rw [chg_col _ hj,hcol j hj,if_pos rfl]; omega
 have:=hw _ _ hfl
 omega

def moved (n : Nat) (lo hi x : Nat→Nat→Int) (ok : Nat→Nat→Bool) (r : Nat→Nat→Int) (i j : Nat) (z : Int) : Nat→Nat→Int:=fun a b=>if a = i∧b = j then x i j + z else x a b + dlt n lo hi x ok r a b

theorem moved_flow (hx : IsFl n m R C lo hi x) (hi' : i < n) (hj : j < m) (hok : ok i j = false) {r : Nat→Nat→Int} {u v : Nat} {w z : Int} (hz1 : lo i j ≤ x i j + z) (hz2 : x i j + z ≤ hi i j) (h : Res (n + m) (rsd n lo hi x ok) r u v w)
  (hc : (u = i∧v = n + j∧z = -w) ∨ (u = n + j∧v = i∧z = w)) :
  IsFl n m R C lo hi (moved n lo hi x ok r i j z)∧moved n lo hi x ok r i j z i j = x i j + z∧∀ a b,a < n→b < m→ok a b = false→¬ (a = i∧b = j)→moved n lo hi x ok r i j z a b = x a b:=by
 obtain ⟨h1,h2,h3,h4⟩:=dlt_ok h
 unfold moved
 generalize hd : dlt n lo hi x ok r = d at h1 h2 h3 h4
 have hz : d i j = 0:=h2 i j hi' hj hok
 refine ⟨⟨fun a b ha hb=>?_,fun a b ha hb=>?_,fun a ha=>?_,fun b hb=>?_⟩,by simp,fun a b ha hb hab hc=>by simp only [if_neg hc]; rw [h2 a b ha hb hab]; omega⟩
 ·by_cases hc : a = i∧b = j
  ·rw [if_pos hc]; obtain ⟨rfl,rfl⟩:=hc; omega
  ·rw [if_neg hc]
   cases hab : ok a b with
   | true=>exact (h1 a b ha hb hab).2.2
   | false=>rw [h2 a b ha hb hab]; have:=hx.lo a b ha hb; omega
 ·by_cases hc : a = i∧b = j
  ·rw [if_pos hc]; obtain ⟨rfl,rfl⟩:=hc; omega
  ·rw [if_neg hc]
   cases hab : ok a b with
   | true=>exact (h1 a b ha hb hab).2.1
   | false=>rw [h2 a b ha hb hab]; have:=hx.hi a b ha hb; omega
 ·have e0 : sm m (fun b=>x a b + d a b) = R a + ((if a = u then w else 0) - (if a = v then w else 0)):=by rw [sm_add,hx.row a ha,h3 a ha]
  have e1 : (if a = u then w else 0) - (if a = v then w else 0) = if a = i then -z else 0:=by
   rcases hc with ⟨rfl,rfl,rfl⟩ | ⟨rfl,rfl,rfl⟩
   ·rw [if_neg (show ¬ a = n + j by omega)]; split <;> omega
   ·rw [if_neg (show ¬ a = n + j by omega)]; split <;> omega
  rw [e1] at e0
  by_cases hai : a = i
  ·subst hai
   rw [if_pos rfl] at e0
   rw [sm_upd (f:=fun b=>x a b + d a b) hj fun b hb hne=>by rw [if_neg fun hc=>hne hc.2],e0,if_pos ⟨rfl,rfl⟩]
   omega
  ·rw [if_neg hai] at e0
   rw [sm_congr (g:=fun b=>x a b + d a b) fun b hb=>by rw [if_neg fun hc=>hai hc.1],e0]
   omega
 ·have e0 : sm n (fun a=>x a b + d a b) = C b + ((if n + b = v then w else 0) - (if n + b = u then w else 0)):=by rw [sm_add,hx.col b hb,h4 b hb]
  have e1 : (if n + b = v then w else 0) - (if n + b = u then w else 0) = if b = j then -z else 0:=by
   rcases hc with ⟨rfl,rfl,rfl⟩ | ⟨rfl,rfl,rfl⟩
   ·rw [if_neg (show ¬ n + b = u by omega)]
    by_cases hbj : b = j
    ·rw [if_pos (by omega),if_pos hbj]; omega
    ·rw [if_neg (by omega),if_neg hbj]; omega
   ·rw [if_neg (show ¬ n + b = v by omega)]
    by_cases hbj : b = j
    ·rw [if_pos (by omega),if_pos hbj]; omega
    ·rw [if_neg (by omega),if_neg hbj]; omega
  rw [e1] at e0
  by_cases hbj : b = j
  ·subst hbj
   rw [if_pos rfl] at e0
   rw [sm_upd (f:=fun a=>x a b + d a b) hi' fun a ha hne=>by rw [if_neg fun hc=>hne hc.1],e0,if_pos ⟨rfl,rfl⟩]
   omega
  ·rw [if_neg hbj] at e0
   rw [sm_congr (g:=fun a=>x a b + d a b) fun a ha=>by rw [if_neg fun hc=>hbj hc.2],e0]
   omega

end

section

variable {n m : Nat} {R C : Nat→Int} {lo hi : Nat→Nat→Int}

def at1 (m : Nat) (x : Nat→Nat→Int) (p : Nat) : Int:=x (p / m) (p % m)

def Agr (m k : Nat) (x y : Nat→Nat→Int) : Prop:=∀ p,p < k→at1 m y p = at1 m x p

structure Fst (n m : Nat) (F : (Nat→Nat→Int)→Prop) (k : Nat) (x y : Nat→Nat→Int) : Prop where
 isF : F y
 agr : Agr m k x y
 least : ∀ p,k ≤ p→p < n * m→∀ z,F z→Agr m p y z→at1 m y p ≤ at1 m z p

theorem Agr.refl (m k : Nat) (x : Nat→Nat→Int) : Agr m k x x:=fun _ _=>rfl

theorem Agr.trans {m k : Nat} {x y z : Nat→Nat→Int} (h : Agr m k x y) (h' : Agr m k y z) : Agr m k x z:=fun p hp=>(h' p hp).trans (h p hp)

theorem Agr.symm {m k : Nat} {x y : Nat→Nat→Int} (h : Agr m k x y) : Agr m k y x:=fun p hp=>(h p hp).symm

theorem Agr.le {m k k' : Nat} {x y : Nat→Nat→Int} (h : Agr m k x y) (hk : k' ≤ k) : Agr m k' x y:=fun p hp=>h p (by omega)

theorem Agr.succ {m k : Nat} {x y : Nat→Nat→Int} (h : Agr m k x y) (hk : at1 m y k = at1 m x k) : Agr m (k + 1) x y:=fun p hp=>by
 by_cases hpk : p = k
 ·subst hpk; exact hk
 ·exact h p (by omega)

theorem Fst.one {F : (Nat→Nat→Int)→Prop} {k : Nat} {x y y' : Nat→Nat→Int} (h : Fst n m F k x y) (h' : Fst n m F k x y') : Agr m (n * m) y y':=by
 have : ∀ q,q ≤ n * m→Agr m q y y':=by
  intro q
  induction q with
  | zero=>exact fun _ p hp=>by omega
  | succ q ih =>
   intro hq
   have h1:=ih (by omega)
   refine h1.succ ?_
   by_cases hqk : q < k
   ·rw [h.agr q hqk,h'.agr q hqk]
   ·have h2:=h.least q (by omega) (by omega) y' h'.isF h1
    have h3:=h'.least q (by omega) (by omega) y h.isF h1.symm
    omega
 exact this _ (Nat.le_refl _)

theorem at1_ij {x : Nat→Nat→Int} {i j : Nat} (hj : j < m) : at1 m x (i * m + j) = x i j:=by
 unfold at1
 rw [Nat.mul_comm,Nat.mul_add_div (by omega),Nat.div_eq_of_lt hj,Nat.mul_add_mod,Nat.mod_eq_of_lt hj,Nat.add_zero]

theorem pos_lt {i j : Nat} (hi' : i < n) (hj : j < m) : i * m + j < n * m:=by
 have : (i + 1) * m ≤ n * m:=Nat.mul_le_mul_right _ (by omega)
 rw [Nat.succ_mul] at this
 omega

theorem pos_bd {p : Nat} (hp : p < n * m) : p / m < n∧p % m < m∧p / m * m + p % m = p:=by
 have hm : 0 < m:=by
  cases m with
  | zero=>simp at hp
  | succ m=>omega
 exact ⟨Nat.div_lt_of_lt_mul (by rw [Nat.mul_comm]; exact hp),Nat.mod_lt _ hm,by rw [Nat.mul_comm]; exact Nat.div_add_mod p m⟩

theorem Agr.all {x y : Nat→Nat→Int} (h : Agr m (n * m) x y) {i j : Nat} (hi' : i < n) (hj : j < m) : y i j = x i j:=by
 have:=h _ (pos_lt hi' hj)
 rwa [at1_ij hj,at1_ij hj] at this

def aft (m p : Nat) : Nat→Nat→Bool:=fun a b=>decide (p < a * m + b)

theorem Fst.step {F : (Nat→Nat→Int)→Prop} {k p : Nat} {x0 x y : Nat→Nat→Int} (hk : k ≤ p) (ha : Agr m k x0 x) (hl : ∀ q,k ≤ q→q < p→∀ z,F z→Agr m q x z→at1 m x q ≤ at1 m z q)
  (hy : F y) (hxy : Agr m p x y) (hp : ∀ z,F z→Agr m p x z→at1 m y p ≤ at1 m z p) :
  Agr m k x0 y∧∀ q,k ≤ q→q < p + 1→∀ z,F z→Agr m q y z→at1 m y q ≤ at1 m z q:=by
 refine ⟨ha.trans (hxy.le hk),fun q h1 h2 z hz hyz=>?_⟩
 by_cases hqp : q = p
 ·subst hqp
  exact hp z hz (hxy.trans hyz)
 ·rw [hxy q (by omega)]
  exact hl q h1 (by omega) z hz ((hxy.le (by omega)).trans hyz)

end

end Go.Gx.F
