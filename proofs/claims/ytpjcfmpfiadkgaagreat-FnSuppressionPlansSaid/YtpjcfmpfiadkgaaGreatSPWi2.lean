/- Plain laws: what FnWitnesses draws; partners. -/
import Derived.Test.YtpjcfmpfiadkgaaGreatSPAud

namespace Go.Gx.F

open Go.Gx

set_option linter.all false

set_option maxRecDepth 10000

def anyN (g : Nat→Bool) : Nat→Bool
 | 0=>false
 | k + 1=>anyN g k || g k

theorem anyN_iff {g : Nat→Bool} : ∀ {k},anyN g k = true ↔ ∃ i,i < k∧g i = true
 | 0=>by simp [anyN]
 | k + 1=>by
  rw [anyN,Bool.or_eq_true,anyN_iff]
  constructor
  ·rintro (⟨i,h1,h2⟩ | h)
   ·exact ⟨i,by omega,h2⟩
   ·exact ⟨k,by omega,h⟩
  ·rintro ⟨i,h1,h2⟩
   by_cases hk : i = k
   ·subst hk; exact .inr h2
   ·exact .inl ⟨i,by omega,h2⟩

theorem scanN {γ : Type} {f : Int→Option (Stp Int (Unit ⊕ γ))} {g : Nat→Bool} {N : Nat} {v : γ} (hN : N ≤ 100000) (hs : ∀ k : Nat,k < N→f k = some (cond (g k) (.done (.inr v)) (.next (w64 ((k : Int) + 1))))) (he : f (N : Int) = some (.done (.inl ()))) : loopC f 0 = some (cond (anyN g N) (.inr v) (.inl ())):=by
 refine tot_eq (tot_loop (fun s=>∃ k : Nat,k ≤ N∧s = (k : Int)∧anyN g k = false) (fun s=>N - s.toNat) ⟨0,by omega,rfl,rfl⟩ ?_)
 rintro _ ⟨k,hk,rfl,hg⟩
 by_cases hlt : k < N
 ·rw [hs k hlt]
  cases hc : g k with
  | true =>
   refine tot_some ?_
   show Sum.inr v = _
   rw [show anyN g N = true from anyN_iff.2 ⟨k,hlt,hc⟩]; rfl
  | false =>
   rw [cond_false,wid (by omega) (by omega)]
   exact tot_some ⟨⟨k + 1,by omega,by omega,by rw [anyN,hg,hc]; rfl⟩,by omega⟩
 ·obtain rfl : k = N:=by omega
  rw [he]
  refine tot_some ?_
  show Sum.inl () = _
  rw [hg]; rfl

theorem pRow_in {q : Nat→Bool} {i b : Nat} : ∀ {j},b < j→q b = true→[(i : Int),(b : Int)] ∈ pRow q i j
 | 0,h,_=>by omega
 | j + 1,h,hq=>by
  simp only [pRow,List.mem_append]
  by_cases hb : b = j
  ·subst hb; rw [hq]; exact .inr (by simp)
  ·exact .inl (pRow_in (by omega) hq)

theorem pAll_in {m : Nat} {q : Nat→Nat→Bool} {a b : Nat} (hb : b < m) (hq : q a b = true) : ∀ {i},a < i→[(a : Int),(b : Int)] ∈ pAll m q i
 | 0,h=>by omega
 | i + 1,h=>by
  simp only [pAll,List.mem_append]
  by_cases ha : a = i
  ·subst ha; exact .inr (pRow_in hb hq)
  ·exact .inl (pAll_in hb hq (by omega))

section

variable {n m : Nat} {x p q : List (List Int)}

theorem pos_any {Q : Nat→Nat→Bool} (g : Nat→Nat→Bool) :
  anyN (fun k=>g ((((pAll m Q n).getD k []).getD 0 0).toNat) ((((pAll m Q n).getD k []).getD 1 0).toNat)) (pAll m Q n).length = anyN (fun i=>anyN (fun j=>Q i j && g i j) m) n:=by
 rw [Bool.eq_iff_iff,anyN_iff,anyN_iff]
 constructor
 ·rintro ⟨k,hk,h⟩
  have hm : (pAll m Q n)[k] ∈ pAll m Q n:=List.getElem_mem hk
  obtain ⟨a,b,h1,h2,h3,h4⟩:=pAll_mem hm
  have e : (pAll m Q n).getD k [] = [(a : Int),(b : Int)]:=by rw [← h4]; simp [hk]
  rw [e] at h
  simp at h
  exact ⟨a,h1,anyN_iff.2 ⟨b,h2,by rw [h3,h]; rfl⟩⟩
 ·rintro ⟨a,h1,h⟩
  obtain ⟨b,h2,h3⟩:=anyN_iff.1 h
  rw [Bool.and_eq_true] at h3
  obtain ⟨k,hk⟩:=List.mem_iff_getElem?.1 (pAll_in (i:=n) h2 h3.1 h1)
  obtain ⟨hk1,_⟩:=List.getElem?_eq_some_iff.1 hk
  have e : (pAll m Q n).getD k [] = [(a : Int),(b : Int)]:=by rw [List.getD_eq_getElem?_getD,hk]; rfl
  refine ⟨k,hk1,?_⟩
  rw [e]
  simpa using h3.2

theorem covers_ok (hp : Shp n m p) (hq : Shp n m q) (hn : n ≤ 8) (hm : m ≤ 8) : impl_covers p q = some (!anyN (fun i=>anyN (fun j=>is1 q i j && mt p i j == 0) m) n):=by
 have hal:=pAll_len m (is1 q) n
 have hnm : n * m ≤ 64:=Nat.mul_le_mul hn hm
 unfold impl_covers
 rw [positions_ok hq hn hm,Option.bind_some,scanN (v:=false) (N:=(pAll m (is1 q) n).length) (g:=fun k=>(fun a b=>mt p a b == 0) ((((pAll m (is1 q) n).getD k []).getD 0 0).toNat) ((((pAll m (is1 q) n).getD k []).getD 1 0).toNat)) (by omega) ?_ ?_,pos_any (fun a b=>mt p a b == 0)]
 ·cases anyN (fun i=>anyN (fun j=>is1 q i j && mt p i j == 0) m) n <;> rfl
 ·intro k hk
  obtain ⟨a,b,h1,h2,_,h4⟩:=pAll_mem (List.getElem_mem hk)
  have hx : (pAll m (is1 q) n)[k]? = some [(a : Int),(b : Int)]:=by rw [← h4]; simp [hk]
  have e : (pAll m (is1 q) n).getD k [] = [(a : Int),(b : Int)]:=by rw [List.getD_eq_getElem?_getD,hx]; rfl
  obtain ⟨row,hrow,_⟩:=hp.get h1
  have g0 : goAt [(a : Int),(b : Int)] 0 = some (a : Int):=rfl
  have g1 : goAt [(a : Int),(b : Int)] 1 = some (b : Int):=rfl
  simp only [impl_covers_l1,lt_ok hx,cond_true,at_ok hx,Option.bind_some,g0,g1,at_ok hrow,at_ok (hp.el hrow h2),e]
  simp only [List.getD_cons_zero,List.getD_cons_succ,Int.toNat_natCast]
  cases (mt p a b == 0) <;> rfl
 ·simp only [impl_covers_l1,lt_end,cond_false]

theorem vContains_ok (hp : Shp n m p) (hq : Shp n m q) (hn : n ≤ 8) (hm : m ≤ 8) : spec_vContains p q = some (!anyN (fun i=>anyN (fun j=>is1 q i j && mt p i j == 0) m) n):=by
 have hql:=hq.len
 unfold spec_vContains
 rw [scanN (v:=false) (N:=n) (g:=fun i=>anyN (fun j=>is1 q i j && mt p i j == 0) m) (by omega) ?_ ?_]
 ·cases anyN (fun i=>anyN (fun j=>is1 q i j && mt p i j == 0) m) n <;> rfl
 ·intro i hi
  obtain ⟨row,hrow,_,hrl,_,_⟩:=hq.get hi
  obtain ⟨prow,hprow,_⟩:=hp.get hi
  simp only [spec_vContains_l1,lt_ok hrow,cond_true,at_ok hrow,Option.bind_some]
  rw [scanN (v:=.done (.inr false)) (N:=m) (g:=fun j=>is1 q i j && mt p i j == 0) (by omega) ?_ ?_]
  ·cases anyN (fun j=>is1 q i j && mt p i j == 0) m <;> rfl
  ·intro j hj
   have hy:=hq.el hrow hj
   simp only [spec_vContains_l2,lt_ok hy,cond_true,at_ok hy,at_ok hprow,at_ok (hp.el hprow hj),Option.bind_some,is1]
   cases (mt q i j == 1) <;> cases (mt p i j == 0) <;> rfl
  ·have e3 : decide ((m : Int) < goLen row) = false:=decide_eq_false (by simp only [goLen]; omega)
   simp only [spec_vContains_l2,e3,cond_false]
 ·have e3 : decide ((n : Int) < goLen q) = false:=decide_eq_false (by simp only [goLen]; omega)
  simp only [spec_vContains_l1,e3,cond_false]

def aln (n m : Nat) (p : List (List Int)) : Nat→Nat→Bool:=fun i j=>sm m (mt p i) == 1 || sm n (fun a=>mt p a j) == 1

theorem vAlone_ok (hp : Shp n m p) (hq : Shp n m q) (hn : n ≤ 8) (hm : m ≤ 8) (hb : ∀ i j,i < n→j < m→0 ≤ mt p i j∧mt p i j ≤ 1) : spec_vAlone p q = some (anyN (fun i=>anyN (fun j=>is1 q i j && aln n m p i j) m) n):=by
 have hql:=hq.len
 unfold spec_vAlone
 rw [scanN (v:=true) (N:=n) (g:=fun i=>anyN (fun j=>is1 q i j && aln n m p i j) m) (by omega) ?_ ?_]
 ·cases anyN (fun i=>anyN (fun j=>is1 q i j && aln n m p i j) m) n <;> rfl
 ·intro i hi
  obtain ⟨row,hrow,_,hrl,_,_⟩:=hq.get hi
  obtain ⟨prow,hprow,_,hprl,_,_⟩:=hp.get hi
  simp only [spec_vAlone_l1,lt_ok hrow,cond_true,at_ok hrow,Option.bind_some]
  rw [scanN (v:=.done (.inr true)) (N:=m) (g:=fun j=>is1 q i j && aln n m p i j) (by omega) ?_ ?_]
  ·cases anyN (fun j=>is1 q i j && aln n m p i j) m <;> rfl
  ·intro j hj
   have hy:=hq.el hrow hj
   obtain ⟨l,el,hl,hlv⟩:=tColumn_ok hp (by omega) hj
   have es : spec_tSum l = some (sm n (fun a=>mt p a j)):=by
    rw [tSum_ok (l:=l) (by omega) (fun a ha=>by rw [hlv a (by omega)]; have:=hb a j (by omega) hj; omega),hl]
    exact congrArg some (sm_congr fun a ha=>hlv a ha)
   have er:=rowSum_ok hp (by omega) hprow hi fun b hb'=>by have:=hb i b hi hb'; omega
   simp only [spec_vAlone_l2,lt_ok hy,cond_true,at_ok hy,at_ok hprow,Option.bind_some,er,el,es,is1,aln]
   cases (mt q i j == 1) <;> cases (sm m (mt p i) == 1) <;> cases (sm n (fun a=>mt p a j) == 1) <;> rfl
  ·have e3 : decide ((m : Int) < goLen row) = false:=decide_eq_false (by simp only [goLen]; omega)
   simp only [spec_vAlone_l2,e3,cond_false]
 ·have e3 : decide ((n : Int) < goLen q) = false:=decide_eq_false (by simp only [goLen]; omega)
  simp only [spec_vAlone_l1,e3,cond_false]

end

end Go.Gx.F
