/- Plain laws: FnAudits. -/
import Derived.Test.YtpjcfmpfiadkgaaGreatSPAun

namespace Go.Gx.F

open Go.Gx

set_option linter.all false

set_option maxRecDepth 10000

section

variable {n m : Nat} {x p : List (List Int)} {t : impl_Transport}

def pRow (q : Nat→Bool) (i : Nat) : Nat→List (List Int)
 | 0=>[]
 | j + 1=>pRow q i j ++ cond (q j) [[(i : Int),(j : Int)]] []

def pAll (m : Nat) (q : Nat→Nat→Bool) : Nat→List (List Int)
 | 0=>[]
 | i + 1=>pAll m q i ++ pRow (q i) i m

theorem pRow_len (q : Nat→Bool) (i : Nat) : ∀ j,(pRow q i j).length ≤ j
 | 0=>by simp [pRow]
 | j + 1=>by
  have:=pRow_len q i j
  simp only [pRow,List.length_append]
  cases q j <;> simp <;> omega

theorem pAll_len (m : Nat) (q : Nat→Nat→Bool) : ∀ i,(pAll m q i).length ≤ i * m
 | 0=>by simp [pAll]
 | i + 1=>by
  have h1:=pAll_len m q i
  have h2:=pRow_len (q i) i m
  simp only [pAll,List.length_append,Nat.succ_mul]
  omega

theorem pRow_filter (q : Nat→Bool) (g : List Int→Bool) (i : Nat) : ∀ j,(pRow q i j).filter g = pRow (fun b=>q b && g [(i : Int),(b : Int)]) i j
 | 0=>rfl
 | j + 1=>by
  simp only [pRow,List.filter_append]
  rw [pRow_filter q g i j]
  congr 1
  cases q j <;> cases hg : g [(i : Int),(j : Int)] <;> simp [hg]

theorem pAll_filter (m : Nat) (q : Nat→Nat→Bool) (g : List Int→Bool) : ∀ i,(pAll m q i).filter g = pAll m (fun a b=>q a b && g [(a : Int),(b : Int)]) i
 | 0=>rfl
 | i + 1=>by
  simp only [pAll,List.filter_append]
  rw [pAll_filter m q g i,pRow_filter]

theorem pRow_mem {q : Nat→Bool} {i : Nat} {e : List Int} : ∀ {j},e ∈ pRow q i j→∃ b,b < j∧q b = true∧e = [(i : Int),(b : Int)]
 | 0,h=>by simp [pRow] at h
 | j + 1,h=>by
  simp only [pRow,List.mem_append] at h
  rcases h with h | h
  ·obtain ⟨b,h1,h2⟩:=pRow_mem h
   exact ⟨b,by omega,h2⟩
  ·cases hq : q j with
   | false=>rw [hq] at h; simp at h
   | true=>rw [hq] at h; simp at h; exact ⟨j,by omega,hq,h⟩

theorem pAll_mem {m : Nat} {q : Nat→Nat→Bool} {e : List Int} : ∀ {i},e ∈ pAll m q i→∃ a b,a < i∧b < m∧q a b = true∧e = [(a : Int),(b : Int)]
 | 0,h=>by simp [pAll] at h
 | i + 1,h=>by
  simp only [pAll,List.mem_append] at h
  rcases h with h | h
  ·obtain ⟨a,b,h1,h2⟩:=pAll_mem h
   exact ⟨a,b,by omega,h2⟩
  ·obtain ⟨b,h1,h2,h3⟩:=pRow_mem h
   exact ⟨i,b,by omega,h1,h2,h3⟩

theorem pRow_congr {q q' : Nat→Bool} {i : Nat} : ∀ {j},(∀ b,b < j→q b = q' b)→pRow q i j = pRow q' i j
 | 0,_=>rfl
 | j + 1,h=>by simp only [pRow]; rw [pRow_congr fun b hb=>h b (by omega),h j (by omega)]

theorem pAll_congr {m : Nat} {q q' : Nat→Nat→Bool} : ∀ {i},(∀ a b,a < i→b < m→q a b = q' a b)→pAll m q i = pAll m q' i
 | 0,_=>rfl
 | i + 1,h=>by simp only [pAll]; rw [pAll_congr fun a b ha hb=>h a b (by omega) hb,pRow_congr fun b hb=>h i b (by omega) hb]

def is1 (p : List (List Int)) : Nat→Nat→Bool:=fun i j=>mt p i j == 1

theorem positions_ok {p : List (List Int)} (hp : Shp n m p) (hn : n ≤ 8) (hm : m ≤ 8) : impl_positions p = some (pAll m (is1 p) n):=by
 have hpl:=hp.len
 have hnm : n * m ≤ 64:=Nat.mul_le_mul hn hm
 unfold impl_positions
 have h : loopC (impl_positions_l1 p) (([] : List (List Int)),0) = some (pAll m (is1 p) n):=by
  refine tot_eq (tot_loop (fun s=>∃ i : Nat,i ≤ n∧s = (pAll m (is1 p) i,(i : Int))) (fun s=>n - s.2.toNat) ⟨0,by omega,rfl⟩ ?_)
  rintro _ ⟨i,hi',rfl⟩
  by_cases hi : i < n
  ·obtain ⟨row,hrow,_,hrl,_,_⟩:=hp.get hi
   have hal:=pAll_len m (is1 p) i
   have him : i * m ≤ n * m:=Nat.mul_le_mul_right _ (by omega)
   simp only [impl_positions_l1,lt_ok hrow,cond_true,at_ok hrow,Option.bind_some]
   have h2 : loopC (impl_positions_l2 (i : Int) row) (pAll m (is1 p) i,0) = some (pAll m (is1 p) i ++ pRow (is1 p i) i m):=by
    refine tot_eq (tot_loop (fun s=>∃ j : Nat,j ≤ m∧s = (pAll m (is1 p) i ++ pRow (is1 p i) i j,(j : Int))) (fun s=>m - s.2.toNat) ⟨0,by omega,by simp [pRow]⟩ ?_)
    rintro _ ⟨j,hj',rfl⟩
    by_cases hj : j < m
    ·have hy:=hp.el hrow hj
     have hrl2:=pRow_len (is1 p i) i j
     simp only [impl_positions_l2,lt_ok hy,cond_true,at_ok hy,Option.bind_some]
     rw [wid (n:=(j : Int) + 1) (by omega) (by omega)]
     cases hq : (mt p i j == 1) with
     | true =>
      rw [cond_true,goApp_ok (by simp only [List.length_append,List.length_cons,List.length_nil]; omega),Option.bind_some,Option.bind_some]
      refine tot_some ⟨⟨j + 1,by omega,?_⟩,by simp only; omega⟩
      simp only [pRow]
      rw [show is1 p i j = true from hq,cond_true,List.append_assoc]; rfl
     | false =>
      rw [cond_false,Option.bind_some]
      refine tot_some ⟨⟨j + 1,by omega,?_⟩,by simp only; omega⟩
      simp only [pRow]
      rw [show is1 p i j = false from hq,cond_false,List.append_nil]; rfl
    ·obtain rfl : j = m:=by omega
     have e3 : decide ((j : Int) < goLen row) = false:=decide_eq_false (by simp only [goLen]; omega)
     simp only [impl_positions_l2,e3,cond_false]
     exact tot_some rfl
   rw [h2,Option.bind_some,wid (by omega) (by omega)]
   exact tot_some ⟨⟨i + 1,by omega,rfl⟩,by simp only; omega⟩
  ·obtain rfl : i = n:=by omega
   have e3 : decide ((i : Int) < goLen p) = false:=decide_eq_false (by simp only [goLen]; omega)
   simp only [impl_positions_l1,e3,cond_false]
   exact tot_some rfl
 rw [h]; rfl

def pub (x p : List (List Int)) : Nat→Nat→Int:=fun i j=>if mt p i j = 1 then -1 else mt x i j

theorem Shp.qs {y : List (List Int)} (h : Shp n m y) (hn : n ≤ 8) (hm : m ≤ 8) : laws_qLists y y = some true:=by
 have hl:=h.len
 exact qLists_same (by omega) fun r hr=>by have:=h.row r hr; omega

end

end Go.Gx.F
