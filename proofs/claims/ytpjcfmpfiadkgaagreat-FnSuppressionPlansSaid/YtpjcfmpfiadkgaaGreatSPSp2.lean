/- Plain laws: cells by their numbers; free cells; patterns with further cells; values. -/
import Derived.Test.YtpjcfmpfiadkgaaGreatSPSp1

namespace Go.Gx.F

open Go.Gx

set_option linter.all false

set_option maxRecDepth 10000

def posI (m k : Nat) : List Int:=[((k / m : Nat) : Int),((k % m : Nat) : Int)]

def ints (l : List Nat) : List Int:=l.map fun (k : Nat)=>(k : Int)

theorem pRow_range (Q : Nat→Bool) (i : Nat) : ∀ j,pRow Q i j = ((List.range j).filter Q).map fun (b : Nat)=>[(i : Int),(b : Int)]
 | 0=>rfl
 | j + 1=>by
  rw [pRow,pRow_range Q i j,List.range_succ,List.filter_append,List.map_append]
  congr 1
  cases h : Q j <;> simp [h]

theorem pAll_range {m : Nat} (hm : 0 < m) (Q : Nat→Nat→Bool) : ∀ n,pAll m Q n = ((List.range (n * m)).filter fun k=>Q (k / m) (k % m)).map (posI m)
 | 0=>by simp [pAll]
 | n + 1=>by
  rw [pAll,pAll_range hm Q n,Nat.succ_mul,List.range_add,List.filter_append,List.map_append,pRow_range]
  congr 1
  rw [List.filter_map,List.map_map]
  have h : ∀ b,b < m→(n * m + b) / m = n∧(n * m + b) % m = b:=fun b hb=>by
   constructor
   ·rw [Nat.mul_comm n m,Nat.mul_add_div hm,Nat.div_eq_of_lt hb,Nat.add_zero]
   ·rw [Nat.mul_comm n m,Nat.mul_add_mod,Nat.mod_eq_of_lt hb]
  have hf : (List.range m).filter (Q n) = (List.range m).filter ((fun k=>Q (k / m) (k % m)) ∘ fun x=>n * m + x):=List.filter_congr fun b hb=>by
   obtain ⟨e1,e2⟩:=h b (List.mem_range.1 hb)
   simp only [Function.comp_apply,e1,e2]
  rw [hf]
  refine List.map_congr_left fun b hb=>?_
  obtain ⟨e1,e2⟩:=h b (List.mem_range.1 (List.mem_filter.1 hb).1)
  simp only [Function.comp_apply,posI,e1,e2]

section

variable {n m : Nat} {x p q : List (List Int)}

def frB (m : Nat) (p : List (List Int)) (k : Nat) : Bool:=at1 m (mt p) k == 0

def freeK (n m : Nat) (p : List (List Int)) : List Nat:=(List.range (n * m)).filter (frB m p)

theorem freeK_mem {k : Nat} : k ∈ freeK n m p ↔ k < n * m∧at1 m (mt p) k = 0:=by
 unfold freeK frB
 rw [List.mem_filter,List.mem_range,beq_iff_eq]

theorem freeK_sort : (freeK n m p).Pairwise (· < ·):=List.pairwise_lt_range.filter _

theorem freeK_len : (freeK n m p).length ≤ n * m:=Nat.le_trans (List.length_filter_le _ _) (by simp)

theorem freeI_ok (hp : Shp n m p) (hn1 : 1 ≤ n) (hm1 : 1 ≤ m) (hn : n ≤ 8) (hm : m ≤ 8) (hb : ∀ i j,i < n→j < m→0 ≤ mt p i j∧mt p i j ≤ 1) : impl_freeCells p = some ((freeK n m p).map (posI m)):=by
 have hpl:=hp.len
 unfold impl_freeCells
 rw [copy_eq (hp.sz (by omega) (by omega)) (by omega),Option.bind_some]
 have h : Tot (loopC (impl_freeCells_l1 p) (p,0)) fun c=>Shp n m c∧∀ i j,i < n→j < m→mt c i j = 1 - mt p i j:=by
  refine tot_loop (fun s=>∃ i : Nat,i ≤ n∧s.2 = (i : Int)∧Shp n m s.1∧∀ a c,a < n→c < m→mt s.1 a c = if a < i then 1 - mt p a c else mt p a c) (fun s=>n - s.2.toNat) ⟨0,by omega,rfl,hp,fun a c _ _=>by rw [if_neg (by omega)]⟩ ?_
  rintro ⟨y,_⟩ ⟨i,hi',rfl,g1,g2⟩
  simp only at g1 g2
  by_cases hi : i < n
  ·have e0 : decide ((i : Int) < goLen p) = true:=decide_eq_true (by simp only [goLen]; omega)
   obtain ⟨yr,hyr,_,hyl,_,_⟩:=g1.get hi
   have e2 : Tot (loopC (impl_freeCells_l2 (i : Int) yr) (y,0,yr)) fun y'=>Shp n m y'∧∀ a c,a < n→c < m→mt y' a c = if a < i + 1 then 1 - mt p a c else mt p a c:=by
    refine tot_loop (fun s=>∃ j : Nat,j ≤ m∧s.2.1 = (j : Int)∧Shp n m s.1∧s.1[i]? = some s.2.2∧∀ a c,a < n→c < m→mt s.1 a c = if a < i ∨ a = i∧c < j then 1 - mt p a c else mt p a c) (fun s=>m - s.2.1.toNat) ⟨0,by omega,rfl,g1,hyr,fun a c ha hc=>?_⟩ ?_
    ·have:=g2 a c ha hc
     by_cases hai : a < i
     ·rw [if_pos hai] at this; rw [if_pos (.inl hai)]; exact this
     ·rw [if_neg hai] at this; rw [if_neg (by omega)]; exact this
    ·rintro ⟨z,_,zr⟩ ⟨j,hj',rfl,k1,k2,k3⟩
     simp only at k1 k2 k3
     by_cases hj : j < m
     ·have e1 : decide ((j : Int) < goLen yr) = true:=decide_eq_true (by simp only [goLen]; omega)
      have hzl:=(List.getElem?_eq_some_iff.1 k2).1
      have hv : mt z i j = mt p i j:=by rw [k3 i j hi hj,if_neg (by omega)]
      have hpb:=hb i j hi hj
      simp only [impl_freeCells_l2,e1,cond_true,at_ok (k1.el k2 hj),Option.bind_some,goSet,Int.toNat_natCast]
      rw [hv,wid (n:=1 - mt p i j) (by omega) (by omega),wid (by omega) (by omega),set_upd k2]
      refine tot_some ⟨⟨j + 1,by omega,by simp only; omega,k1.upd hi,?_,fun a c ha hc=>?_⟩,by simp only; omega⟩
      ·simp only
       rw [← set_upd k2,List.getElem?_set_self hzl]
      ·simp only
       rw [mt_upd k1 hi hj,k3 a c ha hc]
       by_cases hac : a = i∧c = j
       ·rw [if_pos hac,if_pos (by omega),hac.1,hac.2]
       ·rw [if_neg hac]
        by_cases hd : a < i ∨ a = i∧c < j
        ·rw [if_pos hd,if_pos (by omega)]
        ·rw [if_neg hd,if_neg (by omega)]
     ·obtain rfl : j = m:=by omega
      have e1 : decide ((j : Int) < goLen yr) = false:=decide_eq_false (by simp only [goLen]; omega)
      simp only [impl_freeCells_l2,e1,cond_false]
      refine tot_some ⟨k1,fun a c ha hc=>?_⟩
      rw [k3 a c ha hc]
      by_cases hd : a < i ∨ a = i∧c < j
      ·rw [if_pos hd,if_pos (by omega)]
      ·rw [if_neg hd,if_neg (by omega)]
   obtain ⟨y',ey,q1,q2⟩:=e2
   simp only [impl_freeCells_l1,e0,cond_true,at_ok hyr,Option.bind_some]
   rw [ey,Option.bind_some,wid (by omega) (by omega)]
   exact tot_some ⟨⟨i + 1,by omega,by simp only; omega,q1,q2⟩,by simp only; omega⟩
  ·obtain rfl : i = n:=by omega
   have e0 : decide ((i : Int) < goLen p) = false:=decide_eq_false (by simp only [goLen]; omega)
   simp only [impl_freeCells_l1,e0,cond_false]
   exact tot_some ⟨g1,fun a c ha hc=>by rw [g2 a c ha hc,if_pos ha]⟩
 obtain ⟨c,ec,hc,hcv⟩:=h
 rw [ec,Option.bind_some,positions_ok hc hn hm,Option.bind_some,pAll_range (by omega)]
 unfold freeK
 congr 2
 refine List.filter_congr fun k hk=>?_
 obtain ⟨h1,h2,_⟩:=pos_bd (n:=n) (List.mem_range.1 hk)
 unfold is1 frB at1
 rw [hcv _ _ h1 h2,Bool.eq_iff_iff,beq_iff_eq,beq_iff_eq]
 omega

theorem freeO_eq : impl_freeCells_own p = impl_freeCells p:=rfl

theorem goNum (hm1 : 1 ≤ m) {k : Nat} (hk : k < n * m) (hn : n ≤ 8) (hm : m ≤ 8) : goQuo .i64 (k : Int) (m : Int) = some ((k / m : Nat) : Int)∧goRem (k : Int) (m : Int) = some ((k % m : Nat) : Int):=by
 have hnm : n * m ≤ 64:=Nat.mul_le_mul hn hm
 exact ⟨quo_nat (by omega) (by omega),rem_nat (by omega)⟩

theorem freeS_ok (hS : Sup n m x q) : loopC (spec_LeastPlan_l1 x q) (([] : List Int),0) = some (ints (freeK n m q)):=by
 have h8:=hS.n8; have m8:=hS.m8; have hm1:=hS.m1; have hn1:=hS.n1; have hxl:=hS.xs.len
 have hnm : n * m ≤ 64:=Nat.mul_le_mul h8 m8
 obtain ⟨x0,hx0,_,hx0l,_,_⟩:=hS.xs.get (i:=0) (by omega)
 have g0 : goAt x 0 = some x0:=at_ok (k:=0) hx0
 have gm : goLen x0 = (m : Int):=by simp only [goLen]; rw [hx0l]
 have gn : w64 (goLen x * goLen x0) = ((n * m : Nat) : Int):=by
  rw [gm]; simp only [goLen]; rw [hxl,← Int.natCast_mul,wid (by omega) (by omega)]
 refine tot_eq (tot_loop (fun s=>∃ k : Nat,k ≤ n * m∧s = (ints ((List.range k).filter (frB m q)),(k : Int))) (fun s=>n * m - s.2.toNat) ⟨0,by omega,rfl⟩ ?_)
 rintro _ ⟨k,hk',rfl⟩
 by_cases hk : k < n * m
 ·obtain ⟨h1,h2,_⟩:=pos_bd hk
  obtain ⟨qr,hqr,_,_,_,_⟩:=hS.ps.get h1
  obtain ⟨e1,e2⟩:=goNum hm1 hk h8 m8
  have hfl : (ints ((List.range k).filter (frB m q))).length ≤ k:=by
   unfold ints
   rw [List.length_map]
   exact Nat.le_trans (List.length_filter_le _ _) (by simp)
  simp only [spec_LeastPlan_l1,g0,Option.bind_some]
  rw [gn,decide_eq_true (by omega),cond_true,gm,e1,e2]
  simp only [Option.bind_some,at_ok hqr,at_ok (hS.ps.el hqr h2)]
  rw [wid (by omega) (by omega)]
  have ht : ints ((List.range (k + 1)).filter (frB m q)) = ints ((List.range k).filter (frB m q)) ++ cond (mt q (k / m) (k % m) == 0) [(k : Int)] []:=by
   unfold ints
   rw [List.range_succ,List.filter_append,List.map_append]
   congr 1
   have e : frB m q k = (mt q (k / m) (k % m) == 0):=rfl
   cases hb : (mt q (k / m) (k % m) == 0) <;> simp [e,hb]
  cases hb : (mt q (k / m) (k % m) == 0) with
  | true =>
   rw [hb] at ht
   rw [cond_true,goApp_ok (by simp only [List.length_cons,List.length_nil]; omega),Option.bind_some,Option.bind_some]
   exact tot_some ⟨⟨k + 1,by omega,by rw [ht]; rfl⟩,by simp only; omega⟩
  | false =>
   rw [hb] at ht
   rw [cond_false,Option.bind_some]
   exact tot_some ⟨⟨k + 1,by omega,by rw [ht]; simp⟩,by simp only; omega⟩
 ·obtain rfl : k = n * m:=by omega
  simp only [spec_LeastPlan_l1,g0,Option.bind_some]
  rw [gn,decide_eq_false (by omega),cond_false]
  exact tot_some rfl

def wthK (m : Nat) (q : List (List Int)) (C : List Nat) : List (List Int):=C.foldl (fun p k=>upd p (k / m) (k % m) 1) q

theorem wthK_snoc (C : List Nat) (k : Nat) : wthK m q (C ++ [k]) = upd (wthK m q C) (k / m) (k % m) 1:=by
 unfold wthK
 rw [List.foldl_append]; rfl

theorem at1_updK {b k : Nat} {v : Int} (hs : Shp n m p) (hb : b < n * m) (hk : k < n * m) : at1 m (mt (upd p (b / m) (b % m) v)) k = if k = b then v else at1 m (mt p) k:=by
 obtain ⟨b1,b2,b3⟩:=pos_bd hb
 obtain ⟨k1,k2,k3⟩:=pos_bd hk
 unfold at1
 rw [mt_upd hs b1 b2]
 by_cases h : k = b
 ·rw [if_pos h,if_pos (by rw [h]; exact ⟨rfl,rfl⟩)]
 ·rw [if_neg h,if_neg]
  rintro ⟨e1,e2⟩
  rw [e1,e2] at k3
  omega

theorem wthK_ok : ∀ {C : List Nat} {q : List (List Int)},Shp n m q→(∀ k ∈ C,k < n * m)→Shp n m (wthK m q C)∧∀ k,k < n * m→at1 m (mt (wthK m q C)) k = if k ∈ C then 1 else at1 m (mt q) k
 | [],q,hq,_=>⟨hq,fun k _=>by simp [wthK]⟩
 | c :: C,q,hq,h=>by
  have hc : c < n * m:=h c (by simp)
  obtain ⟨h1,h2,_⟩:=pos_bd hc
  obtain ⟨i1,i2⟩:=wthK_ok (C:=C) (q:=upd q (c / m) (c % m) 1) (hq.upd h1) fun k hk=>h k (by simp [hk])
  have e0 : wthK m q (c :: C) = wthK m (upd q (c / m) (c % m) 1) C:=rfl
  rw [e0]
  refine ⟨i1,fun k hk=>?_⟩
  rw [i2 k hk,at1_updK hq hc hk]
  by_cases hkC : k ∈ C
  ·rw [if_pos hkC,if_pos (by simp [hkC])]
  ·rw [if_neg hkC]
   by_cases hkc : k = c
   ·rw [if_pos hkc,if_pos (by simp [hkc])]
   ·rw [if_neg hkc,if_neg (by simp [hkC,hkc])]

theorem withI_ok (hq : Shp n m q) (hn1 : 1 ≤ n) (hn : n ≤ 8) (hm : m ≤ 8) {C : List Nat} (hC : ∀ k ∈ C,k < n * m) (hl : C.length ≤ 1000) : impl_with q (C.map (posI m)) = some (wthK m q C):=by
 have hql:=hq.len
 unfold impl_with
 rw [copy_eq (hq.sz (by omega) (by omega)) (by omega),Option.bind_some]
 have h : loopC (impl_with_l1 (C.map (posI m))) (q,0) = some (wthK m q C):=by
  refine tot_eq (tot_loop (fun s=>∃ a : Nat,a ≤ C.length∧s = (wthK m q (C.take a),(a : Int))) (fun s=>C.length - s.2.toNat) ⟨0,by omega,rfl⟩ ?_)
  rintro _ ⟨a,ha',rfl⟩
  by_cases ha : a < C.length
  ·have hk : C[a] < n * m:=hC _ (List.getElem_mem ha)
   obtain ⟨h1,h2,_⟩:=pos_bd hk
   obtain ⟨i1,_⟩:=wthK_ok (C:=C.take a) hq fun k hk=>hC k (List.mem_of_mem_take hk)
   obtain ⟨r,hr,_,_,_,_⟩:=i1.get h1
   have hx : (C.map (posI m))[a]? = some (posI m C[a]):=by simp [ha]
   have g0 : goAt (posI m C[a]) 0 = some ((C[a] / m : Nat) : Int):=rfl
   have g1 : goAt (posI m C[a]) 1 = some ((C[a] % m : Nat) : Int):=rfl
   simp only [impl_with_l1,lt_ok hx,cond_true,at_ok hx,Option.bind_some,g0,g1,at_ok hr,at_ok (i1.el hr h2),goSet,Int.toNat_natCast]
   rw [set_upd hr,wid (by omega) (by omega)]
   refine tot_some ⟨⟨a + 1,by omega,?_⟩,by simp only; omega⟩
   rw [List.take_succ,List.getElem?_eq_getElem ha,Option.toList_some,wthK_snoc]; rfl
  ·obtain rfl : a = C.length:=by omega
   have e3 : decide (((C.length : Nat) : Int) < goLen (C.map (posI m))) = false:=decide_eq_false (by simp only [goLen,List.length_map]; omega)
   simp only [impl_with_l1,e3,cond_false]
   exact tot_some (by simp only [List.take_length])
 rw [h]; rfl

theorem withS_ok (hq : Shp n m q) (hn1 : 1 ≤ n) (hm1 : 1 ≤ m) (hn : n ≤ 8) (hm : m ≤ 8) {C : List Nat} (hC : ∀ k ∈ C,k < n * m) (hl : C.length ≤ 1000) : spec_vWith q (ints C) = some (wthK m q C):=by
 have hql:=hq.len
 obtain ⟨q0,hq0,_,hq0l,_,_⟩:=hq.get (i:=0) (by omega)
 have gz : goAt q 0 = some q0:=at_ok (k:=0) hq0
 have gm : goLen q0 = (m : Int):=by simp only [goLen]; rw [hq0l]
 unfold spec_vWith
 rw [tOwn_ok hq (by omega) (by omega),Option.bind_some]
 have h : loopC (spec_vWith_l1 q (ints C)) (q,0) = some (wthK m q C):=by
  refine tot_eq (tot_loop (fun s=>∃ a : Nat,a ≤ C.length∧s = (wthK m q (C.take a),(a : Int))) (fun s=>C.length - s.2.toNat) ⟨0,by omega,rfl⟩ ?_)
  rintro _ ⟨a,ha',rfl⟩
  by_cases ha : a < C.length
  ·have hk : C[a] < n * m:=hC _ (List.getElem_mem ha)
   obtain ⟨h1,h2,_⟩:=pos_bd hk
   obtain ⟨e1,e2⟩:=goNum hm1 hk hn hm
   obtain ⟨i1,_⟩:=wthK_ok (C:=C.take a) hq fun k hk=>hC k (List.mem_of_mem_take hk)
   obtain ⟨r,hr,_,_,_,_⟩:=i1.get h1
   have hx : (ints C)[a]? = some (C[a] : Int):=by simp [ints,ha]
   simp only [spec_vWith_l1,lt_ok hx,cond_true,at_ok hx,Option.bind_some,gz,gm,e1,e2,at_ok hr,at_ok (i1.el hr h2),goSet,Int.toNat_natCast]
   rw [set_upd hr,wid (by omega) (by omega)]
   refine tot_some ⟨⟨a + 1,by omega,?_⟩,by simp only; omega⟩
   rw [List.take_succ,List.getElem?_eq_getElem ha,Option.toList_some,wthK_snoc]; rfl
  ·obtain rfl : a = C.length:=by omega
   have e3 : decide (((C.length : Nat) : Int) < goLen (ints C)) = false:=decide_eq_false (by simp only [goLen,ints,List.length_map]; omega)
   simp only [spec_vWith_l1,e3,cond_false]
   exact tot_some (by simp only [List.take_length])
 rw [h]; rfl

def valK (m : Nat) (x : List (List Int)) (C : List Nat) : Int:=(C.map fun k=>at1 m (mt x) k).sum

theorem valK_snoc (C : List Nat) (k : Nat) : valK m x (C ++ [k]) = valK m x C + at1 m (mt x) k:=by simp [valK]

theorem valK_bd (hb : ∀ k,k < n * m→0 ≤ at1 m (mt x) k∧at1 m (mt x) k ≤ 1000) : ∀ {C : List Nat},(∀ k ∈ C,k < n * m)→0 ≤ valK m x C∧valK m x C ≤ 1000 * C.length
 | [],_=>by simp [valK]
 | k :: C,h=>by
  have h1:=valK_bd hb (C:=C) fun k hk=>h k (by simp [hk])
  have h2:=hb k (h k (by simp))
  unfold valK at h1 ⊢
  simp only [List.map_cons,List.sum_cons,List.length_cons]
  omega

theorem Sup.x1 (hS : Sup n m x q) {k : Nat} (hk : k < n * m) : 0 ≤ at1 m (mt x) k∧at1 m (mt x) k ≤ 1000:=by
 obtain ⟨h1,h2,_⟩:=pos_bd hk
 exact hS.xb _ _ h1 h2

theorem valI_ok (hS : Sup n m x q) {C : List Nat} (hC : ∀ k ∈ C,k < n * m) (hl : C.length ≤ 1000) : impl_valueOfCells x (C.map (posI m)) = some (valK m x C):=by
 unfold impl_valueOfCells
 have h : loopC (impl_valueOfCells_l1 x (C.map (posI m))) (0,0) = some (valK m x C):=by
  refine tot_eq (tot_loop (fun s=>∃ a : Nat,a ≤ C.length∧s = (valK m x (C.take a),(a : Int))) (fun s=>C.length - s.2.toNat) ⟨0,by omega,rfl⟩ ?_)
  rintro _ ⟨a,ha',rfl⟩
  by_cases ha : a < C.length
  ·have hk : C[a] < n * m:=hC _ (List.getElem_mem ha)
   obtain ⟨h1,h2,_⟩:=pos_bd hk
   obtain ⟨r,hr,_,_,_,_⟩:=hS.xs.get h1
   have hx : (C.map (posI m))[a]? = some (posI m C[a]):=by simp [ha]
   have g0 : goAt (posI m C[a]) 0 = some ((C[a] / m : Nat) : Int):=rfl
   have g1 : goAt (posI m C[a]) 1 = some ((C[a] % m : Nat) : Int):=rfl
   have b1:=valK_bd (fun k hk=>hS.x1 hk) (C:=C.take a) fun k hk=>hC k (List.mem_of_mem_take hk)
   have b2:=hS.x1 hk
   have b3 : (C.take a).length ≤ 1000:=by rw [List.length_take]; omega
   simp only [impl_valueOfCells_l1,lt_ok hx,cond_true,at_ok hx,Option.bind_some,g0,g1,at_ok hr,at_ok (hS.xs.el hr h2)]
   have e : mt x (C[a] / m) (C[a] % m) = at1 m (mt x) C[a]:=rfl
   rw [e,wid (n:=valK m x (C.take a) + at1 m (mt x) C[a]) (by omega) (by omega),wid (by omega) (by omega)]
   refine tot_some ⟨⟨a + 1,by omega,?_⟩,by simp only; omega⟩
   rw [List.take_succ,List.getElem?_eq_getElem ha,Option.toList_some,valK_snoc]; rfl
  ·obtain rfl : a = C.length:=by omega
   have e3 : decide (((C.length : Nat) : Int) < goLen (C.map (posI m))) = false:=decide_eq_false (by simp only [goLen,List.length_map]; omega)
   simp only [impl_valueOfCells_l1,e3,cond_false]
   exact tot_some (by simp only [List.take_length])
 rw [h]; rfl

theorem valS_ok (hS : Sup n m x q) {C : List Nat} (hC : ∀ k ∈ C,k < n * m) (hl : C.length ≤ 1000) : spec_vValue x (ints C) = some (valK m x C):=by
 have hxl:=hS.xs.len; have hn1:=hS.n1
 obtain ⟨x0,hx0,_,hx0l,_,_⟩:=hS.xs.get (i:=0) (by omega)
 have gz : goAt x 0 = some x0:=at_ok (k:=0) hx0
 have gm : goLen x0 = (m : Int):=by simp only [goLen]; rw [hx0l]
 unfold spec_vValue
 have h : loopC (spec_vValue_l1 x (ints C)) (0,0) = some (valK m x C):=by
  refine tot_eq (tot_loop (fun s=>∃ a : Nat,a ≤ C.length∧s = (valK m x (C.take a),(a : Int))) (fun s=>C.length - s.2.toNat) ⟨0,by omega,rfl⟩ ?_)
  rintro _ ⟨a,ha',rfl⟩
  by_cases ha : a < C.length
  ·have hk : C[a] < n * m:=hC _ (List.getElem_mem ha)
   obtain ⟨h1,h2,_⟩:=pos_bd hk
   obtain ⟨e1,e2⟩:=goNum hS.m1 hk hS.n8 hS.m8
   obtain ⟨r,hr,_,_,_,_⟩:=hS.xs.get h1
   have hx : (ints C)[a]? = some (C[a] : Int):=by simp [ints,ha]
   have b1:=valK_bd (fun k hk=>hS.x1 hk) (C:=C.take a) fun k hk=>hC k (List.mem_of_mem_take hk)
   have b2:=hS.x1 hk
   have b3 : (C.take a).length ≤ 1000:=by rw [List.length_take]; omega
   simp only [spec_vValue_l1,lt_ok hx,cond_true,at_ok hx,Option.bind_some,gz,gm,e1,e2,at_ok hr,at_ok (hS.xs.el hr h2)]
   have e : mt x (C[a] / m) (C[a] % m) = at1 m (mt x) C[a]:=rfl
   rw [e,wid (n:=valK m x (C.take a) + at1 m (mt x) C[a]) (by omega) (by omega),wid (by omega) (by omega)]
   refine tot_some ⟨⟨a + 1,by omega,?_⟩,by simp only; omega⟩
   rw [List.take_succ,List.getElem?_eq_getElem ha,Option.toList_some,valK_snoc]; rfl
  ·obtain rfl : a = C.length:=by omega
   have e3 : decide (((C.length : Nat) : Int) < goLen (ints C)) = false:=decide_eq_false (by simp only [goLen,ints,List.length_map]; omega)
   simp only [spec_vValue_l1,e3,cond_false]
   exact tot_some (by simp only [List.take_length])
 rw [h]; rfl

end

end Go.Gx.F
