/- Plain laws: protected cells on both sides; a larger pattern protects more. -/
import Derived.Test.YtpjcfmpfiadkgaaGreatSPWit

namespace Go.Gx.F

open Go.Gx

set_option linter.all false

set_option maxRecDepth 10000

def FlP (n m : Nat) (x p : List (List Int)) (y : Nat→Nat→Int) : Prop:=IsFl n m (fun i=>sm m (mt x i)) (fun j=>sm n fun i=>mt x i j) (nlo x p) (nhi x p) y

def Prt (n m : Nat) (x p : List (List Int)) (d u : Int) (i j : Nat) : Prop:=(∃ y,FlP n m x p y∧y i j ≤ max 0 (mt x i j - d))∧∃ y,FlP n m x p y∧mt x i j + u ≤ y i j

noncomputable def prB (n m : Nat) (x p : List (List Int)) (d u : Int) (i j : Nat) : Bool:=@decide (Prt n m x p d u i j) (Classical.propDecidable _)

theorem prB_iff {n m : Nat} {x p : List (List Int)} {d u : Int} {i j : Nat} : prB n m x p d u i j = true ↔ Prt n m x p d u i j:=by unfold prB; exact @decide_eq_true_iff _ (Classical.propDecidable _)

noncomputable def opB (n m : Nat) (x q p : List (List Int)) (d u : Int) (i j : Nat) : Bool:=is1 q i j && !prB n m x p d u i j

noncomputable def sfB (n m : Nat) (x q p : List (List Int)) (d u : Int) : Bool:=!anyN (fun i=>anyN (opB n m x q p d u i) m) n

section

variable {n m : Nat} {x p p' q : List (List Int)} {d u : Int} {t : impl_Transport}

theorem Net.flP (hN : Net n m x p t) {y : Nat→Nat→Int} : IsF n m t y ↔ FlP n m x p y:=by
 constructor
 ·intro h
  exact ⟨fun i j hi hj=>by rw [← hN.lv i j hi hj]; exact h.lo i j hi hj,fun i j hi hj=>by rw [← hN.hv i j hi hj]; exact h.hi i j hi hj,fun i hi=>by rw [h.row i hi,hN.rv i hi],fun j hj=>by rw [h.col j hj,hN.cv j hj]⟩
 ·intro h
  exact ⟨fun i j hi hj=>by rw [hN.lv i j hi hj]; exact h.lo i j hi hj,fun i j hi hj=>by rw [hN.hv i j hi hj]; exact h.hi i j hi hj,fun i hi=>by rw [h.row i hi,hN.rv i hi],fun j hj=>by rw [h.col j hj,hN.cv j hj]⟩

theorem prt_ok (hS : Sup n m x p) (hd : 0 ≤ d∧d ≤ 1000∧0 ≤ u∧u ≤ 1000) (f1 : impl_attackNetwork x p = some t) {i j : Nat} (hi : i < n) (hj : j < m) (h1 : mt p i j = 1) :
  impl_isProtected t x (i : Int) (j : Int) d u = some (prB n m x p d u i j)∧spec_vProtected x p (i : Int) (j : Int) d u = some (prB n m x p d u i j):=by
 obtain ⟨t',e1,e2,hN,hT,hF⟩:=nets hS
 rw [f1] at e1
 obtain rfl:=Option.some.inj e1
 obtain ⟨lo,hh,er,q1,q2⟩:=range_ok hT hS.xs hF hi hj
 have hH:=hid_of hS hN hi hj h1 q1 q2
 obtain ⟨p1,p2⟩:=prot_ok hS hN e2 hH er hd
 have e : (decide (lo ≤ max 0 (mt x i j - d)) && decide (mt x i j + u ≤ hh)) = prB n m x p d u i j:=by
  rw [Bool.eq_iff_iff,Bool.and_eq_true,decide_eq_true_iff,decide_eq_true_iff,prB_iff]
  constructor
  ·rintro ⟨a,b⟩
   obtain ⟨⟨y,hy,hyl⟩,_⟩:=q1
   obtain ⟨⟨z,hz,hzl⟩,_⟩:=q2
   exact ⟨⟨y,hN.flP.1 hy,by omega⟩,⟨z,hN.flP.1 hz,by omega⟩⟩
  ·rintro ⟨⟨y,hy,hyl⟩,⟨z,hz,hzl⟩⟩
   have a1:=q1.2 y (hN.flP.2 hy)
   have a2:=q2.2 z (hN.flP.2 hz)
   exact ⟨by omega,by omega⟩
 rw [p1,p2,e]
 exact ⟨rfl,rfl⟩

theorem flP_mono (hS : Sup n m x p) (hle : ∀ i j,i < n→j < m→mt p i j = 1→mt p' i j = 1) {y : Nat→Nat→Int} (h : FlP n m x p y) : FlP n m x p' y:=by
 refine ⟨fun i j hi hj=>?_,fun i j hi hj=>?_,h.row,h.col⟩
 ·have a:=h.lo i j hi hj
  have b:=hS.xb i j hi hj
  have c:=hle i j hi hj
  unfold nlo at a ⊢
  by_cases h1 : mt p i j = 1
  ·rw [if_pos h1] at a
   rw [if_pos (c h1)]; exact a
  ·rw [if_neg h1] at a
   split <;> omega
 ·have a:=h.hi i j hi hj
  have b:=hS.xb i j hi hj
  have c:=hle i j hi hj
  unfold nhi at a ⊢
  by_cases h1 : mt p i j = 1
  ·rw [if_pos h1] at a
   rw [if_pos (c h1)]; exact a
  ·rw [if_neg h1] at a
   split <;> omega

theorem prt_mono (hS : Sup n m x p) (hle : ∀ i j,i < n→j < m→mt p i j = 1→mt p' i j = 1) {i j : Nat} (h : prB n m x p d u i j = true) : prB n m x p' d u i j = true:=by
 rw [prB_iff] at h ⊢
 obtain ⟨⟨y,hy,hyl⟩,⟨z,hz,hzl⟩⟩:=h
 exact ⟨⟨y,flP_mono hS hle hy,hyl⟩,⟨z,flP_mono hS hle hz,hzl⟩⟩

theorem sf_mono (hS : Sup n m x p) (hle : ∀ i j,i < n→j < m→mt p i j = 1→mt p' i j = 1) (h : sfB n m x q p d u = true) : sfB n m x q p' d u = true:=by
 unfold sfB at h ⊢
 rw [Bool.not_eq_true',← Bool.not_eq_true,anyN_iff] at h ⊢
 rintro ⟨i,hi,h2⟩
 obtain ⟨j,hj,h3⟩:=anyN_iff.1 h2
 refine h ⟨i,hi,anyN_iff.2 ⟨j,hj,?_⟩⟩
 unfold opB at h3 ⊢
 rw [Bool.and_eq_true] at h3 ⊢
 refine ⟨h3.1,?_⟩
 cases hp : prB n m x p d u i j with
 | false=>rfl
 | true =>
  have:=prt_mono (d:=d) (u:=u) hS hle hp
  rw [this] at h3
  exact absurd h3.2 (by simp)

def Cov (n m : Nat) (p q : List (List Int)) : Prop:=∀ i j,i < n→j < m→mt q i j = 1→mt p i j = 1

theorem is1_iff {i j : Nat} : is1 q i j = true ↔ mt q i j = 1:=by unfold is1; rw [beq_iff_eq]

theorem protects_ok (hS : Sup n m x p) (hq : Shp n m q) (hc : Cov n m p q) (hd : 0 ≤ d∧d ≤ 1000∧0 ≤ u∧u ≤ 1000) : impl_protects x p q d u = some (sfB n m x q p d u):=by
 obtain ⟨t,e1,_,_,_,_⟩:=nets hS
 have hal:=pAll_len m (is1 q) n
 have hnm : n * m ≤ 64:=Nat.mul_le_mul hS.n8 hS.m8
 unfold impl_protects
 rw [e1,Option.bind_some,positions_ok hq hS.n8 hS.m8,Option.bind_some,scanN (v:=false) (N:=(pAll m (is1 q) n).length) (g:=fun k=>(fun a b=>!prB n m x p d u a b) ((((pAll m (is1 q) n).getD k []).getD 0 0).toNat) ((((pAll m (is1 q) n).getD k []).getD 1 0).toNat)) (by omega) ?_ ?_,pos_any (fun a b=>!prB n m x p d u a b)]
 ·show _ = some (!anyN (fun i=>anyN (fun j=>is1 q i j && !prB n m x p d u i j) m) n)
  cases anyN (fun i=>anyN (fun j=>is1 q i j && !prB n m x p d u i j) m) n <;> rfl
 ·intro k hk
  obtain ⟨a,b,h1,h2,h3,h4⟩:=pAll_mem (List.getElem_mem hk)
  have hx : (pAll m (is1 q) n)[k]? = some [(a : Int),(b : Int)]:=by rw [← h4]; simp [hk]
  have e : (pAll m (is1 q) n).getD k [] = [(a : Int),(b : Int)]:=by rw [List.getD_eq_getElem?_getD,hx]; rfl
  have g0 : goAt [(a : Int),(b : Int)] 0 = some (a : Int):=rfl
  have g1 : goAt [(a : Int),(b : Int)] 1 = some (b : Int):=rfl
  simp only [impl_protects_l1,lt_ok hx,cond_true,at_ok hx,Option.bind_some,g0,g1,e]
  simp only [List.getD_cons_zero,List.getD_cons_succ,Int.toNat_natCast]
  rw [(prt_ok hS hd e1 h1 h2 (hc a b h1 h2 (is1_iff.1 h3))).1,Option.bind_some]
  cases prB n m x p d u a b <;> rfl
 ·simp only [impl_protects_l1,lt_end,cond_false]

theorem unprot_ok (hS : Sup n m x p) (hq : Shp n m q) (hc : Cov n m p q) (hd : 0 ≤ d∧d ≤ 1000∧0 ≤ u∧u ≤ 1000) : impl_unprotected x p q d u = some (pAll m (opB n m x q p d u) n):=by
 obtain ⟨t,e1,_,_,_,_⟩:=nets hS
 have hal:=pAll_len m (is1 q) n
 have hnm : n * m ≤ 64:=Nat.mul_le_mul hS.n8 hS.m8
 unfold impl_unprotected
 rw [e1,Option.bind_some,positions_ok hq hS.n8 hS.m8,Option.bind_some]
 have key : loopC (impl_unprotected_l1 x d u t (pAll m (is1 q) n)) (([] : List (List Int)),0) = some ((pAll m (is1 q) n).filter fun e=>!prB n m x p d u ((e.getD 0 0).toNat) ((e.getD 1 0).toNat)):=by
  generalize hG : (fun e : List Int=>!prB n m x p d u ((e.getD 0 0).toNat) ((e.getD 1 0).toNat)) = G
  refine tot_eq (tot_loop (fun s=>∃ k : Nat,k ≤ (pAll m (is1 q) n).length∧s = (((pAll m (is1 q) n).take k).filter G,(k : Int))) (fun s=>(pAll m (is1 q) n).length - s.2.toNat) ⟨0,by omega,rfl⟩ ?_)
  rintro _ ⟨k,hk',rfl⟩
  by_cases hk : k < (pAll m (is1 q) n).length
  ·obtain ⟨a,b,h1,h2,h3,h4⟩:=pAll_mem (List.getElem_mem hk)
   have hx : (pAll m (is1 q) n)[k]? = some [(a : Int),(b : Int)]:=by rw [← h4]; simp [hk]
   have g0 : goAt [(a : Int),(b : Int)] 0 = some (a : Int):=rfl
   have g1 : goAt [(a : Int),(b : Int)] 1 = some (b : Int):=rfl
   have hfl : (((pAll m (is1 q) n).take k).filter G).length ≤ k:=Nat.le_trans (List.length_filter_le _ _) (by rw [List.length_take]; omega)
   simp only [impl_unprotected_l1,lt_ok hx,cond_true,at_ok hx,Option.bind_some,g0,g1]
   rw [(prt_ok hS hd e1 h1 h2 (hc a b h1 h2 (is1_iff.1 h3))).1,Option.bind_some,wid (by omega) (by omega)]
   have ht : ((pAll m (is1 q) n).take (k + 1)).filter G = ((pAll m (is1 q) n).take k).filter G ++ cond (!prB n m x p d u a b) [[(a : Int),(b : Int)]] []:=by
    rw [List.take_succ,List.filter_append,hx,← hG]
    simp only [Option.toList_some,List.filter_cons,List.filter_nil,List.getD_cons_zero,List.getD_cons_succ,Int.toNat_natCast]
    cases prB n m x p d u a b <;> rfl
   cases hp : prB n m x p d u a b with
   | true =>
    rw [hp] at ht
    simp only [Bool.not_true,cond_false,Option.bind_some]
    exact tot_some ⟨⟨k + 1,by omega,by rw [ht]; simp⟩,by simp only; omega⟩
   | false =>
    rw [hp] at ht
    simp only [Bool.not_false,cond_true]
    rw [goApp_ok (by simp only [List.length_cons,List.length_nil]; omega),Option.bind_some,Option.bind_some]
    exact tot_some ⟨⟨k + 1,by omega,by rw [ht]; rfl⟩,by simp only; omega⟩
  ·obtain rfl : k = (pAll m (is1 q) n).length:=by omega
   simp only [impl_unprotected_l1,lt_end,cond_false]
   refine tot_some ?_
   simp only [List.take_length]
 rw [key,Option.bind_some,pAll_filter]
 refine congrArg some (pAll_congr fun a b ha hb=>?_)
 unfold opB
 simp only [List.getD_cons_zero,List.getD_cons_succ,Int.toNat_natCast]

theorem vOpen_ok (hS : Sup n m x p) (hq : Shp n m q) (hc : Cov n m p q) (hd : 0 ≤ d∧d ≤ 1000∧0 ≤ u∧u ≤ 1000) : spec_vOpen x p q d u = some (pAll m (opB n m x q p d u) n):=by
 obtain ⟨t,e1,_,_,_,_⟩:=nets hS
 have hnm : n * m ≤ 64:=Nat.mul_le_mul hS.n8 hS.m8
 have h8:=hS.n8; have m8:=hS.m8; have hql:=hq.len
 generalize hB : opB n m x q p d u = B
 unfold spec_vOpen
 have h : loopC (spec_vOpen_l1 x p q d u) (([] : List (List Int)),0) = some (pAll m B n):=by
  refine tot_eq (tot_loop (fun s=>∃ i : Nat,i ≤ n∧s = (pAll m B i,(i : Int))) (fun s=>n - s.2.toNat) ⟨0,by omega,rfl⟩ ?_)
  rintro _ ⟨i,hi',rfl⟩
  by_cases hi : i < n
  ·obtain ⟨row,hrow,_,hrl,_,_⟩:=hq.get hi
   have hal:=pAll_len m B i
   have him : i * m ≤ n * m:=Nat.mul_le_mul_right _ (by omega)
   simp only [spec_vOpen_l1,lt_ok hrow,cond_true,at_ok hrow,Option.bind_some]
   have h2 : loopC (spec_vOpen_l2 x p d u (i : Int) row) (pAll m B i,0) = some (pAll m B i ++ pRow (B i) i m):=by
    refine tot_eq (tot_loop (fun s=>∃ j : Nat,j ≤ m∧s = (pAll m B i ++ pRow (B i) i j,(j : Int))) (fun s=>m - s.2.toNat) ⟨0,by omega,by simp [pRow]⟩ ?_)
    rintro _ ⟨j,hj',rfl⟩
    by_cases hj : j < m
    ·have hy:=hq.el hrow hj
     have hrl2:=pRow_len (B i) i j
     simp only [spec_vOpen_l2,lt_ok hy,cond_true,at_ok hy,Option.bind_some]
     rw [wid (n:=(j : Int) + 1) (by omega) (by omega)]
     have hcell : ((cond (mt q i j == 1) ((spec_vProtected x p (i : Int) (j : Int) d u).bind fun t_17=>some (!t_17)) (some false)) : Option Bool) = some (B i j):=by
      rw [← hB]
      unfold opB is1
      by_cases h1 : mt q i j = 1
      ·rw [show (mt q i j == 1) = true by rw [beq_iff_eq]; exact h1,cond_true,(prt_ok hS hd e1 hi hj (hc i j hi hj h1)).2]; rfl
      ·rw [show (mt q i j == 1) = false by rw [beq_eq_false_iff_ne]; exact h1]; rfl
     rw [hcell,Option.bind_some]
     cases hb : B i j with
     | true =>
      rw [cond_true,goApp_ok (by simp only [List.length_append,List.length_cons,List.length_nil]; omega),Option.bind_some,Option.bind_some]
      refine tot_some ⟨⟨j + 1,by omega,?_⟩,by simp only; omega⟩
      simp only [pRow]
      rw [hb,cond_true,List.append_assoc]; rfl
     | false =>
      rw [cond_false,Option.bind_some]
      refine tot_some ⟨⟨j + 1,by omega,?_⟩,by simp only; omega⟩
      simp only [pRow]
      rw [hb,cond_false,List.append_nil]; rfl
    ·obtain rfl : j = m:=by omega
     have e3 : decide ((j : Int) < goLen row) = false:=decide_eq_false (by simp only [goLen]; omega)
     simp only [spec_vOpen_l2,e3,cond_false]
     exact tot_some rfl
   rw [h2,Option.bind_some,wid (by omega) (by omega)]
   exact tot_some ⟨⟨i + 1,by omega,rfl⟩,by simp only; omega⟩
  ·obtain rfl : i = n:=by omega
   have e3 : decide ((i : Int) < goLen q) = false:=decide_eq_false (by simp only [goLen]; omega)
   simp only [spec_vOpen_l1,e3,cond_false]
   exact tot_some rfl
 rw [h]; rfl

theorem pAll_nil {Q : Nat→Nat→Bool} : pAll m Q n = [] ↔ anyN (fun i=>anyN (Q i) m) n = false:=by
 rw [← Bool.not_eq_true,anyN_iff]
 constructor
 ·rintro h ⟨i,hi,h2⟩
  obtain ⟨j,hj,h3⟩:=anyN_iff.1 h2
  have:=pAll_in (i:=n) hj h3 hi
  rw [h] at this
  cases this
 ·intro h
  cases hl : pAll m Q n with
  | nil=>rfl
  | cons e l =>
   obtain ⟨a,b,h1,h2,h3,_⟩:=pAll_mem (e:=e) (by rw [hl]; simp)
   exact absurd ⟨a,h1,anyN_iff.2 ⟨b,h2,h3⟩⟩ h

theorem sf_nil : sfB n m x q p d u = true ↔ pAll m (opB n m x q p d u) n = []:=by
 rw [pAll_nil]
 unfold sfB
 rw [Bool.not_eq_true']

theorem vSafe_ok (hS : Sup n m x p) (hq : Shp n m q) (hc : Cov n m p q) (hd : 0 ≤ d∧d ≤ 1000∧0 ≤ u∧u ≤ 1000) : spec_vSafe x p q d u = some (sfB n m x q p d u):=by
 obtain ⟨t,e1,_,_,_,_⟩:=nets hS
 have h8:=hS.n8; have m8:=hS.m8; have hql:=hq.len
 have hO : (goLen (pAll m (opB n m x q p d u) n) == 0) = sfB n m x q p d u:=by
  rw [Bool.eq_iff_iff,beq_iff_eq,sf_nil]
  simp only [goLen]
  exact ⟨fun h=>List.eq_nil_of_length_eq_zero (by omega),fun h=>by rw [h]; rfl⟩
 have hL : loopC (spec_vSafe_l1 x p q d u) 0 = some (cond (anyN (fun i=>anyN (opB n m x q p d u i) m) n) (.inr false) (.inl ())):=by
  refine scanN (v:=false) (N:=n) (g:=fun i=>anyN (opB n m x q p d u i) m) (by omega) ?_ ?_
  ·intro i hi
   obtain ⟨row,hrow,_,hrl,_,_⟩:=hq.get hi
   simp only [spec_vSafe_l1,lt_ok hrow,cond_true,at_ok hrow,Option.bind_some]
   rw [scanN (v:=.done (.inr false)) (N:=m) (g:=opB n m x q p d u i) (by omega) ?_ ?_]
   ·cases anyN (opB n m x q p d u i) m <;> rfl
   ·intro j hj
    have hy:=hq.el hrow hj
    simp only [spec_vSafe_l2,lt_ok hy,cond_true,at_ok hy,Option.bind_some]
    have hcell : ((cond (mt q i j == 1) ((spec_vProtected x p (i : Int) (j : Int) d u).bind fun t_13=>some (!t_13)) (some false)) : Option Bool) = some (opB n m x q p d u i j):=by
     unfold opB is1
     by_cases h1 : mt q i j = 1
     ·rw [show (mt q i j == 1) = true by rw [beq_iff_eq]; exact h1,cond_true,(prt_ok hS hd e1 hi hj (hc i j hi hj h1)).2]; rfl
     ·rw [show (mt q i j == 1) = false by rw [beq_eq_false_iff_ne]; exact h1]; rfl
    rw [hcell,Option.bind_some]
    cases opB n m x q p d u i j <;> rfl
   ·have e3 : decide ((m : Int) < goLen row) = false:=decide_eq_false (by simp only [goLen]; omega)
    simp only [spec_vSafe_l2,e3,cond_false]
  ·have e3 : decide ((n : Int) < goLen q) = false:=decide_eq_false (by simp only [goLen]; omega)
   simp only [spec_vSafe_l1,e3,cond_false]
 have hA:=vAlone_ok hS.ps hq h8 m8 hS.pb
 unfold spec_vSafe
 rw [hL,vOpen_ok hS hq hc hd,hA]
 have hif : ∀ c : Bool,((cond c (some ((goLen (pAll m (opB n m x q p d u) n)) == 0)) ((some (cond (anyN (fun i=>anyN (opB n m x q p d u i) m) n) (.inr false) (.inl ())) : Option (Unit ⊕ Bool)).bind fun | .inl ()=>some true | .inr o=>some o)) : Option Bool) = some (sfB n m x q p d u):=fun c=>by
  cases c with
  | true=>rw [cond_true,hO]
  | false =>
   unfold sfB
   cases anyN (fun i=>anyN (opB n m x q p d u i) m) n <;> rfl
 cases decide (0 < w64 (d + u)) with
 | true=>exact hif _
 | false=>exact hif false

theorem unprot_own : impl_unprotected_own x p q d u = impl_unprotected x p q d u:=rfl

end

end Go.Gx.F
