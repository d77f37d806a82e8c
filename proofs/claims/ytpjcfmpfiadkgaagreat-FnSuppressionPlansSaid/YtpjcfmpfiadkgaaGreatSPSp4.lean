/- Plain laws: the program's least plan. -/
import Derived.Test.YtpjcfmpfiadkgaaGreatSPSp3

namespace Go.Gx.F

open Go.Gx

set_option linter.all false

set_option maxRecDepth 10000

theorem mask_ex (S : Nat→Bool) : ∀ n : Nat,∃ k,k < 2 ^ n∧∀ i,i < n→decide (k / 2 ^ i % 2 = 1) = S i
 | 0=>⟨0,by simp,fun i hi=>by omega⟩
 | n + 1=>by
  obtain ⟨k,hk,h⟩:=mask_ex S n
  have hp : 2 ^ (n + 1) = 2 * 2 ^ n:=by rw [Nat.pow_succ,Nat.mul_comm]
  cases hs : S n with
  | false =>
   refine ⟨k,by omega,fun i hi=>?_⟩
   by_cases hin : i = n
   ·subst hin
    rw [Nat.div_eq_of_lt hk,hs]; rfl
   ·exact h i (by omega)
  | true =>
   refine ⟨k + 2 ^ n,by omega,fun i hi=>?_⟩
   by_cases hin : i = n
   ·subst hin
    rw [Nat.add_div_right _ (Nat.pow_pos (by omega)),Nat.div_eq_of_lt hk,hs]; rfl
   ·rw [← h i (by omega)]
    obtain ⟨d,rfl⟩ : ∃ d,n = i + 1 + d:=⟨n - i - 1,by omega⟩
    have e : k + 2 ^ (i + 1 + d) = k + 2 ^ i * (2 * 2 ^ d):=by rw [Nat.pow_add,Nat.pow_succ,Nat.mul_assoc]
    rw [e,Nat.add_mul_div_left _ _ (Nat.pow_pos (by omega)),Nat.add_mul_mod_self_left]

def fstF {γ : Type} (g : Nat→Bool) (v : Nat→γ) : Nat→Nat→Unit ⊕ γ
 | 0,_=>.inl ()
 | j + 1,k=>cond (g k) (.inr (v k)) (fstF g v j (k + 1))

theorem scanF {γ : Type} {f : Int→Option (Stp Int (Unit ⊕ γ))} {g : Nat→Bool} {v : Nat→γ} {N : Nat} (hN : N ≤ 100000) (hs : ∀ k : Nat,k < N→f k = some (cond (g k) (.done (.inr (v k))) (.next (w64 ((k : Int) + 1))))) (he : f (N : Int) = some (.done (.inl ()))) :
  ∀ j k,k + j = N→loopC f (k : Int) = some (fstF g v j k)
 | 0,k,h=>by
  obtain rfl : k = N:=by omega
  rw [loopC_eq,he]; rfl
 | j + 1,k,h=>by
  rw [loopC_eq,hs k (by omega)]
  unfold fstF
  cases g k with
  | true=>rfl
  | false =>
   rw [cond_false,cond_false,wid (by omega) (by omega)]
   exact scanF hN hs he j (k + 1) (by omega)

theorem fstF_first {γ : Type} {g : Nat→Bool} {v : Nat→γ} : ∀ j k,(∃ i,k ≤ i∧i < k + j∧g i = true)→∃ i,k ≤ i∧i < k + j∧g i = true∧(∀ i',k ≤ i'→i' < i→g i' = false)∧fstF g v j k = .inr (v i)
 | 0,k,⟨i,h1,h2,_⟩=>by omega
 | j + 1,k,⟨i,h1,h2,h3⟩=>by
  cases hg : g k with
  | true=>exact ⟨k,by omega,by omega,hg,fun i' a b=>by omega,by unfold fstF; rw [hg]; rfl⟩
  | false =>
   have hne : i ≠ k:=fun e=>by rw [e,hg] at h3; cases h3
   obtain ⟨i',a1,a2,a3,a4,a5⟩:=fstF_first (v:=v) j (k + 1) ⟨i,by omega,by omega,h3⟩
   refine ⟨i',by omega,by omega,a3,fun i2 b1 b2=>?_,by unfold fstF; rw [hg,cond_false]; exact a5⟩
   by_cases hi2 : i2 = k
   ·rw [hi2]; exact hg
   ·exact a4 i2 (by omega) b2

section

variable {n m : Nat} {x q : List (List Int)} {d u : Int}

theorem supW (hS : Sup n m x q) {C : List Nat} (hC : ∀ k ∈ C,k < n * m) : Sup n m x (wthK m q C)∧Cov n m (wthK m q C) q:=by
 obtain ⟨h1,h2⟩:=wthK_ok hS.ps hC
 have hv : ∀ i j,i < n→j < m→mt (wthK m q C) i j = if i * m + j ∈ C then 1 else mt q i j:=fun i j hi hj=>by
  have:=h2 _ (pos_lt hi hj)
  rw [at1_ij hj,at1_ij hj] at this
  exact this
 refine ⟨⟨hS.n1,hS.n8,hS.m1,hS.m8,hS.xs,h1,hS.xb,fun i j hi hj=>?_⟩,fun i j hi hj h=>?_⟩
 ·rw [hv i j hi hj]
  have:=hS.pb i j hi hj
  split <;> omega
 ·rw [hv i j hi hj,h]
  split <;> rfl

theorem covW (hS : Sup n m x q) {C D : List Nat} (hC : ∀ k ∈ C,k < n * m) (hD : ∀ k ∈ D,k < n * m) (hCD : ∀ k ∈ C,k ∈ D) : ∀ i j,i < n→j < m→mt (wthK m q C) i j = 1→mt (wthK m q D) i j = 1:=fun i j hi hj h=>by
 have a:=(wthK_ok hS.ps hC).2 _ (pos_lt hi hj)
 have b:=(wthK_ok hS.ps hD).2 _ (pos_lt hi hj)
 rw [at1_ij hj,at1_ij hj] at a b
 rw [b]
 by_cases hk : i * m + j ∈ C
 ·rw [if_pos (hCD _ hk)]
 ·rw [if_neg hk] at a
  rw [a] at h
  rw [h]
  split <;> rfl

noncomputable def sfK (n m : Nat) (x q : List (List Int)) (d u : Int) (C : List Nat) : Bool:=sfB n m x q (wthK m q C) d u

theorem cells_lt (k : Nat) : ∀ c ∈ cellsK (freeK n m q) k,c < n * m:=fun c hc=>(freeK_mem.1 (cellsK_mem hc)).1

theorem free_lt : ∀ c ∈ freeK n m q,c < n * m:=fun c hc=>(freeK_mem.1 hc).1

theorem cellsK_all {fr : List Nat} {k : Nat} (h : ∀ i,i < fr.length→bit k i = true) : cellsK fr k = fr:=by
 have e : bitsN k fr.length = List.range fr.length:=by
  unfold bitsN
  exact List.filter_eq_self.2 fun i hi=>h i (List.mem_range.1 hi)
 unfold cellsK
 rw [e]
 apply List.ext_getElem?
 intro i
 by_cases hi : i < fr.length
 ·simp [hi]
 ·simp [hi]

noncomputable def chC (m : Nat) (x : List (List Int)) (fr : List Nat) (k : Nat) : impl_choice:=⟨(cellsK fr k).map (posI m),valK m x (cellsK fr k)⟩

theorem choices_ok (hS : Sup n m x q) (hF : (freeK n m q).length ≤ 10) : loopC (impl_LeastPlan_l1 x ((freeK n m q).map (posI m)) ((2 ^ (freeK n m q).length : Nat) : Int)) (([] : List impl_choice),0) = some ((List.range (2 ^ (freeK n m q).length)).map (chC m x (freeK n m q))):=by
 have hN : 2 ^ (freeK n m q).length ≤ 2 ^ 10:=Nat.pow_le_pow_right (n:=2) (by omega) hF
 generalize hfr : freeK n m q = fr at hF hN
 have hcl : ∀ k,∀ c ∈ cellsK fr k,c < n * m:=fun k c hc=>by rw [← hfr] at hc; exact cells_lt k c hc
 refine tot_eq (tot_loop (fun s=>∃ k : Nat,k ≤ 2 ^ fr.length∧s = ((List.range k).map (chC m x fr),(k : Int))) (fun s=>2 ^ fr.length - s.2.toNat) ⟨0,Nat.zero_le _,rfl⟩ ?_)
 rintro _ ⟨k,hk',rfl⟩
 by_cases hk : k < 2 ^ fr.length
 ·have hlen : (cellsK fr k).length ≤ 10:=Nat.le_trans cellsK_len hF
  simp only [impl_LeastPlan_l1]
  rw [decide_eq_true (by omega),cond_true,members_1k hF hk,Option.bind_some,pickI_ok hF,Option.bind_some,valI_ok hS (hcl k) (by omega),Option.bind_some,goApp_ok (by simp only [List.length_map,List.length_range,List.length_cons,List.length_nil]; omega),Option.bind_some,wid (by omega) (by omega)]
  exact tot_some ⟨⟨k + 1,by omega,by rw [List.range_succ,List.map_append]; rfl⟩,by simp only; omega⟩
 ·obtain rfl : k = 2 ^ fr.length:=by omega
  simp only [impl_LeastPlan_l1]
  rw [decide_eq_false (by omega),cond_false]
  exact tot_some rfl

def LeastR (n m : Nat) (x q : List (List Int)) (d u : Int) (r : Option (impl_Plan × Bool)) : Prop :=
 (∃ k,k < 2 ^ (freeK n m q).length∧sfK n m x q d u (cellsK (freeK n m q) k) = true∧(∀ k',k' < 2 ^ (freeK n m q).length→sfK n m x q d u (cellsK (freeK n m q) k') = true→leC (valK m x) (cellsK (freeK n m q) k) (cellsK (freeK n m q) k')) ∧
  r = some (⟨wthK m q (cellsK (freeK n m q) k),(cellsK (freeK n m q) k).length,valK m x (cellsK (freeK n m q) k)⟩,true)) ∨
 ((∀ k,k < 2 ^ (freeK n m q).length→sfK n m x q d u (cellsK (freeK n m q) k) = false)∧r = some (⟨[],0,0⟩,false))

theorem LeastR.one {r r' : Option (impl_Plan × Bool)} (h : LeastR n m x q d u r) (h' : LeastR n m x q d u r') : r = r':=by
 rcases h with ⟨k,a1,a2,a3,a4⟩ | ⟨a1,a2⟩
 ·rcases h' with ⟨k',b1,b2,b3,b4⟩ | ⟨b1,b2⟩
  ·have e:=leC_anti (a3 k' b1 b2) (b3 k a1 a2)
   rw [a4,b4,e]
  ·have:=b1 k a1; rw [a2] at this; cases this
 ·rcases h' with ⟨k',b1,b2,b3,b4⟩ | ⟨b1,b2⟩
  ·have:=a1 k' b1; rw [b2] at this; cases this
  ·rw [a2,b2]

theorem leastI (hS : Sup n m x q) (hF : (freeK n m q).length ≤ 10) (hd : 0 ≤ d∧d ≤ 1000∧0 ≤ u∧u ≤ 1000) (h1 : impl_areSuppressed x q = some true) (h2 : impl_areMargins d u = some true) : LeastR n m x q d u (impl_LeastPlan x q d u):=by
 have h8:=hS.n8; have m8:=hS.m8; have n1:=hS.n1; have m1:=hS.m1
 have hN : 2 ^ (freeK n m q).length ≤ 2 ^ 10:=Nat.pow_le_pow_right (n:=2) (by omega) hF
 have hsf : ∀ C : List Nat,(∀ c ∈ C,c < n * m)→impl_protects x (wthK m q C) q d u = some (sfK n m x q d u C):=fun C hC=>by
  obtain ⟨s1,s2⟩:=supW hS hC
  exact protects_ok s1 hS.ps s2 hd
 have gF : goLen ((freeK n m q).map (posI m)) = (((freeK n m q).length : Nat) : Int):=by simp only [goLen,List.length_map]
 unfold impl_LeastPlan
 rw [h1,h2]
 simp only [Option.bind_some,Bool.not_true,cond_false]
 rw [freeI_ok hS.ps n1 m1 h8 m8 hS.pb]
 simp only [Option.bind_some]
 rw [gF,decide_eq_false (by omega),cond_false,withI_ok hS.ps n1 h8 m8 free_lt (by omega),Option.bind_some,hsf _ free_lt]
 simp only [Option.bind_some]
 cases hfull : sfK n m x q d u (freeK n m q) with
 | false =>
  refine .inr ⟨fun k hk=>?_,rfl⟩
  cases hk2 : sfK n m x q d u (cellsK (freeK n m q) k) with
  | false=>rfl
  | true =>
   have:=sf_mono (supW hS (cells_lt k)).1 (covW hS (cells_lt k) free_lt fun c hc=>cellsK_mem hc) hk2
   unfold sfK at hfull
   rw [this] at hfull
   cases hfull
 | true =>
  simp only [Bool.not_true,cond_false]
  rw [shl_1k (by omega),Option.bind_some,choices_ok hS hF,Option.bind_some]
  generalize hfr : freeK n m q = fr at *
  have hcl : ∀ k,∀ c ∈ cellsK fr k,c < n * m:=fun k c hc=>by rw [← hfr] at hc; exact cells_lt k c hc
  have hle : ∀ a b,(decide (cmpC (chC m x fr a) (chC m x fr b) ≤ 0) = true) ↔ leC (valK m x) (cellsK fr a) (cellsK fr b):=fun a b=>by
   rw [decide_eq_true_iff]
   exact cmpC_le (by omega) (valK m x) _ _
  have hsort : slices_SortFunc_C ((List.range (2 ^ fr.length)).map (chC m x fr)) = some (((List.range (2 ^ fr.length)).mergeSort fun a b=>decide (cmpC (chC m x fr a) (chC m x fr b) ≤ 0)).map (chC m x fr)):=by
   unfold slices_SortFunc_C
   rw [decide_eq_true (by simp only [List.length_map,List.length_range]; omega),cond_true]
   exact congrArg some (List.map_mergeSort (r:=fun a b=>decide (cmpC (chC m x fr a) (chC m x fr b) ≤ 0)) (s:=fun x y=>decide (cmpC x y ≤ 0)) (f:=chC m x fr) (fun a _ b _=>rfl)).symm
  rw [hsort,Option.bind_some]
  generalize hM : ((List.range (2 ^ fr.length)).mergeSort fun a b=>decide (cmpC (chC m x fr a) (chC m x fr b) ≤ 0)) = M
  have hMp : M.Perm (List.range (2 ^ fr.length)):=by rw [← hM]; exact List.mergeSort_perm _ _
  have hMl : M.length = 2 ^ fr.length:=by rw [hMp.length_eq,List.length_range]
  have hMs : M.Pairwise fun a b=>leC (valK m x) (cellsK fr a) (cellsK fr b):=by
   rw [← hM]
   refine List.Pairwise.imp (fun {a b} h=>(hle a b).1 h) (List.pairwise_mergeSort ?_ ?_ _)
   ·intro a b c h1 h2
    exact (hle a c).2 (leC_trans ((hle a b).1 h1) ((hle b c).1 h2))
   ·intro a b
    rw [Bool.or_eq_true,hle,hle]
    exact leC_total _ _
  have hMlt : ∀ a (h : a < M.length),M[a] < 2 ^ fr.length:=fun a h=>List.mem_range.1 (hMp.mem_iff.1 (List.getElem_mem h))
  have hscan:=scanF (f:=impl_LeastPlan_l3 x q d u (M.map (chC m x fr))) (g:=fun a=>sfK n m x q d u (cellsK fr (M.getD a 0))) (v:=fun a=>(impl_Plan.mk (wthK m q (cellsK fr (M.getD a 0))) (cellsK fr (M.getD a 0)).length (valK m x (cellsK fr (M.getD a 0))),true)) (N:=M.length) (by omega) (fun a ha=>by
   have hx : (M.map (chC m x fr))[a]? = some (chC m x fr (M.getD a 0)):=by simp [ha]
   have hlen : (cellsK fr (M.getD a 0)).length ≤ 10:=Nat.le_trans cellsK_len hF
   simp only [impl_LeastPlan_l3,lt_ok hx,cond_true,at_ok hx,Option.bind_some]
   show (impl_with q ((cellsK fr (M.getD a 0)).map (posI m))).bind _ = _
   rw [withI_ok hS.ps n1 h8 m8 (hcl _) (by omega),Option.bind_some,hsf _ (hcl _),Option.bind_some]
   have gl : goLen (chC m x fr (M.getD a 0)).cells = (((cellsK fr (M.getD a 0)).length : Nat) : Int):=by simp only [goLen,chC,List.length_map]
   rw [gl]
   cases sfK n m x q d u (cellsK fr (M.getD a 0)) <;> rfl) (by
   have e3 : decide (((M.length : Nat) : Int) < goLen (M.map (chC m x fr))) = false:=decide_eq_false (by simp only [goLen,List.length_map]; omega)
   simp only [impl_LeastPlan_l3,e3,cond_false]) M.length 0 (by omega)
  rw [show loopC (impl_LeastPlan_l3 x q d u (M.map (chC m x fr))) 0 = _ from hscan]
  obtain ⟨kf,hkf,hkb⟩:=mask_ex (fun _=>true) fr.length
  have hall : cellsK fr kf = fr:=cellsK_all hkb
  obtain ⟨af,haf,e1⟩:=List.mem_iff_getElem.1 (hMp.mem_iff.2 (List.mem_range.2 hkf))
  obtain ⟨a,_,ha,hsa,e⟩:=fstF_first (g:=fun a=>sfK n m x q d u (cellsK fr (M.getD a 0))) (v:=fun a=>(impl_Plan.mk (wthK m q (cellsK fr (M.getD a 0))) (cellsK fr (M.getD a 0)).length (valK m x (cellsK fr (M.getD a 0))),true)) M.length 0 ⟨af,by omega,by omega,by
   rw [List.getD_eq_getElem?_getD,List.getElem?_eq_getElem haf,Option.getD_some,e1,hall]
   exact hfull⟩
  obtain ⟨hmin,e⟩:=e
  rw [e]
  have ha : a < M.length:=by omega
  have ed : M.getD a 0 = M[a]:=by rw [List.getD_eq_getElem?_getD,List.getElem?_eq_getElem ha]; rfl
  rw [← hfr] at *
  refine .inl ⟨M.getD a 0,by rw [ed]; exact hMlt a ha,hsa,fun k' hk' hs'=>?_,rfl⟩
  obtain ⟨b,hb,eb⟩:=List.mem_iff_getElem.1 (hMp.mem_iff.2 (List.mem_range.2 hk'))
  have edb : M.getD b 0 = M[b]:=by rw [List.getD_eq_getElem?_getD,List.getElem?_eq_getElem hb]; rfl
  by_cases hab : a < b
  ·rw [ed,← eb]
   exact (List.pairwise_iff_getElem.1 hMs) a b ha hb hab
  ·by_cases hab2 : a = b
   ·subst hab2
    rw [ed,← eb]
    rcases leC_total (V:=valK m x) (cellsK (freeK n m q) M[a]) (cellsK (freeK n m q) M[a]) with h | h <;> exact h
   ·have:=hmin b (by omega) (by omega)
    rw [edb,eb,hs'] at this
    cases this

end

end Go.Gx.F
