/- Plain laws: small functions over lists. -/
import Derived.Test.YtpjcfmpfiadkgaaGreatSPDr

namespace Go.Gx.F

open Go.Gx

set_option linter.all false

theorem all_mem_iff {α : Type} {l : List α} {p : α→Prop} : (∀ (k : Nat) (x : α),l[k]? = some x→p x) ↔ ∀ x ∈ l,p x:=by
 constructor
 ·intro h x hx
  obtain ⟨k,hk⟩:=List.getElem?_of_mem hx
  exact h k x hk
 ·intro h k x hx
  exact h x (List.mem_of_getElem? hx)

theorem lIn_eq (n lo hi : Int) : spec_l1In n lo hi = some (decide (lo ≤ n∧n ≤ hi)):=by
 unfold spec_l1In
 by_cases h1 : lo ≤ n <;> by_cases h2 : n ≤ hi <;> simp [h1,h2]

theorem lLeast_eq (a b : Int) : spec_l1Least a b = some (min a b):=by
 unfold spec_l1Least
 by_cases h : a < b
 ·rw [decide_eq_true h,cond_true,Int.min_eq_left (by omega)]
 ·rw [decide_eq_false h,cond_false,Int.min_eq_right (by omega)]

theorem lMost_eq (a b : Int) : spec_l1Most a b = some (max a b):=by
 unfold spec_l1Most
 by_cases h : b < a
 ·rw [decide_eq_true h,cond_true,Int.max_eq_left (by omega)]
 ·rw [decide_eq_false h,cond_false,Int.max_eq_right (by omega)]

theorem lAll_bis {l : List Int} {lo hi : Int} (hl : l.length ≤ 9223372036854775807) : Bis (spec_l1All l lo hi) (∀ v ∈ l,lo ≤ v∧v ≤ hi):=by
 unfold spec_l1All
 refine bis_iff (bis_loop (l:=l) (fun _ v=>lo ≤ v∧v ≤ hi) (fun k x hx=>⟨decide (lo ≤ x∧x ≤ hi),by simp,?_⟩) ?_) all_mem_iff
 ·simp only [spec_l1All_l1,lt_ok hx,at_ok hx,cond_true,Option.bind_some,lIn_eq,nx_ok hx hl]
  by_cases h : lo ≤ x∧x ≤ hi <;> simp [h]
 ·simp only [spec_l1All_l1,lt_end,cond_false]

theorem loop_find {α ρ : Type} {l : List α} (p : Nat→α→Prop) (r : ρ) {body : Int→Option (Stp Int (Unit ⊕ ρ))}
  (h1 : ∀ k x,l[k]? = some x→∃ b : Bool,(b = true ↔ p k x)∧body k = some (cond b (.done (.inr r)) (.next ((k + 1 : Nat) : Int))))
  (h2 : body l.length = some (.done (.inl ()))) : ∃ b : Bool,(b = true ↔ ∃ k x,l[k]? = some x∧p k x)∧loopC body 0 = some (cond b (.inr r) (.inl ())):=by
 suffices h : ∀ (j k : Nat),k + j = l.length→(∀ i x,i < k→l[i]? = some x→¬ p i x)→∃ b : Bool,(b = true ↔ ∃ k x,l[k]? = some x∧p k x)∧loopC body (k : Int) = some (cond b (.inr r) (.inl ())) from
  h l.length 0 (by omega) (fun i x hi=>by omega)
 intro j
 induction j with
 | zero =>
  intro k hk hp
  obtain rfl : k = l.length:=by omega
  rw [loopC_eq,h2]
  refine ⟨false,?_,rfl⟩
  simp only [Bool.false_eq_true,false_iff]
  rintro ⟨i,x,hx,hpx⟩
  exact hp i x (List.getElem?_eq_some_iff.1 hx).1 hx hpx
 | succ j ih =>
  intro k hk hp
  have hlt : k < l.length:=by omega
  have hx : l[k]? = some l[k]:=by simp [hlt]
  obtain ⟨b,hb,e⟩:=h1 k l[k] hx
  rw [loopC_eq,e]
  cases b with
  | true=>exact ⟨true,by simp only [true_iff]; exact ⟨k,_,hx,hb.1 rfl⟩,rfl⟩
  | false =>
   refine ih (k + 1) (by omega) fun i x hi hix=>?_
   by_cases hik : i = k
   ·subst hik
    rw [hx] at hix
    obtain rfl:=Option.some.inj hix
    exact fun hc=>by have:=hb.2 hc; simp at this
   ·exact hp i x (by omega) hix

theorem own_eq {l : List Int} (hl : l.length ≤ 1000000) : spec_l1Own l = some l:=by
 unfold spec_l1Own
 rw [goApp_ok (by simp; omega)]; rfl

theorem clone_eq {l : List Int} (hl : l.length ≤ 1000000) : slices_Clone_int_int l = some l:=by
 unfold slices_Clone_int_int
 rw [goApp_ok (by simp; omega)]; rfl

theorem qInts_same {l : List Int} (h : l.length ≤ 1048576) : laws_qInts l l = some true:=by
 unfold laws_qInts
 rw [bne_self_eq_false,cond_false]
 have h:=loop_all (l:=l) (fun _=>true) (laws_qInts_l1 l l) (fun k x hx=>by
  simp only [laws_qInts_l1,lt_ok hx,cond_true,at_ok hx,Option.bind_some,bne_self_eq_false,cond_false,nx_ok hx (by omega),if_true]) (fun _=>by simp only [laws_qInts_l1,lt_end,cond_false])
 rw [h]; simp

theorem qLists_same {l : List (List Int)} (h : l.length ≤ 1048576) (h2 : ∀ x ∈ l,x.length ≤ 1048576) : laws_qLists l l = some true:=by
 unfold laws_qLists
 rw [bne_self_eq_false,cond_false]
 have h:=loop_all (l:=l) (fun _=>true) (laws_qLists_l1 l l) (fun k x hx=>by
  simp only [laws_qLists_l1,lt_ok hx,cond_true,at_ok hx,Option.bind_some,qInts_same (h2 x (List.mem_of_getElem? hx)),Bool.not_true,cond_false,nx_ok hx (by omega),if_true]) (fun _=>by simp only [laws_qLists_l1,lt_end,cond_false])
 rw [h]; simp

def sg (g : Nat→Int) : Nat→Int
 | 0=>0
 | n + 1=>sg g n + g n

end Go.Gx.F
