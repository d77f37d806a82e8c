/- Plain laws: names,and name=levels. -/
import Derived.Test.YtnmimeojimfogaaGreatDoorPPSpl
import Derived.Test.YtnmimeojimfogaaGreatDoorPPTab

namespace Go.Gx.F

open Go.Gx

set_option linter.all false

theorem name_no {w : List UInt8} {b : UInt8} (h : Word w) (hb : b.toNat < 97) : b ∉ w:=fun hc=>by have:=h.2.2 b hc; omega

theorem nameIndex_ok {s : List impl_Variable} (hs : OkS s) {k : Nat} {v : impl_Variable} (hv : s[k]? = some v) : impl_nameIndex s v.Name = some (k : Int):=by
  have hl:=hs.2.1
  unfold impl_nameIndex slices_IndexFunc_impl_Variable_impl_Variable_of_impl_nameIndex_1
  have hk:=(List.getElem?_eq_some_iff.1 hv).1
  suffices h : ∀ (j i : Nat),i + j = k→loopC (slices_IndexFunc_impl_Variable_impl_Variable_of_impl_nameIndex_1_l1 s v.Name) (i : Int) = some (.inr (k : Int)) by
    have:=h k 0 (by omega)
    rw [show ((0 : Nat) : Int) = 0 from rfl] at this
    rw [this]; rfl
  intro j
  induction j with
  | zero =>
    intro i hi
    obtain rfl : i = k:=by omega
    rw [loopC_eq]
    simp only [slices_IndexFunc_impl_Variable_impl_Variable_of_impl_nameIndex_1_l1,lt_ok hv,at_ok hv,cond_true,Option.bind_some,impl_nameIndex_1,beq_self_eq_true]
  | succ j ih =>
    intro i hi
    have hw : s[i]? = some (s[i]'(by omega)):=by simp [show i < s.length by omega]
    generalize s[i]'(by omega) = w at hw
    have hne:=(hs.2.2 k v hv).2 i w (by omega) hw
    rw [loopC_eq]
    simp only [slices_IndexFunc_impl_Variable_impl_Variable_of_impl_nameIndex_1_l1,lt_ok hw,at_ok hw,cond_true,Option.bind_some,impl_nameIndex_1]
    rw [show (w.Name == v.Name) = false by rw [beq_eq_false_iff_ne]; exact hne,cond_false,nx_ok hw (show s.length ≤ 9223372036854775807 by omega)]
    exact ih (i + 1) (by omega)

def pse (v : impl_Variable) (x : Int) : List UInt8:=(v.Name ++ [61]) ++ stx x.toNat

theorem pse_len {v : impl_Variable} {x : Int} (hv : Word v.Name) (hx : 0 ≤ x∧x ≤ 255) : (pse v x).length ≤ 24:=by
  have h:=(stx_len ⟨x.toNat,by omega⟩).1
  have:=hv.2.1
  unfold pse
  simp only [List.length_append,List.length_singleton] at h ⊢
  omega

theorem pse_no {v : impl_Variable} {x : Int} (hv : Word v.Name) (hx : 0 ≤ x∧x ≤ 255) : (32 : UInt8) ∉ pse v x∧(10 : UInt8) ∉ pse v x:=by
  have h:=stx_no ⟨x.toNat,by omega⟩
  unfold pse
  constructor
  · intro hc
    simp only [List.mem_append,List.mem_singleton] at hc
    rcases hc with (hc | hc) | hc
    · exact name_no hv (by decide) hc
    · exact absurd hc (by decide)
    · exact h.1 hc
  · intro hc
    simp only [List.mem_append,List.mem_singleton] at hc
    rcases hc with (hc | hc) | hc
    · exact name_no hv (by decide) hc
    · exact absurd hc (by decide)
    · exact h.2.2 hc

theorem cut_ok {b : UInt8} {a r : List UInt8} (h : b ∉ a) (hl : a.length + r.length ≤ 1000000) : strings_Cut (a ++ b :: r) [b] = some (a,r,true):=by
  have hidx : ∀ {a r : List UInt8},b ∉ a→Go.Lib.index (a ++ b :: r) [b] = (a.length : Int):=by
    intro a
    induction a with
    | nil=>intro r _; unfold Go.Lib.index; simp [List.isPrefixOf]
    | cons x a ih =>
      intro r h
      have hx : (b == x) = false:=by rw [beq_eq_false_iff_ne]; exact fun hc=>h (by rw [hc]; exact List.mem_cons_self)
      have ih:=ih (r:=r) (fun hc=>h (List.mem_cons_of_mem _ hc))
      rw [List.cons_append]
      unfold Go.Lib.index
      rw [ih]
      simp only [List.isPrefixOf,hx,Bool.false_and,Bool.false_eq_true,if_false]
      rw [if_neg (by rw [beq_iff_eq]; omega),List.length_cons]
      omega
  unfold strings_Cut
  rw [decide_eq_true (by simp; omega),cond_true]
  unfold Go.Lib.cut
  rw [hidx h,if_pos (by omega),Int.toNat_natCast,List.take_left]
  congr 3
  rw [← List.drop_drop,List.drop_left]
  rfl

theorem pse_cut {v : impl_Variable} {x : Int} (hv : Word v.Name) (hx : 0 ≤ x∧x ≤ 255) : strings_Cut (pse v x) [61] = some (v.Name,stx x.toNat,true):=by
  have h:=(stx_len ⟨x.toNat,by omega⟩).1
  have:=hv.2.1
  unfold pse
  rw [List.append_assoc,List.singleton_append]
  exact cut_ok (name_no hv (by decide)) (by simp only at h; omega)

end Go.Gx.F
