/- strconv.Itoa, out of the shelf's contract; the table that it reads. -/
import Derived.Test.YtgaeknajcakinaaDoorGShelf
import Derived.Test.YtgaeknajcakinaaDoorGDefs
namespace Go.Proofs.YtgaeknajcakinaaDoor
open Go.Gx Go.Gx.F Go.RowKit Go.Sort
set_option linter.all false

theorem gTab : Tryd.prog.globalNamed "internal/strconv.uint64pow10" = some 1 := by kernel_rfl

def Tbl (m : Mem) : Prop := m 1 = some (Go.Lib.pow10Tab.map fun z => Value.int .u64 z)

theorem Tbl.mono {m m' : Mem} (h : Tbl m) (hm : Mem.le m m') : Tbl m' := hm _ _ h

theorem Tbl.is {m : Mem} {w : World} (h : Tbl m) (hv : Vis m w) : Go.Lib.TabIs Tryd.prog w "internal/strconv.uint64pow10" .u64 Go.Lib.pow10Tab := by
  obtain ⟨T, fz, hh⟩ := hv _ _ h
  unfold Go.Lib.TabIs World.var?
  rw [gTab, Option.bind_some, hh]

theorem Tbl.of {w : World} (h : Go.Lib.TabIs Tryd.prog w "internal/strconv.uint64pow10" .u64 Go.Lib.pow10Tab) : Tbl (memW w) := by
  unfold Go.Lib.TabIs World.var? at h
  rw [gTab, Option.bind_some] at h
  unfold Tbl memW
  split at h
  · rename_i cs T fz hh
    rw [hh]
    simp only [Option.some.injEq] at h
    rw [h]
  · cases h

theorem c_strconv_Itoa (p_x : Int) (r : List UInt8) (hr : strconv_Itoa p_x = some r) (w0 : World) (m : Mem) (hv : Vis m w0) (ht : Tbl m) :
    Ret Tryd.prog 68 [(.int .i64 p_x)] w0 (fun v _ => v = strV r) := by
  unfold strconv_Itoa at hr
  rcases bcase (decide (-9223372036854775808 ≤ p_x ∧ p_x ≤ 9223372036854775807)) with hc | hc
  · rw [hc] at hr; cases hr
  rw [hc] at hr
  obtain rfl := Option.some.inj hr
  have hc' := of_decide_eq_true hc
  refine Calls.mono (Tryd.strconv_Itoa p_x hc'.1 hc'.2 w0 (ht.is hv)) ?_
  rintro e w' ⟨rfl, k, os, rfl⟩
  refine ⟨_, rfl, ⟨rfl, rfl, rfl, ?_, fun j hj => ?_⟩, rfl⟩
  · unfold grow; simp [World.drewN]
  · unfold grow
    have hj' : j < (w0.drewN k).heap.size := hj
    rw [Array.getElem?_append_left hj']
    rfl

theorem c_strings_Join (p_elems : List (List UInt8)) (p_sep : List UInt8) (r : List UInt8) (hr : strings_Join p_elems p_sep = some r) (w0 : World) (m : Mem) (hv : Vis m w0) (s1 : Sl) (h1 : Rd m s1 p_elems) :
    Ret Tryd.prog 122 [s1.v, strV p_sep] w0 (fun v _ => v = strV r) := by
  unfold strings_Join at hr
  rcases bcase (decide (p_elems.length ≤ 140737488355328 ∧ (Go.Lib.join p_elems p_sep).length ≤ 140737488355328)) with hc | hc
  · rw [hc] at hr; cases hr
  rw [hc] at hr
  obtain rfl := Option.some.inj hr
  have hc' := of_decide_eq_true hc
  have hlen := h1.len
  have hcap := h1.cap
  cases p_elems with
  | nil =>
    have h0 : s1.len = 0 := by simpa using hlen.symm
    refine Calls.mono (by have := Tryd.strings_Join_none s1.p s1.cap ⟨p_sep.toArray⟩ w0; rw [← h0] at this; exact this) ?_
    rintro e w' ⟨rfl, rfl⟩
    exact ⟨_, rfl, Below.refl _ _, rfl⟩
  | cons x0 xs =>
    obtain ⟨b, off, cs0, hp, hm0, _, _⟩ := h1.el 0 (by simp)
    have hmap : ((x0 :: xs).map fun l => (⟨l.toArray⟩ : ByteArray)).map (·.data.toList) = x0 :: xs := by
      rw [List.map_map]
      have : ((fun b : ByteArray => b.data.toList) ∘ fun l : List UInt8 => (⟨l.toArray⟩ : ByteArray)) = id := by
        funext l; simp
      rw [this, List.map_id]
    have hcells : ∀ (j : Nat) (x : ByteArray), ((x0 :: xs).map fun l => (⟨l.toArray⟩ : ByteArray))[j]? = some x → w0.cell? ⟨b, off + j, none⟩ = some (.string x) := fun j x hj => by
      rw [List.getElem?_map] at hj
      cases hg : (x0 :: xs)[j]? with
      | none => rw [hg] at hj; cases hj
      | some l =>
        rw [hg] at hj
        obtain rfl := Option.some.inj hj
        obtain ⟨hjl, he⟩ := List.getElem?_eq_some_iff.1 hg
        obtain ⟨b', off', cs, hp', hm', hle, hrd⟩ := h1.el j hjl
        rw [hp] at hp'
        simp only [Option.some.injEq, Addr.mk.injEq, and_true] at hp'
        obtain ⟨rfl, rfl⟩ := hp'
        obtain ⟨T, fz, hh⟩ := hv _ _ hm'
        have h5 : slab cs (off + j) 1 = [strV (x0 :: xs)[j]] := by
          have : slab cs (off + j * 1) 1 = [strV (x0 :: xs)[j]] := hrd
          rwa [Nat.mul_one] at this
        unfold slab at h5
        have h6 : (List.take 1 (List.drop (off + j) cs))[0]? = some (strV (x0 :: xs)[j]) := by rw [h5]; rfl
        rw [List.getElem?_take_of_lt (by omega), List.getElem?_drop, he] at h6
        unfold World.cell?
        simp only [hh, List.getElem?_toArray]
        simpa using h6
    have hb : b < w0.heap.size := by
      obtain ⟨T, fz, hh⟩ := hv _ _ hm0
      exact lt_of_heap hh
    have hl2 : ((x0 :: xs).map fun l => (⟨l.toArray⟩ : ByteArray)).length = s1.len := by rw [List.length_map]; exact hlen
    have hc2 := Tryd.strings_Join b off s1.cap ((x0 :: xs).map fun l => (⟨l.toArray⟩ : ByteArray)) ⟨p_sep.toArray⟩ w0 hcells hb (by rw [List.length_map]; exact hc'.1) (by rw [hl2]; exact hcap) (by rw [hmap]; exact hc'.2)
    rw [hl2, hmap, ← hp] at hc2
    refine Calls.mono hc2 ?_
    rintro e w' ⟨rfl, hbel⟩
    exact ⟨_, rfl, hbel, rfl⟩
end Go.Proofs.YtgaeknajcakinaaDoor
