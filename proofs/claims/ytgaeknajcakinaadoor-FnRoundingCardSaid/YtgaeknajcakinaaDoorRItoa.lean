/- strconv.Itoa, out of the shelf's contract; the table that it reads. -/
import Derived.Test.YtgaeknajcakinaaDoorRShelf
import Derived.Test.YtgaeknajcakinaaDoorRDefs
namespace Go.Proofs.YtgaeknajcakinaaDoor
open Go.Gx Go.Gx.F Go.RowKit Go.Sort
set_option linter.all false

theorem gTab : Tryd.prog.globalNamed "internal/strconv.uint64pow10" = some 1 := by kernel_rfl

def Tbl (m : Mem) : Prop := m 1 = some (Go.Lib.pow10Tab.map fun z => Value.int .u64 z)

theorem Tbl.mono {m m' : Mem} (h : Tbl m) (hm : Mem.le m m') : Tbl m' := hm _ _ h

theorem Tbl.is {m : Mem} {w : World} (h : Tbl m) (hv : Vis m w) : Go.Lib.TabIs Tryd.prog w "internal/strconv.uint64pow10" .u64 Go.Lib.pow10Tab := by
  obtain ⟨T, fz, hh⟩ := hv _ _ h
  unfold Go.Lib.TabIs World.var?
  rw [gTab, Option.bind_some, hh]

theorem Tbl.of {w : World} (h : Go.Lib.TabIs Tryd.prog w "internal/strconv.uint64pow10" .u64 Go.Lib.pow10Tab) : Tbl (memW w) := by
  unfold Go.Lib.TabIs World.var? at h
  rw [gTab, Option.bind_some] at h
  unfold Tbl memW
  split at h
  · rename_i cs T fz hh
    rw [hh]
    simp only [Option.some.injEq] at h
    rw [h]
  · cases h

theorem c_strconv_Itoa (p_x : Int) (r : List UInt8) (hr : strconv_Itoa p_x = some r) (w0 : World) (m : Mem) (hv : Vis m w0) (ht : Tbl m) :
    Ret Tryd.prog 68 [(.int .i64 p_x)] w0 (fun v _ => v = strV r) := by
  unfold strconv_Itoa at hr
  rcases bcase (decide (-9223372036854775808 ≤ p_x ∧ p_x ≤ 9223372036854775807)) with hc | hc
  · rw [hc] at hr; cases hr
  rw [hc] at hr
  obtain rfl := Option.some.inj hr
  have hc' := of_decide_eq_true hc
  refine Calls.mono (Tryd.strconv_Itoa p_x hc'.1 hc'.2 w0 (ht.is hv)) ?_
  rintro e w' ⟨rfl, k, os, rfl⟩
  refine ⟨_, rfl, ⟨rfl, rfl, rfl, ?_, fun j hj => ?_⟩, rfl⟩
  · unfold grow; simp [World.drewN]
  · unfold grow
    have hj' : j < (w0.drewN k).heap.size := hj
    rw [Array.getElem?_append_left hj']
    rfl
end Go.Proofs.YtgaeknajcakinaaDoor
