/- strconv.Itoa, out of the shelf's contract; the table that it reads. -/
import Derived.Test.YtgaeknajcakinaaGreatDoorWShelf
import Derived.Test.YtgaeknajcakinaaGreatDoorWDefs
namespace Go.Proofs.YtgaeknajcakinaaGreatDoor
open Go.Gx Go.Gx.F Go.RowKit Go.Sort
set_option linter.all false

theorem gTab : Tryz.prog.globalNamed "internal/strconv.uint64pow10" = some 0 := by kernel_rfl

def Tbl (m : Mem) : Prop := m 0 = some (Go.Lib.pow10Tab.map fun z => Value.int .u64 z)

theorem Tbl.mono {m m' : Mem} (h : Tbl m) (hm : Mem.le m m') : Tbl m' := hm _ _ h

theorem Tbl.is {m : Mem} {w : World} (h : Tbl m) (hv : Vis m w) : Go.Lib.TabIs Tryz.prog w "internal/strconv.uint64pow10" .u64 Go.Lib.pow10Tab := by
  obtain ⟨T, fz, hh⟩ := hv _ _ h
  unfold Go.Lib.TabIs World.var?
  rw [gTab, Option.bind_some, hh]

theorem Tbl.of {w : World} (h : Go.Lib.TabIs Tryz.prog w "internal/strconv.uint64pow10" .u64 Go.Lib.pow10Tab) : Tbl (memW w) := by
  unfold Go.Lib.TabIs World.var? at h
  rw [gTab, Option.bind_some] at h
  unfold Tbl memW
  split at h
  · rename_i cs T fz hh
    rw [hh]
    simp only [Option.some.injEq] at h
    rw [h]
  · cases h

theorem c_strconv_Itoa (p_x : Int) (r : List UInt8) (hr : strconv_Itoa p_x = some r) (w0 : World) (m : Mem) (hv : Vis m w0) (ht : Tbl m) :
    Ret Tryz.prog 27 [(.int .i64 p_x)] w0 (fun v _ => v = strV r) := by
  unfold strconv_Itoa at hr
  rcases bcase (decide (-9223372036854775808 ≤ p_x ∧ p_x ≤ 9223372036854775807)) with hc | hc
  · rw [hc] at hr; cases hr
  rw [hc] at hr
  obtain rfl := Option.some.inj hr
  have hc' := of_decide_eq_true hc
  refine Calls.mono (Tryz.strconv_Itoa p_x hc'.1 hc'.2 w0 (ht.is hv)) ?_
  rintro e w' ⟨rfl, k, os, rfl⟩
  refine ⟨_, rfl, ⟨rfl, rfl, rfl, ?_, fun j hj => ?_⟩, rfl⟩
  · unfold grow; simp [World.drewN]
  · unfold grow
    have hj' : j < (w0.drewN k).heap.size := hj
    rw [Array.getElem?_append_left hj']
    rfl

/-! strings.Builder, made by the call itself -/
def Bd (T : TypeId) (wb w : World) (txt : List UInt8) : Prop := Below wb.heap.size wb w ∧ Go.Lib.IsBuilder T 5 wb.heap.size wb.heap.size (Go.Lib.byteCells txt) w

theorem Bd.st {T : TypeId} {X : List Nat} {w0 wb w : World} {m : Mem} {O : List Piece} {txt : List UInt8} (hB : Bd T wb w txt) (hS : St X w0 wb m O) : St X w0 w m O := hS.below hB.1

theorem builderAt_keep {T e : TypeId} {B b : Nat} {p : Value} {bs : List Value} {w w' : World} (h : Go.Lib.BuilderAt T e B b p bs w) (hb : Below w.heap.size w w') : Go.Lib.BuilderAt T e B b p bs w' := by
  have hlt := h.lt
  obtain ⟨hB, v, hh, hown, hne⟩ := h
  exact ⟨hB, v, by rw [hb.block b hlt]; exact hh, hown.kept (row := none) ⟨hb.os, hb.tape, hb.output, hb.size, fun k hk _ => hb.block k hk⟩ (by cases v.ownBlock <;> simp), hne⟩

theorem below_two {a b : Nat} {w1 w2 w3 : World} (h1 : Below a w1 w2) (h2 : Below b w2 w3) (hab : a ≤ b) : Below a w1 w3 :=
  ⟨h2.os.trans h1.os, h2.tape.trans h1.tape, h2.output.trans h1.output, Nat.le_trans h1.size h2.size, fun k hk => (h2.block k (by omega)).trans (h1.block k hk)⟩

theorem Bd.keep {T : TypeId} {wb w w' : World} {txt : List UInt8} (hB : Bd T wb w txt) (hb : Below w.heap.size w w') : Bd T wb w' txt :=
  ⟨below_two hB.1 hb hB.1.size, hB.2.imp (fun h => builderAt_keep h hb) fun h => builderAt_keep h hb⟩

theorem q_bnew {T : TypeId} {P : Program} {DS : List Deferred} {L : List (Nat × Value)} {m : Mem} {O : List Piece} {d : Option Tmp} {ty : TypeId} {p : String} {af : Array Edge} {a : Act} {n : Nat} {X : List Nat} {w0 w : World} {Q : Exit → Act → World → Prop} {ops : Array Oper} {rest : List Oper} {z : Value}
    (hF : FrD DS a n L) (hS : St X w0 w m O) (hz : (P.info? T).bind (·.zero) = some z) (hv : z.cells = #[.pointer none, .slice none 0 0]) (hd : dok d n = true)
    (k : ∀ a' w', FrD DS a' n (putL d (.pointer (some ⟨w.heap.size, 0, none⟩)) L) → Bd T w w' [] → wpList P ops Q rest a' w') : wpList P ops Q (⟨d, .alloc T, ty, p, af, none⟩ :: rest) a w := by
  refine wpList_plain rfl fun _ hK => wp_of_run (v := .pointer (some ⟨w.heap.size, 0, none⟩)) (w' := w.alloc (.cells #[.pointer none, .slice none 0 0] T)) ?_ (hK _ _ (k _ _ (hF.put _ hd) ⟨below_alloc _ _, .inl ⟨Nat.le_refl _, .slice none 0 0, ?_, World.ownsRow_nil _ _ _ _, by simp [Value.ownBlock]⟩⟩))
  · cases hi : P.info? T with
    | none => simp [hi] at hz
    | some i =>
      simp [hi] at hz
      simp [execOp, Instr.alloc, zeroValue, typeInfo, hi, hz, newVar, newRow, newObj, hv, Sem.run]
  · show (Array.push w.heap _)[w.heap.size]? = _
    exact Array.getElem?_push_size

theorem c_bwrite {wb w : World} {txt t r : List UInt8} (hB : Bd 59 wb w txt) (hr : goBld txt t = some r) :
    RetX Tryz.prog 25 [(.pointer (some ⟨wb.heap.size, 0, none⟩)), strV t] w (fun _ w' => Bd 59 wb w' r) := by
  unfold goBld at hr
  rcases bcase (decide (txt.length + t.length ≤ 140737488355328)) with hc | hc
  · rw [hc] at hr; cases hr
  rw [hc] at hr
  obtain rfl := Option.some.inj hr
  have hc' := of_decide_eq_true hc
  refine Calls.mono (Tryz.Builder_WriteString wb.heap.size wb.heap.size (Go.Lib.byteCells txt) ⟨t.toArray⟩ w hB.2 (by rw [bytes_size]; simp only [Go.Lib.byteCells, List.length_map]; exact hc') hB.1.size) ?_
  rintro e w' ⟨rfl, h1, h2⟩
  refine ⟨_, rfl, below_two hB.1 h2 (Nat.le_refl _), .inr ?_⟩
  have e : Go.Lib.byteCells txt ++ Go.Lib.strCells ⟨t.toArray⟩ = Go.Lib.byteCells (txt ++ t) := by simp [Go.Lib.byteCells, Go.Lib.strCells]
  rw [← e]
  exact h1

theorem c_bstr {wb w : World} {txt : List UInt8} (hB : Bd 59 wb w txt) :
    RetX Tryz.prog 28 [(.pointer (some ⟨wb.heap.size, 0, none⟩))] w (fun v w' => v = strV txt ∧ Below wb.heap.size wb w') := by
  refine Calls.mono (Tryz.Builder_String_any wb.heap.size wb.heap.size txt w hB.2 hB.1.size) ?_
  rintro e w' ⟨rfl, h2⟩
  exact ⟨_, rfl, rfl, below_two hB.1 h2 (Nat.le_refl _)⟩

end Go.Proofs.YtgaeknajcakinaaGreatDoor
