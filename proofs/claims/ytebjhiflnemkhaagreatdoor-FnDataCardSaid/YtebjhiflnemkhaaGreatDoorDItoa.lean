/- Functions of the library (Itoa, Cut, SplitN, Bldk), out of the shelf's contracts; what they read of package variables. -/
import Derived.Lib.Overlaps
import Derived.Lib.SplitLaws
import Derived.Lib.IndexBytes
import Derived.Test.YtebjhiflnemkhaaGreatDoorDShelf
import Derived.Test.YtebjhiflnemkhaaGreatDoorDDefs
namespace Go.Proofs.YtebjhiflnemkhaaGreatDoor
open Go.Gx Go.Gx.F Go.RowKit Go.Sort
set_option linter.all false

theorem gTab : Tryz.prog.globalNamed "internal/strconv.uint64pow10" = some 1 := by kernel_rfl

/-- the table of powers of ten, and a number at block 0 -/
def Tbl (m : Mem) : Prop := m 1 = some (Go.Lib.pow10Tab.map fun z => Value.int .u64 z) ∧ ∃ (z : Int) (cs : List Value), m 0 = some cs ∧ cs[0]? = some (.int .i64 z)

theorem Tbl.mono {m m' : Mem} (h : Tbl m) (hm : Mem.le m m') : Tbl m' := by
  obtain ⟨h1, z, cs, h2, h3⟩ := h
  exact ⟨hm _ _ h1, z, cs, hm _ _ h2, h3⟩

theorem Tbl.is {m : Mem} {w : World} (h : Tbl m) (hv : Vis m w) : Go.Lib.TabIs Tryz.prog w "internal/strconv.uint64pow10" .u64 Go.Lib.pow10Tab := by
  obtain ⟨T, fz, hh⟩ := hv _ _ h.1
  unfold Go.Lib.TabIs World.var?
  rw [gTab, Option.bind_some, hh]

theorem Tbl.num {m : Mem} {w : World} (h : Tbl m) (hv : Vis m w) : ∃ z, w.cell? ⟨0, 0, none⟩ = some (.int .i64 z) := by
  obtain ⟨_, z, cs, h2, h3⟩ := h
  obtain ⟨T, fz, hh⟩ := hv _ _ h2
  refine ⟨z, ?_⟩
  unfold World.cell?
  simp [hh, h3]

theorem Tbl.of {w : World} (h : Go.Lib.TabIs Tryz.prog w "internal/strconv.uint64pow10" .u64 Go.Lib.pow10Tab) (hz : ∃ z, w.cell? ⟨0, 0, none⟩ = some (.int .i64 z)) : Tbl (memW w) := by
  unfold Go.Lib.TabIs World.var? at h
  rw [gTab, Option.bind_some] at h
  refine ⟨?_, ?_⟩
  rotate_left
  · obtain ⟨z, hz⟩ := hz
    unfold World.cell? at hz
    unfold memW
    split at hz
    · rename_i c T fz hh
      simp only at hh
      rw [hh]
      exact ⟨z, c.toList, rfl, by simpa using hz⟩
    · cases hz
  unfold memW
  split at h
  · rename_i cs T fz hh
    rw [hh]
    simp only [Option.some.injEq] at h
    rw [h]
  · cases h

theorem below_draw (w : World) (k : Nat) : Below w.heap.size w (w.drewN k) := ⟨rfl, rfl, rfl, Nat.le_refl _, fun _ _ => rfl⟩

theorem c_strconv_Itoa (p_x : Int) (r : List UInt8) (hr : strconv_Itoa p_x = some r) (w0 : World) (m : Mem) (hv : Vis m w0) (ht : Tbl m) :
    Ret Tryz.prog 34 [(.int .i64 p_x)] w0 (fun v _ => v = strV r) := by
  unfold strconv_Itoa at hr
  rcases bcase (decide (-9223372036854775808 ≤ p_x ∧ p_x ≤ 9223372036854775807)) with hc | hc
  · rw [hc] at hr; cases hr
  rw [hc] at hr
  obtain rfl := Option.some.inj hr
  have hc' := of_decide_eq_true hc
  refine Calls.mono (Tryz.strconv_Itoa p_x hc'.1 hc'.2 w0 (ht.is hv)) ?_
  rintro e w' ⟨rfl, k, os, rfl⟩
  refine ⟨_, rfl, ⟨rfl, rfl, rfl, ?_, fun j hj => ?_⟩, rfl⟩
  · unfold grow; simp [World.drewN]
  · unfold grow
    have hj' : j < (w0.drewN k).heap.size := hj
    rw [Array.getElem?_append_left hj']
    rfl

theorem c_strings_Cut (p_s p_sep : List UInt8) (r : (List UInt8) × (List UInt8) × Bool) (hr : strings_Cut p_s p_sep = some r) (w0 : World) (m : Mem) (hv : Vis m w0) (ht : Tbl m) :
    Ret Tryz.prog 26 [strV p_s, strV p_sep] w0 (fun v _ => v = .tuple #[strV r.1, strV r.2.1, .bool r.2.2]) := by
  unfold strings_Cut at hr
  rcases bcase (decide (p_s.length < 4294967281)) with hc | hc
  · rw [hc] at hr; cases hr
  rw [hc] at hr
  obtain rfl := Option.some.inj hr
  have hc' := of_decide_eq_true hc
  obtain ⟨z, hz⟩ := ht.num hv
  refine Calls.mono (Tryz.strings_Cut ⟨p_s.toArray⟩ ⟨p_sep.toArray⟩ z w0 (by rw [bytes_size]; exact hc') hz) ?_
  rintro e w' ⟨rfl, n, rfl⟩
  exact ⟨_, rfl, below_draw _ _, rfl⟩


/-! strings.SplitN -/
theorem idxB_eq (c : UInt8) : ∀ s, Go.Lib.indexByte s c = idxB c s
  | [] => rfl
  | x :: r => by simp only [Go.Lib.indexByte, idxB, idxB_eq c r]

theorem splitN_eq (c : UInt8) : ∀ (k : Nat) (l : List UInt8), Go.Lib.splitK [c] 0 k l = splitBN c k l
  | 0, l => rfl
  | k + 1, l => by
    have hi : Go.Lib.index l [c] = idxB c l := by rw [Go.Lib.index_one, idxB_eq]
    have hb := idxB_bd c l
    unfold Go.Lib.splitK splitBN
    rw [hi]
    by_cases h : idxB c l < 0
    · have : (idxB c l == -1) = true := beq_iff_eq.2 (by omega)
      rw [if_pos this, if_pos h]
    · have : ¬ (idxB c l == -1) = true := fun e => by have := beq_iff_eq.1 e; omega
      rw [if_neg this, if_neg h, splitN_eq c k]
      try rfl

theorem c_strings_SplitN (p_s p_sep : List UInt8) (p_n : Int) (r : List (List UInt8)) (hr : strings_SplitN p_s p_sep p_n = some r) (w0 : World) (m : Mem) (hv : Vis m w0) (ht : Tbl m) :
    Ret Tryz.prog 54 [strV p_s, strV p_sep, .int .i64 p_n] w0 (fun v w => ∃ (q : Piece) (s1 : Sl), v = s1.v ∧ St [] w0 w m [q] ∧ OwnL m 9 q s1 r) := by
  unfold strings_SplitN at hr
  rcases bcase (decide (p_s.length < 4294967281 ∧ p_sep.length = 1 ∧ 1 ≤ p_n ∧ p_n ≤ 9223372036854775807)) with hc | hc
  · rw [hc] at hr; cases hr
  rw [hc] at hr
  obtain rfl := Option.some.inj hr
  obtain ⟨hc1, hc2, hc3, hc4⟩ := of_decide_eq_true hc
  obtain ⟨c, rfl⟩ := List.length_eq_one_iff.1 hc2
  obtain ⟨z, hz⟩ := ht.num hv
  obtain ⟨n, rfl⟩ := Int.eq_ofNat_of_zero_le (show 0 ≤ p_n by omega)
  refine Calls.mono (Tryz.strings_SplitN ⟨p_s.toArray⟩ ⟨[c].toArray⟩ n z w0 (by rw [bytes_size]; exact hc1) hz (by rw [bytes_size]; simp) (by omega) (by omega)) ?_
  rintro e w' ⟨rfl, rfl⟩
  have hsz : (⟨p_s.toArray⟩ : ByteArray).size = p_s.length := bytes_size _
  rw [hsz]
  show ∃ v, _ ∧ _ ∧ ∃ q s1, _ ∧ _ ∧ OwnL m 9 q s1 (splitBN c (min n (p_s.length + 1) - 1) p_s)
  generalize hN : min n (p_s.length + 1) = N
  have hd := Go.Lib.splitB_data ⟨[c].toArray⟩ 0 (N - 1) ⟨p_s.toArray⟩
  have hle := Go.Lib.splitB_length_le ⟨[c].toArray⟩ 0 (N - 1) ⟨p_s.toArray⟩
  have hd2 : (Go.Lib.splitB ⟨[c].toArray⟩ 0 (N - 1) ⟨p_s.toArray⟩).map (·.data.toList) = splitBN c (N - 1) p_s := by rw [hd]; exact splitN_eq c (N - 1) p_s
  have hcells : (Go.Lib.splitB ⟨[c].toArray⟩ 0 (N - 1) ⟨p_s.toArray⟩).map Value.string = (splitBN c (N - 1) p_s).map strV := by
    rw [← hd2, List.map_map]
    apply List.map_congr_left
    intro b _
    show Value.string b = Value.string ⟨b.data.toList.toArray⟩
    simp
  have hl2 : (splitBN c (N - 1) p_s).length = (Go.Lib.splitB ⟨[c].toArray⟩ 0 (N - 1) ⟨p_s.toArray⟩).length := by rw [← hd2, List.length_map]
  have hN1 : 1 ≤ N := by omega
  have hN2 : N ≤ p_s.length + 1 := by omega
  generalize hK : (Go.Lib.splitB ⟨[c].toArray⟩ 0 (N - 1) ⟨p_s.toArray⟩).length = k at hle hl2
  have hcs : Go.Lib.cellsOf (Go.Lib.splitB ⟨[c].toArray⟩ 0 (N - 1) ⟨p_s.toArray⟩) N = ((splitBN c (N - 1) p_s).map strV ++ List.replicate (N - k) (Value.string ByteArray.empty)).toArray := by
    unfold Go.Lib.cellsOf
    rw [hcells, hK]
  rw [hcs]
  have hS := (St.start w0 m hv).alloc ((splitBN c (N - 1) p_s).map strV ++ List.replicate (N - k) (Value.string ByteArray.empty)) 9
  refine ⟨_, rfl, below_alloc _ _, [⟨w0.heap.size, (splitBN c (N - 1) p_s).map strV ++ List.replicate (N - k) (Value.string ByteArray.empty), 9⟩], ⟨some ⟨w0.heap.size, 0, none⟩, k, N⟩, rfl, hS, ⟨hl2, ?_, ?_, .inr ⟨w0.heap.size, _, rfl, rfl, ?_, fun i hi => ?_⟩⟩⟩
  · show k ≤ N
    omega
  · show N ≤ maxLen
    have : maxLen = 9223372036854775807 := by decide
    omega
  · rw [List.length_append, List.length_map, hl2, List.length_replicate]
    show k + (N - k) = N * 1
    omega
  · show slab ((splitBN c (N - 1) p_s).map strV ++ List.replicate (N - k) (Value.string ByteArray.empty)) (i * 1) 1 = [strV (splitBN c (N - 1) p_s)[i]]
    unfold slab
    rw [Nat.mul_one]
    have hi' : i < (splitBN c (N - 1) p_s).length := hi
    rw [List.drop_append_of_le_length (by rw [List.length_map]; omega), List.drop_eq_getElem_cons (by rw [List.length_map]; exact hi'), List.cons_append, List.take_succ_cons, List.take_zero, List.getElem_map]

/-! strings.Builder, made by the call itself, beside boxes of the call's own -/
def Bdk (wb w : World) (txt : List UInt8) : Prop := Below wb.heap.size wb w ∧ Go.Lib.IsBuilderF 69 5 wb.heap.size wb.heap.size (Go.Lib.byteCells txt) w

theorem Bdk.st {X : List Nat} {w0 wb w : World} {m : Mem} {O : List Piece} {txt : List UInt8} (hB : Bdk wb w txt) (hS : St X w0 wb m O) : St X w0 w m O := hS.below hB.1

theorem below_two {a b : Nat} {w1 w2 w3 : World} (h1 : Below a w1 w2) (h2 : Below b w2 w3) (hab : a ≤ b) : Below a w1 w3 :=
  ⟨h2.os.trans h1.os, h2.tape.trans h1.tape, h2.output.trans h1.output, Nat.le_trans h1.size h2.size, fun k hk => (h2.block k (by omega)).trans (h1.block k hk)⟩

theorem Bdk.at {wb w : World} {txt : List UInt8} (hB : Bdk wb w txt) : ∃ c, w.heap[wb.heap.size]? = some (.cells c 69 (0, 0)) := by
  rcases hB.2 with ⟨_, v, h, _⟩ | ⟨_, v, h, _⟩ <;> exact ⟨_, h⟩

theorem ownsRowF_keep {B : Nat} {e : TypeId} {n k : Nat} {v : Value} {bs : List Value} {w w' : World} (h : w.ownsRowF B e n v k bs) (hb : Below w.heap.size w w') : w'.ownsRowF B e n v k bs := by
  obtain ⟨h1, h2⟩ := h
  refine ⟨h1, h2.imp id ?_⟩
  rintro ⟨g, cap, cur, z, h3, h4, h5, h6, h7, h8, h9, h10⟩
  exact ⟨g, cap, cur, z, h3, h4, by rw [hb.block g (lt_of_heap h5)]; exact h5, h6, h7, h8, h9, h10⟩

theorem Bdk.keep {wb w w' : World} {txt : List UInt8} (hB : Bdk wb w txt) (hb : Below w.heap.size w w') : Bdk wb w' txt := by
  obtain ⟨c, hc⟩ := hB.at
  have hk := hb.block _ (lt_of_heap hc)
  refine ⟨below_two hB.1 hb hB.1.size, hB.2.imp ?_ ?_⟩ <;>
  · rintro ⟨h1, v, h2, h3, h4⟩
    exact ⟨h1, v, by rw [hk]; exact h2, ownsRowF_keep h3 hb, h4⟩

theorem keepB {w0 wb w w' : World} {m : Mem} {b : Nat} {cs : List Value} {T : TypeId} {txt txt' : List UInt8} (hS : St [] w0 w m [[⟨b, cs, T⟩]]) (h5 : (T == 5) = false) (hT : (T == 69) = false) (hSb : St [] w0 wb m []) (hBo : Bdk wb w txt) (hB : Bdk wb w' txt') (hk : Go.Lib.OthersKept 5 (some wb.heap.size) w w') :
    St [] w0 w' m [[⟨b, cs, T⟩]] := by
  have h1 := hS.own ⟨b, cs, T⟩ (by simp)
  simp only at h1
  obtain ⟨c, hc⟩ := hBo.at
  have hne : some b ≠ some wb.heap.size := fun e => by
    rw [Option.some.inj e, hc] at h1
    simp at h1
    have := beq_eq_false_iff_ne.1 hT
    exact this h1.2.symm
  have h2 := hk b _ h1 hne fun c' fz e => by
    simp at e
    exact (beq_eq_false_iff_ne.1 h5) e.2.1
  have h3 := hB.st hSb
  exact ⟨h3.kept, h3.vis, fun o ho => by simp at ho; subst ho; exact h2, hS.free, hS.nodup⟩

theorem q_bnewk {P : Program} {DS : List Deferred} {L : List (Nat × Value)} {m : Mem} {O : List Piece} {d : Option Tmp} {ty : TypeId} {p : String} {af : Array Edge} {a : Act} {n : Nat} {X : List Nat} {w0 w : World} {Q : Exit → Act → World → Prop} {ops : Array Oper} {rest : List Oper} {z : Value}
    (hF : FrD DS a n L) (hS : St X w0 w m O) (hz : (P.info? 69).bind (·.zero) = some z) (hv : z.cells = #[.pointer none, .slice none 0 0]) (hd : dok d n = true)
    (k : ∀ a' w', FrD DS a' n (putL d (.pointer (some ⟨w.heap.size, 0, none⟩)) L) → Bdk w w' [] → wpList P ops Q rest a' w') : wpList P ops Q (⟨d, .alloc 69, ty, p, af, none⟩ :: rest) a w := by
  refine wpList_plain rfl fun _ hK => wp_of_run (v := .pointer (some ⟨w.heap.size, 0, none⟩)) (w' := w.alloc (.cells #[.pointer none, .slice none 0 0] 69)) ?_ (hK _ _ (k _ _ (hF.put _ hd) ⟨below_alloc _ _, Go.Lib.IsBuilderF.of (.inl ⟨Nat.le_refl _, .slice none 0 0, ?_, ⟨by simp [Go.Lib.byteCells], .inl ⟨rfl, rfl⟩⟩, by simp [Value.ownBlock]⟩)⟩))
  · cases hi : P.info? 69 with
    | none => simp [hi] at hz
    | some i =>
      simp [hi] at hz
      simp [execOp, Instr.alloc, zeroValue, typeInfo, hi, hz, newVar, newRow, newObj, hv, Sem.run]
  · show (Array.push w.heap _)[w.heap.size]? = _
    exact Array.getElem?_push_size

theorem k_bwrite {wb w : World} {txt t r : List UInt8} (hB : Bdk wb w txt) (hr : goBld txt t = some r) :
    RetX Tryz.prog 33 [(.pointer (some ⟨wb.heap.size, 0, none⟩)), strV t] w (fun _ w' => Bdk wb w' r ∧ Go.Lib.OthersKept 5 (some wb.heap.size) w w') := by
  unfold goBld at hr
  rcases bcase (decide (txt.length + t.length ≤ 140737488355328)) with hc | hc
  · rw [hc] at hr; cases hr
  rw [hc] at hr
  obtain rfl := Option.some.inj hr
  have hc' := of_decide_eq_true hc
  refine Calls.mono (Tryz.Builder_WriteString_k wb.heap.size wb.heap.size (Go.Lib.byteCells txt) ⟨t.toArray⟩ w hB.2 (by rw [bytes_size]; simp only [Go.Lib.byteCells, List.length_map]; exact hc') hB.1.size) ?_
  rintro e w' ⟨rfl, h1, h2, h3⟩
  refine ⟨_, rfl, ⟨below_two hB.1 h2 (Nat.le_refl _), .inr ?_⟩, h3⟩
  have e : Go.Lib.byteCells txt ++ Go.Lib.strCells ⟨t.toArray⟩ = Go.Lib.byteCells (txt ++ t) := by simp [Go.Lib.byteCells, Go.Lib.strCells]
  rw [← e]
  exact h1

theorem k_bbyte {wb w : World} {txt r : List UInt8} {c : UInt8} {z : Int} (hB : Bdk wb w txt) (hz : z = c.toNat) (hr : goBld txt [c] = some r) :
    RetX Tryz.prog 35 [(.pointer (some ⟨wb.heap.size, 0, none⟩)), .int .u8 z] w (fun _ w' => Bdk wb w' r ∧ Go.Lib.OthersKept 5 (some wb.heap.size) w w') := by
  unfold goBld at hr
  rcases bcase (decide (txt.length + [c].length ≤ 140737488355328)) with hc | hc
  · rw [hc] at hr; cases hr
  rw [hc] at hr
  obtain rfl := Option.some.inj hr
  have hc' := of_decide_eq_true hc
  subst hz
  refine Calls.mono (Tryz.Builder_WriteByte_k wb.heap.size wb.heap.size (Go.Lib.byteCells txt) c.toNat w hB.2 (by simp only [Go.Lib.byteCells, List.length_map]; exact hc') hB.1.size) ?_
  rintro e w' ⟨rfl, h1, h2, h3⟩
  refine ⟨_, rfl, ⟨below_two hB.1 h2 (Nat.le_refl _), .inr ?_⟩, h3⟩
  have e : Go.Lib.byteCells txt ++ [Value.int .u8 c.toNat] = Go.Lib.byteCells (txt ++ [c]) := by simp [Go.Lib.byteCells]
  rw [← e]
  exact h1

theorem k_bstr {wb w : World} {txt : List UInt8} (hB : Bdk wb w txt) :
    RetX Tryz.prog 36 [(.pointer (some ⟨wb.heap.size, 0, none⟩))] w (fun v w' => v = strV txt ∧ Below wb.heap.size wb w') := by
  refine Calls.mono (Tryz.Builder_String_any_k wb.heap.size wb.heap.size txt w hB.2 hB.1.size) ?_
  rintro e w' ⟨rfl, _, h2, _⟩
  exact ⟨_, rfl, rfl, below_two hB.1 h2 (Nat.le_refl _)⟩

theorem wrap8 (z : Int) : IntKind.wrap .u8 z = ((UInt8.ofNat (IntKind.wrap .u8 z).toNat).toNat : Nat) := by
  have h : 0 ≤ IntKind.wrap .u8 z ∧ IntKind.wrap .u8 z < 256 := by
    simp only [IntKind.wrap, IntKind.bits, IntKind.signed]
    simp
    omega
  rw [UInt8.toNat_ofNat']
  omega
end Go.Proofs.YtebjhiflnemkhaaGreatDoor
