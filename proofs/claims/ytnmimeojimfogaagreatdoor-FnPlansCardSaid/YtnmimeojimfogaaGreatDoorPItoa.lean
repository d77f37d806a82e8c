/- Functions of the library (Itoa, Cut, Join, Split, Splits), out of the shelf's contracts; what they read of package variables. -/
import Derived.Lib.SplitLaws
import Derived.Lib.IndexBytes
import Derived.Test.YtnmimeojimfogaaGreatDoorPShelf
import Derived.Test.YtnmimeojimfogaaGreatDoorPDefs
namespace Go.Proofs.YtnmimeojimfogaaGreatDoor
open Go.Gx Go.Gx.F Go.RowKit Go.Sort
set_option linter.all false

theorem gTab : Tryz.prog.globalNamed "internal/strconv.uint64pow10" = some 1 := by kernel_rfl

/-- the table of powers of ten, and a number at block 0 -/
def Tbl (m : Mem) : Prop := m 1 = some (Go.Lib.pow10Tab.map fun z => Value.int .u64 z) ∧ ∃ (z : Int) (cs : List Value), m 0 = some cs ∧ cs[0]? = some (.int .i64 z)

theorem Tbl.mono {m m' : Mem} (h : Tbl m) (hm : Mem.le m m') : Tbl m' := by
  obtain ⟨h1, z, cs, h2, h3⟩ := h
  exact ⟨hm _ _ h1, z, cs, hm _ _ h2, h3⟩

theorem Tbl.is {m : Mem} {w : World} (h : Tbl m) (hv : Vis m w) : Go.Lib.TabIs Tryz.prog w "internal/strconv.uint64pow10" .u64 Go.Lib.pow10Tab := by
  obtain ⟨T, fz, hh⟩ := hv _ _ h.1
  unfold Go.Lib.TabIs World.var?
  rw [gTab, Option.bind_some, hh]

theorem Tbl.num {m : Mem} {w : World} (h : Tbl m) (hv : Vis m w) : ∃ z, w.cell? ⟨0, 0, none⟩ = some (.int .i64 z) := by
  obtain ⟨_, z, cs, h2, h3⟩ := h
  obtain ⟨T, fz, hh⟩ := hv _ _ h2
  refine ⟨z, ?_⟩
  unfold World.cell?
  simp [hh, h3]

theorem Tbl.of {w : World} (h : Go.Lib.TabIs Tryz.prog w "internal/strconv.uint64pow10" .u64 Go.Lib.pow10Tab) (hz : ∃ z, w.cell? ⟨0, 0, none⟩ = some (.int .i64 z)) : Tbl (memW w) := by
  unfold Go.Lib.TabIs World.var? at h
  rw [gTab, Option.bind_some] at h
  refine ⟨?_, ?_⟩
  rotate_left
  · obtain ⟨z, hz⟩ := hz
    unfold World.cell? at hz
    unfold memW
    split at hz
    · rename_i c T fz hh
      simp only at hh
      rw [hh]
      exact ⟨z, c.toList, rfl, by simpa using hz⟩
    · cases hz
  unfold memW
  split at h
  · rename_i cs T fz hh
    rw [hh]
    simp only [Option.some.injEq] at h
    rw [h]
  · cases h

theorem below_draw (w : World) (k : Nat) : Below w.heap.size w (w.drewN k) := ⟨rfl, rfl, rfl, Nat.le_refl _, fun _ _ => rfl⟩

theorem c_strconv_Itoa (p_x : Int) (r : List UInt8) (hr : strconv_Itoa p_x = some r) (w0 : World) (m : Mem) (hv : Vis m w0) (ht : Tbl m) :
    Ret Tryz.prog 67 [(.int .i64 p_x)] w0 (fun v _ => v = strV r) := by
  unfold strconv_Itoa at hr
  rcases bcase (decide (-9223372036854775808 ≤ p_x ∧ p_x ≤ 9223372036854775807)) with hc | hc
  · rw [hc] at hr; cases hr
  rw [hc] at hr
  obtain rfl := Option.some.inj hr
  have hc' := of_decide_eq_true hc
  refine Calls.mono (Tryz.strconv_Itoa p_x hc'.1 hc'.2 w0 (ht.is hv)) ?_
  rintro e w' ⟨rfl, k, os, rfl⟩
  refine ⟨_, rfl, ⟨rfl, rfl, rfl, ?_, fun j hj => ?_⟩, rfl⟩
  · unfold grow; simp [World.drewN]
  · unfold grow
    have hj' : j < (w0.drewN k).heap.size := hj
    rw [Array.getElem?_append_left hj']
    rfl

theorem c_strings_Cut (p_s p_sep : List UInt8) (r : (List UInt8) × (List UInt8) × Bool) (hr : strings_Cut p_s p_sep = some r) (w0 : World) (m : Mem) (hv : Vis m w0) (ht : Tbl m) :
    Ret Tryz.prog 52 [strV p_s, strV p_sep] w0 (fun v _ => v = .tuple #[strV r.1, strV r.2.1, .bool r.2.2]) := by
  unfold strings_Cut at hr
  rcases bcase (decide (p_s.length < 4294967281)) with hc | hc
  · rw [hc] at hr; cases hr
  rw [hc] at hr
  obtain rfl := Option.some.inj hr
  have hc' := of_decide_eq_true hc
  obtain ⟨z, hz⟩ := ht.num hv
  refine Calls.mono (Tryz.strings_Cut ⟨p_s.toArray⟩ ⟨p_sep.toArray⟩ z w0 (by rw [bytes_size]; exact hc') hz) ?_
  rintro e w' ⟨rfl, n, rfl⟩
  exact ⟨_, rfl, below_draw _ _, rfl⟩

theorem c_strings_Join (p_elems : List (List UInt8)) (p_sep : List UInt8) (r : List UInt8) (hr : strings_Join p_elems p_sep = some r) (w0 : World) (m : Mem) (hv : Vis m w0) (s1 : Sl) (h1 : Rd m s1 p_elems) :
    Ret Tryz.prog 68 [s1.v, strV p_sep] w0 (fun v _ => v = strV r) := by
  unfold strings_Join at hr
  rcases bcase (decide (p_elems.length ≤ 140737488355328 ∧ (Go.Lib.join p_elems p_sep).length ≤ 140737488355328)) with hc | hc
  · rw [hc] at hr; cases hr
  rw [hc] at hr
  obtain rfl := Option.some.inj hr
  have hc' := of_decide_eq_true hc
  have hlen := h1.len
  have hcap := h1.cap
  cases p_elems with
  | nil =>
    have h0 : s1.len = 0 := by simpa using hlen.symm
    refine Calls.mono (by have := Tryz.strings_Join_none s1.p s1.cap ⟨p_sep.toArray⟩ w0; rw [← h0] at this; exact this) ?_
    rintro e w' ⟨rfl, rfl⟩
    exact ⟨_, rfl, Below.refl _ _, rfl⟩
  | cons x0 xs =>
    obtain ⟨b, off, cs0, hp, hm0, _, _⟩ := h1.el 0 (by simp)
    have hmap : ((x0 :: xs).map fun l => (⟨l.toArray⟩ : ByteArray)).map (·.data.toList) = x0 :: xs := by
      rw [List.map_map]
      have : ((fun b : ByteArray => b.data.toList) ∘ fun l : List UInt8 => (⟨l.toArray⟩ : ByteArray)) = id := by
        funext l; simp
      rw [this, List.map_id]
    have hcells : ∀ (j : Nat) (x : ByteArray), ((x0 :: xs).map fun l => (⟨l.toArray⟩ : ByteArray))[j]? = some x → w0.cell? ⟨b, off + j, none⟩ = some (.string x) := fun j x hj => by
      rw [List.getElem?_map] at hj
      cases hg : (x0 :: xs)[j]? with
      | none => rw [hg] at hj; cases hj
      | some l =>
        rw [hg] at hj
        obtain rfl := Option.some.inj hj
        obtain ⟨hjl, he⟩ := List.getElem?_eq_some_iff.1 hg
        obtain ⟨b', off', cs, hp', hm', hle, hrd⟩ := h1.el j hjl
        rw [hp] at hp'
        simp only [Option.some.injEq, Addr.mk.injEq, and_true] at hp'
        obtain ⟨rfl, rfl⟩ := hp'
        obtain ⟨T, fz, hh⟩ := hv _ _ hm'
        have h5 : slab cs (off + j) 1 = [strV (x0 :: xs)[j]] := by
          have : slab cs (off + j * 1) 1 = [strV (x0 :: xs)[j]] := hrd
          rwa [Nat.mul_one] at this
        unfold slab at h5
        have h6 : (List.take 1 (List.drop (off + j) cs))[0]? = some (strV (x0 :: xs)[j]) := by rw [h5]; rfl
        rw [List.getElem?_take_of_lt (by omega), List.getElem?_drop, he] at h6
        unfold World.cell?
        simp only [hh, List.getElem?_toArray]
        simpa using h6
    have hb : b < w0.heap.size := by
      obtain ⟨T, fz, hh⟩ := hv _ _ hm0
      exact lt_of_heap hh
    have hl2 : ((x0 :: xs).map fun l => (⟨l.toArray⟩ : ByteArray)).length = s1.len := by rw [List.length_map]; exact hlen
    have hc2 := Tryz.strings_Join b off s1.cap ((x0 :: xs).map fun l => (⟨l.toArray⟩ : ByteArray)) ⟨p_sep.toArray⟩ w0 hcells hb (by rw [List.length_map]; exact hc'.1) (by rw [hl2]; exact hcap) (by rw [hmap]; exact hc'.2)
    rw [hl2, hmap, ← hp] at hc2
    refine Calls.mono hc2 ?_
    rintro e w' ⟨rfl, hbel⟩
    exact ⟨_, rfl, hbel, rfl⟩
/-! strings.SplitSeq: what it hands on -/
theorem idxB_eq (c : UInt8) : ∀ s, Go.Lib.indexByte s c = idxB c s
  | [] => rfl
  | x :: r => by simp only [Go.Lib.indexByte, idxB, idxB_eq c r]

theorem szS9 : szOf Tryz.prog 9 = some 1 := by kernel_rfl

theorem c_Index1 (t : List UInt8) (c : UInt8) (w : World) : Ret Tryz.prog 141 [strV t, strV [c]] w (fun v _ => v = .int .i64 (idxB c t)) := by
  refine Calls.mono (Tryz.strings_Index_one ⟨t.toArray⟩ c w) ?_
  rintro e w' ⟨rfl, rfl⟩
  exact ⟨_, rfl, Below.refl _ _, by rw [← idxB_eq]⟩

set_option maxRecDepth 100000 in
theorem it_split (c : UInt8) (s : List UInt8) (b1 b2 b3 : Nat) (hs : s.length < 4294967281) :
    ItOK Tryz.prog 143 [⟨b1, [strV [c]], 9⟩, ⟨b2, [strV s], 9⟩, ⟨b3, [iV 0], 3⟩] [.pointer (some ⟨b1, 0, none⟩), .pointer (some ⟨b2, 0, none⟩), .pointer (some ⟨b3, 0, none⟩)] (splitB c s) (fun _ => none) := by
  intro w0 l J Jx W lo hTr hIf hY h0
  refine it_start Tryz.func143 rfl 52 rfl rfl fun a hF => ?_
  obtain ⟨hf, hl⟩ := hIf 0 _ W h0
  have hS := hf.st
  -- is the sign's text empty?
  refine rr_seq (rr_seq (rr_region rfl ?_))
  refine q_x (v := strV [c]) hF hS (ex_load1 0 0 Tryz.underlying9 rfl rfl rfl rfl) rfl rfl fun a hF => ?_
  refine q_x (v := iV (goLen [c])) hF hS (ex_strLen Tryz.underlying9 rfl) rfl rfl fun a hF => ?_
  refine q_x (v := .bool false) hF hS (ex_ibin rfl rfl rfl) rfl rfl fun a hF => ?_
  refine rr_end (rn_sq ?_)
  refine rr_cond_f hF rfl rfl (rr_skipc (rn_sq ?_))
  refine rr_seq (rr_block ?_)
  have hF : Fr a 52 [(0, .func (.yield l) #[] #[]), (1, .pointer (some ⟨b1, 0, none⟩)), (2, .pointer (some ⟨b2, 0, none⟩)), (3, .pointer (some ⟨b3, 0, none⟩))] := hF.sub ⟨rfl, rfl, rfl, rfl, trivial⟩
  refine rr_loop (fun a w => ∃ (i : Nat) (t : List UInt8), Fr a 52 [(0, .func (.yield l) #[] #[]), (1, .pointer (some ⟨b1, 0, none⟩)), (2, .pointer (some ⟨b2, 0, none⟩)), (3, .pointer (some ⟨b3, 0, none⟩))] ∧
      J i [⟨b1, [strV [c]], 9⟩, ⟨b2, [strV t], 9⟩, ⟨b3, [iV 0], 3⟩] w ∧ (splitB c s).drop i = splitB c t ∧ t.length < 4294967281) (fun _ w => lenB w b2) ⟨0, s, hF, h0, rfl, hs⟩ ?_
  clear hF hS hf hl h0
  rintro a wr ⟨i, t, hF, hJ, hdr, ht⟩
  obtain ⟨hf, hl⟩ := hIf i _ wr hJ
  have hS := hf.st
  have hlen : lenB wr b2 = t.length := lenB_eq (hf.2.2 ⟨b2, [strV t], 9⟩ (by simp)).1
  refine rr_block (rr_seq (rr_region rfl ?_))
  refine q_x (v := strV t) hF hS (ex_load1 0 1 Tryz.underlying9 rfl rfl rfl rfl) rfl rfl fun a hF => ?_
  refine q_x (v := strV [c]) hF hS (ex_load1 0 0 Tryz.underlying9 rfl rfl rfl rfl) rfl rfl fun a hF => ?_
  refine q_call (vs := [strV t, strV [c]]) hF hS Tryz.func141 (by kernel_rfl) rfl rfl rfl (c_Index1 t c _) fun a w v hv hF hS => ?_
  subst hv
  refine q_x (v := iV (idxB c t)) hF hS (ex_assign rfl) rfl rfl fun a hF => ?_
  refine rr_end (rn_sq (rr_seq (rr_seq (rr_region rfl ?_))))
  refine q_x (v := iV (idxB c t)) hF hS (ex_move rfl) rfl rfl fun a hF => ?_
  refine q_x (v := .bool (decide (idxB c t < 0))) hF hS (ex_ibin rfl rfl rfl) rfl rfl fun a hF => ?_
  refine rr_end (rn_sq ?_)
  obtain ⟨ht2, hl2⟩ := hf.tr hl lo hS rfl
  have hJ2 := hTr _ _ _ _ _ ht2 hl2 hJ
  have hb := idxB_bd c t
  rcases bcase (decide (idxB c t < 0)) with hc | hc
  rotate_left
  · -- the last part
    refine rr_cond_t hF rfl hc (rr_exit (rx_sq (x_ibn rfl (x_jn (x_ib (rn_sq ?_))))))
    have hno : idxB c t < 0 := by simpa using hc
    rw [splitB_no hno] at hdr
    have hx : (splitB c s)[i]? = some t := by
      have := congrArg (fun z => z[0]?) hdr
      simpa using this
    have hend : i + 1 = (splitB c s).length := by
      have := congrArg List.length hdr
      simp only [List.length_drop, List.length_singleton] at this
      omega
    obtain ⟨fn, tmps, assign, body, hy, hr⟩ := hY i _ _ t hJ2 hx
    refine rl_region ?_
    refine rl_x (v := .func (.yield l) #[] #[]) hF hS (ex_move rfl) rfl rfl rfl fun a hF => ?_
    refine rl_x (v := strV t) hF hS (ex_load1 0 1 Tryz.underlying9 rfl rfl rfl rfl) rfl rfl rfl fun a hF => ?_
    refine rl_yield hF rfl rfl rfl hy hr fun e w' hR => ?_
    rcases hR with ⟨rfl, hJ3⟩ | ⟨rfl, hJ3⟩
    · obtain ⟨hf3, _⟩ := hIf _ _ _ hJ3
      refine ⟨_, rfl, fun a hF => rl_end ⟨hF.defers, _, run_results hF hf3.st rfl .nil, ⟨_, rfl⟩, .inl ⟨_, hend ▸ hJ3⟩⟩⟩
    · have hS5 := St.start w' (fun _ => none) (fun _ _ h => by cases h)
      exact ⟨_, rfl, fun a hF => rl_end ⟨hF.defers, _, run_results hF hS5 rfl .nil, ⟨_, rfl⟩, .inr hJ3⟩⟩
  · refine rr_cond_f hF rfl hc (rr_skipc (rn_sq (rr_seq (rr_region rfl ?_))))
    have hno : ¬ idxB c t < 0 := by simpa using hc
    have hlt : idxB c t < t.length := by rcases hb with hb | hb <;> omega
    rw [splitB_yes hno] at hdr
    have hx : (splitB c s)[i]? = some (t.take (idxB c t).toNat) := by
      have := congrArg (fun z => z[0]?) hdr
      simpa using this
    have hdr2 : (splitB c s).drop (i + 1) = splitB c (t.drop ((idxB c t).toNat + 1)) := by
      have := congrArg List.tail hdr
      simpa using this
    have hw : (w64 (idxB c t + 0)) = idxB c t := by rw [Int.add_zero]; exact Go.IntWalk.i64_in _ ⟨by omega, by omega⟩
    have hsub : goSub t 0 (idxB c t) = some (t.take (idxB c t).toNat) := by
      unfold goSub
      rw [show (decide ((0:Int) ≤ 0) && decide (0 ≤ idxB c t) && decide (idxB c t ≤ (t.length : Int))) = true by simp; omega]
      simp
    refine q_x (v := strV t) hF hS (ex_load1 0 1 Tryz.underlying9 rfl rfl rfl rfl) rfl rfl fun a hF => ?_
    refine q_x (v := iV (idxB c t)) hF hS (ex_move rfl) rfl rfl fun a hF => ?_
    refine q_x (v := iV 0) hF hS (ex_load1 0 2 Tryz.underlying3 rfl rfl rfl rfl) rfl rfl fun a hF => ?_
    refine q_x (v := iV (w64 (idxB c t + 0))) hF hS (ex_ibin rfl rfl rfl) rfl rfl fun a hF => ?_
    rw [hw] at hF
    refine q_x (v := strV (t.take (idxB c t).toNat)) hF hS (ex_strSub Tryz.underlying9 rfl rfl rfl (.inl ⟨rfl, rfl⟩) (.inr ⟨_, rfl⟩) hsub) rfl rfl fun a hF => ?_
    refine q_x (v := strV (t.take (idxB c t).toNat)) hF hS (ex_assign rfl) rfl rfl fun a hF => ?_
    refine rr_end (rn_sq (rr_seq (rr_seq (rl_region ?_))))
    obtain ⟨fn, tmps, assign, body, hy, hr⟩ := hY i _ _ _ hJ2 hx
    refine rl_x (v := .func (.yield l) #[] #[]) hF hS (ex_move rfl) rfl rfl rfl fun a hF => ?_
    refine rl_x (v := strV (t.take (idxB c t).toNat)) hF hS (ex_move rfl) rfl rfl rfl fun a hF => ?_
    refine rl_yield hF rfl rfl rfl hy hr fun e w' hR => ?_
    rcases hR with ⟨rfl, hJ3⟩ | ⟨rfl, hJ3⟩
    · obtain ⟨hf3, hl3⟩ := hIf _ _ _ hJ3
      have hS3 := hf3.st
      refine ⟨_, rfl, fun a hF => ?_⟩
      refine rl_x (v := .bool (!true)) hF hS3 (ex_not rfl) rfl rfl rfl fun a hF => ?_
      refine rl_end (rn_sq (rr_cond_f hF rfl rfl (rr_skipc (rn_sq (rr_region rfl ?_)))))
      have hw2 : w64 (idxB c t + goLen [c]) = idxB c t + 1 := by
        have e : goLen [c] = 1 := rfl
        rw [e]; exact Go.IntWalk.i64_in _ ⟨by omega, by omega⟩
      have hsub2 : goSub t (idxB c t + 1) (goLen t) = some (t.drop ((idxB c t).toNat + 1)) := by
        unfold goSub goLen
        rw [show (decide ((0:Int) ≤ idxB c t + 1) && decide (idxB c t + 1 ≤ (t.length : Int)) && decide ((t.length : Int) ≤ (t.length : Int))) = true by simp; omega]
        have e : (idxB c t + 1).toNat = (idxB c t).toNat + 1 := by omega
        simp only [cond_true, e, Int.toNat_natCast, Option.some.injEq]
        rw [List.take_of_length_le (by simp)]
      refine q_x (v := strV t) hF hS3 (ex_load1 0 1 Tryz.underlying9 rfl rfl rfl rfl) rfl rfl fun a hF => ?_
      refine q_x (v := iV (idxB c t)) hF hS3 (ex_move rfl) rfl rfl fun a hF => ?_
      refine q_x (v := strV [c]) hF hS3 (ex_load1 0 0 Tryz.underlying9 rfl rfl rfl rfl) rfl rfl fun a hF => ?_
      refine q_x (v := iV (goLen [c])) hF hS3 (ex_strLen Tryz.underlying9 rfl) rfl rfl fun a hF => ?_
      refine q_x (v := iV (w64 (idxB c t + goLen [c]))) hF hS3 (ex_ibin rfl rfl rfl) rfl rfl fun a hF => ?_
      rw [hw2] at hF
      refine q_x (v := strV (t.drop ((idxB c t).toNat + 1))) hF hS3 (ex_strSub Tryz.underlying9 rfl rfl rfl (.inr ⟨_, rfl⟩) (.inl ⟨rfl, rfl⟩) hsub2) rfl rfl fun a hF => ?_
      refine q_store (vs := [strV (t.drop ((idxB c t).toNat + 1))]) (cs' := [strV (t.drop ((idxB c t).toNat + 1))]) 0 1 hF hS3 szS9 rfl rfl rfl rfl rfl rfl rfl rfl fun a w4 hF hS4 => ?_
      obtain ⟨ht4, hl4⟩ := hf3.tr hl3 lo hS4 rfl
      have hJ4 := hTr _ _ _ _ _ ht4 hl4 hJ3
      refine rr_end (n_ib ⟨⟨i + 1, _, hF.sub ⟨rfl, rfl, rfl, rfl, trivial⟩, hJ4, hdr2, by simp; omega⟩, ?_⟩)
      rw [hlen, lenB_eq (t := t.drop ((idxB c t).toNat + 1)) (hS4.own ⟨b2, [strV (t.drop ((idxB c t).toNat + 1))], 9⟩ (by simp [setO]))]
      simp; omega
    · refine ⟨_, rfl, fun a hF => ?_⟩
      have hS5 := St.start w' (fun _ => none) (fun _ _ h => by cases h)
      refine rl_x (v := .bool (!false)) hF hS5 (ex_not rfl) rfl rfl rfl fun a hF => ?_
      refine rl_end (rn_sq (rr_cond_t hF rfl rfl (rr_ret (rret_sq (r_ib (r_jn (r_ib (rret_sq ?_))))))))
      exact ⟨hF.defers, _, run_results hF hS5 rfl .nil, ⟨_, rfl⟩, .inr hJ3⟩

/-- the piece of an iterator over the parts of a text -/
def PitS (c : UInt8) (s : List UInt8) (b1 b2 b3 : Nat) : Piece := [⟨b1, [strV [c]], 9⟩, ⟨b2, [strV s], 9⟩, ⟨b3, [iV 0], 3⟩]

theorem c_splitSeq (s : List UInt8) (c : UInt8) (w0 : World) (m : Mem) (hv : Vis m w0) :
    Ret Tryz.prog 124 [strV s, strV [c], iV 0] w0 (fun v w => ∃ b1 b2 b3, v = .func (.func 143) #[] #[.pointer (some ⟨b1, 0, none⟩), .pointer (some ⟨b2, 0, none⟩), .pointer (some ⟨b3, 0, none⟩)] ∧ St [] w0 w m [PitS c s b1 b2 b3]) := by
  refine ret_start Tryz.func124 rfl 8 rfl rfl m hv fun a hF hS => ?_
  refine q_seq (q_region ?_)
  refine q_box (cs := [strV s]) hF hS rfl rfl rfl fun a w b2 hF hS => ?_
  refine q_box (cs := [strV [c]]) hF hS rfl rfl rfl fun a w b1 hF hS => ?_
  refine q_box (cs := [iV 0]) hF hS rfl rfl rfl fun a w b3 hF hS => ?_
  refine q_x (v := .nilFunc) hF hS (ex_assign rfl) rfl rfl fun a hF => ?_
  refine q_end (n_sq (q_seq (q_region ?_)))
  refine q_x (v := .func (.func 143) #[] #[.pointer (some ⟨b1, 0, none⟩), .pointer (some ⟨b2, 0, none⟩), .pointer (some ⟨b3, 0, none⟩)]) hF hS (ex_makeFunc (vs := [.pointer (some ⟨b1, 0, none⟩), .pointer (some ⟨b2, 0, none⟩), .pointer (some ⟨b3, 0, none⟩)]) rfl) rfl rfl fun a hF => ?_
  refine q_x (v := .func (.func 143) #[] #[.pointer (some ⟨b1, 0, none⟩), .pointer (some ⟨b2, 0, none⟩), .pointer (some ⟨b3, 0, none⟩)]) hF hS (ex_assign rfl) rfl rfl fun a hF => ?_
  refine q_end (n_sq (q_ret ?_))
  refine ret_of hF hS rfl (.tmp rfl .nil) ⟨b1, b2, b3, rfl, ?_⟩
  have h := hS.own; have hf := hS.free; have hn := hS.nodup
  simp only [List.flatten_cons, List.flatten_nil, List.append_nil, List.singleton_append, List.map_cons, List.map_nil, List.nodup_cons, List.mem_cons, List.not_mem_nil, or_false, not_or, List.nodup_nil, and_true, not_false_eq_true] at hn
  refine ⟨hS.kept, hS.vis, fun o ho => h o ?_, fun o ho => hf o ?_, ?_⟩
  · simp only [PitS, List.flatten_cons, List.flatten_nil, List.append_nil, List.mem_cons, List.not_mem_nil, or_false] at ho ⊢
    rcases ho with rfl | rfl | rfl <;> simp
  · simp only [PitS, List.flatten_cons, List.flatten_nil, List.append_nil, List.mem_cons, List.not_mem_nil, or_false] at ho ⊢
    rcases ho with rfl | rfl | rfl <;> simp
  · simp only [PitS, List.flatten_cons, List.flatten_nil, List.append_nil, List.map_cons, List.map_nil, List.nodup_cons, List.mem_cons, List.not_mem_nil, or_false, not_or, List.nodup_nil, and_true, not_false_eq_true]
    obtain ⟨⟨h1, h2⟩, h3⟩ := hn
    exact ⟨⟨h3, Ne.symm h1⟩, Ne.symm h2⟩

theorem c_strings_SplitSeq (s : List UInt8) (c : UInt8) (m : Mem) {w0 : World} (hv : Vis m w0) :
    Ret Tryz.prog 85 [strV s, strV [c]] w0 (fun v w => ∃ b1 b2 b3, v = .func (.func 143) #[] #[.pointer (some ⟨b1, 0, none⟩), .pointer (some ⟨b2, 0, none⟩), .pointer (some ⟨b3, 0, none⟩)] ∧ St [] w0 w m [PitS c s b1 b2 b3]) := by
  refine ret_start Tryz.func85 rfl 8 rfl rfl m hv fun a hF hS => ?_
  refine q_seq (q_region ?_)
  refine q_x (v := .nilFunc) hF hS (ex_assign rfl) rfl rfl fun a hF => ?_
  refine q_end (n_sq (q_seq (q_region ?_)))
  refine q_x (v := strV s) hF hS (ex_move rfl) rfl rfl fun a hF => ?_
  refine q_x (v := strV [c]) hF hS (ex_move rfl) rfl rfl fun a hF => ?_
  refine q_call (vs := [strV s, strV [c], iV 0]) hF hS Tryz.func124 (by kernel_rfl) rfl rfl rfl (c_splitSeq s c _ m hS.vis) ?_
  rintro a w v ⟨b1, b2, b3, rfl, hR⟩ hF hS2
  have hS : St _ _ _ _ [PitS c s b1 b2 b3] := hS.joinF hR
  refine q_x (v := .func (.func 143) #[] #[.pointer (some ⟨b1, 0, none⟩), .pointer (some ⟨b2, 0, none⟩), .pointer (some ⟨b3, 0, none⟩)]) hF hS (ex_assign rfl) rfl rfl fun a hF => ?_
  refine q_end (n_sq (q_ret ?_))
  exact ret_of hF hS rfl (.tmp rfl .nil) ⟨b1, b2, b3, rfl, hS⟩

/-! strings.Split -/
theorem splitK_eq (c : UInt8) : ∀ (k : Nat) (l : List UInt8), Go.Lib.count l [c] = k → Go.Lib.splitK [c] 0 k l = splitB c l
  | 0, l, h => by
    have hi : Go.Lib.index l [c] = idxB c l := by rw [Go.Lib.index_one, idxB_eq]
    have hb := idxB_bd c l
    have hneg : idxB c l < 0 := by
      rcases Int.lt_or_le (idxB c l) 0 with h1 | h1
      · exact h1
      · have := Go.Lib.count_hit (s := l) (sub := [c]) (i := (idxB c l).toNat) (by simp) (by rw [hi]; omega)
        omega
    rw [splitB_no hneg]; rfl
  | k + 1, l, h => by
    have hi : Go.Lib.index l [c] = idxB c l := by rw [Go.Lib.index_one, idxB_eq]
    have hb := idxB_bd c l
    have hpos : ¬ idxB c l < 0 := fun h1 => by
      have := Go.Lib.count_miss (s := l) (sub := [c]) (by rw [hi]; omega)
      omega
    have hc := Go.Lib.count_hit (s := l) (sub := [c]) (i := (idxB c l).toNat) (by simp) (by rw [hi]; omega)
    have hm : ¬ (Go.Lib.index l [c] == -1) = true := fun e => by have := beq_iff_eq.1 e; omega
    unfold Go.Lib.splitK
    rw [if_neg hm, splitB_yes hpos, hi, Nat.add_zero]
    rw [splitK_eq c k _ (by simp only [List.length_singleton] at hc ⊢; omega)]
    rfl

theorem c_strings_Split (p_s p_sep : List UInt8) (r : List (List UInt8)) (hr : strings_Split p_s p_sep = some r) (w0 : World) (m : Mem) (hv : Vis m w0) (ht : Tbl m) :
    Ret Tryz.prog 81 [strV p_s, strV p_sep] w0 (fun v w => ∃ (q : Piece) (s1 : Sl), v = s1.v ∧ St [] w0 w m [q] ∧ OwnL m 9 q s1 r) := by
  unfold strings_Split at hr
  rcases bcase (decide (p_s.length < 4294967281 ∧ p_sep.length = 1)) with hc | hc
  · rw [hc] at hr; cases hr
  rw [hc] at hr
  obtain rfl := Option.some.inj hr
  have hc' := of_decide_eq_true hc
  obtain ⟨c, rfl⟩ := List.length_eq_one_iff.1 hc'.2
  obtain ⟨z, hz⟩ := ht.num hv
  refine Calls.mono (Tryz.strings_Split ⟨p_s.toArray⟩ ⟨[c].toArray⟩ z w0 (by rw [bytes_size]; exact hc'.1) hz (by rw [bytes_size]; simp)) ?_
  rintro e w' ⟨rfl, rfl⟩
  obtain ⟨k, hk⟩ : ∃ k, k = Go.Lib.countB ⟨p_s.toArray⟩ ⟨[c].toArray⟩ := ⟨_, rfl⟩
  have hck : Go.Lib.count p_s [c] = k := by rw [hk]
  have hd := Go.Lib.splitB_data ⟨[c].toArray⟩ 0 k ⟨p_s.toArray⟩
  have hlen := Go.Lib.splitB_all ⟨[c].toArray⟩ (by rw [bytes_size]; simp) 0 k ⟨p_s.toArray⟩ hk.symm
  have hd2 : (Go.Lib.splitB ⟨[c].toArray⟩ 0 k ⟨p_s.toArray⟩).map (·.data.toList) = splitB c p_s := by rw [hd]; exact splitK_eq c k p_s hck
  rw [← hk]
  have hcells : (Go.Lib.splitB ⟨[c].toArray⟩ 0 k ⟨p_s.toArray⟩).map Value.string = (splitB c p_s).map strV := by
    rw [← hd2, List.map_map]
    apply List.map_congr_left
    intro b _
    show Value.string b = Value.string ⟨b.data.toList.toArray⟩
    simp
  have hl2 : (splitB c p_s).length = k + 1 := by rw [← hd2, List.length_map]; exact hlen
  have hkb : k ≤ p_s.length := by rw [← hck]; have := Go.Lib.countB_le ⟨[c].toArray⟩ (by rw [bytes_size]; simp) p_s.length ⟨p_s.toArray⟩ (by rw [bytes_size]; omega); rw [bytes_size] at this; exact this
  have hS := (St.start w0 m hv).alloc ((splitB c p_s).map strV) 9
  refine ⟨_, rfl, below_alloc _ _, [⟨w0.heap.size, (splitB c p_s).map strV, 9⟩], ⟨some ⟨w0.heap.size, 0, none⟩, k + 1, k + 1⟩, rfl, ?_, ⟨hl2, Nat.le_refl _, ?_, .inr ⟨w0.heap.size, _, rfl, rfl, ?_, fun i hi => ?_⟩⟩⟩
  · rw [hcells]; exact hS
  · show k + 1 ≤ maxLen
    have : maxLen = 9223372036854775807 := by decide
    omega
  · rw [List.length_map, hl2]
    show k + 1 = (k + 1) * 1
    omega
  · show slab ((splitB c p_s).map strV) (i * 1) 1 = [strV (splitB c p_s)[i]]
    unfold slab
    rw [Nat.mul_one]
    have hi' : i < (splitB c p_s).length := hi
    rw [List.drop_eq_getElem_cons (by rw [List.length_map]; exact hi'), List.take_succ_cons, List.take_zero, List.getElem_map]
    rfl

/-! slices.Grow of nil -/
theorem ex_cap {P : Program} {L : List (Nat × Value)} {m : Mem} {O : List Piece} {d : Option Tmp} {ty : TypeId} {p : String} {af : Array Edge} {g : Option (Nat × Bool)} {x : Operand} {t E : TypeId} {s : Sl} (hu : P.underlying t = some (.slice E)) (hx : evo L x = some s.v) :
    Ex P ⟨d, .call { callee := .builtin .cap, args := #[x], argTypes := #[t] }, ty, p, af, g⟩ L m O (.int .i64 (s.cap : Int)) := fun _ a n X w0 w hF _ => by
  simp [execOp, resolve, invoke, builtin, Builtin.cap_, hF.eval hx, run_underlying hu, Sl.v, goInt]

theorem infG : inf Tryz.prog 29 = some (4, 64, [(.int .i64 0), nilS.v, nilS.v, (.int .i64 0)]) := by kernel_rfl
theorem szG : szOf Tryz.prog 29 = some 4 := by kernel_rfl

theorem c_slices_Grow_impl_Table (p_n : Int) (r : List impl_Table) (hr : slices_Grow_impl_Table p_n = some r) (w0 : World) (m : Mem) (hv : Vis m w0) :
    Ret Tryz.prog 97 [nilS.v, (.int .i64 p_n)] w0 (fun v w => ∃ (q : Piece) (s1 : Sl), v = s1.v ∧ St [] w0 w m [q] ∧ OwnL m 29 q s1 r) := by
  unfold slices_Grow_impl_Table at hr
  rcases bcase (decide (0 ≤ p_n ∧ p_n.toNat * 64 ≤ 140737488355328)) with hc | hc
  · rw [hc] at hr; cases hr
  rw [hc] at hr
  obtain rfl := Option.some.inj hr
  obtain ⟨h0, h1⟩ := of_decide_eq_true hc
  have hneg : decide (p_n < 0) = false := decide_eq_false (by omega)
  have hw : IntKind.wrap .i64 (p_n - 0) = p_n := by rw [Int.sub_zero]; exact Go.IntWalk.i64_in _ ⟨by omega, by omega⟩
  refine ret_start Tryz.func97 rfl 27 rfl rfl m hv fun a hF hS => q_seq (q_region (q_x (v := nilS.v) hF hS (ex_assign rfl) rfl rfl fun a hF => q_end (n_sq (q_seq (q_seq (q_region (q_x (v := .int .i64 p_n) hF hS (ex_move rfl) rfl rfl fun a hF => q_x (v := .bool (decide (p_n < 0))) hF hS (ex_ibin rfl rfl rfl) rfl rfl fun a hF => q_end (n_sq ?_))))))))
  refine q_cond_f hF rfl hneg (q_skipc (n_sq (q_seq (q_seq (q_region ?_)))))
  refine q_x (v := .int .i64 p_n) hF hS (ex_move rfl) rfl rfl fun a hF => q_x (v := nilS.v) hF hS (ex_move rfl) rfl rfl fun a hF => q_x (v := .int .i64 0) hF hS (ex_cap (s := nilS) Tryz.underlying44 rfl) rfl rfl fun a hF => q_x (v := nilS.v) hF hS (ex_move rfl) rfl rfl fun a hF => q_x (v := .int .i64 0) hF hS (ex_len (s := nilS) (l := ([] : List impl_Table)) Tryz.underlying44 rfl rfl) rfl rfl fun a hF => q_x (v := .int .i64 0) hF hS (ex_ibin rfl rfl rfl) rfl rfl fun a hF => q_x (v := .int .i64 (IntKind.wrap .i64 (p_n - 0))) hF hS (ex_ibin rfl rfl rfl) rfl rfl fun a hF => ?_
  rw [hw] at hF
  refine q_x (v := .int .i64 p_n) hF hS (ex_assign rfl) rfl rfl fun a hF => q_end (n_sq (q_seq (q_region (q_x (v := .int .i64 p_n) hF hS (ex_move rfl) rfl rfl fun a hF => q_x (v := .bool (decide (0 < p_n))) hF hS (ex_ibin rfl rfl rfl) rfl rfl fun a hF => q_end (n_sq ?_)))))
  rcases bcase (decide (0 < p_n)) with hc2 | hc2
  · refine q_cond_f hF rfl hc2 (q_skipc (n_sq (q_seq (q_region (q_x (v := nilS.v) hF hS (ex_move rfl) rfl rfl fun a hF => q_x (v := nilS.v) hF hS (ex_assign rfl) rfl rfl fun a hF => q_end (n_sq (q_ret ?_)))))))
    exact ret_of hF hS rfl (.tmp rfl .nil) ⟨[], nilS, rfl, hS.sel [0] (by decide), (OwnL.nil (α := impl_Table) m 29)⟩
  · obtain ⟨z, hz⟩ : ∃ z, goAppZ 64 ([] : List impl_Table) p_n ⟨0, [], [], 0⟩ = some z := by
      unfold goAppZ
      rw [decide_eq_true h0, decide_eq_true (by simpa using h1)]
      exact ⟨_, rfl⟩
    refine q_cond_t hF rfl hc2 (q_region ?_)
    refine q_x (v := nilS.v) hF hS (ex_move rfl) rfl rfl fun a hF => q_x (v := nilS.v) hF hS (ex_move rfl) rfl rfl fun a hF => q_x (v := .int .i64 0) hF hS (ex_cap (s := nilS) Tryz.underlying44 rfl) rfl rfl fun a hF => q_x (v := nilS.v) hF hS (ex_slice (s := nilS) (i := 0) (j := 0) Tryz.underlying44 szG rfl rfl rfl (.inl ⟨rfl, rfl⟩) (.inr ⟨_, rfl⟩) ⟨by decide, by decide, by decide, by decide⟩) rfl rfl fun a hF => q_x (v := .int .i64 p_n) hF hS (ex_move rfl) rfl rfl fun a hF => ?_
    have hS := hS.nilP
    refine q_do rfl fun _ hK => wp_appendZ hF hS (OwnL.nil (α := impl_Table) m 29) Tryz.underlying44 Tryz.underlying3 infG rfl rfl rfl rfl ⟨nilS, nilS, rfl, Rd.nil0 _, Rd.nil0 _⟩ rfl (by decide) hz rfl fun a w q1 s1 hF hS hq => hK _ _ ?_
    have ho : SubOk s1 0 0 := ⟨by omega, by omega, by omega, hq.cap⟩
    refine q_x (v := nilS.v) hF hS (ex_move rfl) rfl rfl fun a hF => q_x (v := .int .i64 0) hF hS (ex_len (s := nilS) (l := ([] : List impl_Table)) Tryz.underlying44 rfl rfl) rfl rfl fun a hF => q_x (v := (subS s1 4 0 0 s1.cap).v) hF hS (ex_slice (s := s1) (i := 0) (j := 0) Tryz.underlying44 szG rfl rfl rfl (.inl ⟨rfl, rfl⟩) (.inr ⟨_, rfl⟩) ho) rfl rfl fun a hF => q_x (v := (subS s1 4 0 0 s1.cap).v) hF hS (ex_assign rfl) rfl rfl fun a hF => q_end (n_sq (q_seq (q_region (q_x (v := (subS s1 4 0 0 s1.cap).v) hF hS (ex_move rfl) rfl rfl fun a hF => q_x (v := (subS s1 4 0 0 s1.cap).v) hF hS (ex_assign rfl) rfl rfl fun a hF => q_end (n_sq (q_ret ?_))))))
    have hsub : goSub z 0 0 = some [] := by
      unfold goSub
      rw [decide_eq_true (by omega), decide_eq_true (by omega)]
      simp
    exact ret_of hF hS rfl (.tmp rfl .nil) ⟨q1, subS s1 4 0 0 s1.cap, rfl, hS.sel [0] (by decide), hq.sub0 hsub⟩

end Go.Proofs.YtnmimeojimfogaaGreatDoor
