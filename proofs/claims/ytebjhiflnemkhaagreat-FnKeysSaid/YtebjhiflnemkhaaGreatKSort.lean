/- slices.Sort at whole numbers, out of the shelf's contract. -/
import Derived.Test.YtebjhiflnemkhaaGreatKShelf
import Derived.Test.YtebjhiflnemkhaaGreatKDefs
namespace Go.Proofs.YtebjhiflnemkhaaGreat
open Go.Gx Go.Gx.F Go.RowKit Go.Sort
set_option linter.all false

theorem Below.onto {a b c : World} {n : Nat} (h : Below n a b) (h2 : b = c) : Below n a c := h2 ▸ h

theorem sort_own {P : Program} {f : FuncId} {m : Mem} {T : TypeId} {q1 : Piece} {s1 : Sl} {l : List Int} {w0 : World} {X : List Nat} (hz : l.length < 4611686018427387904) (h1 : OwnL m T q1 s1 l) (hS : St X w0 w0 m [q1])
    (hs : ∀ (blk off cap : Nat) (zs : List Int) (w : World), Holds (Value.int .i64) w blk off zs.toArray → blk < w.heap.size → zs.length < 4611686018427387904 →
      Calls P f #[.slice (some ⟨blk, off, none⟩) zs.length cap] w fun e w' => e = .returned (.tuple #[]) ∧ ∃ n os, w' = grow (putRow (Value.int .i64) (Go.Sort.ahead w n) blk off (zs.mergeSort fun x y => decide (x ≤ y)).toArray) os)
    (hn : ∀ (p : Option Addr) (cap : Nat) (w : World), Calls P f #[.slice p 0 cap] w fun e w' => e = .returned (.tuple #[]) ∧ w' = w) :
    RetX P f [s1.v] w0 (fun v w => ∃ qp0 : Piece, v = (.tuple #[]) ∧ St X w0 w m [qp0] ∧ OwnL m T qp0 s1 (l.mergeSort fun x y => decide (x ≤ y))) := by
  have hlen := h1.len
  have hcap := h1.cap
  have hmax := h1.max
  have hml : (l.mergeSort fun x y => decide (x ≤ y)).length = l.length := List.length_mergeSort _
  rcases h1.blk with ⟨rfl, c2, c3⟩ | ⟨b, cs, rfl, c2, c3, c4⟩
  · have h0 : s1.len = 0 := by omega
    have hl : l = [] := List.eq_nil_of_length_eq_zero (by omega)
    subst hl
    unfold RetX
    refine Calls.mono (by have := hn s1.p s1.cap w0; rw [← h0] at this; exact this) ?_
    rintro e w' ⟨rfl, rfl⟩
    exact ⟨_, rfl, [], rfl, hS, by simpa using h1⟩
  · have hh := hS.own ⟨b, cs, T⟩ (by simp)
    simp only at hh
    have hwd : (Rep.wd Int) = 1 := rfl
    rw [hwd, Nat.mul_one] at c3
    have hget : ∀ i (hi : i < l.length), cs[i]? = some (.int .i64 l[i]) := fun i hi => by
      have h4 := c4 i hi
      rw [hwd, Nat.mul_one] at h4
      have h5 : slab cs i 1 = [.int .i64 l[i]] := h4
      unfold slab at h5
      have h6 : (List.take 1 (List.drop i cs))[0]? = some (.int .i64 l[i]) := by rw [h5]; rfl
      rw [List.getElem?_take_of_lt (by omega), List.getElem?_drop] at h6
      simpa using h6
    have hH : Holds (Value.int .i64) w0 b 0 l.toArray := fun j hj => by
      have hj' : j < l.length := by simpa using hj
      refine ⟨?_, ?_⟩
      · unfold World.cell?
        simp only [hh, Nat.zero_add]
        have := hget j hj'
        simp [this, hj']
      · unfold World.frozen?
        simp [hh]
    have hb : b < w0.heap.size := lt_of_heap hh
    have hc := hs b 0 s1.cap l w0 hH hb hz
    unfold RetX
    refine Calls.mono (by rw [hlen, ← c2] at hc; exact hc) ?_
    rintro e w' ⟨rfl, n, os, rfl⟩
    generalize hsl : (l.mergeSort fun x y => decide (x ≤ y)) = sl at hml ⊢
    let cs' : List Value := sl.map (Value.int .i64) ++ cs.drop sl.length
    have hS' : St X w0 (w0.setRow b cs'.toArray) m [[⟨b, cs', T⟩]] := hS.setRow (j := 0) (k := 0) rfl cs'
    have hheap : (putRow (Value.int .i64) (Go.Sort.ahead w0 n) b 0 sl.toArray).heap = (w0.setRow b cs'.toArray).heap := by
      unfold putRow mapBlock World.setRow Go.Sort.ahead
      simp only
      apply Array.ext_getElem?
      intro k
      simp only [Array.getElem?_modify]
      by_cases hk : b = k
      · subst hk
        simp only [if_true, hh, Option.map_some, onCells]
        congr 2
        apply Array.ext_getElem?
        intro j
        simp only [putCells, Array.getElem?_mapIdx, List.getElem?_toArray, Nat.zero_le, true_and, Nat.zero_add, List.size_toArray, Nat.sub_zero, cs']
        by_cases hj : j < sl.length
        · rw [List.getElem?_append_left (by simpa using hj), List.getElem?_map, List.getElem?_eq_getElem hj, List.getElem?_eq_getElem (by omega)]
          simp [hj]
        · rw [List.getElem?_append_right (by simpa using Nat.le_of_not_lt hj), List.length_map, List.getElem?_drop, show sl.length + (j - sl.length) = j by omega]
          cases cs[j]? with
          | none => rfl
          | some z => simp [hj]
      · simp [hk]
    have hbel : Below (w0.setRow b cs'.toArray).heap.size (w0.setRow b cs'.toArray) (grow (putRow (Value.int .i64) (Go.Sort.ahead w0 n) b 0 sl.toArray) os) := by
      refine ⟨rfl, rfl, rfl, ?_, fun k hk => ?_⟩
      · unfold grow; simp only [Array.size_append, hheap]; omega
      · unfold grow; simp only [hheap]; rw [Array.getElem?_append_left hk]
    refine ⟨_, rfl, [⟨b, cs', T⟩], rfl, hS'.below hbel, by omega, hcap, hmax, .inr ⟨b, cs', rfl, c2, ?_, fun i hi => ?_⟩⟩
    · rw [hwd, Nat.mul_one, ← c3]
      simp only [cs', List.length_append, List.length_map, List.length_drop]
      omega
    · show slab cs' (i * 1) 1 = [.int .i64 sl[i]]
      unfold slab
      rw [Nat.mul_one]
      have e1 : cs'[i]? = some (.int .i64 sl[i]) := by
        simp only [cs']
        rw [List.getElem?_append_left (by simpa using hi), List.getElem?_map, List.getElem?_eq_getElem hi]; rfl
      obtain ⟨hi', e2⟩ := List.getElem?_eq_some_iff.1 e1
      rw [List.drop_eq_getElem_cons hi', e2]
      rfl

theorem c_slices_Sort_int_int (p_s : List Int) (r : (List Int)) (hr : slices_Sort_int_int p_s = some r) (w0 : World) (m : Mem) (s1 : Sl) (q1 : Piece) (h1 : OwnL m 3 q1 s1 p_s) (X : List Nat) (hS : St X w0 w0 m [q1]) :
    RetX Tryz.prog 36 [s1.v] w0 (fun v w => ∃ (qp0 : Piece), v = (.tuple #[]) ∧ St X w0 w m [qp0] ∧ OwnL m 3 qp0 s1 r) := by
  unfold slices_Sort_int_int at hr
  rcases bcase (decide (p_s.length < 4611686018427387904)) with hc | hc
  · rw [hc] at hr; cases hr
  rw [hc] at hr
  obtain rfl := Option.some.inj hr
  exact sort_own (of_decide_eq_true hc) h1 hS Tryz.slices_Sort_int Tryz.slices_Sort_int_none
end Go.Proofs.YtebjhiflnemkhaaGreat
