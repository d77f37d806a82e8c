/- More operations: deep slices, strings, and plain tools. -/
import Derived.Test.YtnmimeojimfogaaGx

namespace Go.Gx

set_option linter.all false

open Go.RowKit

variable {DS : List Deferred}

/-! ### several that make something new, in any order -/

structure Bt where
  i : Nat
  dst : Nat
  B : Value → Piece → Prop

section

variable {P : Program} {ops : Array Oper} {n : Nat} {X : List Nat} {w0 : World} {m : Mem} {Ld : LdB} {K : Act → World → Prop}

def BtOk (P : Program) (ops : Array Oper) (n : Nat) (X : List Nat) (w0 : World) (m : Mem) (b : Bt) : Prop :=
  ∃ o, ops[b.i]? = some o ∧ o.guard = none ∧ ∀ {DS : List Deferred} (a : Act) (w : World) (L : List (Nat × Value)) (O : List Piece), FrD DS a n L → St X w0 w m O →
    ∀ K' : Act → World → Prop, (∀ a' w' v q, FrD DS a' n ((b.dst, v) :: L) → b.B v q → St X w0 w' m (q :: O) → Below w.heap.size w w' → K' a' w') → o.wp P a w K' NP

def batchRdy (ops : Array Oper) (l : Array Bool) (is : List Nat) : Bool :=
  (is.all fun i => (Region.ready .any ops l).contains i) &&
  ((List.range ops.size).all fun j => l.getD j true || is.contains j || match ops[j]? with
    | none => true
    | some o => (o.after.any fun e => Region.binds .any e && !is.contains e.on && !l.getD e.on true) || (is.all fun i => o.after.any fun e => Region.binds .any e && e.on == i))

def setAll (l : Array Bool) : List Nat → Array Bool
  | [] => l
  | i :: r => setAll (l.setIfInBounds i true) r

def BtPost (n : Nat) (X : List Nat) (w0 : World) (m : Mem) (L : List (Nat × Value)) (O : List Piece) (bs : List Bt) (a : Act) (w : World) : Prop :=
  ∃ (V : Nat → Value) (Q : Nat → Piece), (∀ b ∈ bs, b.B (V b.dst) (Q b.dst)) ∧ Fr a n (bs.map (fun b => (b.dst, V b.dst)) ++ L) ∧ St X w0 w m (bs.map (fun b => Q b.dst) ++ O)

end

def BtsOk (P : Program) (ops : Array Oper) (n : Nat) (X : List Nat) (w0 : World) (m : Mem) : List Bt → Prop
  | [] => True
  | b :: r => BtOk P ops n X w0 m b ∧ BtsOk P ops n X w0 m r

theorem BtsOk.all {P : Program} {ops : Array Oper} {n : Nat} {X : List Nat} {w0 : World} {m : Mem} : ∀ {bs : List Bt}, BtsOk P ops n X w0 m bs → ∀ b ∈ bs, BtOk P ops n X w0 m b
  | [], _, b, hb => by cases hb
  | c :: r, h, b, hb => by
    rcases List.mem_cons.1 hb with e | hb
    · rw [e]; exact h.1
    · exact BtsOk.all h.2 b hb

theorem BtOk.mk {P : Program} {ops : Array Oper} {n : Nat} {X : List Nat} {w0 : World} {m : Mem} {i dst : Nat} {B : Value → Piece → Prop} {o : Oper} (ho : ops[i]? = some o) (hg : o.guard = none)
    (h : ∀ {DS : List Deferred} (a : Act) (w : World) (L : List (Nat × Value)) (O : List Piece), FrD DS a n L → St X w0 w m O → ∀ K' : Act → World → Prop, (∀ a' w' v q, FrD DS a' n ((dst, v) :: L) → B v q → St X w0 w' m (q :: O) → Below w.heap.size w w' → K' a' w') → o.wp P a w K' NP) :
    BtOk P ops n X w0 m ⟨i, dst, B⟩ := ⟨o, ho, hg, h⟩

/-! ### append of so many zeros -/

def goAppZ {α : Type} (bytes : Nat) (l : List α) (c : Int) (z : α) : Option (List α) := cond (decide (0 ≤ c) && decide ((l.length + c.toNat) * bytes ≤ 140737488355328)) (some (l ++ List.replicate c.toNat z)) none

section

variable {P : Program} {L : List (Nat × Value)} {m : Mem} {O : List Piece} {d : Option Tmp} {ty : TypeId} {p : String} {af : Array Edge} {g : Option (Nat × Bool)} {x y : Operand}

variable {a : Act} {n : Nat} {X : List Nat} {w0 w : World} {K : Act → World → Prop} {Q : Exit → Act → World → Prop} {α : Type} [Rep α] {l r : List α}

theorem run_appendZ_room {t tn E : TypeId} {i : TypeInfo} {z' : Value} {kn kc : IntKind} {b len cap N : Nat} {cs zc : List Value} (ht : P.underlying t = some (.slice E)) (htn : P.underlying tn = some (.int kn)) (hi : P.info? E = some i) (hz : i.zero = some z')
    (hzc : z'.cells = zc.toArray) (hsz : i.size = zc.length) (h1 : ∀ v ∈ zc, v.oneCell' = true) (hpos : 0 < zc.length) (hN : 0 < N) (h63 : (N : Int) ≤ 9223372036854775807) (h48 : N * i.bytes ≤ 281474976710656) (hb : w.heap[b]? = some (.cells cs.toArray E (0, 0)))
    (hroom : len + N ≤ cap) (hcs : cs.length = cap * zc.length) :
    (Builtin.append_ #[t, tn] ty #[.slice (some ⟨b, 0, none⟩) len cap, .int kc N]).run P w = .ok (.slice (some ⟨b, 0, none⟩) (len + N) cap) (w.setRow b (setCs cs (len * zc.length) (madeCells zc.toArray (N * zc.length)).toList).toArray) := by
  have hn : N ≠ 0 := by omega
  have hw : IntKind.i64.wrap (N : Int) = N := by rw [IntKind.wrap_i64]; omega
  have h48i : ¬ (281474976710656 < (N : Int) * (i.bytes : Int)) := by
    rw [← Int.natCast_mul]; omega
  have hneg : ¬ ((N : Int) < 0) := by omega
  have hns : ¬ (N * i.size = 0) := Nat.mul_ne_zero hn (by omega)
  have hzz : Builtin.zeroCells zc.toArray N = madeCells zc.toArray (N * zc.length) := rfl
  have hml : (madeCells zc.toArray (N * zc.length)).toList.length = N * zc.length := by simp [size_madeCells]
  have hfit : (len + N) * zc.length ≤ cap * zc.length := Nat.mul_le_mul_right _ hroom
  rw [Nat.add_mul] at hfit
  have hst := run_storeCells_at (P := P) b (len * zc.length) E (madeCells zc.toArray (N * zc.length)).toList 0 cs.toArray w hb (by simp only [List.size_toArray]; rw [hml, hcs]; omega) (fun v hv => by
    simp only [madeCells, Array.toList_map, List.mem_map] at hv
    obtain ⟨j, _, rfl⟩ := hv
    have hlt : j % zc.length < zc.length := Nat.mod_lt _ hpos
    have : (zc.toArray[j % zc.toArray.size]!) = zc[j % zc.length] := by simp [hlt]
    rw [this]
    exact h1 _ (List.getElem_mem hlt))
  simp only [Nat.add_zero] at hst
  have e : (⟨b, 0, none⟩ : Addr).add (len * zc.length) = ⟨b, len * zc.length, none⟩ := by rw [addr_add]; simp
  simp [Builtin.append_, run_underlying ht, run_underlying htn, sizeOf, typeInfo, zeroValue, hi, hz, hzc, asInt, asIntOf, hw, hn, hneg, hns, hroom, h48i, hzz, hsz, e, hst, setCs]
  intro hc
  exact absurd hc (Nat.mul_ne_zero hn (by omega))

theorem run_appendZ_grow {t tn E : TypeId} {i : TypeInfo} {z' : Value} {kn kc : IntKind} {sp : Option Addr} {len cap N : Nat} {olds zc : List Value} (ht : P.underlying t = some (.slice E)) (htn : P.underlying tn = some (.int kn)) (hi : P.info? E = some i) (hz : i.zero = some z')
    (hzc : z'.cells = zc.toArray) (hsz : i.size = zc.length) (hpos : 0 < zc.length) (hN : 0 < N) (hgr : cap < len + N) (h63 : ((len + N : Nat) : Int) ≤ 9223372036854775807) (hfits : Builtin.nextslicecap (len + N) cap * i.bytes ≤ 281474976710656) (h48 : N * i.bytes ≤ 281474976710656)
    (hold : (Builtin.firstCells i.size len (.slice sp len cap)).run P w.drew = .ok olds.toArray w.drew) :
    (Builtin.append_ #[t, tn] ty #[.slice sp len cap, .int kc N]).run P w =
      .ok (.slice (some ⟨w.heap.size, 0, none⟩) (len + N) (grownCap w (len + N) cap E)) (w.drew.alloc (.cells (olds ++ ((madeCells zc.toArray (N * zc.length)).toList ++ (Builtin.zeroCells zc.toArray (grownCap w (len + N) cap E - (len + N))).toList)).toArray E)) := by
  have hn : N ≠ 0 := by omega
  have hw : IntKind.i64.wrap (N : Int) = N := by rw [IntKind.wrap_i64]; omega
  have h48i : ¬ (281474976710656 < (N : Int) * (i.bytes : Int)) := by
    rw [← Int.natCast_mul]; omega
  have hneg : ¬ ((N : Int) < 0) := by omega
  have hns : ¬ (N * i.size = 0) := Nat.mul_ne_zero hn (by omega)
  have hzz : Builtin.zeroCells zc.toArray N = madeCells zc.toArray (N * zc.length) := rfl
  have hng : ¬ (len + N ≤ cap) := by omega
  have h63' : ¬ (9223372036854775807 < ((len : Int) + (N : Int))) := by omega
  have h48' : ¬ (281474976710656 < Builtin.nextslicecap (len + N) cap * i.bytes) := by omega
  simp [Builtin.append_, run_underlying ht, run_underlying htn, sizeOf, typeInfo, zeroValue, hi, hz, hzc, asInt, asIntOf, hw, hn, hneg, hns, hng, h48i, h63', h48', hzz, Question.forced, hold, newRow, grownCap]
  congr 2
  apply Array.ext'
  simp [List.append_assoc]

theorem St.tail {q : Piece} (h : St X w0 w m (q :: O)) : St X w0 w m O := by
  have hsub : ∀ o ∈ O.flatten, o ∈ (q :: O).flatten := fun o ho => by simp only [List.flatten_cons, List.mem_append]; exact .inr ho
  have hn := h.nodup
  simp only [List.flatten_cons, List.map_append] at hn
  exact ⟨h.kept, h.vis, fun o ho => h.own o (hsub o ho), fun o ho => h.free o (hsub o ho), (List.nodup_append.1 hn).2.1⟩

theorem wp_appendZ {t tn E : TypeId} {kn kc : IntKind} {c : Int} {z : α} {q : Piece} {s : Sl} {sz by' : Nat} {zc : List Value} (hF : FrD DS a n L) (hS : St X w0 w m (q :: O)) (hq : OwnL m E q s l) (hu : P.underlying t = some (.slice E)) (htn : P.underlying tn = some (.int kn)) (hI : inf P E = some (sz, by', zc)) (hzc : zc.length = sz)
    (hpos : Nat.blt 0 sz = true) (hx : evo L x = some s.v) (hy : evo L y = some (.int kc c)) (hz : Rep.rd m zc z) (hwd : Rep.wd α = sz) (hby : 1 ≤ by') (hr : goAppZ by' l c z = some r) (hd : dok d n = true)
    (k : ∀ a' w' q' s', FrD DS a' n (putL d s'.v L) → St X w0 w' m (q' :: O) → OwnL m E q' s' r → K a' w') :
    (⟨d, .call { callee := .builtin .append, args := #[x, y], argTypes := #[t, tn] }, ty, p, af, g⟩ : Oper).wp P a w K Q := by
  obtain ⟨i, z', hi, h1, h2, h3, h4⟩ := inf_spec hI
  unfold goAppZ at hr
  cases hb : (decide (0 ≤ c) && decide ((l.length + c.toNat) * by' ≤ 140737488355328)) with
  | false => rw [hb] at hr; cases hr
  | true =>
    rw [hb] at hr
    simp only [Bool.and_eq_true, decide_eq_true_eq] at hb
    obtain ⟨hc0, hbb⟩ := hb
    obtain rfl := (Option.some.inj hr).symm
    obtain ⟨N, rfl⟩ := Int.eq_ofNat_of_zero_le hc0
    rw [show ((N : Nat) : Int).toNat = N from rfl] at hbb k
    subst hzc
    have hpos' : 0 < zc.length := by simpa [Nat.blt_eq] using hpos
    have hlen := hq.len
    have hcap := hq.cap
    have hle : l.length + N ≤ (l.length + N) * by' := Nat.le_mul_of_pos_right _ (by omega)
    have hone : ∀ v ∈ zc, v.oneCell' = true := fun v hv => by
      have := Rep.one hz
      rw [List.all_eq_true] at this
      exact this v hv
    have hev : ∀ {v' : Value} {w' : World}, (Builtin.append_ #[t, tn] ty #[s.v, .int kc N]).run P w = .ok v' w' → (execOp a.eval (⟨d, .call { callee := .builtin .append, args := #[x, y], argTypes := #[t, tn] }, ty, p, af, g⟩ : Oper)).run P w = .ok (.value v') w' := fun h => by
      simp [execOp, resolve, invoke, builtin, hF.eval hx, hF.eval hy, h]
    have hby2 : N * by' ≤ (l.length + N) * by' := Nat.mul_le_mul_right _ (by omega)
    -- what stands there
    obtain ⟨olds, hol, hof, hord⟩ : ∃ olds : List Value, olds.length = s.len * zc.length ∧ (Builtin.firstCells i.size s.len s.v).run P w.drew = .ok olds.toArray w.drew ∧ ∀ k (hk : k < l.length), Rep.rd m (slab olds (k * zc.length) zc.length) l[k] := by
      rcases hq.blk with ⟨e1, e2, e3⟩ | ⟨b, cs, e1, e2, e3, e4⟩
      · have h5 : s.len = 0 := by omega
        refine ⟨[], by simp [h5], ?_, fun k hk => by omega⟩
        simp [Builtin.firstCells, Sl.v, e2, h5]
      · subst e1
        have hh := hS.own ⟨b, cs, E⟩ (by simp)
        rw [hwd] at e3 e4
        have hsl : s.len * zc.length ≤ s.cap * zc.length := Nat.mul_le_mul_right _ hcap
        have hol : (cs.take (s.len * zc.length)).length = s.len * zc.length := by rw [List.length_take, e3]; exact Nat.min_eq_left hsl
        refine ⟨cs.take (s.len * zc.length), hol, ?_, fun k hk => ?_⟩
        · have hv : s.v = .slice (some ⟨b, 0, none⟩) s.len s.cap := by simp [Sl.v, e2]
          rw [hv]
          refine run_firstCells_some (P := P) w.drew i.size s.len ⟨b, 0, none⟩ s.len s.cap (cs.take (s.len * zc.length)) (by rw [h1]; exact hol) (fun j u hj => ?_)
          have hjl := (List.getElem?_eq_some_iff.1 hj).1
          rw [hol] at hjl
          rw [List.getElem?_take_of_lt hjl] at hj
          rw [addr_add]
          have hh' : w.drew.heap[b]? = some (.cells cs.toArray E (0, 0)) := hh
          simp only [World.cell?, hh', Nat.zero_add]
          simpa using hj
        · have h6 : (k + 1) * zc.length ≤ s.len * zc.length := Nat.mul_le_mul_right _ (by omega)
          rw [Nat.add_mul, Nat.one_mul] at h6
          have : slab (cs.take (s.len * zc.length)) (k * zc.length) zc.length = slab cs (k * zc.length) zc.length := by
            unfold slab
            rw [List.drop_take, List.take_take, Nat.min_eq_left (by omega)]
          rw [this]
          exact e4 k hk
    by_cases hN0 : N = 0
    · subst hN0
      have hrun : (Builtin.append_ #[t, tn] ty #[s.v, .int kc (0 : Nat)]).run P w = .ok s.v w := by
        have hw : IntKind.i64.wrap 0 = 0 := by rw [IntKind.wrap_i64]; rfl
        cases hp : s.p with
        | none => simp [Builtin.append_, run_underlying hu, run_underlying htn, sizeOf, typeInfo, hi, asInt, asIntOf, Sl.v, hp, hcap, hw]
        | some ad => simp [Builtin.append_, run_underlying hu, run_underlying htn, sizeOf, typeInfo, hi, asInt, asIntOf, Sl.v, hp, hcap, hw, storeCells]
      exact wp_of_run (hev hrun) (k _ _ q s (hF.put _ hd) hS (by simpa using hq))
    · by_cases hroom : s.len + N ≤ s.cap
      · rcases hq.blk with ⟨e1, e2, e3⟩ | ⟨b, cs, e1, e2, e3, e4⟩
        · omega
        · subst e1
          rw [hwd] at e3 e4
          have hh := hS.own ⟨b, cs, E⟩ (by simp)
          have hv : s.v = .slice (some ⟨b, 0, none⟩) s.len s.cap := by simp [Sl.v, e2]
          have hrun := run_appendZ_room (P := P) (ty := ty) (kc := kc) (w := w) (N := N) (len := s.len) (cap := s.cap) (b := b) (cs := cs) hu htn hi h3 h4 h1 hone hpos' (by omega) (by omega) (by rw [h2]; omega) hh hroom e3
          rw [← hv] at hrun
          have ho : getO ([⟨b, cs, E⟩] :: O) 0 0 = some ⟨b, cs, E⟩ := rfl
          have hS' := hS.setRow ho (setCs cs (s.len * zc.length) (madeCells zc.toArray (N * zc.length)).toList)
          have hml : (madeCells zc.toArray (N * zc.length)).toList.length = N * zc.length := by simp [size_madeCells]
          have hfit : (s.len + N) * zc.length ≤ s.cap * zc.length := Nat.mul_le_mul_right _ hroom
          rw [Nat.add_mul] at hfit
          refine wp_of_run (hev hrun) (k _ _ _ ⟨some ⟨b, 0, none⟩, s.len + N, s.cap⟩ (hF.put _ hd) hS' ⟨by simp; omega, hroom, hq.max, .inr ⟨b, _, rfl, rfl, ?_, fun j hj => ?_⟩⟩)
          · unfold setCs
            rw [hwd]
            simp only [List.length_append, List.length_take, List.length_drop, hml, e3]
            omega
          · rw [hwd]
            have hj' : j < l.length + N := by simpa using hj
            have h6 : (j + 1) * zc.length ≤ (s.len + N) * zc.length := Nat.mul_le_mul_right _ (by omega)
            rw [Nat.add_mul, Nat.one_mul, Nat.add_mul] at h6
            by_cases hjl : j < l.length
            · have h7 : (j + 1) * zc.length ≤ s.len * zc.length := Nat.mul_le_mul_right _ (by omega)
              rw [Nat.add_mul, Nat.one_mul] at h7
              have : slab (setCs cs (s.len * zc.length) (madeCells zc.toArray (N * zc.length)).toList) (j * zc.length) zc.length = slab cs (j * zc.length) zc.length := by
                unfold slab setCs
                rw [List.append_assoc, List.drop_append_of_le_length (by simp; omega), List.take_append_of_le_length (by simp; omega), List.drop_take, List.take_take, Nat.min_eq_left (by omega)]
              rw [this, List.getElem_append_left hjl]
              exact e4 j hjl
            · have : slab (setCs cs (s.len * zc.length) (madeCells zc.toArray (N * zc.length)).toList) (j * zc.length) zc.length = zc := by
                have hsr := slab_rep (zc := zc) (k := j - s.len) (n := N) (by omega)
                refine Eq.trans ?_ hsr
                unfold slab setCs
                have h8 : j * zc.length = (cs.take (s.len * zc.length)).length + (j - s.len) * zc.length := by
                  rw [List.length_take, e3, Nat.min_eq_left (Nat.mul_le_mul_right _ hcap), ← Nat.add_mul]
                  congr 1
                  omega
                have h9 : (j - s.len + 1) * zc.length ≤ N * zc.length := Nat.mul_le_mul_right _ (by omega)
                rw [Nat.add_mul, Nat.one_mul] at h9
                rw [h8, ← List.drop_drop, List.append_assoc, List.drop_left, List.drop_append_of_le_length (by rw [hml]; omega), List.take_append_of_le_length (by rw [List.length_drop, hml]; omega)]
              rw [this, List.getElem_append_right (by omega), List.getElem_replicate]
              exact hz
      · have hgr : s.cap < s.len + N := by omega
        have h63 : ((s.len + N : Nat) : Int) ≤ 9223372036854775807 := by omega
        have hfits : Builtin.nextslicecap (s.len + N) s.cap * i.bytes ≤ 281474976710656 := growslice_fits hgr (by rw [h2, ← hlen]; exact hbb)
        have hrun := run_appendZ_grow (P := P) (ty := ty) (kc := kc) (w := w) (sp := s.p) (N := N) (len := s.len) (cap := s.cap) (olds := olds) hu htn hi h3 h4 h1 hpos' (by omega) hgr h63 hfits (by rw [h2]; omega) hof
        have hS1 : St X w0 (w.drew.alloc (.cells (olds ++ ((madeCells zc.toArray (N * zc.length)).toList ++ (Builtin.zeroCells zc.toArray (grownCap w (s.len + N) s.cap E - (s.len + N))).toList)).toArray E)) m ([⟨w.heap.size, olds ++ ((madeCells zc.toArray (N * zc.length)).toList ++ (Builtin.zeroCells zc.toArray (grownCap w (s.len + N) s.cap E - (s.len + N))).toList), E⟩] :: O) := by
          have hq2 : St X w0 w m O := hS.tail
          have hb : Below w.heap.size w w.drew := (Below.refl _ _).drew
          exact (hq2.below hb).alloc _ E
        have hge := grownCap_ge w (s.len + N) s.cap E
        have hcm := grownCap_le_maxLen w (s.len + N) s.cap E (by simp only [maxLen]; omega)
        have hml : (madeCells zc.toArray (N * zc.length)).toList.length = N * zc.length := by simp [size_madeCells]
        refine wp_of_run (hev hrun) (k _ _ _ ⟨some ⟨w.heap.size, 0, none⟩, s.len + N, grownCap w (s.len + N) s.cap E⟩ (hF.put _ hd) hS1 ⟨by simp; omega, hge, hcm, .inr ⟨w.heap.size, _, rfl, rfl, ?_, fun j hj => ?_⟩⟩)
        · rw [hwd]
          simp only [List.length_append, hol, hml, Array.length_toList, size_zeroCells, List.size_toArray]
          rw [← Nat.add_mul, ← Nat.add_mul]
          congr 1
          omega
        · rw [hwd]
          have hj' : j < l.length + N := by simpa using hj
          by_cases hjl : j < l.length
          · have h7 : (j + 1) * zc.length ≤ s.len * zc.length := Nat.mul_le_mul_right _ (by omega)
            rw [Nat.add_mul, Nat.one_mul] at h7
            have : slab (olds ++ ((madeCells zc.toArray (N * zc.length)).toList ++ (Builtin.zeroCells zc.toArray (grownCap w (s.len + N) s.cap E - (s.len + N))).toList)) (j * zc.length) zc.length = slab olds (j * zc.length) zc.length := by
              unfold slab
              rw [List.drop_append_of_le_length (by omega), List.take_append_of_le_length (by simp; omega)]
            rw [this, List.getElem_append_left hjl]
            exact hord j hjl
          · have : slab (olds ++ ((madeCells zc.toArray (N * zc.length)).toList ++ (Builtin.zeroCells zc.toArray (grownCap w (s.len + N) s.cap E - (s.len + N))).toList)) (j * zc.length) zc.length = zc := by
              have hsr := slab_rep (zc := zc) (k := j - s.len) (n := N) (by omega)
              refine Eq.trans ?_ hsr
              unfold slab
              have h8 : j * zc.length = olds.length + (j - s.len) * zc.length := by
                rw [hol, ← Nat.add_mul]
                congr 1
                omega
              have h9 : (j - s.len + 1) * zc.length ≤ N * zc.length := Nat.mul_le_mul_right _ (by omega)
              rw [Nat.add_mul, Nat.one_mul] at h9
              rw [h8, ← List.drop_drop, List.drop_left, List.drop_append_of_le_length (by rw [hml]; omega), List.take_append_of_le_length (by rw [List.length_drop, hml]; omega)]
            rw [this, List.getElem_append_right (by omega), List.getElem_replicate]
            exact hz

end

/-! ### lists of lists that are the call's own down to the last cell -/

instance instRepSl : Rep Sl where
  wd := 1
  rd _ cs h := cs = [h.v]
  mono _ h := h
  len h := by subst h; rfl
  one h := by subst h; rfl

section

variable {X : List Nat} {w0 w : World} {m m' : Mem} {O O' : List Piece}

theorem St.permF {R : Piece} (h : St X w0 w m O) (hp : (O'.flatten ++ R).Perm O.flatten) : St X w0 w m O' := by
  have hsub : ∀ o ∈ O'.flatten, o ∈ O.flatten := fun o ho => hp.subset (List.mem_append_left _ ho)
  refine ⟨h.kept, h.vis, fun o ho => h.own o (hsub o ho), fun o ho => h.free o (hsub o ho), ?_⟩
  have h1 := (hp.map (·.b)).nodup_iff.2 h.nodup
  rw [List.map_append] at h1
  exact (List.nodup_append.1 h1).1

structure DD {β : Type} [Rep β] (m : Mem) (E Ei : TypeId) (q : Piece) (s : Sl) (l : List (List β)) (q0 : Piece) (hs : List Sl) (qs : List Piece) : Prop where
  eq : q = q0 ++ qs.flatten
  own : OwnL m E q0 s hs
  l1 : hs.length = l.length
  l2 : qs.length = l.length
  el : ∀ (i : Nat) (h : Sl) (p : Piece) (x : List β), hs[i]? = some h → qs[i]? = some p → l[i]? = some x → OwnL m Ei p h x

def OwnD {β : Type} [Rep β] (m : Mem) (E Ei : TypeId) (q : Piece) (s : Sl) (l : List (List β)) : Prop := ∃ q0 hs qs, DD m E Ei q s l q0 hs qs

def ViewD {β : Type} [Rep β] (m : Mem) (E Ei : TypeId) (q : Piece) (s : Sl) (l : List (List β)) (i : Int) (s' : Sl) : Prop := ∃ q0 hs qs, DD m E Ei q s l q0 hs qs ∧ hs[i.toNat]? = some s'

def AtV (q : Piece) (s : Sl) (k : Nat) (vs : List Value) : Prop := ∃ qi T, (∀ o ∈ qi, o ∈ q) ∧ AtO qi T s k vs

variable {β : Type} [Rep β] {E Ei : TypeId} {q qi : Piece} {s s' : Sl} {l : List (List β)} {i j : Int} {x : List β} {y : β}

theorem getElem?_of_lt {γ : Type} {l : List γ} {i : Nat} (h : i < l.length) : ∃ x, l[i]? = some x := ⟨l[i], by simp [h]⟩

theorem DD.mono {q0 : Piece} {hs : List Sl} {qs : List Piece} (h : DD m E Ei q s l q0 hs qs) (hm : Mem.le m m') : DD m' E Ei q s l q0 hs qs :=
  ⟨h.eq, h.own.mono hm, h.l1, h.l2, fun i a p x h1 h2 h3 => (h.el i a p x h1 h2 h3).mono hm⟩

theorem OwnD.mono (h : OwnD m E Ei q s l) (hm : Mem.le m m') : OwnD m' E Ei q s l := by
  obtain ⟨q0, hs, qs, h⟩ := h
  exact ⟨q0, hs, qs, h.mono hm⟩

theorem ViewD.mono (h : ViewD m E Ei q s l i s') (hm : Mem.le m m') : ViewD m' E Ei q s l i s' := by
  obtain ⟨q0, hs, qs, h, h2⟩ := h
  exact ⟨q0, hs, qs, h.mono hm, h2⟩

theorem ViewD.own (h : ViewD m E Ei q s l i s') : OwnD m E Ei q s l := by
  obtain ⟨q0, hs, qs, h, _⟩ := h
  exact ⟨q0, hs, qs, h⟩

instance : Flat Sl := ⟨fun h => h⟩

theorem OwnD.any [Flat β] (h : OwnD m E Ei q s l) (m' : Mem) : OwnD m' E Ei q s l := by
  obtain ⟨q0, hs, qs, h⟩ := h
  exact ⟨q0, hs, qs, h.eq, h.own.any m', h.l1, h.l2, fun i a p x h1 h2 h3 => (h.el i a p x h1 h2 h3).any m'⟩

theorem OwnD.nil (m : Mem) (E Ei : TypeId) : OwnD (β := β) m E Ei [] nilS [] :=
  ⟨[], [], [], rfl, OwnL.nil m E, rfl, rfl, fun i h p x h1 => by simp at h1⟩

theorem OwnD.len (h : OwnD m E Ei q s l) : l.length = s.len := by
  obtain ⟨q0, hs, qs, h⟩ := h
  rw [← h.l1, h.own.len]

theorem DD.hdr {q0 : Piece} {hs : List Sl} {qs : List Piece} (h : DD m E Ei q s l q0 hs qs) (hx : goAt l i = some x) :
    ∃ a p, hs[i.toNat]? = some a ∧ qs[i.toNat]? = some p ∧ OwnL m Ei p a x ∧ goAt hs i = some a := by
  obtain ⟨h0, h1⟩ := goAt_some hx
  have hlt := (List.getElem?_eq_some_iff.1 h1).1
  obtain ⟨a, ha⟩ := getElem?_of_lt (l := hs) (i := i.toNat) (by rw [h.l1]; exact hlt)
  obtain ⟨p, hp⟩ := getElem?_of_lt (l := qs) (i := i.toNat) (by rw [h.l2]; exact hlt)
  refine ⟨a, p, ha, hp, h.el _ _ _ _ ha hp h1, ?_⟩
  unfold goAt
  rw [show decide (0 ≤ i) = true by simpa using h0]
  exact ha

theorem OwnD.idx (h : OwnD m E Ei q s l) (hx : goAt l i = some x) : Idx s i := by
  obtain ⟨q0, hs, qs, h⟩ := h
  obtain ⟨a, p, h1, h2, h3, h4⟩ := h.hdr hx
  exact h.own.idx h4

theorem OwnD.view (h : OwnD m E Ei q s l) (hx : goAt l i = some x) : ∃ s', ViewD m E Ei q s l i s' := by
  obtain ⟨q0, hs, qs, h⟩ := h
  obtain ⟨a, p, h1, h2, h3, h4⟩ := h.hdr hx
  exact ⟨a, q0, hs, qs, h, h1⟩

theorem AtO.sub {T : TypeId} {k : Nat} {vs : List Value} (h : AtO qi T s k vs) (hs : ∀ o ∈ qi, o ∈ q) : AtV q s k vs := ⟨qi, T, hs, h⟩

theorem AtV.at {k : Nat} {vs : List Value} (h : AtV q s k vs) (j : Nat) (hj : O[j]? = some q) : AtM m O s k vs := fun X w0 w hS => by
  obtain ⟨qi, T, hs, b, cs, rfl, h2, h3, h4⟩ := h
  have hh := hS.own ⟨b, cs, T⟩ (List.mem_flatten.2 ⟨_, List.mem_of_getElem? hj, hs _ (List.mem_singleton.2 rfl)⟩)
  exact ⟨b, 0, cs.toArray, T, (0, 0), h2, hh, by simpa using h3, by simpa using h4⟩

theorem ViewD.atH (h : ViewD m E Ei q s l i s') (hx : goAt l i = some x) : AtV q s (i.toNat * 1) [s'.v] := by
  obtain ⟨q0, hs, qs, h, h2⟩ := h
  obtain ⟨a, p, h3, _, _, h4⟩ := h.hdr hx
  rw [h2] at h3
  obtain rfl := Option.some.inj h3
  obtain ⟨vs, h5, rfl⟩ := h.own.at h4 1 rfl
  exact h5.sub fun o ho => by rw [h.eq]; exact List.mem_append_left _ ho

theorem mem_flatten_of {qs : List Piece} {k : Nat} {p : Piece} (h : qs[k]? = some p) {o : OBlk} (ho : o ∈ p) : o ∈ qs.flatten :=
  List.mem_flatten.2 ⟨p, List.mem_of_getElem? h, ho⟩

theorem ViewD.inner (h : ViewD m E Ei q s l i s') (hx : goAt l i = some x) : ∃ p, (∀ o ∈ p, o ∈ q) ∧ OwnL m Ei p s' x := by
  obtain ⟨q0, hs, qs, h, h2⟩ := h
  obtain ⟨a, p, h3, h4, h5, _⟩ := h.hdr hx
  rw [h2] at h3
  obtain rfl := Option.some.inj h3
  exact ⟨p, fun o ho => by rw [h.eq]; exact List.mem_append_right _ (mem_flatten_of h4 ho), h5⟩

theorem ViewD.len (h : ViewD m E Ei q s l i s') (hx : goAt l i = some x) : x.length = s'.len := by
  obtain ⟨p, _, h⟩ := h.inner hx
  exact h.len

theorem ViewD.idx (h : ViewD m E Ei q s l i s') (hx : goAt l i = some x) (hy : goAt x j = some y) : Idx s' j := by
  obtain ⟨p, _, h⟩ := h.inner hx
  exact h.idx hy

theorem ViewD.at (h : ViewD m E Ei q s l i s') (hx : goAt l i = some x) (hy : goAt x j = some y) (n : Nat) (hn : Rep.wd β = n) : ∃ vs, AtV q s' (j.toNat * n) vs ∧ Rep.rd m vs y := by
  obtain ⟨p, hp, h⟩ := h.inner hx
  obtain ⟨vs, h1, h2⟩ := h.at hy n hn
  exact ⟨vs, h1.sub hp, h2⟩

theorem ViewD.froz (h : ViewD m E Ei q s l i s') (hx : goAt l i = some x) (hm : Mem.le m m') (hq : ∀ o ∈ q, m' o.b = some o.cs) : Rd m' s' x := by
  obtain ⟨p, hp, h⟩ := h.inner hx
  exact h.froz hm fun o ho => hq o (hp o ho)

theorem ViewD.vw (h : ViewD m E Ei q s l i s') (hx : goAt l i = some x) (hS : St X w0 w m O) {j : Nat} (hj : O[j]? = some q) : Vw m w s' x := by
  obtain ⟨p, hp, h⟩ := h.inner hx
  exact h.vw' fun o ho => ⟨(0, 0), hS.own o (List.mem_flatten.2 ⟨q, List.mem_of_getElem? hj, hp o ho⟩)⟩

theorem OwnD.froz (h : OwnD m E Ei q s l) (hm : Mem.le m m') (hq : ∀ o ∈ q, m' o.b = some o.cs) : Rd m' s l := by
  obtain ⟨q0, hs, qs, h⟩ := h
  have h0 : Rd m' s hs := h.own.froz hm fun o ho => hq o (by rw [h.eq]; exact List.mem_append_left _ ho)
  refine ⟨by rw [← h.l1]; exact h0.len, h0.cap, h0.max, h0.nil, fun k hk => ?_⟩
  have hk1 : k < hs.length := by rw [h.l1]; exact hk
  obtain ⟨b, off, cs, h1, h2, h3, h4⟩ := h0.el k hk1
  refine ⟨b, off, cs, h1, h2, h3, hs[k], h4, ?_⟩
  obtain ⟨p, hp⟩ := getElem?_of_lt (l := qs) (i := k) (by rw [h.l2]; exact hk)
  exact (h.el k hs[k] p l[k] (by simp [hk1]) hp (by simp [hk])).froz hm fun o ho => hq o (by rw [h.eq]; exact List.mem_append_right _ (mem_flatten_of hp ho))

theorem flatten_set_perm {qs : List Piece} {k : Nat} {p p' : Piece} (h : qs[k]? = some p) : ((qs.set k p').flatten ++ p).Perm (p' ++ qs.flatten) := by
  induction qs generalizing k with
  | nil => simp at h
  | cons a qs ih =>
    cases k with
    | zero =>
      simp only [List.getElem?_cons_zero, Option.some.injEq] at h
      subst h
      simp only [List.set_cons_zero, List.flatten_cons, List.append_assoc]
      exact List.Perm.append_left _ List.perm_append_comm
    | succ k =>
      simp only [List.getElem?_cons_succ] at h
      simp only [List.set_cons_succ, List.flatten_cons]
      have := ih h
      calc (a ++ (qs.set k p').flatten ++ p).Perm (a ++ ((qs.set k p').flatten ++ p)) := by rw [List.append_assoc]
        _ |>.Perm (a ++ (p' ++ qs.flatten)) := List.Perm.append_left _ this
        _ |>.Perm (p' ++ (a ++ qs.flatten)) := by
          rw [← List.append_assoc, ← List.append_assoc]
          exact List.Perm.append_right _ List.perm_append_comm

end

section

variable {P : Program} {L : List (Nat × Value)} {m : Mem} {O : List Piece} {d : Option Tmp} {ty : TypeId} {p : String} {af : Array Edge} {g : Option (Nat × Bool)} {x y : Operand}

variable {a : Act} {n : Nat} {X : List Nat} {w0 w : World} {K : Act → World → Prop} {Q : Exit → Act → World → Prop} {β : Type} [Rep β] {l r l1 l2 : List (List β)}

theorem wp_makeD {t E Ei : TypeId} {kl kc : IntKind} {c : Int} {by' : Nat} {zc : List Value} (hF : FrD DS a n L) (hS : St X w0 w m O) (hu : P.underlying t = some (.slice E)) (hI : inf P E = some (1, by', zc)) (hzc : zc = [nilS.v])
    (hx : evo L x = some (.int kl c)) (hy : evo L y = some (.int kc c)) (hby : 1 ≤ by') (hr : goMake by' c ([] : List β) = some l) (hd : dok d n = true)
    (k : ∀ a' w' q s, FrD DS a' n (putL d s.v L) → St X w0 w' m (q :: O) → OwnD m E Ei q s l → Below w.heap.size w w' → K a' w') :
    (⟨d, .makeSlice t x y, ty, p, af, g⟩ : Oper).wp P a w K Q := by
  subst hzc
  unfold goMake at hr
  cases hb : (decide (0 ≤ c) && decide ((by' : Int) * c ≤ 281474976710656) && decide (c ≤ 9223372036854775807)) with
  | false => rw [hb] at hr; cases hr
  | true =>
    rw [hb] at hr
    obtain rfl := (Option.some.inj hr).symm
    refine wp_make (α := Sl) (z := nilS) (l := List.replicate c.toNat nilS) hF hS hu hI rfl hx hy rfl rfl hby (by unfold goMake; rw [hb]; rfl) hd fun a' w' q s hF' hS' hq hb' => ?_
    refine k a' w' q s hF' hS' ⟨q, List.replicate c.toNat nilS, List.replicate c.toNat [], ?_, hq, by simp, by simp, fun i h p x h1 h2 h3 => ?_⟩ hb'
    · have : (List.replicate c.toNat ([] : Piece)).flatten = [] := by simp
      rw [this, List.append_nil]
    · rw [List.getElem?_replicate] at h1 h2 h3
      split at h1
      · rename_i hlt
        rw [if_pos hlt] at h2 h3
        obtain rfl := Option.some.inj h1
        obtain rfl := Option.some.inj h2
        obtain rfl := Option.some.inj h3
        exact OwnL.nil m Ei
      · cases h1

end

/-! ### a slice against nil -/

section

variable {P : Program} {L : List (Nat × Value)} {m : Mem} {O : List Piece} {d : Option Tmp} {ty : TypeId} {p : String} {af : Array Edge} {g : Option (Nat × Bool)} {x y : Operand}

theorem run_equal_nilS (t e : TypeId) (a : Option Addr) (l c : Nat) (w : World) (h : P.underlying t = some (.slice e)) : (Op.equal t (.slice a l c) (.slice none 0 0)).run P w = .ok a.isNone w := by
  show (Op.equalIn (9999 + 1) t (.slice a l c) (.slice none 0 0)).run P w = _
  generalize 9999 = k
  cases a <;> simp [Op.equalIn, run_underlying h]

theorem ex_eqNil {t yt e : TypeId} {s : Sl} (hu : P.underlying t = some (.slice e)) (hx : evo L x = some s.v) (hy : evo L y = some nilS.v) : Ex P ⟨d, .binOp .eql t x y yt, ty, p, af, g⟩ L m O (.bool s.p.isNone) := fun _ a n X w0 w hF _ => by
  simp only [execOp, hF.eval hx, hF.eval hy, eqGuard]
  simp [binOp, run_equal_nilS t e s.p s.len s.cap w hu]

theorem Rd.nilE {α : Type} [Rep α] {s : Sl} {l : List α} (h : Rd m s l) (hc : s.p.isNone = true) : l = [] := by
  have h1 := h.nil (by simpa using hc)
  exact List.eq_nil_of_length_eq_zero (by rw [h.len]; exact h1.1)

theorem OwnL.nilE {α : Type} [Rep α] {T : TypeId} {q : Piece} {s : Sl} {l : List α} (h : OwnL m T q s l) (hc : s.p.isNone = true) : l = [] := by
  have hp : s.p = none := by simpa using hc
  refine List.eq_nil_of_length_eq_zero ?_
  rcases h.blk with ⟨_, _, h3⟩ | ⟨b, cs, _, h2, _⟩
  · have := h.cap; have := h.len; omega
  · rw [hp] at h2; cases h2

end

/-! ### what a plain function comes to -/

def Tot {α : Type} (x : Option α) (Q : α → Prop) : Prop := ∃ r, x = some r ∧ Q r

section

variable {α β σ ρ : Type} {x y : Option α} {P Q : α → Prop} {R : β → Prop} {f : α → Option β}

theorem tot_some {r : α} (h : Q r) : Tot (some r) Q := ⟨r, rfl, h⟩

theorem tot_bind (h : Tot x Q) (k : ∀ t, Q t → Tot (f t) R) : Tot (x.bind f) R := by
  obtain ⟨r, rfl, hr⟩ := h
  exact k r hr

theorem tot_cond {b : Bool} (h1 : b = true → Tot x Q) (h2 : b = false → Tot y Q) : Tot (cond b x y) Q := by
  cases b
  · exact h2 rfl
  · exact h1 rfl

theorem tot_loop {body : σ → Option (Stp σ ρ)} {Q : ρ → Prop} {s : σ} (I : σ → Prop) (μ : σ → Nat) (h0 : I s)
    (h : ∀ s, I s → Tot (body s) (fun st => match st with | .next s' => I s' ∧ μ s' < μ s | .done r => Q r)) : Tot (loopC body s) Q := by
  refine loopC_inv I μ Q (fun s hs => ?_) s h0
  obtain ⟨st, e, hq⟩ := h s hs
  cases st with
  | next s' => exact .inr ⟨s', e, hq⟩
  | done r => exact .inl ⟨r, e, hq⟩

theorem tot_at {l : List α} {i : Int} (h0 : 0 ≤ i) (h1 : i < l.length) (hq : ∀ e, l[i.toNat]? = some e → e ∈ l → Q e) : Tot (goAt l i) Q := by
  have hlt : i.toNat < l.length := by omega
  have e : l[i.toNat]? = some l[i.toNat] := by simp [hlt]
  refine ⟨l[i.toNat], ?_, hq _ e (List.getElem_mem hlt)⟩
  unfold goAt
  rw [decide_eq_true h0]
  exact e

theorem tot_rem {a b : Int} {Q : Int → Prop} (h : b ≠ 0) (hq : Q (a.tmod b)) : Tot (goRem a b) Q := by
  refine ⟨_, ?_, hq⟩
  unfold goRem
  rw [show (b == 0) = false by simpa using h]
  rfl

theorem tot_eq {r : α} (h : Tot x (fun z => z = r)) : x = some r := by
  obtain ⟨z, e, rfl⟩ := h
  exact e

theorem cond_some {b : Bool} {x y : α} : cond b (some x) (some y) = some (cond b x y) := by cases b <;> rfl

end

def Bis (x : Option Bool) (P : Prop) : Prop := ∃ b : Bool, x = some b ∧ (b = true ↔ P)

section

variable {α : Type} {x y : Option Bool} {P Q : Prop}

theorem bis_iff (h : Bis x P) (hpq : P ↔ Q) : Bis x Q := by
  obtain ⟨b, e, hb⟩ := h
  exact ⟨b, e, hb.trans hpq⟩

theorem bis_same (h1 : Bis x P) (h2 : Bis y P) : ∃ b : Bool, x = some b ∧ y = some b ∧ (b = true ↔ P) := by
  obtain ⟨b, rfl, hb⟩ := h1
  obtain ⟨c, rfl, hc⟩ := h2
  have : b = c := by
    rw [Bool.eq_iff_iff, hb, hc]
  subst this
  exact ⟨b, rfl, rfl, hb⟩

theorem bis_nand {b : Bool} (hb : b = true ↔ Q) (h : b = true → Bis x P) : Bis (cond (!b) (some false) x) (Q ∧ P) := by
  cases b with
  | false => exact ⟨false, rfl, by simp [show ¬ Q from fun h => by have := hb.2 h; simp at this]⟩
  | true => exact bis_iff (h rfl) (by simp [hb.1 rfl])

theorem bis_loop {l : List α} (p : Nat → α → Prop) {body : Int → Option (Stp Int (Unit ⊕ Bool))}
    (h1 : ∀ k x, l[k]? = some x → ∃ b : Bool, (b = true ↔ p k x) ∧ body k = some (cond b (.next ((k + 1 : Nat) : Int)) (.done (.inr false))))
    (h2 : body l.length = some (.done (.inl ()))) : Bis ((loopC body 0).bind fun | .inl () => some true | .inr o => some o) (∀ k x, l[k]? = some x → p k x) := by
  suffices h : ∀ (j k : Nat), k + j = l.length → (∀ i x, i < k → l[i]? = some x → p i x) → Bis ((loopC body (k : Int)).bind fun | .inl () => some true | .inr o => some o) (∀ k x, l[k]? = some x → p k x) from
    h l.length 0 (by omega) (fun i x hi => by omega)
  intro j
  induction j with
  | zero =>
    intro k hk hp
    obtain rfl : k = l.length := by omega
    rw [loopC_eq, h2]
    exact ⟨true, rfl, by simp only [true_iff]; exact fun i x hx => hp i x (List.getElem?_eq_some_iff.1 hx).1 hx⟩
  | succ j ih =>
    intro k hk hp
    have hlt : k < l.length := by omega
    have hx : l[k]? = some l[k] := by simp [hlt]
    obtain ⟨b, hb, e⟩ := h1 k l[k] hx
    rw [loopC_eq, e]
    cases b with
    | true =>
      refine ih (k + 1) (by omega) fun i x hi hix => ?_
      by_cases hik : i = k
      · subst hik
        rw [hx] at hix
        obtain rfl := Option.some.inj hix
        exact hb.1 rfl
      · exact hp i x (by omega) hix
    | false =>
      refine ⟨false, rfl, ?_⟩
      simp only [Bool.false_eq_true, false_iff]
      exact fun hall => by have := hb.2 (hall k l[k] hx); simp at this

end

/-! ### strings -/

def goStrAt (l : List UInt8) (i : Int) : Option Int := cond (decide (0 ≤ i)) (l[i.toNat]?.map fun b => (b.toNat : Int)) none

def goCat (a b : List UInt8) : Option (List UInt8) := cond (decide (a.length + b.length ≤ 9223372036854775807)) (some (a ++ b)) none

def goBytes (l : List (K .u8)) : List UInt8 := l.map fun x => UInt8.ofNat x.v.toNat

theorem bytes_size (l : List UInt8) : (ByteArray.mk l.toArray).size = l.length := by simp [ByteArray.size]

section

variable {P : Program} {L : List (Nat × Value)} {m : Mem} {O : List Piece} {d : Option Tmp} {ty : TypeId} {p : String} {af : Array Edge} {g : Option (Nat × Bool)} {x y : Operand} {l r : List UInt8}

theorem ex_strLen {t : TypeId} (hu : P.underlying t = some .string) (hx : evo L x = some (strV l)) : Ex P ⟨d, .call { callee := .builtin .len, args := #[x], argTypes := #[t] }, ty, p, af, g⟩ L m O (.int .i64 (goLen l)) := fun _ a n X w0 w hF _ => by
  simp [execOp, resolve, invoke, builtin, Builtin.len_, hF.eval hx, run_underlying hu, goInt, goLen, bytes_size]

theorem ex_strIdx {t : TypeId} {k : IntKind} {i v : Int} (hu : P.underlying t = some .string) (hx : evo L x = some (strV l)) (hy : evo L y = some (.int k i)) (h : goStrAt l i = some v) : Ex P ⟨d, .index t x y, ty, p, af, g⟩ L m O (.int .u8 v) := fun _ a n X w0 w hF _ => by
  unfold goStrAt at h
  cases hb : decide (0 ≤ i) with
  | false => rw [hb] at h; cases h
  | true =>
    rw [hb] at h
    simp only [cond_true, Option.map_eq_some_iff] at h
    obtain ⟨b, h1, rfl⟩ := h
    obtain ⟨h2, h3⟩ := List.getElem?_eq_some_iff.1 h1
    have h0 : 0 ≤ i := by simpa using hb
    have hi : 0 ≤ i ∧ i < (ByteArray.mk l.toArray).size := by rw [bytes_size]; omega
    have hr := run_index_string (P := P) w t ⟨l.toArray⟩ k i hu
    rw [dif_pos hi] at hr
    simp only [execOp, hF.eval hx, hF.eval hy, Sem.run_bind, hr, Result.andThen_ok, Sem.run_pure]
    have e : (ByteArray.mk l.toArray)[i.toNat]'(by omega) = l[i.toNat] := by
      show l.toArray[i.toNat] = l[i.toNat]
      simp
    rw [e, h3]

theorem ex_strEq {xt yt : TypeId} (hx : evo L x = some (strV l)) (hy : evo L y = some (strV r)) : Ex P ⟨d, .binOp .eql xt x y yt, ty, p, af, g⟩ L m O (.bool (l == r)) := fun _ a n X w0 w hF _ => by
  simp only [execOp, hF.eval hx, hF.eval hy, eqGuard]
  simp [binOp_string_eql]

theorem ex_strCat {xt yt : TypeId} {v : List UInt8} (hx : evo L x = some (strV l)) (hy : evo L y = some (strV r)) (h : goCat l r = some v) : Ex P ⟨d, .binOp .add xt x y yt, ty, p, af, g⟩ L m O (strV v) := fun _ a n X w0 w hF _ => by
  unfold goCat at h
  cases hb : decide (l.length + r.length ≤ 9223372036854775807) with
  | false => rw [hb] at h; cases h
  | true =>
    rw [hb] at h
    obtain rfl := (Option.some.inj h).symm
    have hle : l.length + r.length ≤ 9223372036854775807 := by simpa using hb
    have hn : ¬ ((((ByteArray.mk l.toArray).size + (ByteArray.mk r.toArray).size : Nat) : Int) > IntKind.i64.max) := by
      rw [bytes_size, bytes_size]
      have : IntKind.i64.max = 9223372036854775807 := by decide
      rw [this]
      omega
    have e : (ByteArray.mk l.toArray) ++ (ByteArray.mk r.toArray) = ByteArray.mk (l ++ r).toArray := by
      apply ByteArray.ext
      simp
    simp only [execOp, hF.eval hx, hF.eval hy, eqGuard]
    simp only [binOp_string_add, Op.stringOp, if_neg hn, e]
    simp

theorem byteCells_fold (ns : List Int) (s : ByteArray) : ns.foldl (fun r n => r.push (UInt8.ofNat n.toNat)) s = ⟨s.data ++ (ns.map fun n => UInt8.ofNat n.toNat).toArray⟩ := by
  induction ns generalizing s with
  | nil => simp
  | cons n ns ih =>
    rw [List.foldl_cons, ih]
    apply ByteArray.ext
    simp [ByteArray.push]

theorem ex_toStr {t t' e : TypeId} {s : Sl} {b : List (K .u8)} (hu : P.underlying t = some (.slice e)) (he : P.underlying e = some (.int .u8)) (hd : P.underlying t' = some .string) (hx : evo L x = some s.v) (hv : ∀ (X : List Nat) (w0 w : World), St X w0 w m O → Vw m w s b) :
    Ex P ⟨d, .convert t t' x, ty, p, af, g⟩ L m O (strV (goBytes b)) := fun _ a n X w0 w hF hS => by
  have h := hv X w0 w hS
  have hr : (convert t t' s.v).run P w = .ok (strV (goBytes b)) w := by
    rw [run_convert_bytes_string w t t' e s.p s.len s.cap hu he hd]
    by_cases hne : 0 < b.length
    · obtain ⟨ad, news, hp, hnl, hnews, hnrd⟩ := h.cells hne
      have hwd : Rep.wd (K .u8) = 1 := rfl
      rw [hwd, Nat.mul_one] at hnl
      have hcells : news = b.map fun z => Value.int .u8 z.v := by
        apply List.ext_getElem?
        intro i
        by_cases hi : i < b.length
        · have h1 : slab news (i * 1) 1 = [Value.int .u8 b[i].v] := hnrd i hi
          unfold slab at h1
          rw [Nat.mul_one] at h1
          have h2 := congrArg (fun q => q[0]?) h1
          simp only [List.getElem?_take, List.getElem?_drop] at h2
          simp at h2
          rw [h2]
          simp [hi]
        · rw [List.getElem?_eq_none (by rw [hnl, ← h.len]; omega), List.getElem?_eq_none (by simp; omega)]
      have hl := run_loadCells_list (P := P) w ad news (fun j u hj => hnews j u hj)
      rw [hnl] at hl
      have hl2 : (loadCells ad s.len).run P w = .ok ((b.map (·.v)).map (Value.int .u8)).toArray w := by
        rw [hl, hcells, List.map_map]; rfl
      rw [hp, run_bytesToString w ad s.len s.cap _ hl2, byteCells_fold]
      have : ByteArray.empty.data = #[] := rfl
      rw [this]
      simp [goBytes, List.map_map, Function.comp_def]
    · have hb : b = [] := List.eq_nil_of_length_eq_zero (by omega)
      subst hb
      have hlen : s.len = 0 := by rw [← h.len]; rfl
      cases hp : s.p with
      | none => simp [Conv.bytesToString, goBytes]; rfl
      | some ad =>
        have hl2 : (loadCells ad s.len).run P w = .ok (([] : List Int).map (Value.int .u8)).toArray w := by
          rw [hlen]
          have := run_loadCells_list (P := P) w ad [] (fun j u hj => by simp at hj)
          simpa using this
        rw [run_bytesToString w ad s.len s.cap _ hl2]
        rfl
  simp only [execOp, hF.eval hx, Sem.run_bind, hr, Result.andThen_ok, Sem.run_pure]

end

abbrev iV (n : Int) : Value := .int .i64 n

/-! ### function values with what they hold -/

section

variable {P : Program} {L : List (Nat × Value)} {m : Mem} {O O0 O1 : List Piece} {a : Act} {n : Nat} {X : List Nat} {w0 w : World} {Q : Exit → Act → World → Prop} {K : Act → World → Prop}

variable {d : Option Tmp} {ty : TypeId} {p : String} {af : Array Edge} {g : Option (Nat × Bool)} {ops : Array Oper} {rest : List Oper} {x : Operand}

theorem ex_makeFunc {f : FuncId} {cs : List Operand} {vs : List Value} (hc : evs L cs = some vs) : Ex P ⟨d, .makeFunc (.func f) #[] cs.toArray, ty, p, af, g⟩ L m O (.func (.func f) #[] vs.toArray) :=
  fun _ a n X w0 w hF _ => by
    have e : cs.toArray.map a.eval = vs.toArray := by simp [hF.evs hc]
    simp [execOp, Instr.makeFunc, hF.evs hc]

theorem run_callv {o : Oper} {f : FuncId} {fn : Func} {args : Array Operand} {ats : Array TypeId} {cap : List Value} (hop : o.op = .call { callee := .value x, args, argTypes := ats })
    (hx : a.eval x = .func (.func f) #[] cap.toArray) (hf : P.funcs[f]? = some fn) (hname : (fn.name == "runtime.NumGoroutine") = false) (hb : fn.body.isNone = false) : (execOp a.eval o).run P w = .ok (.enter f (args.map a.eval ++ cap.toArray)) w := by
  have h1 : ¬ fn.name = "runtime.NumGoroutine" := by simpa using hname
  have h2 : ¬ fn.body = none := by cases hx : fn.body <;> simp_all
  unfold execOp
  simp [hop, resolve, hx, Deferred.ofValue, invoke, callFunc, hf, h1, h2]

theorem wp_callV {f : FuncId} {fn : Func} {args : List Operand} {ats : Array TypeId} {vs cap : List Value} {R : Value → World → Prop} (hF : FrD DS a n L)
    (hx : evo L x = some (.func (.func f) #[] cap.toArray))
    (hf : P.funcs[f]? = some fn) (hname : (fn.name == "runtime.NumGoroutine") = false) (hb : fn.body.isNone = false) (hargs : evs L args = some vs) (hd : dok d n = true)
    (hc : RetX P f (vs ++ cap) w R) (k : ∀ a' w' v, R v w' → FrD DS a' n (putL d v L) → K a' w') :
    (⟨d, .call { callee := .value x, args := args.toArray, argTypes := ats }, ty, p, af, g⟩ : Oper).wp P a w K Q := by
  unfold Oper.wp
  rw [run_callv (a := a) (w := w) (cap := cap) rfl (hF.eval hx) hf hname hb]
  have e : args.toArray.map a.eval ++ cap.toArray = (vs ++ cap).toArray := by simp [hF.evs hargs]
  rw [e]
  refine Calls.mono hc ?_
  rintro e w' ⟨v, rfl, hR⟩
  exact k _ _ _ hR (hF.put _ hd)

variable {Ld : LdB} {f : Nat} {l : Array Bool}

end

/-! ### nil told apart from empty -/

def NF {α : Type} (s : Sl) (l : List α) : Prop := l.isEmpty = true → s.p = none

def goNE {α : Type} (l : List α) : Option Unit := cond l.isEmpty none (some ())

section

variable {α : Type} {s : Sl} {l x : List α}

theorem NF.nil : NF nilS ([] : List α) := fun _ => rfl

theorem NF.cons {a : α} : NF s (a :: l) := fun h => by cases h

theorem NF.goNE {u : Unit} (h : goNE l = some u) : NF s l := fun hl => by unfold Gx.goNE at h; rw [hl] at h; cases h

end

section

variable {P : Program} {L : List (Nat × Value)} {m : Mem} {O : List Piece} {d : Option Tmp} {ty : TypeId} {p : String} {af : Array Edge} {g : Option (Nat × Bool)} {x y : Operand}

variable {α : Type} {s : Sl} {l : List α}

theorem nf_isNone (hn : NF s l) (hf : s.p.isNone = true → l = []) : s.p.isNone = l.isEmpty := by
  cases h : l.isEmpty with
  | true => rw [hn h]; rfl
  | false =>
    cases hp : s.p.isNone with
    | false => rfl
    | true => rw [hf hp] at h; simp at h

theorem ex_eqNilF {t yt e : TypeId} (hu : P.underlying t = some (.slice e)) (hn : NF s l) (hf : s.p.isNone = true → l = []) (hx : evo L x = some s.v) (hy : evo L y = some nilS.v) : Ex P ⟨d, .binOp .eql t x y yt, ty, p, af, g⟩ L m O (.bool l.isEmpty) := by
  rw [← nf_isNone hn hf]; exact ex_eqNil hu hx hy

end

/-! ### a part is taken out of a slice of the call's own -/

def goDel {α : Type} (l : List α) (i j : Int) : Option (List α) := cond (decide (0 ≤ i) && decide (i < j) && decide (j ≤ (l.length : Int))) (some (l.take i.toNat ++ l.drop j.toNat)) none

def delS (s : Sl) (n : Nat) : Sl := ⟨s.p, n, s.cap⟩

section

variable {P : Program} {L : List (Nat × Value)} {m : Mem} {O : List Piece} {d : Option Tmp} {ty : TypeId} {p : String} {af : Array Edge} {g : Option (Nat × Bool)} {x y : Operand}

variable {a : Act} {n : Nat} {X : List Nat} {w0 w : World} {K : Act → World → Prop} {Q : Exit → Act → World → Prop} {α : Type} [Rep α] {l r : List α}

end

def goLe (i j : Int) : Option Unit := cond (decide (i ≤ j)) (some ()) none

section

variable {P : Program} {L : List (Nat × Value)} {m : Mem} {O : List Piece} {d : Option Tmp} {ty : TypeId} {p : String} {af : Array Edge} {g : Option (Nat × Bool)} {x : Operand}

end

/-! ### arrays at an index that turns; parts of arrays -/

def goIx (n : Nat) (i : Int) : Option Unit := cond (decide (0 ≤ i) && decide (i < (n : Int))) (some ()) none

section

variable {P : Program} {L : List (Nat × Value)} {m : Mem} {O : List Piece} {d : Option Tmp} {ty : TypeId} {p : String} {af : Array Edge} {g : Option (Nat × Bool)} {x y : Operand}

end

/-! ### an element of a deep list is taken out, and put back longer -/

section

variable {X : List Nat} {w0 w : World} {m m' : Mem} {O O' : List Piece}

variable {β : Type} [Rep β] {E Ei : TypeId} {q qi : Piece} {s s' : Sl} {l : List (List β)} {i j : Int} {x : List β} {y : β}

def OwnH {β : Type} [Rep β] (m : Mem) (E Ei : TypeId) (q : Piece) (s : Sl) (l : List (List β)) (i : Int) : Prop :=
  ∃ (q0 : Piece) (hs : List Sl) (qs : List Piece), q = q0 ++ qs.flatten ∧ OwnL m E q0 s hs ∧ hs.length = l.length ∧ qs.length = l.length ∧ qs[i.toNat]? = some [] ∧
    ∀ (k : Nat) (h : Sl) (p : Piece) (z : List β), k ≠ i.toNat → hs[k]? = some h → qs[k]? = some p → l[k]? = some z → OwnL m Ei p h z

theorem St.takeV (hS : St X w0 w m (q :: O)) (h : ViewD m E Ei q s l i s') (hx : goAt l i = some x) : ∃ qi q1, St X w0 w m (qi :: q1 :: O) ∧ OwnL m Ei qi s' x ∧ OwnH m E Ei q1 s l i := by
  obtain ⟨q0, hs, qs, h, hh⟩ := h
  obtain ⟨h0, p0, e1, e2, e3, e4⟩ := h.hdr hx
  rw [hh] at e1
  obtain rfl := Option.some.inj e1
  have l2 := (List.getElem?_eq_some_iff.1 e2).1
  refine ⟨p0, q0 ++ (qs.set i.toNat []).flatten, ?_, e3, q0, hs, qs.set i.toNat [], rfl, h.own, h.l1, by simp [h.l2], by simp [l2], fun k h1 p1 z hk f1 f2 f3 => ?_⟩
  · exact hS.permF (R := []) (by
      simp only [List.flatten_cons, List.append_nil, h.eq, ← List.append_assoc]
      refine List.Perm.append_right _ ?_
      have hp := flatten_set_perm (p' := []) e2
      refine List.Perm.trans (l₂ := q0 ++ p0 ++ (qs.set i.toNat []).flatten) (List.Perm.append_right _ List.perm_append_comm) ?_
      rw [List.append_assoc]
      exact List.Perm.append_left _ (List.perm_append_comm.trans hp))
  · rw [List.getElem?_set_ne (Ne.symm hk)] at f2
    exact h.el k h1 p1 z f1 f2 f3

theorem OwnH.mono (h : OwnH m E Ei q s l i) (hm : Mem.le m m') : OwnH m' E Ei q s l i := by
  obtain ⟨q0, hs, qs, h1, h2, h3, h4, h5, h6⟩ := h
  exact ⟨q0, hs, qs, h1, h2.mono hm, h3, h4, h5, fun k a p z hk f1 f2 f3 => (h6 k a p z hk f1 f2 f3).mono hm⟩

theorem OwnH.hdr (h : OwnH m E Ei q s l i) (hx : goAt l j = some x) : ∃ (q0 : Piece) (hs : List Sl) (a : Sl), OwnL m E q0 s hs ∧ goAt hs j = some a := by
  obtain ⟨q0, hs, qs, h1, h2, h3, h4, h5, h6⟩ := h
  obtain ⟨h0, hx1⟩ := goAt_some hx
  have hlt := (List.getElem?_eq_some_iff.1 hx1).1
  obtain ⟨a, ha⟩ := getElem?_of_lt (l := hs) (i := j.toNat) (by rw [h3]; exact hlt)
  refine ⟨q0, hs, a, h2, ?_⟩
  unfold goAt
  rw [show decide (0 ≤ j) = true by simpa using h0]
  exact ha

theorem OwnH.idx (h : OwnH m E Ei q s l i) (hx : goAt l j = some x) : Idx s j := by
  obtain ⟨q0, hs, a, h1, h2⟩ := OwnH.hdr h hx
  exact h1.idx h2

end

section

variable {P : Program} {L : List (Nat × Value)} {m : Mem} {O : List Piece} {d : Option Tmp} {ty : TypeId} {p : String} {af : Array Edge} {g : Option (Nat × Bool)} {x y : Operand}

variable {a : Act} {n : Nat} {X : List Nat} {w0 w : World} {K : Act → World → Prop} {Q : Exit → Act → World → Prop} {β : Type} [Rep β] {l : List (List β)}

theorem wp_storeH {t E Ei : TypeId} {q qi : Piece} {s s2 : Sl} {k' : Nat} {i : Int} {x0 x2 : List β} (hF : FrD DS a n L) (hS : St X w0 w m (q :: qi :: O)) (hq : OwnH m E Ei q s l i) (hqi : OwnL m Ei qi s2 x2) (hz : szOf P t = some 1)
    (hx : evo L x = some (elP s k')) (hy : evo L y = some s2.v) (hi : goAt l i = some x0) (hk : k' = i.toNat * 1)
    (kk : ∀ w' q', St X w0 w' m (q' :: O) → OwnD m E Ei q' s (goSet l i x2) → K a w') :
    (⟨none, .store t x y, ty, p, af, g⟩ : Oper).wp P a w K Q := by
  obtain ⟨q0, hs, qs, e0, ho, l1, l2, l5, hel⟩ := hq
  obtain ⟨hi0, hi1⟩ := goAt_some hi
  have hlt := (List.getElem?_eq_some_iff.1 hi1).1
  obtain ⟨h0, ha⟩ := getElem?_of_lt (l := hs) (i := i.toNat) (by rw [l1]; exact hlt)
  have e4 : goAt hs i = some h0 := by
    unfold goAt
    rw [show decide (0 ≤ i) = true by simpa using hi0]
    exact ha
  obtain ⟨vs, hat, rfl⟩ := ho.at e4 1 rfl
  have hS1 : St X w0 w m (q0 :: qs.flatten :: qi :: O) := hS.permF (R := []) (by simp [e0])
  refine wp_storeE (α := Sl) (e' := s2) (us := [s2.v]) (vs := [h0.v]) 0 hF hS1 ho hz hx hy rfl rfl rfl rfl rfl e4 hat rfl hk rfl fun w' q' hS' hq' => ?_
  refine kk w' (q' ++ (qs.set i.toNat qi).flatten) ?_ ⟨q', goSet hs i s2, qs.set i.toNat qi, rfl, hq', by simp [goSet, l1], by simp [goSet, l2], fun k h1 p1 x1 f1 f2 f3 => ?_⟩
  · exact hS'.permF (R := []) (by
      simp only [List.flatten_cons, List.append_assoc]
      refine List.Perm.append_left _ ?_
      have hp := flatten_set_perm (p' := qi) l5
      refine (List.Perm.append_left (qs.set i.toNat qi).flatten List.perm_append_comm).trans ?_
      rw [← List.append_assoc, ← List.append_assoc]
      exact List.Perm.append_right _ (hp.trans List.perm_append_comm))
  · by_cases hki : k = i.toNat
    · subst hki
      have m1 := (List.getElem?_eq_some_iff.1 ha).1
      have m2 := (List.getElem?_eq_some_iff.1 l5).1
      simp [goSet, m1, m2, hlt] at f1 f2 f3
      subst f1 f2 f3
      exact hqi
    · rw [goSet, List.getElem?_set_ne (Ne.symm hki)] at f1 f3
      rw [List.getElem?_set_ne (Ne.symm hki)] at f2
      exact hel k h1 p1 x1 hki f1 f2 f3

end

/-! ### a part of a string -/

section

variable {P : Program} {L : List (Nat × Value)} {m : Mem} {O : List Piece} {d : Option Tmp} {ty : TypeId} {p : String} {af : Array Edge} {g : Option (Nat × Bool)} {x y : Operand} {l r : List UInt8}

end

/-! ### a round of a range over a function: its text, walked -/

def NO (Q : Exit → Act → World → Prop) : Exit → Act → World → Prop := fun e a w => e ≠ .outgrown ∧ Q e a w

abbrev FR (l : Option Nat) : Fence := { Fence.wide with round := l }

def Wr (P : Program) (l : Option Nat) (c : Code) (Q : Exit → Act → World → Prop) (a : Act) (w : World) : Prop := c.wpIn (FR l) 0 P (NO Q) a w

def noDefer : List Oper → Bool
  | [] => true
  | o :: r => (match o.op with | .defer _ => false | _ => true) && noDefer r

section

variable {P : Program} {Q : Exit → Act → World → Prop} {a : Act} {w : World} {l : Option Nat}

theorem NO.out (Q : Exit → Act → World → Prop) : ¬ LetsOut (NO Q) := fun ⟨_, _, h, _⟩ => h rfl

def Sr (P : Program) (l : Option Nat) (r : Code) (Q : Exit → Act → World → Prop) : Exit → Act → World → Prop := Exit.then (Wr P l r Q) Q

variable {n : Nat} {L : List (Nat × Value)}

end

/-! ### a list gone through -/

def seqC {α σ ρ : Type} (f : α → σ → Option (Stp σ ρ)) : List α → σ → Option (σ ⊕ ρ)
  | [], s => some (.inl s)
  | x :: r, s => match f x s with
    | none => none
    | some (.next s') => seqC f r s'
    | some (.done o) => some (.inr o)

/-! ### ranges over a function -/

def mk (D : Nat) : Deferred := { target := .collected D, args := #[] }

structure Mk (w0 : World) (Z : List Deferred) (X1 : List Nat) (w1 : World) : Prop where
  kept : Kept [] w0 w1
  out : ∀ b ∈ X1, w0.heap.size ≤ b
  cel : ∀ b ∈ X1, ∃ c T fz, w1.heap[b]? = some (.cells c T fz)
  ds : ∃ Ds : List Nat, Z = Ds.map mk ∧ Ds.Nodup ∧ ∀ D ∈ Ds, w0.heap.size ≤ D ∧ w1.heap[D]? = some (.deferred (some []))

def Sf (w0 : World) (Z : List Deferred) (w : World) (m : Mem) (O : List Piece) : Prop := ∃ X1, Mk w0 Z X1 w ∧ St X1 w w m O

structure Tr (w0 : World) (l : Nat) (q q' : Piece) (A B : World) : Prop where
  os : B.os = A.os
  tape : B.tape = A.tape
  output : B.output = A.output
  size : A.heap.size ≤ B.heap.size
  block : ∀ k, k < A.heap.size → (∀ x ∈ q, x.b ≠ k) → k ≠ l → B.heap[k]? = A.heap[k]?
  lo : w0.heap.size ≤ l
  lp : ∃ r, A.heap[l]? = some (.loop r)
  same : q'.map (·.b) = q.map (·.b)
  cells : ∀ o ∈ q', B.heap[o.b]? = some (.cells o.cs.toArray o.T (0, 0))

section

variable {P : Program} {w0 w1 w A B : World} {Z : List Deferred} {X1 : List Nat} {m m' m0 : Mem} {O : List Piece} {q q' : Piece} {l : Nat}

theorem Mk.start (w : World) : Mk w [] [] w := ⟨Kept.refl _ _, by simp, by simp, [], rfl, List.nodup_nil, by simp⟩

theorem Mk.not_in (h : Mk w0 Z X1 w1) {k : Nat} {o : Obj} (hk : w1.heap[k]? = some o) (ho : ∀ c T fz, o ≠ .cells c T fz) : k ∉ X1 := fun hx => by
  obtain ⟨c, T, fz, hc⟩ := h.cel k hx
  rw [hk] at hc
  exact ho c T fz (Option.some.inj hc)

theorem Mk.kp (h : Mk w0 Z X1 w1) (hS : St X1 w1 w m O) {k : Nat} {o : Obj} (hk : w1.heap[k]? = some o) (ho : ∀ c T fz, o ≠ .cells c T fz) : w.heap[k]? = some o :=
  (hS.kept.block k (lt_of_heap hk) (h.not_in hk ho)).trans hk

theorem Mk.keptB (h : Mk w0 Z X1 w1) (hk : Kept X1 w1 w) : Kept [] w0 w :=
  ⟨hk.os.trans h.kept.os, hk.tape.trans h.kept.tape, hk.output.trans h.kept.output, Nat.le_trans h.kept.size hk.size, fun k hlt hx => by
    rw [hk.block k (Nat.lt_of_lt_of_le hlt h.kept.size) fun hx1 => by have := h.out k hx1; omega]
    exact h.kept.block k hlt hx⟩

theorem Mk.freeB (h : Mk w0 Z X1 w1) (hS : St X1 w1 w m O) {o : OBlk} (ho : o ∈ O.flatten) : m o.b = none ∧ w0.heap.size ≤ o.b := by
  obtain ⟨h1, h2⟩ := hS.free o ho
  refine ⟨h1, ?_⟩
  rcases h2 with h2 | h2
  · exact Nat.le_trans h.kept.size h2
  · exact h.out _ h2

theorem Mk.back (h : Mk w0 Z X1 w1) (hS : St X1 w1 w m O) : St [] w0 w m O :=
  ⟨h.keptB hS.kept, hS.vis, hS.own, fun o ho => ⟨(h.freeB hS ho).1, .inl (h.freeB hS ho).2⟩, hS.nodup⟩

theorem Mk.sf (h : Mk w0 Z X1 w1) (hS : St X1 w1 w m O) : Sf w0 Z w m O := by
  refine ⟨O.flatten.map (·.b), ⟨h.keptB hS.kept, fun b hb => ?_, fun b hb => ?_, ?_⟩, ⟨Kept.refl _ _, hS.vis, hS.own, fun o ho => ⟨(hS.free o ho).1, .inr (List.mem_map.2 ⟨o, ho, rfl⟩)⟩, hS.nodup⟩⟩
  · obtain ⟨o, ho, rfl⟩ := List.mem_map.1 hb
    exact (h.freeB hS ho).2
  · obtain ⟨o, ho, rfl⟩ := List.mem_map.1 hb
    exact ⟨_, _, _, hS.own o ho⟩
  · obtain ⟨Ds, h1, h2, h3⟩ := h.ds
    exact ⟨Ds, h1, h2, fun D hD => ⟨(h3 D hD).1, h.kp hS (h3 D hD).2 (fun _ _ _ => nofun)⟩⟩

theorem Sf.tr (h : Sf w0 Z A m (q :: O)) (t : Tr w0 l q q' A B) : Sf w0 Z B m (q' :: O) := by
  obtain ⟨X1, hM, hS⟩ := h
  obtain ⟨r, hr⟩ := t.lp
  have hq : ∀ o ∈ q, o ∈ (q :: O).flatten := fun o ho => by simp [ho]
  have hO : ∀ o ∈ O.flatten, o ∈ (q :: O).flatten := fun o ho => by simp only [List.flatten_cons, List.mem_append]; exact .inr ho
  have hbs : (q' :: O).flatten.map (·.b) = (q :: O).flatten.map (·.b) := by simp only [List.flatten_cons, List.map_append, t.same]
  have hin : ∀ o ∈ q', ∃ p ∈ q, p.b = o.b := fun o ho => by
    have : o.b ∈ q.map (·.b) := by rw [← t.same]; exact List.mem_map.2 ⟨o, ho, rfl⟩
    obtain ⟨p, hp, he⟩ := List.mem_map.1 this
    exact ⟨p, hp, he⟩
  have keep : ∀ k o, A.heap[k]? = some o → (∀ x ∈ q, x.b ≠ k) → (∀ r, o ≠ .loop r) → B.heap[k]? = some o := fun k o hk hx hl => by
    rw [t.block k (lt_of_heap hk) hx (fun e => by subst e; rw [hr] at hk; exact hl r (Option.some.inj hk).symm)]
    exact hk
  have hnd := hS.nodup
  simp only [List.flatten_cons, List.map_append] at hnd
  rw [List.nodup_append] at hnd
  obtain ⟨_, _, hdis⟩ := hnd
  refine ⟨(q :: O).flatten.map (·.b), ⟨⟨t.os.trans hM.kept.os, t.tape.trans hM.kept.tape, t.output.trans hM.kept.output, Nat.le_trans hM.kept.size t.size, fun k hk hx => ?_⟩, fun b hb => ?_, fun b hb => ?_, ?_⟩,
    ⟨Kept.refl _ _, fun b cs hb => ?_, fun o ho => ?_, fun o ho => ?_, by rw [hbs]; exact hS.nodup⟩⟩
  · rw [t.block k (Nat.lt_of_lt_of_le hk hM.kept.size) (fun x hxq e => by have := (hM.freeB hS (hq x hxq)).2; omega) (fun e => by have := t.lo; omega)]
    exact hM.kept.block k hk hx
  · obtain ⟨o, ho, rfl⟩ := List.mem_map.1 hb
    exact (hM.freeB hS ho).2
  · rw [← hbs] at hb
    obtain ⟨o, ho, rfl⟩ := List.mem_map.1 hb
    simp only [List.flatten_cons, List.mem_append] at ho
    rcases ho with ho | ho
    · exact ⟨_, _, _, t.cells o ho⟩
    · exact ⟨_, _, _, keep _ _ (hS.own o (hO o ho)) (fun x hx e => hdis _ (List.mem_map.2 ⟨x, hx, rfl⟩) _ (List.mem_map.2 ⟨o, ho, rfl⟩) e) (fun _ => nofun)⟩
  · obtain ⟨Ds, h1, h2, h3⟩ := hM.ds
    refine ⟨Ds, h1, h2, fun D hD => ⟨(h3 D hD).1, keep _ _ (h3 D hD).2 (fun x hx e => ?_) (fun _ => nofun)⟩⟩
    have := hS.own x (hq x hx)
    rw [e, (h3 D hD).2] at this
    cases this
  · obtain ⟨T, fz, hc⟩ := hS.vis b cs hb
    refine ⟨T, fz, keep _ _ hc (fun x hx e => ?_) (fun _ => nofun)⟩
    have := (hS.free x (hq x hx)).1
    rw [e, hb] at this
    cases this
  · simp only [List.flatten_cons, List.mem_append] at ho
    rcases ho with ho | ho
    · exact t.cells o ho
    · exact keep _ _ (hS.own o (hO o ho)) (fun x hx e => hdis _ (List.mem_map.2 ⟨x, hx, rfl⟩) _ (List.mem_map.2 ⟨o, ho, rfl⟩) e) (fun _ => nofun)
  · simp only [List.flatten_cons, List.mem_append] at ho
    rcases ho with ho | ho
    · obtain ⟨p, hp, he⟩ := hin o ho
      rw [← he]
      exact ⟨(hS.free p (hq p hp)).1, .inr (List.mem_map.2 ⟨p, hq p hp, rfl⟩)⟩
    · exact ⟨(hS.free o (hO o ho)).1, .inr (List.mem_map.2 ⟨o, hO o ho, rfl⟩)⟩

def ItF (m0 : Mem) (q : Piece) (A : World) : Prop := Vis m0 A ∧ (q.map (·.b)).Nodup ∧ ∀ o ∈ q, A.heap[o.b]? = some (.cells o.cs.toArray o.T (0, 0)) ∧ m0 o.b = none

def ItOK (P : Program) (gf : FuncId) (q0 : Piece) (caps : List Value) (xs : List (List UInt8)) (m0 : Mem) : Prop :=
  ∀ (w0 : World) (l : Nat) (J : Nat → Piece → World → Prop) (Jx : World → Prop) (W : World), w0.heap.size ≤ l →
    (∀ i q q' A B, Tr w0 l q q' A B → B.heap[l]? = A.heap[l]? → J i q A → J i q' B) →
    (∀ i q A, J i q A → ItF m0 q A ∧ ∃ r, A.heap[l]? = some (.loop r)) →
    (∀ i q A x, J i q A → xs[i]? = some x → ∃ fn tmps assign body, (Instr.yield l #[strV x]).run P A = .ok (.round l fn tmps assign body) A ∧
      RoundIn (FR none) 0 P l fn tmps assign body A fun e W' => (e = .returned (.bool true) ∧ J (i + 1) q W') ∨ (e = .returned (.bool false) ∧ Jx W')) →
    J 0 q0 W →
    CallsIn (FR none) 0 P gf (#[.func (.yield l) #[] #[]] ++ caps.toArray) W fun e W' => (∃ v, e = .returned v) ∧ ((∃ q, J xs.length q W') ∨ Jx W')

def RQ {σ ρ : Type} (I : List Deferred → σ → Piece → World → Prop) (D : List Deferred → ρ → Piece → World → Prop) (Z : List Deferred) (q : Piece) (wr : World) (st : Stp σ ρ) : Exit → Act → World → Prop := fun e _ w =>
  (∀ (k : Nat) (r : Loop), wr.heap[k]? = some (Obj.loop r) → w.heap[k]? = some (Obj.loop r)) ∧ match st with
  | .next s => e = .normal ∧ I Z s q w
  | .done o => e = .ret ∧ D Z o q w

theorem Tr.put (lo : w0.heap.size ≤ l) {r : Loop} (hl : A.heap[l]? = some (.loop r)) (hf : ItF m0 q A) (o : Obj) : Tr w0 l q q A (A.putObj l o) :=
  ⟨rfl, rfl, rfl, by simp, fun k _ _ hne => World.putObj_heap_other hne, lo, ⟨r, hl⟩, rfl, fun x hx => by
    rw [World.putObj_heap_other (fun e => by have := (hf.2.2 x hx).1; rw [e, hl] at this; cases this)]
    exact (hf.2.2 x hx).1⟩

variable {Q : Exit → Act → World → Prop} {a : Act} {n : Nat} {L L0 : List (Nat × Value)}

/-! the function's start and end -/

end

/-! ### a text, split at a sign -/

def splitB (c : UInt8) : List UInt8 → List (List UInt8)
  | [] => [[]]
  | x :: r => if x == c then [] :: splitB c r else match splitB c r with
    | [] => [[x]]
    | y :: ys => (x :: y) :: ys

def idxB (c : UInt8) : List UInt8 → Int
  | [] => -1
  | x :: r => if x == c then 0 else if idxB c r == -1 then -1 else idxB c r + 1

/-! a text under a plain fence, and a call of yield in it -/

section

variable {P : Program} {Q : Exit → Act → World → Prop} {a : Act} {w w0 : World} {ro : Option Nat} {ops : Array Oper} {rest : List Oper} {L : List (Nat × Value)} {m m0 : Mem} {O : List Piece} {X : List Nat} {n : Nat}

variable {q q' : Piece} {A B : World} {l : Nat}

theorem ItF.st (h : ItF m0 q A) : St (q.map (·.b)) A A m0 [q] :=
  ⟨Kept.refl _ _, h.1, fun o ho => (h.2.2 o (by simpa using ho)).1, fun o ho => by
    have ho' : o ∈ q := by simpa using ho
    exact ⟨(h.2.2 o ho').2, .inr (List.mem_map.2 ⟨o, ho', rfl⟩)⟩, by simpa using h.2.1⟩

theorem ItF.tr (h : ItF m0 q A) (hl : ∃ r, A.heap[l]? = some (.loop r)) (lo : w0.heap.size ≤ l) (hS : St (q.map (·.b)) A B m0 [q']) (hb : q'.map (·.b) = q.map (·.b)) : Tr w0 l q q' A B ∧ B.heap[l]? = A.heap[l]? := by
  obtain ⟨r, hr⟩ := hl
  refine ⟨⟨hS.kept.os, hS.kept.tape, hS.kept.output, hS.kept.size, fun k hk hx hne => hS.kept.block k hk fun hm => ?_, lo, ⟨r, hr⟩, hb, fun o ho => hS.own o (by simpa using ho)⟩, hS.kept.block l (lt_of_heap hr) fun hm => ?_⟩
  · obtain ⟨o, ho, he⟩ := List.mem_map.1 hm
    exact hx o ho he
  · obtain ⟨o, ho, he⟩ := List.mem_map.1 hm
    have := (h.2.2 o ho).1
    rw [he, hr] at this
    cases this

end

def lenB (w : World) (b : Nat) : Nat := match w.heap[b]? with
  | some (Obj.cells cs _ _) => match cs[0]? with
    | some (Value.string s) => s.size
    | _ => 0
  | _ => 0

/-! ### the loop over a function, its invariant without a world -/

theorem Sf.below {w0 w w' : World} {Z : List Deferred} {m : Mem} {O : List Piece} (h : Sf w0 Z w m O) (hb : Below w.heap.size w w') : Sf w0 Z w' m O := by
  obtain ⟨X1, hM, hS⟩ := h
  exact hM.sf (hS.below hb)

section

variable {P : Program} {w0 w : World} {Z : List Deferred} {m0 : Mem} {Q : Exit → Act → World → Prop} {a : Act} {n : Nat} {L L0 : List (Nat × Value)}

end

/-! ### signs as texts; functions that call themselves -/

def goRune (i : Int) : Option (List UInt8) := cond (decide (0 ≤ i ∧ i < 128)) (some [UInt8.ofNat i.toNat]) none

section

variable {P : Program} {L : List (Nat × Value)} {m : Mem} {O : List Piece} {d : Option Tmp} {ty : TypeId} {p : String} {af : Array Edge} {g : Option (Nat × Bool)} {x : Operand}

end

def goSpl (s : List UInt8) : Option Unit := cond (decide (s.length < 4294967281)) (some ()) none

open Classical in
noncomputable def recO {α : Type} (F : Nat → Option α) : Option α := if h : ∃ k, (F k).isSome = true then F h.choose else none

/-! ## shorter words for long walks -/

abbrev pP (b o : Nat) : Value := .pointer (some ⟨b, o, none⟩)

section

variable {P : Program} {L : List (Nat × Value)} {m : Mem} {O : List Piece} {d : Option Tmp} {ty : TypeId} {p : String} {af : Array Edge} {x : Operand}

variable {a : Act} {n : Nat} {X : List Nat} {w0 w : World} {K : Act → World → Prop} {Q : Exit → Act → World → Prop} {ops : Array Oper} {o : Oper} {rest : List Oper} {v : Value} {Ld : LdB} {f : Nat} {l : Array Bool} {c1 c2 : Code}

end

def goBld (a b : List UInt8) : Option (List UInt8) := cond (decide (a.length + b.length ≤ 140737488355328)) (some (a ++ b)) none

end Go.Gx
