/- More operations: deep slices, strings, and plain tools. -/
import Derived.Test.YtebjhiflnemkhaaGreatDoorGx
namespace Go.Gx
set_option linter.all false
open Go.RowKit
variable {DS : List Deferred}

/-! ### several that make something new, in any order -/
theorem St.perm {X : List Nat} {w0 w : World} {m : Mem} {O O' : List Piece} (h : St X w0 w m O) (hp : O.Perm O') : St X w0 w m O' := by
  have hf : O.flatten.Perm O'.flatten := hp.flatten
  exact ⟨h.kept, h.vis, fun o ho => h.own o (hf.mem_iff.2 ho), fun o ho => h.free o (hf.mem_iff.2 ho), (hf.map _).nodup_iff.1 h.nodup⟩

theorem nodup_inj' {α β : Type} {f : α → β} : ∀ {l : List α}, (l.map f).Nodup → ∀ {x y : α}, x ∈ l → y ∈ l → f x = f y → x = y
  | [], _, x, y, hx, _, _ => by cases hx
  | z :: l, h, x, y, hx, hy, e => by
    simp only [List.map_cons, List.nodup_cons] at h
    rcases List.mem_cons.1 hx with hx1 | hx1
    · rcases List.mem_cons.1 hy with hy1 | hy1
      · rw [hx1, hy1]
      · exact absurd (List.mem_map.2 ⟨y, hy1, by rw [← e, hx1]⟩) h.1
    · rcases List.mem_cons.1 hy with hy1 | hy1
      · exact absurd (List.mem_map.2 ⟨x, hx1, by rw [e, hy1]⟩) h.1
      · exact nodup_inj' h.2 hx1 hy1 e

structure Bt where
  i : Nat
  dst : Nat
  B : Value → Piece → Prop

section
variable {P : Program} {ops : Array Oper} {n : Nat} {X : List Nat} {w0 : World} {m : Mem} {Ld : LdB} {K : Act → World → Prop}

def BtOk (P : Program) (ops : Array Oper) (n : Nat) (X : List Nat) (w0 : World) (m : Mem) (b : Bt) : Prop :=
  ∃ o, ops[b.i]? = some o ∧ o.guard = none ∧ ∀ {DS : List Deferred} (a : Act) (w : World) (L : List (Nat × Value)) (O : List Piece), FrD DS a n L → St X w0 w m O →
    ∀ K' : Act → World → Prop, (∀ a' w' v q, FrD DS a' n ((b.dst, v) :: L) → b.B v q → St X w0 w' m (q :: O) → Below w.heap.size w w' → K' a' w') → o.wp P a w K' NP

def batchRdy (ops : Array Oper) (l : Array Bool) (is : List Nat) : Bool :=
  (is.all fun i => (Region.ready .any ops l).contains i) &&
  ((List.range ops.size).all fun j => l.getD j true || is.contains j || match ops[j]? with
    | none => true
    | some o => (o.after.any fun e => Region.binds .any e && !is.contains e.on && !l.getD e.on true) || (is.all fun i => o.after.any fun e => Region.binds .any e && e.on == i))

def setAll (l : Array Bool) : List Nat → Array Bool
  | [] => l
  | i :: r => setAll (l.setIfInBounds i true) r

theorem setAll_getD {d : Bool} : ∀ (r : List Nat) (l : Array Bool) (j : Nat), j ∉ r → (setAll l r).getD j d = l.getD j d
  | [], _, _, _ => rfl
  | i :: r, l, j, h => by
    simp only [List.mem_cons, not_or] at h
    rw [setAll, setAll_getD r _ j h.2, getD_set_ne d (fun e => h.1 e.symm)]

theorem setAll_comm (i : Nat) : ∀ (r : List Nat) (l : Array Bool), setAll (l.setIfInBounds i true) r = (setAll l r).setIfInBounds i true
  | [], _ => rfl
  | j :: r, l => by
    simp only [setAll]
    by_cases h : i = j
    · subst h
      rw [setAll_comm i r]
    · rw [Array.setIfInBounds_comm _ _ h, setAll_comm i r]

theorem setAll_perm {r r' : List Nat} (h : r.Perm r') : ∀ l, setAll l r = setAll l r' := by
  induction h with
  | nil => intro l; rfl
  | cons x _ ih => intro l; exact ih _
  | swap x y r =>
    intro l
    simp only [setAll]
    by_cases h : x = y
    · subst h; rfl
    · rw [Array.setIfInBounds_comm _ _ (Ne.symm h)]
  | trans _ _ ih1 ih2 => intro l; rw [ih1, ih2]

/-- what is there when all are done -/
def BtPost (n : Nat) (X : List Nat) (w0 : World) (m : Mem) (L : List (Nat × Value)) (O : List Piece) (bs : List Bt) (a : Act) (w : World) : Prop :=
  ∃ (V : Nat → Value) (Q : Nat → Piece), (∀ b ∈ bs, b.B (V b.dst) (Q b.dst)) ∧ Fr a n (bs.map (fun b => (b.dst, V b.dst)) ++ L) ∧ St X w0 w m (bs.map (fun b => Q b.dst) ++ O)

theorem lk_append {A L : List (Nat × Value)} {i : Nat} (h : i ∉ A.map (·.1)) : lk (A ++ L) i = lk L i := by
  induction A with
  | nil => rfl
  | cons p A ih =>
    simp only [List.map_cons, List.mem_cons, not_or] at h
    simp only [List.cons_append, lk]
    have : Nat.beq p.1 i = false := by
      cases hb : Nat.beq p.1 i with
      | false => rfl
      | true => exact absurd (Nat.eq_of_beq_eq_true hb).symm h.1
    rw [this]
    exact ih h.2

theorem lk_mem {A L : List (Nat × Value)} {i : Nat} {v : Value} (hn : (A.map (·.1)).Nodup) (h : (i, v) ∈ A) : lk (A ++ L) i = some v := by
  induction A with
  | nil => cases h
  | cons p A ih =>
    simp only [List.map_cons, List.nodup_cons] at hn
    simp only [List.cons_append, lk]
    rcases List.mem_cons.1 h with rfl | h
    · simp [Nat.beq_refl]
    · have hne : p.1 ≠ i := fun e => hn.1 (List.mem_map.2 ⟨(i, v), h, e.symm⟩)
      have : Nat.beq p.1 i = false := by
        cases hb : Nat.beq p.1 i with
        | false => rfl
        | true => exact absurd (Nat.eq_of_beq_eq_true hb) hne
      rw [this]
      exact ih hn.2 h

theorem lk_key {A L : List (Nat × Value)} {i : Nat} {v : Value} (hi : i ∈ A.map (·.1)) (h : lk (A ++ L) i = some v) : (i, v) ∈ A := by
  induction A with
  | nil => cases hi
  | cons p A ih =>
    simp only [List.cons_append, lk] at h
    split at h
    · rename_i hb
      have := Nat.eq_of_beq_eq_true hb
      simp only [Option.some.injEq] at h
      subst this h
      simp
    · rename_i hb
      simp only [List.map_cons, List.mem_cons] at hi
      rcases hi with rfl | hi
      · simp [Nat.beq_refl] at hb
      · exact List.mem_cons_of_mem _ (ih hi h)

theorem FrD.shuffle {a : Act} {A A' L : List (Nat × Value)} (h : FrD DS a n (A ++ L)) (hn : (A.map (·.1)).Nodup) (hp : A.Perm A') : FrD DS a n (A' ++ L) := by
  refine ⟨h.size, h.defers, fun i v hl => h.has i v ?_⟩
  have hpm : (A.map (·.1)).Perm (A'.map (·.1)) := hp.map _
  by_cases hi : i ∈ A'.map (·.1)
  · have hm := lk_key hi hl
    exact lk_mem hn (hp.mem_iff.2 hm)
  · rw [lk_append hi] at hl
    rw [lk_append (fun h => hi (hpm.mem_iff.1 h))]
    exact hl

theorem batch_apart {bs R : List Bt} {D : List (Bt × Value × Piece)} {is : List Nat} (his : bs.map (·.i) = is) (hi : is.Nodup) (hp : (D.map (·.1) ++ R).Perm bs) {b : Bt} (hb : b ∈ R) : b.i ∉ D.map (·.1.i) := fun hm => by
  have h1 : ((D.map (·.1) ++ R).map (·.i)).Nodup := by
    have := hp.map (·.i)
    rw [his] at this
    exact this.nodup_iff.2 hi
  rw [List.map_append, List.nodup_append] at h1
  obtain ⟨d, hd, hde⟩ := List.mem_map.1 hm
  exact h1.2.2 _ (List.mem_map.2 ⟨d.1, List.mem_map.2 ⟨d, hd, rfl⟩, rfl⟩) _ (List.mem_map.2 ⟨b, hb, rfl⟩) hde

theorem e_batch {L : List (Nat × Value)} {O : List Piece} {a : Act} {w : World} {f : Nat} {l : Array Bool} (bs : List Bt) (is : List Nat) (his : bs.map (·.i) = is) (hok : ∀ b ∈ bs, BtOk P ops n X w0 m b)
    (hd : (bs.map (·.dst)).Nodup) (hi : is.Nodup) (hr : batchRdy ops l is = true) (hF : Fr a n L) (hS : St X w0 w m O)
    (k : ∀ a' w', BtPost n X w0 m L O bs a' w' → wpE P ops Ld K f (setAll l is) a' w') : wpE P ops Ld K (f + bs.length) l a w := by
  unfold batchRdy at hr
  simp only [Bool.and_eq_true, List.all_eq_true] at hr
  obtain ⟨hr1, hr2⟩ := hr
  suffices hh : ∀ (R : List Bt) (D : List (Bt × Value × Piece)) (a : Act) (w : World), (D.map (·.1) ++ R).Perm bs → (∀ d ∈ D, d.1.B d.2.1 d.2.2) → Fr a n (D.map (fun d => (d.1.dst, d.2.1)) ++ L) → St X w0 w m (D.map (·.2.2) ++ O) →
      wpE P ops Ld K (f + R.length) (setAll l (D.map (·.1.i))) a w from
    hh bs [] a w (List.Perm.refl _) (by simp) hF hS
  intro R
  -- as many rounds as there are left
  generalize hN : R.length = N
  induction N generalizing R with
  | zero =>
    intro D a w hp hB hF hS
    have hR : R = [] := List.eq_nil_of_length_eq_zero hN
    subst hR
    simp only [List.append_nil] at hp
    have hdn : ((D.map (fun d => (d.1.dst, d.2.1))).map (·.1)).Nodup := by
      have : ((D.map (·.1)).map (·.dst)).Perm (bs.map (·.dst)) := hp.map _
      have e : (D.map (fun d => (d.1.dst, d.2.1))).map (·.1) = (D.map (·.1)).map (·.dst) := by simp [List.map_map, Function.comp_def]
      rw [e]
      exact this.nodup_iff.2 hd
    have hset : setAll l (D.map (·.1.i)) = setAll l is := by
      refine setAll_perm ?_ l
      have : ((D.map (·.1)).map (·.i)).Perm (bs.map (·.i)) := hp.map _
      rw [his] at this
      simpa [List.map_map, Function.comp_def] using this
    rw [hset, Nat.add_zero]
    refine k a w ?_
    -- the functions
    let V : Nat → Value := fun x => ((D.find? fun d => d.1.dst == x).map (·.2.1)).getD undef
    let Q : Nat → Piece := fun x => ((D.find? fun d => d.1.dst == x).map (·.2.2)).getD []
    have hfind : ∀ d ∈ D, D.find? (fun e => e.1.dst == d.1.dst) = some d := by
      intro d hdm
      cases hf : D.find? (fun e => e.1.dst == d.1.dst) with
      | none =>
        have := List.find?_eq_none.1 hf d hdm
        simp at this
      | some e =>
        have he := List.mem_of_find?_eq_some hf
        have hb := List.find?_some hf
        simp only [beq_iff_eq] at hb
        have hnd2 : (D.map (fun d => d.1.dst)).Nodup := by simpa [List.map_map, Function.comp_def] using hdn
        exact congrArg some (nodup_inj' hnd2 he hdm hb)
    have hV : ∀ d ∈ D, V d.1.dst = d.2.1 ∧ Q d.1.dst = d.2.2 := fun d hdm => by simp only [V, Q, hfind d hdm]; exact ⟨rfl, rfl⟩
    have e1 : D.map (fun d => (d.1.dst, d.2.1)) = (D.map (·.1)).map (fun b => (b.dst, V b.dst)) := by
      rw [List.map_map]
      refine List.map_congr_left fun d hdm => ?_
      simp only [Function.comp_apply, (hV d hdm).1]
    have e2 : D.map (·.2.2) = (D.map (·.1)).map (fun b => Q b.dst) := by
      rw [List.map_map]
      refine List.map_congr_left fun d hdm => ?_
      simp only [Function.comp_apply, (hV d hdm).2]
    refine ⟨V, Q, fun b hb => ?_, ?_, ?_⟩
    · obtain ⟨d, hdm, rfl⟩ := List.mem_map.1 (hp.mem_iff.2 hb)
      rw [(hV d hdm).1, (hV d hdm).2]
      exact hB d hdm
    · exact hF.shuffle (A' := bs.map (fun b => (b.dst, V b.dst))) hdn (by rw [e1]; exact hp.map _)
    · refine hS.perm ?_
      rw [e2]
      exact (hp.map _).append_right _
  | succ N ih =>
    intro D a w hp hB hF hS
    have hall : ∀ j ∈ Region.ready .any ops (setAll l (D.map (·.1.i))), ∃ b ∈ R, b.i = j := by
      intro j hj
      obtain ⟨hjun, oj, hoj, hallj⟩ := mem_ready.1 hj
      have hjlt : j < ops.size := (Array.getElem?_eq_some_iff.1 hoj).1
      have key : is.contains j = true := by
        cases hc : is.contains j with
        | true => rfl
        | false =>
          exfalso
          have hjD : j ∉ D.map (·.1.i) := fun hm => by
            obtain ⟨d, hdm, rfl⟩ := List.mem_map.1 hm
            have : d.1.i ∈ is := by rw [← his]; exact List.mem_map.2 ⟨d.1, hp.mem_iff.1 (by simp only [List.mem_append, List.mem_map]; exact .inl ⟨d, hdm, rfl⟩), rfl⟩
            simp [this] at hc
          rw [setAll_getD _ _ _ hjD] at hjun
          have h2 := hr2 j (by simpa using hjlt)
          simp only [hjun, hc, Bool.false_or, hoj, Bool.or_eq_true] at h2
          rcases h2 with h2 | h2
          · obtain ⟨e, he, hb⟩ := Array.any_eq_true'.1 h2
            simp only [Bool.and_eq_true, Bool.not_eq_true'] at hb
            obtain ⟨⟨hb1, hb2⟩, hb3⟩ := hb
            have h3 := hallj e he hb1
            have heD : e.on ∉ D.map (·.1.i) := fun hm => by
              obtain ⟨d, hdm, hde⟩ := List.mem_map.1 hm
              have : e.on ∈ is := by rw [← his, ← hde]; exact List.mem_map.2 ⟨d.1, hp.mem_iff.1 (by simp only [List.mem_append, List.mem_map]; exact .inl ⟨d, hdm, rfl⟩), rfl⟩
              simp [this] at hb2
            rw [setAll_getD _ _ _ heD] at h3
            rcases Nat.lt_or_ge e.on l.size with h' | h'
            · simp [h'] at h3 hb3; rw [hb3] at h3; cases h3
            · simp [Array.getElem?_eq_none h'] at h3
          · -- one of those that are left
            cases hRc : R with
            | nil => rw [hRc] at hN; cases hN
            | cons b R' =>
              have hbR : b ∈ R := by rw [hRc]; simp
              have hbi : b.i ∈ is := by rw [← his]; exact List.mem_map.2 ⟨b, hp.mem_iff.1 (by simp [hbR]), rfl⟩
              have h3 := List.all_eq_true.1 h2 b.i hbi
              obtain ⟨e, he, hb⟩ := Array.any_eq_true'.1 h3
              simp only [Bool.and_eq_true, beq_iff_eq] at hb
              have h4 := hallj e he hb.1
              rw [hb.2] at h4
              have hbD : b.i ∉ D.map (·.1.i) := batch_apart his hi hp hbR
              rw [setAll_getD _ _ _ hbD] at h4
              have h5 := (mem_ready.1 (by simpa using hr1 b.i hbi)).1
              rcases Nat.lt_or_ge b.i l.size with h' | h'
              · simp [h'] at h4 h5; rw [h5] at h4; cases h4
              · simp [Array.getElem?_eq_none h'] at h4
      have hjis : j ∈ is := by simpa using key
      rw [← his] at hjis
      obtain ⟨b, hb, rfl⟩ := List.mem_map.1 hjis
      have := hp.mem_iff.2 hb
      simp only [List.mem_append, List.mem_map] at this
      rcases this with ⟨d, hdm, rfl⟩ | hbR
      · exfalso
        have hlt : d.1.i < l.size := by
          have h5 := (mem_ready.1 (by simpa using hr1 d.1.i (by rw [← his]; exact List.mem_map.2 ⟨d.1, hb, rfl⟩))).1
          rcases Nat.lt_or_ge d.1.i l.size with h' | h'
          · exact h'
          · simp [Array.getElem?_eq_none h'] at h5
        have : ∀ (r : List Nat) (l : Array Bool), d.1.i ∈ r → d.1.i < l.size → (setAll l r).getD d.1.i true = true := by
          intro r
          induction r with
          | nil => intro l h; cases h
          | cons x r ih2 =>
            intro l h hlt
            simp only [setAll]
            by_cases hm : d.1.i ∈ r
            · exact ih2 _ hm (by simpa using hlt)
            · have : d.1.i = x := by simpa [hm] using h
              subst this
              rw [setAll_getD _ _ _ hm]
              simp [hlt]
        rw [this _ _ (List.mem_map.2 ⟨d, hdm, rfl⟩) hlt] at hjun
        cases hjun
      · exact ⟨b, hbR, rfl⟩
    have hne : Region.ready .any ops (setAll l (D.map (·.1.i))) ≠ [] := by
      cases hRc : R with
      | nil => rw [hRc] at hN; cases hN
      | cons b R' =>
        have hbR : b ∈ R := by rw [hRc]; simp
        have hbi : b.i ∈ is := by rw [← his]; exact List.mem_map.2 ⟨b, hp.mem_iff.1 (by simp [hbR]), rfl⟩
        have h0 : b.i ∈ Region.ready .any ops l := by simpa using hr1 b.i hbi
        have hbD : b.i ∉ D.map (·.1.i) := batch_apart his hi hp hbR
        have : ∀ (r : List Nat) (l : Array Bool), b.i ∉ r → b.i ∈ Region.ready .any ops l → b.i ∈ Region.ready .any ops (setAll l r) := by
          intro r
          induction r with
          | nil => intro l _ h; exact h
          | cons x r ih2 =>
            intro l h hm
            simp only [List.mem_cons, not_or] at h
            exact ih2 _ h.2 (ready_mono hm (fun e => h.1 e))
        have hm := this _ l hbD h0
        intro he
        rw [he] at hm
        cases hm
    refine ⟨fun he => absurd he hne, fun j hj => ?_⟩
    obtain ⟨b, hbR, rfl⟩ := hall j hj
    obtain ⟨o, ho, hg, hwp⟩ := hok b (hp.mem_iff.1 (by simp [hbR]))
    refine e_op ho hg fun K' hK' => hwp a w _ _ hF hS K' fun a' w' v q hF' hB' hS' hbel => hK' a' w' hbel ?_
    obtain ⟨R1, R2, hR12⟩ := List.append_of_mem hbR
    have hlen : (R1 ++ R2).length = N := by rw [hR12] at hN; simp at hN ⊢; omega
    have := ih (R1 ++ R2) hlen ((b, v, q) :: D) a' w' (by
      refine List.Perm.trans ?_ hp
      rw [hR12]
      simp only [List.map_cons, List.cons_append]
      have : (b :: (D.map (·.1) ++ (R1 ++ R2))).Perm (D.map (·.1) ++ (R1 ++ b :: R2)) := by
        rw [← List.append_assoc, ← List.append_assoc]
        exact List.perm_middle.symm
      exact this) (fun d hdm => by
        rcases List.mem_cons.1 hdm with rfl | hdm
        · exact hB'
        · exact hB d hdm) hF' hS'
    simp only [List.map_cons, setAll, setAll_comm] at this
    rw [Nat.add_succ] at *
    exact this
end

def BtsOk (P : Program) (ops : Array Oper) (n : Nat) (X : List Nat) (w0 : World) (m : Mem) : List Bt → Prop
  | [] => True
  | b :: r => BtOk P ops n X w0 m b ∧ BtsOk P ops n X w0 m r

theorem BtsOk.all {P : Program} {ops : Array Oper} {n : Nat} {X : List Nat} {w0 : World} {m : Mem} : ∀ {bs : List Bt}, BtsOk P ops n X w0 m bs → ∀ b ∈ bs, BtOk P ops n X w0 m b
  | [], _, b, hb => by cases hb
  | c :: r, h, b, hb => by
    rcases List.mem_cons.1 hb with e | hb
    · rw [e]; exact h.1
    · exact BtsOk.all h.2 b hb

theorem BtOk.mk {P : Program} {ops : Array Oper} {n : Nat} {X : List Nat} {w0 : World} {m : Mem} {i dst : Nat} {B : Value → Piece → Prop} {o : Oper} (ho : ops[i]? = some o) (hg : o.guard = none)
    (h : ∀ {DS : List Deferred} (a : Act) (w : World) (L : List (Nat × Value)) (O : List Piece), FrD DS a n L → St X w0 w m O → ∀ K' : Act → World → Prop, (∀ a' w' v q, FrD DS a' n ((dst, v) :: L) → B v q → St X w0 w' m (q :: O) → Below w.heap.size w w' → K' a' w') → o.wp P a w K' NP) :
    BtOk P ops n X w0 m ⟨i, dst, B⟩ := ⟨o, ho, hg, h⟩

theorem normal_ret {P : Program} {fn : Func} {Q : Ending → World → Prop} {a : Act} {w : World} (h : bodyPost P fn Q .ret a w) : bodyPost P fn Q .normal a w := h

/-! ### append of so many zeros -/
def goAppZ {α : Type} (bytes : Nat) (l : List α) (c : Int) (z : α) : Option (List α) := cond (decide (0 ≤ c) && decide ((l.length + c.toNat) * bytes ≤ 140737488355328)) (some (l ++ List.replicate c.toNat z)) none

section
variable {P : Program} {L : List (Nat × Value)} {m : Mem} {O : List Piece} {d : Option Tmp} {ty : TypeId} {p : String} {af : Array Edge} {g : Option (Nat × Bool)} {x y : Operand}
variable {a : Act} {n : Nat} {X : List Nat} {w0 w : World} {K : Act → World → Prop} {Q : Exit → Act → World → Prop} {α : Type} [Rep α] {l r : List α}

theorem run_appendZ_room {t tn E : TypeId} {i : TypeInfo} {z' : Value} {kn kc : IntKind} {b len cap N : Nat} {cs zc : List Value} (ht : P.underlying t = some (.slice E)) (htn : P.underlying tn = some (.int kn)) (hi : P.info? E = some i) (hz : i.zero = some z')
    (hzc : z'.cells = zc.toArray) (hsz : i.size = zc.length) (h1 : ∀ v ∈ zc, v.oneCell' = true) (hpos : 0 < zc.length) (hN : 0 < N) (h63 : (N : Int) ≤ 9223372036854775807) (h48 : N * i.bytes ≤ 281474976710656) (hb : w.heap[b]? = some (.cells cs.toArray E (0, 0)))
    (hroom : len + N ≤ cap) (hcs : cs.length = cap * zc.length) :
    (Builtin.append_ #[t, tn] ty #[.slice (some ⟨b, 0, none⟩) len cap, .int kc N]).run P w = .ok (.slice (some ⟨b, 0, none⟩) (len + N) cap) (w.setRow b (setCs cs (len * zc.length) (madeCells zc.toArray (N * zc.length)).toList).toArray) := by
  have hn : N ≠ 0 := by omega
  have hw : IntKind.i64.wrap (N : Int) = N := by rw [IntKind.wrap_i64]; omega
  have h48i : ¬ (281474976710656 < (N : Int) * (i.bytes : Int)) := by
    rw [← Int.natCast_mul]; omega
  have hneg : ¬ ((N : Int) < 0) := by omega
  have hns : ¬ (N * i.size = 0) := Nat.mul_ne_zero hn (by omega)
  have hzz : Builtin.zeroCells zc.toArray N = madeCells zc.toArray (N * zc.length) := rfl
  have hml : (madeCells zc.toArray (N * zc.length)).toList.length = N * zc.length := by simp [size_madeCells]
  have hfit : (len + N) * zc.length ≤ cap * zc.length := Nat.mul_le_mul_right _ hroom
  rw [Nat.add_mul] at hfit
  have hst := run_storeCells_at (P := P) b (len * zc.length) E (madeCells zc.toArray (N * zc.length)).toList 0 cs.toArray w hb (by simp only [List.size_toArray]; rw [hml, hcs]; omega) (fun v hv => by
    simp only [madeCells, Array.toList_map, List.mem_map] at hv
    obtain ⟨j, _, rfl⟩ := hv
    have hlt : j % zc.length < zc.length := Nat.mod_lt _ hpos
    have : (zc.toArray[j % zc.toArray.size]!) = zc[j % zc.length] := by simp [hlt]
    rw [this]
    exact h1 _ (List.getElem_mem hlt))
  simp only [Nat.add_zero] at hst
  have e : (⟨b, 0, none⟩ : Addr).add (len * zc.length) = ⟨b, len * zc.length, none⟩ := by rw [addr_add]; simp
  simp [Builtin.append_, run_underlying ht, run_underlying htn, sizeOf, typeInfo, zeroValue, hi, hz, hzc, asInt, asIntOf, hw, hn, hneg, hns, hroom, h48i, hzz, hsz, e, hst, setCs]
  intro hc
  exact absurd hc (Nat.mul_ne_zero hn (by omega))

theorem run_appendZ_grow {t tn E : TypeId} {i : TypeInfo} {z' : Value} {kn kc : IntKind} {sp : Option Addr} {len cap N : Nat} {olds zc : List Value} (ht : P.underlying t = some (.slice E)) (htn : P.underlying tn = some (.int kn)) (hi : P.info? E = some i) (hz : i.zero = some z')
    (hzc : z'.cells = zc.toArray) (hsz : i.size = zc.length) (hpos : 0 < zc.length) (hN : 0 < N) (hgr : cap < len + N) (h63 : ((len + N : Nat) : Int) ≤ 9223372036854775807) (hfits : Builtin.nextslicecap (len + N) cap * i.bytes ≤ 281474976710656) (h48 : N * i.bytes ≤ 281474976710656)
    (hold : (Builtin.firstCells i.size len (.slice sp len cap)).run P w.drew = .ok olds.toArray w.drew) :
    (Builtin.append_ #[t, tn] ty #[.slice sp len cap, .int kc N]).run P w =
      .ok (.slice (some ⟨w.heap.size, 0, none⟩) (len + N) (grownCap w (len + N) cap E)) (w.drew.alloc (.cells (olds ++ ((madeCells zc.toArray (N * zc.length)).toList ++ (Builtin.zeroCells zc.toArray (grownCap w (len + N) cap E - (len + N))).toList)).toArray E)) := by
  have hn : N ≠ 0 := by omega
  have hw : IntKind.i64.wrap (N : Int) = N := by rw [IntKind.wrap_i64]; omega
  have h48i : ¬ (281474976710656 < (N : Int) * (i.bytes : Int)) := by
    rw [← Int.natCast_mul]; omega
  have hneg : ¬ ((N : Int) < 0) := by omega
  have hns : ¬ (N * i.size = 0) := Nat.mul_ne_zero hn (by omega)
  have hzz : Builtin.zeroCells zc.toArray N = madeCells zc.toArray (N * zc.length) := rfl
  have hng : ¬ (len + N ≤ cap) := by omega
  have h63' : ¬ (9223372036854775807 < ((len : Int) + (N : Int))) := by omega
  have h48' : ¬ (281474976710656 < Builtin.nextslicecap (len + N) cap * i.bytes) := by omega
  simp [Builtin.append_, run_underlying ht, run_underlying htn, sizeOf, typeInfo, zeroValue, hi, hz, hzc, asInt, asIntOf, hw, hn, hneg, hns, hng, h48i, h63', h48', hzz, Question.forced, hold, newRow, grownCap]
  congr 2
  apply Array.ext'
  simp [List.append_assoc]

theorem St.tail {q : Piece} (h : St X w0 w m (q :: O)) : St X w0 w m O := by
  have hsub : ∀ o ∈ O.flatten, o ∈ (q :: O).flatten := fun o ho => by simp only [List.flatten_cons, List.mem_append]; exact .inr ho
  have hn := h.nodup
  simp only [List.flatten_cons, List.map_append] at hn
  exact ⟨h.kept, h.vis, fun o ho => h.own o (hsub o ho), fun o ho => h.free o (hsub o ho), (List.nodup_append.1 hn).2.1⟩

/-- append of zeros to a slice of the call's own -/
theorem wp_appendZ {t tn E : TypeId} {kn kc : IntKind} {c : Int} {z : α} {q : Piece} {s : Sl} {sz by' : Nat} {zc : List Value} (hF : FrD DS a n L) (hS : St X w0 w m (q :: O)) (hq : OwnL m E q s l) (hu : P.underlying t = some (.slice E)) (htn : P.underlying tn = some (.int kn)) (hI : inf P E = some (sz, by', zc)) (hzc : zc.length = sz)
    (hpos : Nat.blt 0 sz = true) (hx : evo L x = some s.v) (hy : evo L y = some (.int kc c)) (hz : Rep.rd m zc z) (hwd : Rep.wd α = sz) (hby : 1 ≤ by') (hr : goAppZ by' l c z = some r) (hd : dok d n = true)
    (k : ∀ a' w' q' s', FrD DS a' n (putL d s'.v L) → St X w0 w' m (q' :: O) → OwnL m E q' s' r → K a' w') :
    (⟨d, .call { callee := .builtin .append, args := #[x, y], argTypes := #[t, tn] }, ty, p, af, g⟩ : Oper).wp P a w K Q := by
  obtain ⟨i, z', hi, h1, h2, h3, h4⟩ := inf_spec hI
  unfold goAppZ at hr
  cases hb : (decide (0 ≤ c) && decide ((l.length + c.toNat) * by' ≤ 140737488355328)) with
  | false => rw [hb] at hr; cases hr
  | true =>
    rw [hb] at hr
    simp only [Bool.and_eq_true, decide_eq_true_eq] at hb
    obtain ⟨hc0, hbb⟩ := hb
    obtain rfl := (Option.some.inj hr).symm
    obtain ⟨N, rfl⟩ := Int.eq_ofNat_of_zero_le hc0
    rw [show ((N : Nat) : Int).toNat = N from rfl] at hbb k
    subst hzc
    have hpos' : 0 < zc.length := by simpa [Nat.blt_eq] using hpos
    have hlen := hq.len
    have hcap := hq.cap
    have hle : l.length + N ≤ (l.length + N) * by' := Nat.le_mul_of_pos_right _ (by omega)
    have hone : ∀ v ∈ zc, v.oneCell' = true := fun v hv => by
      have := Rep.one hz
      rw [List.all_eq_true] at this
      exact this v hv
    have hev : ∀ {v' : Value} {w' : World}, (Builtin.append_ #[t, tn] ty #[s.v, .int kc N]).run P w = .ok v' w' → (execOp a.eval (⟨d, .call { callee := .builtin .append, args := #[x, y], argTypes := #[t, tn] }, ty, p, af, g⟩ : Oper)).run P w = .ok (.value v') w' := fun h => by
      simp [execOp, resolve, invoke, builtin, hF.eval hx, hF.eval hy, h]
    have hby2 : N * by' ≤ (l.length + N) * by' := Nat.mul_le_mul_right _ (by omega)
    -- what stands there
    obtain ⟨olds, hol, hof, hord⟩ : ∃ olds : List Value, olds.length = s.len * zc.length ∧ (Builtin.firstCells i.size s.len s.v).run P w.drew = .ok olds.toArray w.drew ∧ ∀ k (hk : k < l.length), Rep.rd m (slab olds (k * zc.length) zc.length) l[k] := by
      rcases hq.blk with ⟨e1, e2, e3⟩ | ⟨b, cs, e1, e2, e3, e4⟩
      · have h5 : s.len = 0 := by omega
        refine ⟨[], by simp [h5], ?_, fun k hk => by omega⟩
        simp [Builtin.firstCells, Sl.v, e2, h5]
      · subst e1
        have hh := hS.own ⟨b, cs, E⟩ (by simp)
        rw [hwd] at e3 e4
        have hsl : s.len * zc.length ≤ s.cap * zc.length := Nat.mul_le_mul_right _ hcap
        have hol : (cs.take (s.len * zc.length)).length = s.len * zc.length := by rw [List.length_take, e3]; exact Nat.min_eq_left hsl
        refine ⟨cs.take (s.len * zc.length), hol, ?_, fun k hk => ?_⟩
        · have hv : s.v = .slice (some ⟨b, 0, none⟩) s.len s.cap := by simp [Sl.v, e2]
          rw [hv]
          refine run_firstCells_some (P := P) w.drew i.size s.len ⟨b, 0, none⟩ s.len s.cap (cs.take (s.len * zc.length)) (by rw [h1]; exact hol) (fun j u hj => ?_)
          have hjl := (List.getElem?_eq_some_iff.1 hj).1
          rw [hol] at hjl
          rw [List.getElem?_take_of_lt hjl] at hj
          rw [addr_add]
          have hh' : w.drew.heap[b]? = some (.cells cs.toArray E (0, 0)) := hh
          simp only [World.cell?, hh', Nat.zero_add]
          simpa using hj
        · have h6 : (k + 1) * zc.length ≤ s.len * zc.length := Nat.mul_le_mul_right _ (by omega)
          rw [Nat.add_mul, Nat.one_mul] at h6
          have : slab (cs.take (s.len * zc.length)) (k * zc.length) zc.length = slab cs (k * zc.length) zc.length := by
            unfold slab
            rw [List.drop_take, List.take_take, Nat.min_eq_left (by omega)]
          rw [this]
          exact e4 k hk
    by_cases hN0 : N = 0
    · subst hN0
      have hrun : (Builtin.append_ #[t, tn] ty #[s.v, .int kc (0 : Nat)]).run P w = .ok s.v w := by
        have hw : IntKind.i64.wrap 0 = 0 := by rw [IntKind.wrap_i64]; rfl
        cases hp : s.p with
        | none => simp [Builtin.append_, run_underlying hu, run_underlying htn, sizeOf, typeInfo, hi, asInt, asIntOf, Sl.v, hp, hcap, hw]
        | some ad => simp [Builtin.append_, run_underlying hu, run_underlying htn, sizeOf, typeInfo, hi, asInt, asIntOf, Sl.v, hp, hcap, hw, storeCells]
      exact wp_of_run (hev hrun) (k _ _ q s (hF.put _ hd) hS (by simpa using hq))
    · by_cases hroom : s.len + N ≤ s.cap
      · rcases hq.blk with ⟨e1, e2, e3⟩ | ⟨b, cs, e1, e2, e3, e4⟩
        · omega
        · subst e1
          rw [hwd] at e3 e4
          have hh := hS.own ⟨b, cs, E⟩ (by simp)
          have hv : s.v = .slice (some ⟨b, 0, none⟩) s.len s.cap := by simp [Sl.v, e2]
          have hrun := run_appendZ_room (P := P) (ty := ty) (kc := kc) (w := w) (N := N) (len := s.len) (cap := s.cap) (b := b) (cs := cs) hu htn hi h3 h4 h1 hone hpos' (by omega) (by omega) (by rw [h2]; omega) hh hroom e3
          rw [← hv] at hrun
          have ho : getO ([⟨b, cs, E⟩] :: O) 0 0 = some ⟨b, cs, E⟩ := rfl
          have hS' := hS.setRow ho (setCs cs (s.len * zc.length) (madeCells zc.toArray (N * zc.length)).toList)
          have hml : (madeCells zc.toArray (N * zc.length)).toList.length = N * zc.length := by simp [size_madeCells]
          have hfit : (s.len + N) * zc.length ≤ s.cap * zc.length := Nat.mul_le_mul_right _ hroom
          rw [Nat.add_mul] at hfit
          refine wp_of_run (hev hrun) (k _ _ _ ⟨some ⟨b, 0, none⟩, s.len + N, s.cap⟩ (hF.put _ hd) hS' ⟨by simp; omega, hroom, hq.max, .inr ⟨b, _, rfl, rfl, ?_, fun j hj => ?_⟩⟩)
          · unfold setCs
            rw [hwd]
            simp only [List.length_append, List.length_take, List.length_drop, hml, e3]
            omega
          · rw [hwd]
            have hj' : j < l.length + N := by simpa using hj
            have h6 : (j + 1) * zc.length ≤ (s.len + N) * zc.length := Nat.mul_le_mul_right _ (by omega)
            rw [Nat.add_mul, Nat.one_mul, Nat.add_mul] at h6
            by_cases hjl : j < l.length
            · have h7 : (j + 1) * zc.length ≤ s.len * zc.length := Nat.mul_le_mul_right _ (by omega)
              rw [Nat.add_mul, Nat.one_mul] at h7
              have : slab (setCs cs (s.len * zc.length) (madeCells zc.toArray (N * zc.length)).toList) (j * zc.length) zc.length = slab cs (j * zc.length) zc.length := by
                unfold slab setCs
                rw [List.append_assoc, List.drop_append_of_le_length (by simp; omega), List.take_append_of_le_length (by simp; omega), List.drop_take, List.take_take, Nat.min_eq_left (by omega)]
              rw [this, List.getElem_append_left hjl]
              exact e4 j hjl
            · have : slab (setCs cs (s.len * zc.length) (madeCells zc.toArray (N * zc.length)).toList) (j * zc.length) zc.length = zc := by
                have hsr := slab_rep (zc := zc) (k := j - s.len) (n := N) (by omega)
                refine Eq.trans ?_ hsr
                unfold slab setCs
                have h8 : j * zc.length = (cs.take (s.len * zc.length)).length + (j - s.len) * zc.length := by
                  rw [List.length_take, e3, Nat.min_eq_left (Nat.mul_le_mul_right _ hcap), ← Nat.add_mul]
                  congr 1
                  omega
                have h9 : (j - s.len + 1) * zc.length ≤ N * zc.length := Nat.mul_le_mul_right _ (by omega)
                rw [Nat.add_mul, Nat.one_mul] at h9
                rw [h8, ← List.drop_drop, List.append_assoc, List.drop_left, List.drop_append_of_le_length (by rw [hml]; omega), List.take_append_of_le_length (by rw [List.length_drop, hml]; omega)]
              rw [this, List.getElem_append_right (by omega), List.getElem_replicate]
              exact hz
      · have hgr : s.cap < s.len + N := by omega
        have h63 : ((s.len + N : Nat) : Int) ≤ 9223372036854775807 := by omega
        have hfits : Builtin.nextslicecap (s.len + N) s.cap * i.bytes ≤ 281474976710656 := growslice_fits hgr (by rw [h2, ← hlen]; exact hbb)
        have hrun := run_appendZ_grow (P := P) (ty := ty) (kc := kc) (w := w) (sp := s.p) (N := N) (len := s.len) (cap := s.cap) (olds := olds) hu htn hi h3 h4 h1 hpos' (by omega) hgr h63 hfits (by rw [h2]; omega) hof
        have hS1 : St X w0 (w.drew.alloc (.cells (olds ++ ((madeCells zc.toArray (N * zc.length)).toList ++ (Builtin.zeroCells zc.toArray (grownCap w (s.len + N) s.cap E - (s.len + N))).toList)).toArray E)) m ([⟨w.heap.size, olds ++ ((madeCells zc.toArray (N * zc.length)).toList ++ (Builtin.zeroCells zc.toArray (grownCap w (s.len + N) s.cap E - (s.len + N))).toList), E⟩] :: O) := by
          have hq2 : St X w0 w m O := hS.tail
          have hb : Below w.heap.size w w.drew := (Below.refl _ _).drew
          exact (hq2.below hb).alloc _ E
        have hge := grownCap_ge w (s.len + N) s.cap E
        have hcm := grownCap_le_maxLen w (s.len + N) s.cap E (by simp only [maxLen]; omega)
        have hml : (madeCells zc.toArray (N * zc.length)).toList.length = N * zc.length := by simp [size_madeCells]
        refine wp_of_run (hev hrun) (k _ _ _ ⟨some ⟨w.heap.size, 0, none⟩, s.len + N, grownCap w (s.len + N) s.cap E⟩ (hF.put _ hd) hS1 ⟨by simp; omega, hge, hcm, .inr ⟨w.heap.size, _, rfl, rfl, ?_, fun j hj => ?_⟩⟩)
        · rw [hwd]
          simp only [List.length_append, hol, hml, Array.length_toList, size_zeroCells, List.size_toArray]
          rw [← Nat.add_mul, ← Nat.add_mul]
          congr 1
          omega
        · rw [hwd]
          have hj' : j < l.length + N := by simpa using hj
          by_cases hjl : j < l.length
          · have h7 : (j + 1) * zc.length ≤ s.len * zc.length := Nat.mul_le_mul_right _ (by omega)
            rw [Nat.add_mul, Nat.one_mul] at h7
            have : slab (olds ++ ((madeCells zc.toArray (N * zc.length)).toList ++ (Builtin.zeroCells zc.toArray (grownCap w (s.len + N) s.cap E - (s.len + N))).toList)) (j * zc.length) zc.length = slab olds (j * zc.length) zc.length := by
              unfold slab
              rw [List.drop_append_of_le_length (by omega), List.take_append_of_le_length (by simp; omega)]
            rw [this, List.getElem_append_left hjl]
            exact hord j hjl
          · have : slab (olds ++ ((madeCells zc.toArray (N * zc.length)).toList ++ (Builtin.zeroCells zc.toArray (grownCap w (s.len + N) s.cap E - (s.len + N))).toList)) (j * zc.length) zc.length = zc := by
              have hsr := slab_rep (zc := zc) (k := j - s.len) (n := N) (by omega)
              refine Eq.trans ?_ hsr
              unfold slab
              have h8 : j * zc.length = olds.length + (j - s.len) * zc.length := by
                rw [hol, ← Nat.add_mul]
                congr 1
                omega
              have h9 : (j - s.len + 1) * zc.length ≤ N * zc.length := Nat.mul_le_mul_right _ (by omega)
              rw [Nat.add_mul, Nat.one_mul] at h9
              rw [h8, ← List.drop_drop, List.drop_left, List.drop_append_of_le_length (by rw [hml]; omega), List.take_append_of_le_length (by rw [List.length_drop, hml]; omega)]
            rw [this, List.getElem_append_right (by omega), List.getElem_replicate]
            exact hz
end

/-! ### lists of lists that are the call's own down to the last cell -/
instance instRepSl : Rep Sl where
  wd := 1
  rd _ cs h := cs = [h.v]
  mono _ h := h
  len h := by subst h; rfl
  one h := by subst h; rfl

section
variable {X : List Nat} {w0 w : World} {m m' : Mem} {O O' : List Piece}

theorem St.permF {R : Piece} (h : St X w0 w m O) (hp : (O'.flatten ++ R).Perm O.flatten) : St X w0 w m O' := by
  have hsub : ∀ o ∈ O'.flatten, o ∈ O.flatten := fun o ho => hp.subset (List.mem_append_left _ ho)
  refine ⟨h.kept, h.vis, fun o ho => h.own o (hsub o ho), fun o ho => h.free o (hsub o ho), ?_⟩
  have h1 := (hp.map (·.b)).nodup_iff.2 h.nodup
  rw [List.map_append] at h1
  exact (List.nodup_append.1 h1).1

/-- the outer row is s with the headers hs; the inner ones own qs -/
structure DD {β : Type} [Rep β] (m : Mem) (E Ei : TypeId) (q : Piece) (s : Sl) (l : List (List β)) (q0 : Piece) (hs : List Sl) (qs : List Piece) : Prop where
  eq : q = q0 ++ qs.flatten
  own : OwnL m E q0 s hs
  l1 : hs.length = l.length
  l2 : qs.length = l.length
  el : ∀ (i : Nat) (h : Sl) (p : Piece) (x : List β), hs[i]? = some h → qs[i]? = some p → l[i]? = some x → OwnL m Ei p h x

/-- the slice s of slices is the call's own, its elements too -/
def OwnD {β : Type} [Rep β] (m : Mem) (E Ei : TypeId) (q : Piece) (s : Sl) (l : List (List β)) : Prop := ∃ q0 hs qs, DD m E Ei q s l q0 hs qs

/-- and s' stands at i -/
def ViewD {β : Type} [Rep β] (m : Mem) (E Ei : TypeId) (q : Piece) (s : Sl) (l : List (List β)) (i : Int) (s' : Sl) : Prop := ∃ q0 hs qs, DD m E Ei q s l q0 hs qs ∧ hs[i.toNat]? = some s'

def AtV (q : Piece) (s : Sl) (k : Nat) (vs : List Value) : Prop := ∃ qi T, (∀ o ∈ qi, o ∈ q) ∧ AtO qi T s k vs

variable {β : Type} [Rep β] {E Ei : TypeId} {q qi : Piece} {s s' : Sl} {l : List (List β)} {i j : Int} {x : List β} {y : β}

theorem getElem?_of_lt {γ : Type} {l : List γ} {i : Nat} (h : i < l.length) : ∃ x, l[i]? = some x := ⟨l[i], by simp [h]⟩

theorem DD.mono {q0 : Piece} {hs : List Sl} {qs : List Piece} (h : DD m E Ei q s l q0 hs qs) (hm : Mem.le m m') : DD m' E Ei q s l q0 hs qs :=
  ⟨h.eq, h.own.mono hm, h.l1, h.l2, fun i a p x h1 h2 h3 => (h.el i a p x h1 h2 h3).mono hm⟩

theorem OwnD.mono (h : OwnD m E Ei q s l) (hm : Mem.le m m') : OwnD m' E Ei q s l := by
  obtain ⟨q0, hs, qs, h⟩ := h
  exact ⟨q0, hs, qs, h.mono hm⟩

theorem ViewD.mono (h : ViewD m E Ei q s l i s') (hm : Mem.le m m') : ViewD m' E Ei q s l i s' := by
  obtain ⟨q0, hs, qs, h, h2⟩ := h
  exact ⟨q0, hs, qs, h.mono hm, h2⟩

theorem ViewD.own (h : ViewD m E Ei q s l i s') : OwnD m E Ei q s l := by
  obtain ⟨q0, hs, qs, h, _⟩ := h
  exact ⟨q0, hs, qs, h⟩

instance : Flat Sl := ⟨fun h => h⟩

theorem OwnD.any [Flat β] (h : OwnD m E Ei q s l) (m' : Mem) : OwnD m' E Ei q s l := by
  obtain ⟨q0, hs, qs, h⟩ := h
  exact ⟨q0, hs, qs, h.eq, h.own.any m', h.l1, h.l2, fun i a p x h1 h2 h3 => (h.el i a p x h1 h2 h3).any m'⟩

theorem OwnD.nil (m : Mem) (E Ei : TypeId) : OwnD (β := β) m E Ei [] nilS [] :=
  ⟨[], [], [], rfl, OwnL.nil m E, rfl, rfl, fun i h p x h1 => by simp at h1⟩

theorem OwnD.len (h : OwnD m E Ei q s l) : l.length = s.len := by
  obtain ⟨q0, hs, qs, h⟩ := h
  rw [← h.l1, h.own.len]

theorem DD.hdr {q0 : Piece} {hs : List Sl} {qs : List Piece} (h : DD m E Ei q s l q0 hs qs) (hx : goAt l i = some x) :
    ∃ a p, hs[i.toNat]? = some a ∧ qs[i.toNat]? = some p ∧ OwnL m Ei p a x ∧ goAt hs i = some a := by
  obtain ⟨h0, h1⟩ := goAt_some hx
  have hlt := (List.getElem?_eq_some_iff.1 h1).1
  obtain ⟨a, ha⟩ := getElem?_of_lt (l := hs) (i := i.toNat) (by rw [h.l1]; exact hlt)
  obtain ⟨p, hp⟩ := getElem?_of_lt (l := qs) (i := i.toNat) (by rw [h.l2]; exact hlt)
  refine ⟨a, p, ha, hp, h.el _ _ _ _ ha hp h1, ?_⟩
  unfold goAt
  rw [show decide (0 ≤ i) = true by simpa using h0]
  exact ha

theorem OwnD.idx (h : OwnD m E Ei q s l) (hx : goAt l i = some x) : Idx s i := by
  obtain ⟨q0, hs, qs, h⟩ := h
  obtain ⟨a, p, h1, h2, h3, h4⟩ := h.hdr hx
  exact h.own.idx h4

theorem OwnD.view (h : OwnD m E Ei q s l) (hx : goAt l i = some x) : ∃ s', ViewD m E Ei q s l i s' := by
  obtain ⟨q0, hs, qs, h⟩ := h
  obtain ⟨a, p, h1, h2, h3, h4⟩ := h.hdr hx
  exact ⟨a, q0, hs, qs, h, h1⟩

theorem AtO.sub {T : TypeId} {k : Nat} {vs : List Value} (h : AtO qi T s k vs) (hs : ∀ o ∈ qi, o ∈ q) : AtV q s k vs := ⟨qi, T, hs, h⟩

theorem AtV.at {k : Nat} {vs : List Value} (h : AtV q s k vs) (j : Nat) (hj : O[j]? = some q) : AtM m O s k vs := fun X w0 w hS => by
  obtain ⟨qi, T, hs, b, cs, rfl, h2, h3, h4⟩ := h
  have hh := hS.own ⟨b, cs, T⟩ (List.mem_flatten.2 ⟨_, List.mem_of_getElem? hj, hs _ (List.mem_singleton.2 rfl)⟩)
  exact ⟨b, 0, cs.toArray, T, (0, 0), h2, hh, by simpa using h3, by simpa using h4⟩

theorem ViewD.atH (h : ViewD m E Ei q s l i s') (hx : goAt l i = some x) : AtV q s (i.toNat * 1) [s'.v] := by
  obtain ⟨q0, hs, qs, h, h2⟩ := h
  obtain ⟨a, p, h3, _, _, h4⟩ := h.hdr hx
  rw [h2] at h3
  obtain rfl := Option.some.inj h3
  obtain ⟨vs, h5, rfl⟩ := h.own.at h4 1 rfl
  exact h5.sub fun o ho => by rw [h.eq]; exact List.mem_append_left _ ho

theorem mem_flatten_of {qs : List Piece} {k : Nat} {p : Piece} (h : qs[k]? = some p) {o : OBlk} (ho : o ∈ p) : o ∈ qs.flatten :=
  List.mem_flatten.2 ⟨p, List.mem_of_getElem? h, ho⟩

/-- the inner slice and where it lies -/
theorem ViewD.inner (h : ViewD m E Ei q s l i s') (hx : goAt l i = some x) : ∃ p, (∀ o ∈ p, o ∈ q) ∧ OwnL m Ei p s' x := by
  obtain ⟨q0, hs, qs, h, h2⟩ := h
  obtain ⟨a, p, h3, h4, h5, _⟩ := h.hdr hx
  rw [h2] at h3
  obtain rfl := Option.some.inj h3
  exact ⟨p, fun o ho => by rw [h.eq]; exact List.mem_append_right _ (mem_flatten_of h4 ho), h5⟩

theorem ViewD.len (h : ViewD m E Ei q s l i s') (hx : goAt l i = some x) : x.length = s'.len := by
  obtain ⟨p, _, h⟩ := h.inner hx
  exact h.len

theorem ViewD.idx (h : ViewD m E Ei q s l i s') (hx : goAt l i = some x) (hy : goAt x j = some y) : Idx s' j := by
  obtain ⟨p, _, h⟩ := h.inner hx
  exact h.idx hy

theorem ViewD.at (h : ViewD m E Ei q s l i s') (hx : goAt l i = some x) (hy : goAt x j = some y) (n : Nat) (hn : Rep.wd β = n) : ∃ vs, AtV q s' (j.toNat * n) vs ∧ Rep.rd m vs y := by
  obtain ⟨p, hp, h⟩ := h.inner hx
  obtain ⟨vs, h1, h2⟩ := h.at hy n hn
  exact ⟨vs, h1.sub hp, h2⟩

theorem ViewD.froz (h : ViewD m E Ei q s l i s') (hx : goAt l i = some x) (hm : Mem.le m m') (hq : ∀ o ∈ q, m' o.b = some o.cs) : Rd m' s' x := by
  obtain ⟨p, hp, h⟩ := h.inner hx
  exact h.froz hm fun o ho => hq o (hp o ho)

theorem ViewD.vw (h : ViewD m E Ei q s l i s') (hx : goAt l i = some x) (hS : St X w0 w m O) {j : Nat} (hj : O[j]? = some q) : Vw m w s' x := by
  obtain ⟨p, hp, h⟩ := h.inner hx
  exact h.vw' fun o ho => ⟨(0, 0), hS.own o (List.mem_flatten.2 ⟨q, List.mem_of_getElem? hj, hp o ho⟩)⟩

theorem OwnD.froz (h : OwnD m E Ei q s l) (hm : Mem.le m m') (hq : ∀ o ∈ q, m' o.b = some o.cs) : Rd m' s l := by
  obtain ⟨q0, hs, qs, h⟩ := h
  have h0 : Rd m' s hs := h.own.froz hm fun o ho => hq o (by rw [h.eq]; exact List.mem_append_left _ ho)
  refine ⟨by rw [← h.l1]; exact h0.len, h0.cap, h0.max, h0.nil, fun k hk => ?_⟩
  have hk1 : k < hs.length := by rw [h.l1]; exact hk
  obtain ⟨b, off, cs, h1, h2, h3, h4⟩ := h0.el k hk1
  refine ⟨b, off, cs, h1, h2, h3, hs[k], h4, ?_⟩
  obtain ⟨p, hp⟩ := getElem?_of_lt (l := qs) (i := k) (by rw [h.l2]; exact hk)
  exact (h.el k hs[k] p l[k] (by simp [hk1]) hp (by simp [hk])).froz hm fun o ho => hq o (by rw [h.eq]; exact List.mem_append_right _ (mem_flatten_of hp ho))

/-- the inner ones are turned no more -/
theorem St.shallow (hS : St X w0 w m (q :: O)) (h : OwnD m E Ei q s l) : ∃ m' q', MLe X w0.heap.size m m' ∧ St X w0 w m' (q' :: O) ∧ OwnL m' E q' s l := by
  obtain ⟨q0, hs, qs, h⟩ := h
  have h1 : St X w0 w m (qs.flatten :: q0 :: O) := hS.permF (R := []) (by
    simp only [List.flatten_cons, List.append_nil, h.eq, ← List.append_assoc]
    exact List.Perm.append_right _ List.perm_append_comm)
  obtain ⟨m', hm, hS', hz⟩ := h1.freeze
  refine ⟨m', q0, hm, hS', ?_⟩
  have ho := h.own.mono hm.le
  refine ⟨by rw [← h.l1]; exact ho.len, ho.cap, ho.max, ho.blk.imp id fun ⟨b, cs, h1, h2, h3, h4⟩ => ⟨b, cs, h1, h2, h3, fun k hk => ?_⟩⟩
  have hk1 : k < hs.length := by rw [h.l1]; exact hk
  refine ⟨hs[k], h4 k hk1, ?_⟩
  obtain ⟨p, hp⟩ := getElem?_of_lt (l := qs) (i := k) (by rw [h.l2]; exact hk)
  exact (h.el k hs[k] p l[k] (by simp [hk1]) hp (by simp [hk])).froz hm.le fun o ho => hz o (mem_flatten_of hp ho)

theorem goAt_goSet {γ : Type} {l : List γ} {i : Int} {x y : γ} (h : goAt l i = some x) : goAt (goSet l i y) i = some y := by
  obtain ⟨h0, h1⟩ := goAt_some h
  have hlt := (List.getElem?_eq_some_iff.1 h1).1
  unfold goAt
  rw [show decide (0 ≤ i) = true by simpa using h0]
  simp [goSet, hlt]

theorem flatten_set_perm {qs : List Piece} {k : Nat} {p p' : Piece} (h : qs[k]? = some p) : ((qs.set k p').flatten ++ p).Perm (p' ++ qs.flatten) := by
  induction qs generalizing k with
  | nil => simp at h
  | cons a qs ih =>
    cases k with
    | zero =>
      simp only [List.getElem?_cons_zero, Option.some.injEq] at h
      subst h
      simp only [List.set_cons_zero, List.flatten_cons, List.append_assoc]
      exact List.Perm.append_left _ List.perm_append_comm
    | succ k =>
      simp only [List.getElem?_cons_succ] at h
      simp only [List.set_cons_succ, List.flatten_cons]
      have := ih h
      calc (a ++ (qs.set k p').flatten ++ p).Perm (a ++ ((qs.set k p').flatten ++ p)) := by rw [List.append_assoc]
        _ |>.Perm (a ++ (p' ++ qs.flatten)) := List.Perm.append_left _ this
        _ |>.Perm (p' ++ (a ++ qs.flatten)) := by
          rw [← List.append_assoc, ← List.append_assoc]
          exact List.Perm.append_right _ List.perm_append_comm
end

section
variable {P : Program} {L : List (Nat × Value)} {m : Mem} {O : List Piece} {d : Option Tmp} {ty : TypeId} {p : String} {af : Array Edge} {g : Option (Nat × Bool)} {x y : Operand}
variable {a : Act} {n : Nat} {X : List Nat} {w0 w : World} {K : Act → World → Prop} {Q : Exit → Act → World → Prop} {β : Type} [Rep β] {l r l1 l2 : List (List β)}

theorem wp_makeD {t E Ei : TypeId} {kl kc : IntKind} {c : Int} {by' : Nat} {zc : List Value} (hF : FrD DS a n L) (hS : St X w0 w m O) (hu : P.underlying t = some (.slice E)) (hI : inf P E = some (1, by', zc)) (hzc : zc = [nilS.v])
    (hx : evo L x = some (.int kl c)) (hy : evo L y = some (.int kc c)) (hby : 1 ≤ by') (hr : goMake by' c ([] : List β) = some l) (hd : dok d n = true)
    (k : ∀ a' w' q s, FrD DS a' n (putL d s.v L) → St X w0 w' m (q :: O) → OwnD m E Ei q s l → Below w.heap.size w w' → K a' w') :
    (⟨d, .makeSlice t x y, ty, p, af, g⟩ : Oper).wp P a w K Q := by
  subst hzc
  unfold goMake at hr
  cases hb : (decide (0 ≤ c) && decide ((by' : Int) * c ≤ 281474976710656) && decide (c ≤ 9223372036854775807)) with
  | false => rw [hb] at hr; cases hr
  | true =>
    rw [hb] at hr
    obtain rfl := (Option.some.inj hr).symm
    refine wp_make (α := Sl) (z := nilS) (l := List.replicate c.toNat nilS) hF hS hu hI rfl hx hy rfl rfl hby (by unfold goMake; rw [hb]; rfl) hd fun a' w' q s hF' hS' hq hb' => ?_
    refine k a' w' q s hF' hS' ⟨q, List.replicate c.toNat nilS, List.replicate c.toNat [], ?_, hq, by simp, by simp, fun i h p x h1 h2 h3 => ?_⟩ hb'
    · have : (List.replicate c.toNat ([] : Piece)).flatten = [] := by simp
      rw [this, List.append_nil]
    · rw [List.getElem?_replicate] at h1 h2 h3
      split at h1
      · rename_i hlt
        rw [if_pos hlt] at h2 h3
        obtain rfl := Option.some.inj h1
        obtain rfl := Option.some.inj h2
        obtain rfl := Option.some.inj h3
        exact OwnL.nil m Ei
      · cases h1

/-- a list of one list -/
theorem wp_build1D {t E Ei : TypeId} {qi : Piece} {s' : Sl} {l' : List β} {o : Operand} {by' : Nat} {zc : List Value} (hF : FrD DS a n L) (hS : St X w0 w m (qi :: O)) (hq : OwnL m Ei qi s' l') (hu : P.underlying t = some (.slice E)) (hI : inf P E = some (1, by', zc)) (hzc : zc = [nilS.v])
    (hx : evo L o = some s'.v) (hd : dok d n = true)
    (k : ∀ a' w' q s, FrD DS a' n (putL d s.v L) → St X w0 w' m (q :: O) → OwnD m E Ei q s [l'] → Below w.heap.size w w' → K a' w') :
    (⟨d, .buildSlice t 1 [(0, o)].toArray, ty, p, af, g⟩ : Oper).wp P a w K Q := by
  subst hzc
  refine wp_buildSlice' (α := Sl) (l := [s']) (vs := [(0, s'.v)]) (cells := [s'.v]) hF hS hu hI (by simp [evps, hx]) rfl (by kernel_rfl) rfl rfl rfl ⟨rfl, rfl⟩ rfl hd fun a' w' q s hF' hS' hq' hb' => ?_
  refine k a' w' (q ++ qi) s hF' ?_ ⟨q, [s'], [qi], by simp, hq', rfl, rfl, fun i h p x h1 h2 h3 => ?_⟩ hb'
  · exact hS'.permF (R := []) (by simp)
  · cases i with
    | zero => simp at h1 h2 h3; subst h1 h2 h3; exact hq
    | succ i => simp at h1

theorem wp_appendD {t E Ei : TypeId} {q1 q2 : Piece} {s1 s2 : Sl} {by' : Nat} {zc : List Value} (hF : FrD DS a n L) (hS : St X w0 w m (q1 :: q2 :: O)) (hq1 : OwnD m E Ei q1 s1 l1) (hq2 : OwnD m E Ei q2 s2 l2) (hu : P.underlying t = some (.slice E)) (hI : inf P E = some (1, by', zc)) (hzc : zc = [nilS.v])
    (hx : evo L x = some s1.v) (hy : evo L y = some s2.v) (hby : 1 ≤ by') (hr : goApp by' l1 l2 = some r) (hd : dok d n = true)
    (k : ∀ a' w' q' s', FrD DS a' n (putL d s'.v L) → St X w0 w' m (q' :: O) → OwnD m E Ei q' s' r → K a' w') :
    (⟨d, .call { callee := .builtin .append, args := #[x, y], argTypes := #[t, t] }, ty, p, af, g⟩ : Oper).wp P a w K Q := by
  subst hzc
  obtain ⟨q01, hs1, qs1, h1⟩ := hq1
  obtain ⟨q02, hs2, qs2, h2⟩ := hq2
  obtain ⟨hb, rfl⟩ := goApp_some hr
  have hS1 : St X w0 w m (q01 :: q02 :: (qs1.flatten ++ qs2.flatten) :: O) := hS.permF (R := []) (by
    simp only [List.flatten_cons, List.append_nil, h1.eq, h2.eq, List.append_assoc]
    exact List.Perm.append_left _ (List.perm_append_comm_assoc _ _ _))
  refine wp_append (α := Sl) (l := hs1) (xs := hs2) (r := hs1 ++ hs2) hF hS1 h1.own hu hI rfl rfl hx hy (h2.own.vw hS1 (j := 1) rfl) rfl hby (by
    unfold goApp
    rw [h1.l1, h2.l1, show decide ((l1.length + l2.length) * by' ≤ 140737488355328) = true by simpa using hb]
    rfl) hd fun a' w' q' s' hF' hS' hq' => ?_
  refine k a' w' (q' ++ (qs1.flatten ++ qs2.flatten)) s' hF' ?_ ⟨q', hs1 ++ hs2, qs1 ++ qs2, by simp, hq', by simp [h1.l1, h2.l1], by simp [h1.l2, h2.l2], fun i h p x e1 e2 e3 => ?_⟩
  · exact hS'.permF (R := q02) (by
      simp only [List.flatten_cons, List.append_assoc]
      refine List.Perm.append_left _ ?_
      simpa only [List.append_assoc] using (List.perm_append_comm (l₁ := qs1.flatten ++ qs2.flatten ++ O.flatten) (l₂ := q02)))
  · by_cases hi : i < l1.length
    · rw [List.getElem?_append_left (by rw [h1.l1]; exact hi)] at e1
      rw [List.getElem?_append_left (by rw [h1.l2]; exact hi)] at e2
      rw [List.getElem?_append_left hi] at e3
      exact h1.el i h p x e1 e2 e3
    · rw [List.getElem?_append_right (by rw [h1.l1]; omega), h1.l1] at e1
      rw [List.getElem?_append_right (by rw [h1.l2]; omega), h1.l2] at e2
      rw [List.getElem?_append_right (by omega)] at e3
      exact h2.el _ h p x e1 e2 e3

/-- another list in the place of one -/
theorem wp_storeD {t E Ei : TypeId} {q qi : Piece} {s s2 : Sl} {k' : Nat} {i : Int} {x0 x2 : List β} (hF : FrD DS a n L) (hS : St X w0 w m (q :: qi :: O)) (hq : OwnD m E Ei q s l) (hqi : OwnL m Ei qi s2 x2) (hz : szOf P t = some 1)
    (hx : evo L x = some (elP s k')) (hy : evo L y = some s2.v) (hi : goAt l i = some x0) (hk : k' = i.toNat * 1)
    (kk : ∀ w' q', St X w0 w' m (q' :: O) → OwnD m E Ei q' s (goSet l i x2) → K a w') :
    (⟨none, .store t x y, ty, p, af, g⟩ : Oper).wp P a w K Q := by
  obtain ⟨q0, hs, qs, h⟩ := hq
  obtain ⟨h0, p0, e1, e2, e3, e4⟩ := h.hdr hi
  obtain ⟨vs, hat, rfl⟩ := h.own.at e4 1 rfl
  have hS1 : St X w0 w m (q0 :: qs.flatten :: qi :: O) := hS.permF (R := []) (by simp [h.eq])
  obtain ⟨hi0, hi1⟩ := goAt_some hi
  refine wp_storeE (α := Sl) (e' := s2) (us := [s2.v]) (vs := [h0.v]) 0 hF hS1 h.own hz hx hy rfl rfl rfl rfl rfl e4 hat rfl hk rfl fun w' q' hS' hq' => ?_
  refine kk w' (q' ++ (qs.set i.toNat qi).flatten) ?_ ⟨q', goSet hs i s2, qs.set i.toNat qi, rfl, hq', by simp [goSet, h.l1], by simp [goSet, h.l2], fun k h1 p1 x1 f1 f2 f3 => ?_⟩
  · exact hS'.permF (R := p0) (by
      simp only [List.flatten_cons, List.append_assoc]
      refine List.Perm.append_left _ ?_
      have hp := flatten_set_perm (p' := qi) e2
      refine (List.Perm.append_left (qs.set i.toNat qi).flatten List.perm_append_comm).trans ?_
      rw [← List.append_assoc, ← List.append_assoc]
      exact List.Perm.append_right _ (hp.trans List.perm_append_comm))
  · by_cases hki : k = i.toNat
    · subst hki
      have l1 := (List.getElem?_eq_some_iff.1 e1).1
      have l2 := (List.getElem?_eq_some_iff.1 e2).1
      have l3 := (List.getElem?_eq_some_iff.1 hi1).1
      simp [goSet, l1, l2, l3] at f1 f2 f3
      subst f1 f2 f3
      exact hqi
    · rw [goSet, List.getElem?_set_ne (Ne.symm hki)] at f1 f3
      rw [List.getElem?_set_ne (Ne.symm hki)] at f2
      exact h.el k h1 p1 x1 f1 f2 f3

/-- a store into an element of an element -/
theorem wp_storeV {t E Ei : TypeId} {q : Piece} {s s' : Sl} {sz nz k' : Nat} {i j : Int} {xl : List β} {e e' : β} {v : Value} {us vs : List Value} (o : Nat) (hF : FrD DS a n L) (hS : St X w0 w m (q :: O)) (hq : ViewD m E Ei q s l i s') (hi : goAt l i = some xl) (hz : szOf P t = some nz)
    (hx : evo L x = some (elP s' k')) (hy : evo L y = some v) (hv : v.cells = us.toArray) (hn : us.length = nz) (h1 : us.all (·.oneCell') = true) (hwd : Rep.wd β = sz) (hle : Nat.ble (o + us.length) sz = true) (hj : goAt xl j = some e)
    (hat : AtV q s' (j.toNat * sz) vs) (hvl : vs.length = sz) (hk : k' = j.toNat * sz + o) (hrd : Rep.rd m (setCs vs o us) e')
    (kk : ∀ w' q', St X w0 w' m (q' :: O) → ViewD m E Ei q' s (goSet l i (goSet xl j e')) i s' → K a w') :
    (⟨none, .store t x y, ty, p, af, g⟩ : Oper).wp P a w K Q := by
  obtain ⟨q0, hs, qs, h, hh⟩ := hq
  obtain ⟨h0, p0, e1, e2, e3, e4⟩ := h.hdr hi
  rw [hh] at e1
  obtain rfl := Option.some.inj e1
  obtain ⟨hi0, hi1⟩ := goAt_some hi
  have hS1 : St X w0 w m (p0 :: q0 :: ((qs.set i.toNat []).flatten) :: O) := hS.permF (R := []) (by
    simp only [List.flatten_cons, List.append_nil, h.eq, ← List.append_assoc]
    refine List.Perm.append_right _ ?_
    have hp := flatten_set_perm (p' := []) e2
    refine List.Perm.trans (l₂ := q0 ++ p0 ++ (qs.set i.toNat []).flatten) (List.Perm.append_right _ List.perm_append_comm) ?_
    rw [List.append_assoc]
    exact List.Perm.append_left _ (List.perm_append_comm.trans hp))
  have hat' : AtO p0 Ei s' (j.toNat * sz) vs := by
    obtain ⟨vs', g1, g2⟩ := e3.at hj sz hwd
    have g3 := Rep.len g2
    obtain ⟨b1, o1, c1, T1, z1, k1, k2, k3, k4⟩ := hat.at (m := m) (O := q :: O) 0 rfl X w0 w hS
    obtain ⟨b2, o2, c2, T2, z2, k5, k6, k7, k8⟩ := g1.at (m := m) (O := p0 :: q0 :: ((qs.set i.toNat []).flatten) :: O) 0 rfl X w0 w hS1
    rw [k1] at k5
    simp only [Option.some.injEq, Addr.mk.injEq, and_true] at k5
    obtain ⟨rfl, rfl⟩ := k5
    rw [k2] at k6
    simp only [Option.some.injEq, Obj.cells.injEq] at k6
    obtain ⟨rfl, _, _⟩ := k6
    rw [g3, hwd] at k8
    rw [hvl] at k4
    rw [← k4, k8]
    exact g1
  refine wp_storeE (e' := e') o hF hS1 e3 hz hx hy hv hn h1 hwd hle hj hat' hvl hk hrd fun w' p' hS' hp' => ?_
  refine kk w' (q0 ++ (qs.set i.toNat p').flatten) ?_ ⟨q0, hs, qs.set i.toNat p', ⟨rfl, h.own, by simp [goSet, h.l1], by simp [goSet, h.l2], fun k h1 p1 x1 f1 f2 f3 => ?_⟩, hh⟩
  · refine hS'.permF (R := []) ?_
    simp only [List.flatten_cons, List.append_nil, ← List.append_assoc]
    refine List.Perm.append_right _ ?_
    have l2 := (List.getElem?_eq_some_iff.1 e2).1
    have hp := flatten_set_perm (qs := qs.set i.toNat []) (k := i.toNat) (p := []) (p' := p') (by simp [l2])
    rw [List.set_set, List.append_nil] at hp
    refine List.Perm.trans (List.Perm.append_left q0 hp) ?_
    rw [← List.append_assoc]
    exact List.Perm.append_right _ List.perm_append_comm
  · by_cases hki : k = i.toNat
    · subst hki
      have l2 := (List.getElem?_eq_some_iff.1 e2).1
      have l3 := (List.getElem?_eq_some_iff.1 hi1).1
      rw [hh] at f1
      simp [goSet, l2, l3] at f2 f3
      obtain rfl := Option.some.inj f1
      subst f2 f3
      exact hp'
    · rw [goSet, List.getElem?_set_ne (Ne.symm hki)] at f3
      rw [List.getElem?_set_ne (Ne.symm hki)] at f2
      exact h.el k h1 p1 x1 f1 f2 f3
end

/-! ### a slice against nil -/
section
variable {P : Program} {L : List (Nat × Value)} {m : Mem} {O : List Piece} {d : Option Tmp} {ty : TypeId} {p : String} {af : Array Edge} {g : Option (Nat × Bool)} {x y : Operand}

theorem run_equal_nilS (t e : TypeId) (a : Option Addr) (l c : Nat) (w : World) (h : P.underlying t = some (.slice e)) : (Op.equal t (.slice a l c) (.slice none 0 0)).run P w = .ok a.isNone w := by
  show (Op.equalIn (9999 + 1) t (.slice a l c) (.slice none 0 0)).run P w = _
  generalize 9999 = k
  cases a <;> simp [Op.equalIn, run_underlying h]

theorem ex_eqNil {t yt e : TypeId} {s : Sl} (hu : P.underlying t = some (.slice e)) (hx : evo L x = some s.v) (hy : evo L y = some nilS.v) : Ex P ⟨d, .binOp .eql t x y yt, ty, p, af, g⟩ L m O (.bool s.p.isNone) := fun _ a n X w0 w hF _ => by
  simp only [execOp, hF.eval hx, hF.eval hy, eqGuard]
  simp [binOp, run_equal_nilS t e s.p s.len s.cap w hu]

theorem ex_neNil {t yt e : TypeId} {s : Sl} (hu : P.underlying t = some (.slice e)) (hx : evo L x = some s.v) (hy : evo L y = some nilS.v) : Ex P ⟨d, .binOp .neq t x y yt, ty, p, af, g⟩ L m O (.bool (!s.p.isNone)) := fun _ a n X w0 w hF _ => by
  simp only [execOp, hF.eval hx, hF.eval hy, eqGuard]
  simp [binOp, run_equal_nilS t e s.p s.len s.cap w hu]

theorem Rd.nilE {α : Type} [Rep α] {s : Sl} {l : List α} (h : Rd m s l) (hc : s.p.isNone = true) : l = [] := by
  have h1 := h.nil (by simpa using hc)
  exact List.eq_nil_of_length_eq_zero (by rw [h.len]; exact h1.1)

theorem OwnL.nilE {α : Type} [Rep α] {T : TypeId} {q : Piece} {s : Sl} {l : List α} (h : OwnL m T q s l) (hc : s.p.isNone = true) : l = [] := by
  have hp : s.p = none := by simpa using hc
  refine List.eq_nil_of_length_eq_zero ?_
  rcases h.blk with ⟨_, _, h3⟩ | ⟨b, cs, _, h2, _⟩
  · have := h.cap; have := h.len; omega
  · rw [hp] at h2; cases h2
end

/-! ### what a plain function comes to -/
/-- x comes to an end, with a result of which Q -/
def Tot {α : Type} (x : Option α) (Q : α → Prop) : Prop := ∃ r, x = some r ∧ Q r

section
variable {α β σ ρ : Type} {x y : Option α} {P Q : α → Prop} {R : β → Prop} {f : α → Option β}

theorem tot_some {r : α} (h : Q r) : Tot (some r) Q := ⟨r, rfl, h⟩
theorem tot_of {r : α} (e : x = some r) (h : Q r) : Tot x Q := ⟨r, e, h⟩
theorem tot_bind (h : Tot x Q) (k : ∀ t, Q t → Tot (f t) R) : Tot (x.bind f) R := by
  obtain ⟨r, rfl, hr⟩ := h
  exact k r hr
theorem tot_mono (h : Tot x P) (k : ∀ r, P r → Q r) : Tot x Q := by
  obtain ⟨r, e, hr⟩ := h
  exact ⟨r, e, k r hr⟩
theorem tot_cond {b : Bool} (h1 : b = true → Tot x Q) (h2 : b = false → Tot y Q) : Tot (cond b x y) Q := by
  cases b
  · exact h2 rfl
  · exact h1 rfl
theorem tot_loop {body : σ → Option (Stp σ ρ)} {Q : ρ → Prop} {s : σ} (I : σ → Prop) (μ : σ → Nat) (h0 : I s)
    (h : ∀ s, I s → Tot (body s) (fun st => match st with | .next s' => I s' ∧ μ s' < μ s | .done r => Q r)) : Tot (loopC body s) Q := by
  refine loopC_inv I μ Q (fun s hs => ?_) s h0
  obtain ⟨st, e, hq⟩ := h s hs
  cases st with
  | next s' => exact .inr ⟨s', e, hq⟩
  | done r => exact .inl ⟨r, e, hq⟩
theorem tot_at {l : List α} {i : Int} (h0 : 0 ≤ i) (h1 : i < l.length) (hq : ∀ e, l[i.toNat]? = some e → e ∈ l → Q e) : Tot (goAt l i) Q := by
  have hlt : i.toNat < l.length := by omega
  have e : l[i.toNat]? = some l[i.toNat] := by simp [hlt]
  refine ⟨l[i.toNat], ?_, hq _ e (List.getElem_mem hlt)⟩
  unfold goAt
  rw [decide_eq_true h0]
  exact e
theorem tot_app {b : Nat} {l z : List α} {Q : List α → Prop} (h : (l.length + z.length) * b ≤ 140737488355328) (hq : Q (l ++ z)) : Tot (goApp b l z) Q := ⟨_, goApp_ok h, hq⟩
theorem tot_make {b n : Nat} {z : α} {i : Int} {Q : List α → Prop} (hi : i = n) (h : b * n ≤ 281474976710656) (h2 : n ≤ 9223372036854775807) (hq : Q (List.replicate n z)) : Tot (goMake b i z) Q := by
  subst hi
  exact ⟨_, goMake_ok h h2, hq⟩
theorem tot_rem {a b : Int} {Q : Int → Prop} (h : b ≠ 0) (hq : Q (a.tmod b)) : Tot (goRem a b) Q := by
  refine ⟨_, ?_, hq⟩
  unfold goRem
  rw [show (b == 0) = false by simpa using h]
  rfl
theorem tot_quo {k : IntKind} {a b : Int} {Q : Int → Prop} (h : b ≠ 0) (hq : Q (k.wrap (a.tdiv b))) : Tot (goQuo k a b) Q := by
  refine ⟨_, ?_, hq⟩
  unfold goQuo
  rw [show (b == 0) = false by simpa using h]
  rfl
theorem tot_sub {l : List α} {i j : Int} {Q : List α → Prop} (h0 : 0 ≤ i) (h1 : i ≤ j) (h2 : j ≤ l.length) (hq : Q ((l.drop i.toNat).take (j.toNat - i.toNat))) : Tot (goSub l i j) Q := by
  refine ⟨_, ?_, hq⟩
  unfold goSub
  rw [decide_eq_true h0, decide_eq_true h1, decide_eq_true h2]
  rfl
theorem tot_eq {r : α} (h : Tot x (fun z => z = r)) : x = some r := by
  obtain ⟨z, e, rfl⟩ := h
  exact e
theorem cond_some {b : Bool} {x y : α} : cond b (some x) (some y) = some (cond b x y) := by cases b <;> rfl
end

/-- x answers whether P -/
def Bis (x : Option Bool) (P : Prop) : Prop := ∃ b : Bool, x = some b ∧ (b = true ↔ P)

section
variable {α : Type} {x y : Option Bool} {P Q : Prop}

theorem bis_some {b : Bool} (h : b = true ↔ P) : Bis (some b) P := ⟨b, rfl, h⟩
theorem bis_iff (h : Bis x P) (hpq : P ↔ Q) : Bis x Q := by
  obtain ⟨b, e, hb⟩ := h
  exact ⟨b, e, hb.trans hpq⟩
theorem bis_same (h1 : Bis x P) (h2 : Bis y P) : ∃ b : Bool, x = some b ∧ y = some b ∧ (b = true ↔ P) := by
  obtain ⟨b, rfl, hb⟩ := h1
  obtain ⟨c, rfl, hc⟩ := h2
  have : b = c := by
    rw [Bool.eq_iff_iff, hb, hc]
  subst this
  exact ⟨b, rfl, rfl, hb⟩
theorem bis_not (h : Bis x P) : Bis (x.bind fun t => some (!t)) (¬ P) := by
  obtain ⟨b, rfl, hb⟩ := h
  refine ⟨!b, rfl, ?_⟩
  rw [← hb]; cases b <;> simp
theorem bis_ret (h : Bis x P) : Bis (x.bind fun t => some t) P := by
  obtain ⟨b, rfl, hb⟩ := h
  exact ⟨b, rfl, hb⟩
theorem bis_or {b : Bool} (hb : b = true ↔ Q) (h : b = false → Bis x P) : Bis (cond b (some true) x) (Q ∨ P) := by
  cases b with
  | true => exact ⟨true, rfl, by simp [hb.1 rfl]⟩
  | false =>
    have hq : ¬ Q := fun h => by have := hb.2 h; simp at this
    exact bis_iff (h rfl) (by simp [hq])
theorem bis_and {b : Bool} (hb : b = true ↔ Q) (h : b = true → Bis x P) : Bis (cond b x (some false)) (Q ∧ P) := by
  cases b with
  | false => exact ⟨false, rfl, by simp [show ¬ Q from fun h => by have := hb.2 h; simp at this]⟩
  | true => exact bis_iff (h rfl) (by simp [hb.1 rfl])
theorem bis_nand {b : Bool} (hb : b = true ↔ Q) (h : b = true → Bis x P) : Bis (cond (!b) (some false) x) (Q ∧ P) := by
  cases b with
  | false => exact ⟨false, rfl, by simp [show ¬ Q from fun h => by have := hb.2 h; simp at this]⟩
  | true => exact bis_iff (h rfl) (by simp [hb.1 rfl])
theorem bis_bind_or {z : Option Bool} (h1 : Bis z Q) (h : ¬ Q → Bis x P) : Bis (z.bind fun t => cond t (some true) x) (Q ∨ P) := by
  obtain ⟨b, rfl, hb⟩ := h1
  exact bis_or hb fun e => h fun hq => by rw [hb.2 hq] at e; cases e
theorem bis_bind_and {z : Option Bool} (h1 : Bis z Q) (h : Q → Bis x P) : Bis (z.bind fun t => cond t x (some false)) (Q ∧ P) := by
  obtain ⟨b, rfl, hb⟩ := h1
  exact bis_and hb fun e => h (hb.1 e)
theorem bis_bind_nor {z : Option Bool} (h1 : Bis z Q) (h : Q → Bis x P) : Bis (z.bind fun t => cond (!t) (some true) x) (¬ Q ∨ P) := by
  obtain ⟨b, rfl, hb⟩ := h1
  refine bis_or (b := !b) (by rw [← hb]; cases b <;> simp) fun e => h (hb.1 (by simpa using e))
theorem bis_bind_nand {z : Option Bool} (h1 : Bis z Q) (h : Q → Bis x P) : Bis (z.bind fun t => cond (!t) (some false) x) (Q ∧ P) := by
  obtain ⟨b, rfl, hb⟩ := h1
  exact bis_nand hb fun e => h (hb.1 e)

/-- all elements of a list, by their numbers -/
theorem bis_loop {l : List α} (p : Nat → α → Prop) {body : Int → Option (Stp Int (Unit ⊕ Bool))}
    (h1 : ∀ k x, l[k]? = some x → ∃ b : Bool, (b = true ↔ p k x) ∧ body k = some (cond b (.next ((k + 1 : Nat) : Int)) (.done (.inr false))))
    (h2 : body l.length = some (.done (.inl ()))) : Bis ((loopC body 0).bind fun | .inl () => some true | .inr o => some o) (∀ k x, l[k]? = some x → p k x) := by
  suffices h : ∀ (j k : Nat), k + j = l.length → (∀ i x, i < k → l[i]? = some x → p i x) → Bis ((loopC body (k : Int)).bind fun | .inl () => some true | .inr o => some o) (∀ k x, l[k]? = some x → p k x) from
    h l.length 0 (by omega) (fun i x hi => by omega)
  intro j
  induction j with
  | zero =>
    intro k hk hp
    obtain rfl : k = l.length := by omega
    rw [loopC_eq, h2]
    exact ⟨true, rfl, by simp only [true_iff]; exact fun i x hx => hp i x (List.getElem?_eq_some_iff.1 hx).1 hx⟩
  | succ j ih =>
    intro k hk hp
    have hlt : k < l.length := by omega
    have hx : l[k]? = some l[k] := by simp [hlt]
    obtain ⟨b, hb, e⟩ := h1 k l[k] hx
    rw [loopC_eq, e]
    cases b with
    | true =>
      refine ih (k + 1) (by omega) fun i x hi hix => ?_
      by_cases hik : i = k
      · subst hik
        rw [hx] at hix
        obtain rfl := Option.some.inj hix
        exact hb.1 rfl
      · exact hp i x (by omega) hix
    | false =>
      refine ⟨false, rfl, ?_⟩
      simp only [Bool.false_eq_true, false_iff]
      exact fun hall => by have := hb.2 (hall k l[k] hx); simp at this
end

/-! ### strings -/
def goStrAt (l : List UInt8) (i : Int) : Option Int := cond (decide (0 ≤ i)) (l[i.toNat]?.map fun b => (b.toNat : Int)) none
def goCat (a b : List UInt8) : Option (List UInt8) := cond (decide (a.length + b.length ≤ 9223372036854775807)) (some (a ++ b)) none
def goBytes (l : List (K .u8)) : List UInt8 := l.map fun x => UInt8.ofNat x.v.toNat

theorem bytes_size (l : List UInt8) : (ByteArray.mk l.toArray).size = l.length := by simp [ByteArray.size]

section
variable {P : Program} {L : List (Nat × Value)} {m : Mem} {O : List Piece} {d : Option Tmp} {ty : TypeId} {p : String} {af : Array Edge} {g : Option (Nat × Bool)} {x y : Operand} {l r : List UInt8}

theorem ex_strLen {t : TypeId} (hu : P.underlying t = some .string) (hx : evo L x = some (strV l)) : Ex P ⟨d, .call { callee := .builtin .len, args := #[x], argTypes := #[t] }, ty, p, af, g⟩ L m O (.int .i64 (goLen l)) := fun _ a n X w0 w hF _ => by
  simp [execOp, resolve, invoke, builtin, Builtin.len_, hF.eval hx, run_underlying hu, goInt, goLen, bytes_size]

theorem ex_strIdx {t : TypeId} {k : IntKind} {i v : Int} (hu : P.underlying t = some .string) (hx : evo L x = some (strV l)) (hy : evo L y = some (.int k i)) (h : goStrAt l i = some v) : Ex P ⟨d, .index t x y, ty, p, af, g⟩ L m O (.int .u8 v) := fun _ a n X w0 w hF _ => by
  unfold goStrAt at h
  cases hb : decide (0 ≤ i) with
  | false => rw [hb] at h; cases h
  | true =>
    rw [hb] at h
    simp only [cond_true, Option.map_eq_some_iff] at h
    obtain ⟨b, h1, rfl⟩ := h
    obtain ⟨h2, h3⟩ := List.getElem?_eq_some_iff.1 h1
    have h0 : 0 ≤ i := by simpa using hb
    have hi : 0 ≤ i ∧ i < (ByteArray.mk l.toArray).size := by rw [bytes_size]; omega
    have hr := run_index_string (P := P) w t ⟨l.toArray⟩ k i hu
    rw [dif_pos hi] at hr
    simp only [execOp, hF.eval hx, hF.eval hy, Sem.run_bind, hr, Result.andThen_ok, Sem.run_pure]
    have e : (ByteArray.mk l.toArray)[i.toNat]'(by omega) = l[i.toNat] := by
      show l.toArray[i.toNat] = l[i.toNat]
      simp
    rw [e, h3]

theorem ex_strEq {xt yt : TypeId} (hx : evo L x = some (strV l)) (hy : evo L y = some (strV r)) : Ex P ⟨d, .binOp .eql xt x y yt, ty, p, af, g⟩ L m O (.bool (l == r)) := fun _ a n X w0 w hF _ => by
  simp only [execOp, hF.eval hx, hF.eval hy, eqGuard]
  simp [binOp_string_eql]

theorem ex_strNe {xt yt : TypeId} (hx : evo L x = some (strV l)) (hy : evo L y = some (strV r)) : Ex P ⟨d, .binOp .neq xt x y yt, ty, p, af, g⟩ L m O (.bool (l != r)) := fun _ a n X w0 w hF _ => by
  simp only [execOp, hF.eval hx, hF.eval hy, eqGuard]
  simp [binOp_string_neq, bne]

theorem ex_strLss {xt yt : TypeId} (hx : evo L x = some (strV l)) (hy : evo L y = some (strV r)) : Ex P ⟨d, .binOp .lss xt x y yt, ty, p, af, g⟩ L m O (.bool (Op.bytesLess l r)) := fun _ a n X w0 w hF _ => by
  simp only [execOp, hF.eval hx, hF.eval hy, eqGuard]
  simp [binOp_string_lss]

theorem ex_strCat {xt yt : TypeId} {v : List UInt8} (hx : evo L x = some (strV l)) (hy : evo L y = some (strV r)) (h : goCat l r = some v) : Ex P ⟨d, .binOp .add xt x y yt, ty, p, af, g⟩ L m O (strV v) := fun _ a n X w0 w hF _ => by
  unfold goCat at h
  cases hb : decide (l.length + r.length ≤ 9223372036854775807) with
  | false => rw [hb] at h; cases h
  | true =>
    rw [hb] at h
    obtain rfl := (Option.some.inj h).symm
    have hle : l.length + r.length ≤ 9223372036854775807 := by simpa using hb
    have hn : ¬ ((((ByteArray.mk l.toArray).size + (ByteArray.mk r.toArray).size : Nat) : Int) > IntKind.i64.max) := by
      rw [bytes_size, bytes_size]
      have : IntKind.i64.max = 9223372036854775807 := by decide
      rw [this]
      omega
    have e : (ByteArray.mk l.toArray) ++ (ByteArray.mk r.toArray) = ByteArray.mk (l ++ r).toArray := by
      apply ByteArray.ext
      simp
    simp only [execOp, hF.eval hx, hF.eval hy, eqGuard]
    simp only [binOp_string_add, Op.stringOp, if_neg hn, e]
    simp

theorem byteCells_fold (ns : List Int) (s : ByteArray) : ns.foldl (fun r n => r.push (UInt8.ofNat n.toNat)) s = ⟨s.data ++ (ns.map fun n => UInt8.ofNat n.toNat).toArray⟩ := by
  induction ns generalizing s with
  | nil => simp
  | cons n ns ih =>
    rw [List.foldl_cons, ih]
    apply ByteArray.ext
    simp [ByteArray.push]

theorem ex_toStr {t t' e : TypeId} {s : Sl} {b : List (K .u8)} (hu : P.underlying t = some (.slice e)) (he : P.underlying e = some (.int .u8)) (hd : P.underlying t' = some .string) (hx : evo L x = some s.v) (hv : ∀ (X : List Nat) (w0 w : World), St X w0 w m O → Vw m w s b) :
    Ex P ⟨d, .convert t t' x, ty, p, af, g⟩ L m O (strV (goBytes b)) := fun _ a n X w0 w hF hS => by
  have h := hv X w0 w hS
  have hr : (convert t t' s.v).run P w = .ok (strV (goBytes b)) w := by
    rw [run_convert_bytes_string w t t' e s.p s.len s.cap hu he hd]
    by_cases hne : 0 < b.length
    · obtain ⟨ad, news, hp, hnl, hnews, hnrd⟩ := h.cells hne
      have hwd : Rep.wd (K .u8) = 1 := rfl
      rw [hwd, Nat.mul_one] at hnl
      have hcells : news = b.map fun z => Value.int .u8 z.v := by
        apply List.ext_getElem?
        intro i
        by_cases hi : i < b.length
        · have h1 : slab news (i * 1) 1 = [Value.int .u8 b[i].v] := hnrd i hi
          unfold slab at h1
          rw [Nat.mul_one] at h1
          have h2 := congrArg (fun q => q[0]?) h1
          simp only [List.getElem?_take, List.getElem?_drop] at h2
          simp at h2
          rw [h2]
          simp [hi]
        · rw [List.getElem?_eq_none (by rw [hnl, ← h.len]; omega), List.getElem?_eq_none (by simp; omega)]
      have hl := run_loadCells_list (P := P) w ad news (fun j u hj => hnews j u hj)
      rw [hnl] at hl
      have hl2 : (loadCells ad s.len).run P w = .ok ((b.map (·.v)).map (Value.int .u8)).toArray w := by
        rw [hl, hcells, List.map_map]; rfl
      rw [hp, run_bytesToString w ad s.len s.cap _ hl2, byteCells_fold]
      have : ByteArray.empty.data = #[] := rfl
      rw [this]
      simp [goBytes, List.map_map, Function.comp_def]
    · have hb : b = [] := List.eq_nil_of_length_eq_zero (by omega)
      subst hb
      have hlen : s.len = 0 := by rw [← h.len]; rfl
      cases hp : s.p with
      | none => simp [Conv.bytesToString, goBytes]; rfl
      | some ad =>
        have hl2 : (loadCells ad s.len).run P w = .ok (([] : List Int).map (Value.int .u8)).toArray w := by
          rw [hlen]
          have := run_loadCells_list (P := P) w ad [] (fun j u hj => by simp at hj)
          simpa using this
        rw [run_bytesToString w ad s.len s.cap _ hl2]
        rfl
  simp only [execOp, hF.eval hx, Sem.run_bind, hr, Result.andThen_ok, Sem.run_pure]

theorem goSub_some' {γ : Type} {l r : List γ} {i j : Int} (h : goSub l i j = some r) : 0 ≤ i ∧ i ≤ j ∧ j ≤ (l.length : Int) ∧ r = (l.drop i.toNat).take (j.toNat - i.toNat) := by
  unfold goSub at h
  cases hb : (decide (0 ≤ i) && decide (i ≤ j) && decide (j ≤ (l.length : Int))) with
  | false => rw [hb] at h; cases h
  | true =>
    rw [hb] at h
    simp only [Bool.and_eq_true, decide_eq_true_eq] at hb
    exact ⟨hb.1.1, hb.1.2, hb.2, (Option.some.inj h).symm⟩

theorem eqv_string {dd : Nat} {t : TypeId} {a b : List UInt8} (h : P.underlying t = some .string) : EqV P (dd + 1) t (strV a) (strV b) (a == b) := fun w => by
  rw [run_equalIn_string w dd t ⟨a.toArray⟩ ⟨b.toArray⟩ h]
  simp
end

/-- an int, in short -/
abbrev iV (n : Int) : Value := .int .i64 n

/-! ### function values with what they hold -/
section
variable {P : Program} {L : List (Nat × Value)} {m : Mem} {O O0 O1 : List Piece} {a : Act} {n : Nat} {X : List Nat} {w0 w : World} {Q : Exit → Act → World → Prop} {K : Act → World → Prop}
variable {d : Option Tmp} {ty : TypeId} {p : String} {af : Array Edge} {g : Option (Nat × Bool)} {ops : Array Oper} {rest : List Oper} {x : Operand}

theorem ex_makeFunc {f : FuncId} {cs : List Operand} {vs : List Value} (hc : evs L cs = some vs) : Ex P ⟨d, .makeFunc (.func f) #[] cs.toArray, ty, p, af, g⟩ L m O (.func (.func f) #[] vs.toArray) :=
  fun _ a n X w0 w hF _ => by
    have e : cs.toArray.map a.eval = vs.toArray := by simp [hF.evs hc]
    simp [execOp, Instr.makeFunc, hF.evs hc]

theorem run_callv {o : Oper} {f : FuncId} {fn : Func} {args : Array Operand} {ats : Array TypeId} {cap : List Value} (hop : o.op = .call { callee := .value x, args, argTypes := ats })
    (hx : a.eval x = .func (.func f) #[] cap.toArray) (hf : P.funcs[f]? = some fn) (hname : (fn.name == "runtime.NumGoroutine") = false) (hb : fn.body.isNone = false) : (execOp a.eval o).run P w = .ok (.enter f (args.map a.eval ++ cap.toArray)) w := by
  have h1 : ¬ fn.name = "runtime.NumGoroutine" := by simpa using hname
  have h2 : ¬ fn.body = none := by cases hx : fn.body <;> simp_all
  unfold execOp
  simp [hop, resolve, hx, Deferred.ofValue, invoke, callFunc, hf, h1, h2]

theorem wp_callV {f : FuncId} {fn : Func} {args : List Operand} {ats : Array TypeId} {vs cap : List Value} {R : Value → World → Prop} (hF : FrD DS a n L)
    (hx : evo L x = some (.func (.func f) #[] cap.toArray))
    (hf : P.funcs[f]? = some fn) (hname : (fn.name == "runtime.NumGoroutine") = false) (hb : fn.body.isNone = false) (hargs : evs L args = some vs) (hd : dok d n = true)
    (hc : RetX P f (vs ++ cap) w R) (k : ∀ a' w' v, R v w' → FrD DS a' n (putL d v L) → K a' w') :
    (⟨d, .call { callee := .value x, args := args.toArray, argTypes := ats }, ty, p, af, g⟩ : Oper).wp P a w K Q := by
  unfold Oper.wp
  rw [run_callv (a := a) (w := w) (cap := cap) rfl (hF.eval hx) hf hname hb]
  have e : args.toArray.map a.eval ++ cap.toArray = (vs ++ cap).toArray := by simp [hF.evs hargs]
  rw [e]
  refine Calls.mono hc ?_
  rintro e w' ⟨v, rfl, hR⟩
  exact k _ _ _ hR (hF.put _ hd)

theorem wp_callv {f : FuncId} {fn : Func} {args : List Operand} {ats : Array TypeId} {vs cap : List Value} {R : Value → World → Prop} (hF : FrD DS a n L) (hS : St X w0 w m O)
    (hx : evo L x = some (.func (.func f) #[] cap.toArray))
    (hf : P.funcs[f]? = some fn) (hname : (fn.name == "runtime.NumGoroutine") = false) (hb : fn.body.isNone = false) (hargs : evs L args = some vs) (hd : dok d n = true)
    (hc : Ret P f (vs ++ cap) w R) (k : ∀ a' w' v, R v w' → FrD DS a' n (putL d v L) → St X w0 w' m O → Below w.heap.size w w' → K a' w') :
    (⟨d, .call { callee := .value x, args := args.toArray, argTypes := ats }, ty, p, af, g⟩ : Oper).wp P a w K Q := by
  unfold Oper.wp
  rw [run_callv (a := a) (w := w) (cap := cap) rfl (hF.eval hx) hf hname hb]
  have e : args.toArray.map a.eval ++ cap.toArray = (vs ++ cap).toArray := by simp [hF.evs hargs]
  rw [e]
  refine Calls.mono hc ?_
  rintro e w' ⟨v, rfl, hbel, hR⟩
  exact k _ _ _ hR (hF.put _ hd) (hS.below hbel) hbel

theorem q_callv {f : FuncId} {fn : Func} {args : List Operand} {ats : Array TypeId} {vs cap : List Value} {R : Value → World → Prop} (hF : FrD DS a n L) (hS : St X w0 w m O)
    (hx : evo L x = some (.func (.func f) #[] cap.toArray))
    (hf : P.funcs[f]? = some fn) (hname : (fn.name == "runtime.NumGoroutine") = false) (hb : fn.body.isNone = false) (hargs : evs L args = some vs) (hd : dok d n = true)
    (hc : Ret P f (vs ++ cap) w R) (k : ∀ a' w' v, R v w' → FrD DS a' n (putL d v L) → St X w0 w' m O → wpList P ops Q rest a' w') :
    wpList P ops Q (⟨d, .call { callee := .value x, args := args.toArray, argTypes := ats }, ty, p, af, none⟩ :: rest) a w :=
  wpList_plain rfl fun _ hK => wp_callv hF hS hx hf hname hb hargs hd hc fun a' w' v h1 h2 h3 _ => hK _ _ (k a' w' v h1 h2 h3)

theorem q_callvg {f : FuncId} {fn : Func} {args : List Operand} {ats : Array TypeId} {vs cap : List Value} {R : Value → World → Prop} (hF : FrD DS a n L) (hS : St X w0 w m O)
    (hw : Region.wanted ⟨d, .call { callee := .value x, args := args.toArray, argTypes := ats }, ty, p, af, g⟩ (yielded ops a.tmps) = true)
    (hx : evo L x = some (.func (.func f) #[] cap.toArray))
    (hf : P.funcs[f]? = some fn) (hname : (fn.name == "runtime.NumGoroutine") = false) (hb : fn.body.isNone = false) (hargs : evs L args = some vs) (hd : dok d n = true)
    (hc : Ret P f (vs ++ cap) w R) (k : ∀ a' w' v, R v w' → FrD DS a' n (putL d v L) → St X w0 w' m O → wpList P ops Q rest a' w') :
    wpList P ops Q (⟨d, .call { callee := .value x, args := args.toArray, argTypes := ats }, ty, p, af, g⟩ :: rest) a w :=
  q_dog hw fun _ hK => wp_callv hF hS hx hf hname hb hargs hd hc fun a' w' v h1 h2 h3 _ => hK _ _ (k a' w' v h1 h2 h3)

variable {Ld : LdB} {f : Nat} {l : Array Bool}

theorem e_callv {g : FuncId} {fn : Func} {args : List Operand} {ats : Array TypeId} {vs cap : List Value} {R : Value → World → Prop} {i : Nat} (hF : FrD DS a n L) (hS : St X w0 w m O)
    (hi : ops[i]? = some ⟨d, .call { callee := .value x, args := args.toArray, argTypes := ats }, ty, p, af, none⟩)
    (hx : evo L x = some (.func (.func g) #[] cap.toArray))
    (hf : P.funcs[g]? = some fn) (hname : (fn.name == "runtime.NumGoroutine") = false) (hb : fn.body.isNone = false) (hargs : evs L args = some vs) (hd : dok d n = true)
    (hc : Ret P g (vs ++ cap) w R) (k : ∀ a' w' v, R v w' → FrD DS a' n (putL d v L) → St X w0 w' m O → wpE P ops Ld K f (l.setIfInBounds i true) a' w') : EOp P ops Ld K f l i a w :=
  e_op hi rfl fun _ hK => wp_callv hF hS hx hf hname hb hargs hd hc fun a' w' v h1 h2 h3 hbb => hK _ _ hbb (k a' w' v h1 h2 h3)

theorem e_callvg {g : FuncId} {fn : Func} {args : List Operand} {ats : Array TypeId} {vs cap : List Value} {gd : Option (Nat × Bool)} {R : Value → World → Prop} {i : Nat} (hF : FrD DS a n L) (hS : St X w0 w m O)
    (hi : ops[i]? = some ⟨d, .call { callee := .value x, args := args.toArray, argTypes := ats }, ty, p, af, gd⟩)
    (hw : Region.wanted ⟨d, .call { callee := .value x, args := args.toArray, argTypes := ats }, ty, p, af, gd⟩ (yielded ops a.tmps) = true)
    (hx : evo L x = some (.func (.func g) #[] cap.toArray))
    (hf : P.funcs[g]? = some fn) (hname : (fn.name == "runtime.NumGoroutine") = false) (hb : fn.body.isNone = false) (hargs : evs L args = some vs) (hd : dok d n = true)
    (hc : Ret P g (vs ++ cap) w R) (k : ∀ a' w' v, R v w' → FrD DS a' n (putL d v L) → St X w0 w' m O → wpE P ops Ld K f (l.setIfInBounds i true) a' w') : EOp P ops Ld K f l i a w :=
  e_opg hi hw fun _ hK => wp_callv hF hS hx hf hname hb hargs hd hc fun a' w' v h1 h2 h3 hbb => hK _ _ hbb (k a' w' v h1 h2 h3)
end

/-! ### nil told apart from empty -/
/-- a slice of which the list is empty is nil -/
def NF {α : Type} (s : Sl) (l : List α) : Prop := l.isEmpty = true → s.p = none

def goNE {α : Type} (l : List α) : Option Unit := cond l.isEmpty none (some ())

section
variable {α : Type} {s : Sl} {l x : List α}

theorem NF.nil : NF nilS ([] : List α) := fun _ => rfl
theorem NF.cons {a : α} : NF s (a :: l) := fun h => by cases h
theorem NF.goNE {u : Unit} (h : goNE l = some u) : NF s l := fun hl => by unfold Gx.goNE at h; rw [hl] at h; cases h
theorem NF.app {b : Nat} {t : List α} {a : α} (h : goApp b x (a :: l) = some t) : NF s t := fun hl => by
  unfold goApp at h
  cases hc : decide ((x.length + (a :: l).length) * b ≤ 140737488355328) with
  | false => rw [hc] at h; cases h
  | true =>
    rw [hc] at h
    obtain rfl := Option.some.inj h
    cases x <;> simp at hl
end

section
variable {P : Program} {L : List (Nat × Value)} {m : Mem} {O : List Piece} {d : Option Tmp} {ty : TypeId} {p : String} {af : Array Edge} {g : Option (Nat × Bool)} {x y : Operand}
variable {α : Type} {s : Sl} {l : List α}

theorem nf_isNone (hn : NF s l) (hf : s.p.isNone = true → l = []) : s.p.isNone = l.isEmpty := by
  cases h : l.isEmpty with
  | true => rw [hn h]; rfl
  | false =>
    cases hp : s.p.isNone with
    | false => rfl
    | true => rw [hf hp] at h; simp at h

theorem ex_eqNilF {t yt e : TypeId} (hu : P.underlying t = some (.slice e)) (hn : NF s l) (hf : s.p.isNone = true → l = []) (hx : evo L x = some s.v) (hy : evo L y = some nilS.v) : Ex P ⟨d, .binOp .eql t x y yt, ty, p, af, g⟩ L m O (.bool l.isEmpty) := by
  rw [← nf_isNone hn hf]; exact ex_eqNil hu hx hy

theorem ex_neNilF {t yt e : TypeId} (hu : P.underlying t = some (.slice e)) (hn : NF s l) (hf : s.p.isNone = true → l = []) (hx : evo L x = some s.v) (hy : evo L y = some nilS.v) : Ex P ⟨d, .binOp .neq t x y yt, ty, p, af, g⟩ L m O (.bool (!l.isEmpty)) := by
  rw [← nf_isNone hn hf]; exact ex_neNil hu hx hy
end

/-! ### a part is taken out of a slice of the call's own -/
def goDel {α : Type} (l : List α) (i j : Int) : Option (List α) := cond (decide (0 ≤ i) && decide (i < j) && decide (j ≤ (l.length : Int))) (some (l.take i.toNat ++ l.drop j.toNat)) none

theorem goDel_some {α : Type} {l r : List α} {i j : Int} (h : goDel l i j = some r) : 0 ≤ i ∧ i < j ∧ j ≤ (l.length : Int) ∧ r = l.take i.toNat ++ l.drop j.toNat := by
  unfold goDel at h
  cases hb : (decide (0 ≤ i) && decide (i < j) && decide (j ≤ (l.length : Int))) with
  | false => rw [hb] at h; cases h
  | true =>
    rw [hb] at h
    simp only [Bool.and_eq_true, decide_eq_true_eq] at hb
    exact ⟨hb.1.1, hb.1.2, hb.2, (Option.some.inj h).symm⟩

/-- the slice that is left -/
def delS (s : Sl) (n : Nat) : Sl := ⟨s.p, n, s.cap⟩

section
variable {P : Program} {L : List (Nat × Value)} {m : Mem} {O : List Piece} {d : Option Tmp} {ty : TypeId} {p : String} {af : Array Edge} {g : Option (Nat × Bool)} {x y : Operand}
variable {a : Act} {n : Nat} {X : List Nat} {w0 w : World} {K : Act → World → Prop} {Q : Exit → Act → World → Prop} {α : Type} [Rep α] {l r : List α}

theorem slab_one {cs : List Value} {sz N : Nat} (hpos : 0 < sz) (h : ∀ k, k < N → (slab cs (k * sz) sz).all (·.oneCell') = true) (hl : N * sz ≤ cs.length) : ∀ u ∈ cs.take (N * sz), u.oneCell' = true := fun u hu => by
  obtain ⟨j, hj, rfl⟩ := List.mem_iff_getElem.1 hu
  simp only [List.length_take] at hj
  have hk : j / sz < N := (Nat.div_lt_iff_lt_mul hpos).2 (by omega)
  have h5 := h _ hk
  rw [List.all_eq_true] at h5
  refine h5 _ ?_
  have hd := Nat.div_add_mod j sz
  have hm := Nat.mod_lt j hpos
  rw [Nat.mul_comm] at hd
  have : (slab cs (j / sz * sz) sz)[j % sz]? = some (cs[j]'(by omega)) := by
    unfold slab
    rw [List.getElem?_take_of_lt hm, List.getElem?_drop, hd]
    simp
  rw [List.getElem_take]
  exact List.mem_of_getElem? this

theorem wp_del {t E : TypeId} {q : Piece} {s : Sl} {sz by' : Nat} {zc : List Value} {i j : Int} (hF : FrD DS a n L) (hS : St X w0 w m (q :: O)) (hq : OwnL m E q s l) (hu : P.underlying t = some (.slice E)) (hI : inf P E = some (sz, by', zc))
    (hpos : Nat.blt 0 sz = true) (hx : evo L x = some (subS s sz 0 i.toNat s.cap).v) (hy : evo L y = some (subS s sz j.toNat (goLen l).toNat s.cap).v) (hwd : Rep.wd α = sz) (hr : goDel l i j = some r) (hd : dok d n = true)
    (k : ∀ a' w' q', FrD DS a' n (putL d (delS s r.length).v L) → St X w0 w' m (q' :: O) → OwnL m E q' (delS s r.length) r → K a' w') :
    (⟨d, .call { callee := .builtin .append, args := #[x, y], argTypes := #[t, t] }, ty, p, af, g⟩ : Oper).wp P a w K Q := by
  obtain ⟨i', z', hi, h1, h2, h3, h4⟩ := inf_spec hI
  obtain ⟨hi0, hij, hjl, rfl⟩ := goDel_some hr
  obtain ⟨I, rfl⟩ := Int.eq_ofNat_of_zero_le hi0
  obtain ⟨J, rfl⟩ := Int.eq_ofNat_of_zero_le (show 0 ≤ j by omega)
  have hpos' : 0 < sz := by simpa [Nat.blt_eq] using hpos
  have hlen := hq.len
  have hcap := hq.cap
  simp only [Int.toNat_natCast] at hx hy k hr
  rcases hq.blk with ⟨c1, c2, c3⟩ | ⟨b, cs, c1, c2, c3, c4⟩
  · omega
  · subst c1
    rw [hwd] at c3
    have hh := hS.own ⟨b, cs, E⟩ (by simp)
    simp only at hh
    have hlsz : l.length * sz ≤ cs.length := by rw [c3]; exact Nat.mul_le_mul_right _ (by omega)
    have hone : ∀ u ∈ cs.take (l.length * sz), u.oneCell' = true := slab_one hpos' (fun k hk => by have := Rep.one (c4 k hk); rw [hwd] at this; exact this) hlsz
    -- what is moved
    have hJl : J ≤ l.length := by omega
    have hIJ : I < J := by omega
    have hJsz : J * sz ≤ l.length * sz := Nat.mul_le_mul_right _ hJl
    have hIsz : I * sz ≤ J * sz := Nat.mul_le_mul_right _ (by omega)
    have hsplit : J * sz + (l.length - J) * sz = l.length * sz := by rw [← Nat.add_mul]; congr 1; omega
    have hsplit2 : I * sz + (l.length - J) * sz ≤ l.length * sz := by omega
    let news := (cs.drop (J * sz)).take ((l.length - J) * sz)
    have hnl : news.length = (l.length - J) * sz := by simp only [news, List.length_take, List.length_drop]; omega
    have hnone : ∀ u ∈ news, u.oneCell' = true := fun u hu' => by
      refine hone u ?_
      have : news = (cs.take (l.length * sz)).drop (J * sz) := by
        simp only [news]
        rw [List.drop_take]
        congr 1
        omega
      rw [this] at hu'
      exact List.mem_of_mem_drop hu'
    have hex : evo L x = some (.slice (some ⟨b, 0, none⟩) I s.cap) := by
      rw [hx]
      unfold subS Sl.v
      rw [c2]
      by_cases h0 : s.cap = 0 <;> simp [h0, addr_add']
    obtain ⟨o2, hey, hcell⟩ : ∃ o2, evo L y = some (.slice (some ⟨b, o2, none⟩) (l.length - J) (s.cap - J)) ∧ ∀ k u, news[k]? = some u → w.cell? ((⟨b, o2, none⟩ : Addr).add k) = some u := by
      have hcellat : ∀ k u, news[k]? = some u → w.cell? ((⟨b, J * sz, none⟩ : Addr).add k) = some u := by
        intro k u hk
        have hkl := (List.getElem?_eq_some_iff.1 hk).1
        rw [hnl] at hkl
        simp only [news] at hk
        rw [List.getElem?_take_of_lt hkl, List.getElem?_drop] at hk
        rw [addr_add']
        simp [World.cell?, hh, hk]
      by_cases h0 : s.cap = J
      · refine ⟨0, ?_, fun k u hk => ?_⟩
        · rw [hy]; unfold subS Sl.v; rw [c2]; simp [h0]
        · have hkl := (List.getElem?_eq_some_iff.1 hk).1
          rw [hnl] at hkl
          have : l.length - J = 0 := by omega
          rw [this] at hkl; omega
      · refine ⟨J * sz, ?_, hcellat⟩
        rw [hy]; unfold subS Sl.v; rw [c2]; simp [h0, addr_add']
    have hrun : (Builtin.append_ #[t, t] ty #[.slice (some ⟨b, 0, none⟩) I s.cap, .slice (some ⟨b, o2, none⟩) (l.length - J) (s.cap - J)]).run P w = .ok (.slice (some ⟨b, 0, none⟩) (I + (l.length - J)) s.cap) (w.setRow b (setCs cs (I * sz) news).toArray) := by
      have hfc := run_firstCells_some (P := P) w sz (l.length - J) ⟨b, o2, none⟩ (l.length - J) (s.cap - J) news hnl hcell
      have hst := run_storeCells_at (P := P) b (I * sz) E news 0 cs.toArray w hh (by simp only [Nat.add_zero]; rw [hnl]; simp; omega) hnone
      have hroom : I + (l.length - J) ≤ s.cap := by omega
      simp only [Nat.add_zero] at hst
      subst h1
      simp [Builtin.append_, run_underlying hu, sizeOf, typeInfo, hi, Builtin.lenOf, hroom, hfc, addr_add', hst, setCs]
    have hrl : (l.take I ++ l.drop J).length = I + (l.length - J) := by simp; omega
    refine wp_of_run (v := (delS s (l.take I ++ l.drop J).length).v) (w' := w.setRow b (setCs cs (I * sz) news).toArray) ?_ ?_
    · simp only [delS, Sl.v, hrl, c2]
      simp [execOp, resolve, invoke, builtin, hF.eval hex, hF.eval hey, hrun]
    · have hS' : St X w0 (w.setRow b (setCs cs (I * sz) news).toArray) m ([⟨b, setCs cs (I * sz) news, E⟩] :: O) := hS.setRow (j := 0) (k := 0) rfl _
      refine k _ _ _ (hF.put _ hd) hS' ?_
      have hl2 : (setCs cs (I * sz) news).length = cs.length := by unfold setCs; simp; omega
      refine ⟨rfl, by simp only [delS, hrl]; omega, hq.max, .inr ⟨b, _, rfl, c2, by rw [hl2, hwd]; exact c3, fun k hk => ?_⟩⟩
      rw [hrl] at hk
      rw [hwd]
      by_cases hkI : k < I
      · have h6 : (k + 1) * sz ≤ I * sz := Nat.mul_le_mul_right _ (by omega)
        rw [Nat.add_mul, Nat.one_mul] at h6
        have e1 : slab (setCs cs (I * sz) news) (k * sz) sz = slab cs (k * sz) sz := by
          unfold slab setCs
          rw [List.append_assoc, List.drop_append_of_le_length (by simp; omega), List.take_append_of_le_length (by simp; omega), List.drop_take, List.take_take, Nat.min_eq_left (by omega)]
        have h7 := c4 k (by omega)
        rw [hwd] at h7
        rw [e1, List.getElem_append_left (by simp; omega), List.getElem_take]
        exact h7
      · have h6 : k * sz = I * sz + (k - I) * sz := by rw [← Nat.add_mul]; congr 1; omega
        have h8 : (k - I + 1) * sz ≤ (l.length - J) * sz := Nat.mul_le_mul_right _ (by omega)
        rw [Nat.add_mul, Nat.one_mul] at h8
        have h9 : (J + (k - I)) * sz = J * sz + (k - I) * sz := Nat.add_mul _ _ _
        have e1 : slab (setCs cs (I * sz) news) (k * sz) sz = slab cs ((J + (k - I)) * sz) sz := by
          unfold slab setCs
          rw [h6, List.append_assoc, ← List.drop_drop, List.drop_append_of_le_length (by simp; omega)]
          rw [show (cs.take (I * sz)).drop (I * sz) = [] by simp, List.nil_append, List.drop_append_of_le_length (by omega), List.take_append_of_le_length (by simp; omega), h9]
          simp only [news]
          rw [List.drop_take, List.take_take, Nat.min_eq_left (by omega), List.drop_drop]
        have h7 := c4 (J + (k - I)) (by omega)
        rw [hwd] at h7
        have hIl : (l.take I).length = I := by simp; omega
        rw [e1, List.getElem_append_right (by omega)]
        simp only [hIl, List.getElem_drop]
        exact h7

/-- the rest behind the length -/
theorem ex_rest {t E : TypeId} {s : Sl} {sz : Nat} {lo hi : Operand} {k1 k2 : IntKind} {i j : Int} (hu : P.underlying t = some (.slice E)) (hz : szOf P E = some sz) (hx : evo L x = some s.v)
    (hlo : evo L lo = some (.int k1 i)) (hhi : evo L hi = some (.int k2 j)) (h0 : 0 ≤ i) (h1 : i ≤ j) (h2 : j ≤ (s.cap : Int)) :
    Ex P ⟨d, .slice t x (some lo) (some hi) none, ty, p, af, g⟩ L m O (subS s sz i.toNat j.toNat s.cap).v := fun _ a n X w0 w hF hS => by
  have ej : (j.toNat : Int) = j := Int.toNat_of_nonneg (by omega)
  have hbd : (Instr.sliceBounds true s.len s.cap (some (.int k1 i)) (some (.int k2 j)) none).run P w = .ok (i.toNat, j.toNat, s.cap) w := by
    have hj0 : 0 ≤ j := by omega
    simp [Instr.sliceBounds, run_sliceBound, *]
  simp [execOp, hF.eval hx, hF.eval hlo, hF.eval hhi, Instr.sliceAt, Instr.slice, run_underlying hu, Sl.v, hbd, run_sizeOf hz, subS]

theorem wp_clear {t E : TypeId} {q : Piece} {s : Sl} {sz by' N J : Nat} {zc : List Value} (hF : FrD DS a n L) (hS : St X w0 w m (q :: O)) (hq : OwnL m E q s l) (hu : P.underlying t = some (.slice E)) (hI : inf P E = some (sz, by', zc)) (hzc : zc.length = sz)
    (h1c : zc.all (·.oneCell') = true) (hx : evo L x = some (subS s sz N J s.cap).v) (hwd : Rep.wd α = sz) (hN : l.length ≤ N) (hNJ : N ≤ J) (hJ : J ≤ s.cap) (hd : dok d n = true)
    (k : ∀ a' w' q', FrD DS a' n (putL d (.tuple #[]) L) → St X w0 w' m (q' :: O) → OwnL m E q' s l → K a' w') :
    (⟨d, .call { callee := .builtin .clear, args := #[x], argTypes := #[t] }, ty, p, af, g⟩ : Oper).wp P a w K Q := by
  obtain ⟨i', z', hi, h1, h2, h3, h4⟩ := inf_spec hI
  have hlen := hq.len
  have hcap := hq.cap
  by_cases h0 : J - N = 0
  · -- nothing to be cleared
    refine wp_of_run (v := .tuple #[]) (w' := w) ?_ (k _ _ q (hF.put _ hd) hS hq)
    cases hp : (subS s sz N J s.cap).p with
    | none => simp [execOp, resolve, invoke, builtin, hF.eval hx, Builtin.clear_, run_underlying hu, Sl.v, hp]
    | some ad =>
      have : (subS s sz N J s.cap).len = 0 := h0
      simp [execOp, resolve, invoke, builtin, hF.eval hx, Builtin.clear_, run_underlying hu, Sl.v, hp, this]
  · rcases hq.blk with ⟨c1, c2, c3⟩ | ⟨b, cs, c1, c2, c3, c4⟩
    · omega
    · subst c1
      rw [hwd] at c3
      have hh := hS.own ⟨b, cs, E⟩ (by simp)
      simp only at hh
      have hJsz : J * sz ≤ cs.length := by rw [c3]; exact Nat.mul_le_mul_right _ hJ
      have hsplit : N * sz + (J - N) * sz = J * sz := by rw [← Nat.add_mul]; congr 1; omega
      let news := (Builtin.zeroCells zc.toArray (J - N)).toList
      have hnl : news.length = (J - N) * sz := by
        simp only [news]
        simp [Builtin.zeroCells, hzc]
      have hnone : ∀ u ∈ news, u.oneCell' = true := fun u hu' => by
        simp only [news] at hu'
        rw [List.all_eq_true] at h1c
        obtain ⟨j, hj, e⟩ := List.mem_iff_getElem.1 hu'
        simp [Builtin.zeroCells] at hj
        have hz0 : 0 < zc.length := Nat.pos_of_ne_zero fun h => by rw [h] at hj; simp at hj
        have hm := Nat.mod_lt j hz0
        simp [Builtin.zeroCells, List.getElem?_eq_getElem hm] at e
        subst e
        exact h1c _ (List.getElem_mem _)
      have hex : evo L x = some (.slice (some ⟨b, N * sz, none⟩) (J - N) (s.cap - N)) := by
        rw [hx]; unfold subS Sl.v; rw [c2]; simp [show ¬ s.cap = N by omega, addr_add']
      have hst := run_storeCells_at (P := P) b (N * sz) E news 0 cs.toArray w hh (by simp only [Nat.add_zero]; rw [hnl]; simp; omega) hnone
      simp only [Nat.add_zero] at hst
      refine wp_of_run (v := .tuple #[]) (w' := w.setRow b (setCs cs (N * sz) news).toArray) ?_ ?_
      · have hne : J - N ≠ 0 := h0
        obtain ⟨J', hJ'⟩ : ∃ J', J - N = J' + 1 := ⟨J - N - 1, by omega⟩
        simp only [news] at hst ⊢
        rw [hJ'] at hex hst ⊢
        simp [execOp, resolve, invoke, builtin, hF.eval hex, Builtin.clear_, run_underlying hu, zeroValue, typeInfo, hi, h3, h4, hst, setCs]
      · have hS' : St X w0 (w.setRow b (setCs cs (N * sz) news).toArray) m ([⟨b, setCs cs (N * sz) news, E⟩] :: O) := hS.setRow (j := 0) (k := 0) rfl _
        refine k _ _ _ (hF.put _ hd) hS' ?_
        have hl2 : (setCs cs (N * sz) news).length = cs.length := by unfold setCs; simp; omega
        refine ⟨hlen, hcap, hq.max, .inr ⟨b, _, rfl, c2, by rw [hl2, hwd]; exact c3, fun k hk => ?_⟩⟩
        have h6 : (k + 1) * sz ≤ N * sz := Nat.mul_le_mul_right _ (by omega)
        rw [Nat.add_mul, Nat.one_mul] at h6
        rw [hwd]
        have e1 : slab (setCs cs (N * sz) news) (k * sz) sz = slab cs (k * sz) sz := by
          unfold slab setCs
          rw [List.append_assoc, List.drop_append_of_le_length (by simp; omega), List.take_append_of_le_length (by simp; omega), List.drop_take, List.take_take, Nat.min_eq_left (by omega)]
        have h7 := c4 k hk
        rw [hwd] at h7
        rw [e1]
        exact h7
end

def goLe (i j : Int) : Option Unit := cond (decide (i ≤ j)) (some ()) none

theorem goLe_le {i j : Int} {u : Unit} (h : goLe i j = some u) : i ≤ j := by
  unfold goLe at h
  cases hb : decide (i ≤ j) with
  | false => rw [hb] at h; cases h
  | true => exact of_decide_eq_true hb

theorem goLe_nat {i j : Int} {u : Unit} (h : goLe i j = some u) : i.toNat ≤ j.toNat := Int.toNat_le_toNat (goLe_le h)

theorem lenCap {α : Type} [Rep α] {m : Mem} {T : TypeId} {q : Piece} {s : Sl} {l : List α} (h : OwnL m T q s l) : goLen l ≤ (s.cap : Int) := by
  have h1 := h.len; have h2 := h.cap
  simp only [goLen]; omega

theorem lenCapN {α : Type} [Rep α] {m : Mem} {T : TypeId} {q : Piece} {s : Sl} {l : List α} (h : OwnL m T q s l) : (goLen l).toNat ≤ s.cap := by
  have := lenCap h; omega

section
variable {P : Program} {L : List (Nat × Value)} {m : Mem} {O : List Piece} {d : Option Tmp} {ty : TypeId} {p : String} {af : Array Edge} {g : Option (Nat × Bool)} {x : Operand}
/-- the later part of a slice -/
theorem ex_tail {t E : TypeId} {s : Sl} {sz : Nat} {lo hi : Option Operand} {vl vh : Option Value} {i j : Int} (hu : P.underlying t = some (.slice E)) (hz : szOf P E = some sz) (hx : evo L x = some s.v)
    (hlo : (match lo with | some y => (evo L y).map some | none => some none) = some vl) (hhi : (match hi with | some y => (evo L y).map some | none => some none) = some vh)
    (hb : vl = none ∧ i = 0 ∨ ∃ k, vl = some (.int k i)) (hh : vh = none ∧ j = (s.len : Int) ∨ ∃ k, vh = some (.int k j)) (ho : SubOk s i j) :
    Ex P ⟨d, .slice t x lo hi none, ty, p, af, g⟩ L m O (subS s sz i.toNat j.toNat s.cap).v := ex_slice hu hz hx hlo hhi hb hh ho
end

/-! ### arrays at an index that turns; parts of arrays -/
def goIx (n : Nat) (i : Int) : Option Unit := cond (decide (0 ≤ i) && decide (i < (n : Int))) (some ()) none

theorem goIx_some {n : Nat} {i : Int} {u : Unit} (h : goIx n i = some u) : 0 ≤ i ∧ i < (n : Int) := by
  unfold goIx at h
  cases hb : (decide (0 ≤ i) && decide (i < (n : Int))) with
  | false => rw [hb] at h; cases h
  | true => simp only [Bool.and_eq_true, decide_eq_true_eq] at hb; exact hb

theorem goIx_ble {n : Nat} {i : Int} {u : Unit} (h : goIx n i = some u) : Nat.ble (i.toNat + 1) n = true := by
  obtain ⟨h0, h1⟩ := goIx_some h
  rw [Nat.ble_eq]; omega

theorem range_map {α β : Type} (f : α → β) (z : α) (l : List α) : (List.range l.length).map (fun k => f (l.getD k z)) = l.map f := by
  apply List.ext_getElem?
  intro i
  by_cases hi : i < l.length
  · simp [hi, List.getD_eq_getElem?_getD]
  · rw [List.getElem?_eq_none (by simp; omega), List.getElem?_eq_none (by simp; omega)]

theorem goSet_cs {α : Type} {enc : α → Value} (z : α) {n : Nat} {l t : List α} {i : Int} {u : Unit} {x : α} (h : goIx n i = some u) (hl : l.length = n) (ht : some (goSet l i x) = some t) : setCs (l.map enc) i.toNat [enc x] = (List.range n).map fun k => enc (t.getD k z) := by
  obtain ⟨h0, h1⟩ := goIx_some h
  obtain rfl := Option.some.inj ht
  subst hl
  have e : (List.range l.length).map (fun k => enc ((goSet l i x).getD k z)) = (goSet l i x).map enc := by
    have := range_map enc z (goSet l i x)
    simpa [goSet] using this
  rw [e]
  unfold setCs goSet
  have hk : i.toNat < l.length := by omega
  rw [List.map_set, List.set_eq_take_append_cons_drop]
  simp [hk]

section
variable {P : Program} {L : List (Nat × Value)} {m : Mem} {O : List Piece} {d : Option Tmp} {ty : TypeId} {p : String} {af : Array Edge} {g : Option (Nat × Bool)} {x y : Operand}

theorem ex_indexAddrD {t E : TypeId} {len b : Nat} {i : Int} {k : IntKind} {u : Unit} (hu : P.underlying t = some (.array len E)) (hz : szOf P E = some 1) (hx : evo L x = some (.pointer (some ⟨b, 0, none⟩))) (hy : evo L y = some (.int k i)) (h : goIx len i = some u) :
    Ex P ⟨d, .indexAddr t x y, ty, p, af, g⟩ L m O (.pointer (some ⟨b, i.toNat, none⟩)) := fun _ a n X w0 w hF hS => by
  obtain ⟨h0, h1⟩ := goIx_some h
  simp [execOp, Instr.indexAt, hF.eval hx, hF.eval hy, asIntOf, run_underlying hu, Instr.sureAddr, h0, h1, run_sizeOf hz, addr_add]

theorem goSub0 {α : Type} {l t : List α} {j : Int} (h : goSub l 0 j = some t) : 0 ≤ j ∧ j ≤ (l.length : Int) ∧ t = l.take j.toNat := by
  obtain ⟨_, h1, h2, h3⟩ := goSub_some h
  exact ⟨h1, h2, by simpa using h3⟩

theorem ex_sliceA {α : Type} {l r : List α} {t E : TypeId} {n b sz : Nat} {hi : Operand} {k : IntKind} {j : Int} (hu : P.underlying t = some (.array n E)) (hz : szOf P E = some sz) (hx : evo L x = some (.pointer (some ⟨b, 0, none⟩))) (hhi : evo L hi = some (.int k j)) (hl : l.length = n) (h : goSub l 0 j = some r) :
    Ex P ⟨d, .slice t x none (some hi) none, ty, p, af, g⟩ L m O (⟨some ⟨b, 0, none⟩, j.toNat, n⟩ : Sl).v := fun _ a n' X w0 w hF hS => by
  obtain ⟨h0, h1, _⟩ := goSub0 h
  rw [hl] at h1
  have ej : (j.toNat : Int) = j := Int.toNat_of_nonneg h0
  have hbd : (Instr.sliceBounds false n n none (some (.int k j)) none).run P w = .ok (0, j.toNat, n) w := by
    simp [Instr.sliceBounds, run_sliceBound, *]
  simp [execOp, hF.eval hx, hF.eval hhi, Instr.sliceAt, run_underlying hu, Instr.sureAddr, Sl.v, hbd, run_sizeOf hz, addr_add]

theorem rd_arr {α : Type} [Rep α] {enc : α → Value} {l r : List α} {n b : Nat} {j : Int} (h1 : Rep.wd α = 1) (h2 : ∀ x : α, Rep.rd m [enc x] x) (hm : m b = some (l.map enc)) (hl : l.length = n) (hn : n ≤ maxLen) (h : goSub l 0 j = some r) : Rd m ⟨some ⟨b, 0, none⟩, j.toNat, n⟩ r := by
  obtain ⟨h0, h3, rfl⟩ := goSub0 h
  subst hl
  refine ⟨by simp; omega, by simp only; omega, hn, nofun, fun i hi => ?_⟩
  simp only [List.length_take] at hi
  refine ⟨b, 0, l.map enc, rfl, hm, by rw [h1]; simp; omega, ?_⟩
  have e : slab (l.map enc) (0 + i * Rep.wd α) (Rep.wd α) = [enc (l[i]'(by omega))] := by
    rw [h1]
    unfold slab
    rw [Nat.zero_add, Nat.mul_one, List.drop_eq_getElem_cons (by simp; omega)]
    simp
  rw [e, List.getElem_take]
  exact h2 _
end

/-! ### an element of a deep list is taken out, and put back longer -/
section
variable {X : List Nat} {w0 w : World} {m m' : Mem} {O O' : List Piece}
variable {β : Type} [Rep β] {E Ei : TypeId} {q qi : Piece} {s s' : Sl} {l : List (List β)} {i j : Int} {x : List β} {y : β}

/-- the call's own but for the element at i -/
def OwnH {β : Type} [Rep β] (m : Mem) (E Ei : TypeId) (q : Piece) (s : Sl) (l : List (List β)) (i : Int) : Prop :=
  ∃ (q0 : Piece) (hs : List Sl) (qs : List Piece), q = q0 ++ qs.flatten ∧ OwnL m E q0 s hs ∧ hs.length = l.length ∧ qs.length = l.length ∧ qs[i.toNat]? = some [] ∧
    ∀ (k : Nat) (h : Sl) (p : Piece) (z : List β), k ≠ i.toNat → hs[k]? = some h → qs[k]? = some p → l[k]? = some z → OwnL m Ei p h z

theorem St.takeV (hS : St X w0 w m (q :: O)) (h : ViewD m E Ei q s l i s') (hx : goAt l i = some x) : ∃ qi q1, St X w0 w m (qi :: q1 :: O) ∧ OwnL m Ei qi s' x ∧ OwnH m E Ei q1 s l i := by
  obtain ⟨q0, hs, qs, h, hh⟩ := h
  obtain ⟨h0, p0, e1, e2, e3, e4⟩ := h.hdr hx
  rw [hh] at e1
  obtain rfl := Option.some.inj e1
  have l2 := (List.getElem?_eq_some_iff.1 e2).1
  refine ⟨p0, q0 ++ (qs.set i.toNat []).flatten, ?_, e3, q0, hs, qs.set i.toNat [], rfl, h.own, h.l1, by simp [h.l2], by simp [l2], fun k h1 p1 z hk f1 f2 f3 => ?_⟩
  · exact hS.permF (R := []) (by
      simp only [List.flatten_cons, List.append_nil, h.eq, ← List.append_assoc]
      refine List.Perm.append_right _ ?_
      have hp := flatten_set_perm (p' := []) e2
      refine List.Perm.trans (l₂ := q0 ++ p0 ++ (qs.set i.toNat []).flatten) (List.Perm.append_right _ List.perm_append_comm) ?_
      rw [List.append_assoc]
      exact List.Perm.append_left _ (List.perm_append_comm.trans hp))
  · rw [List.getElem?_set_ne (Ne.symm hk)] at f2
    exact h.el k h1 p1 z f1 f2 f3

theorem OwnH.mono (h : OwnH m E Ei q s l i) (hm : Mem.le m m') : OwnH m' E Ei q s l i := by
  obtain ⟨q0, hs, qs, h1, h2, h3, h4, h5, h6⟩ := h
  exact ⟨q0, hs, qs, h1, h2.mono hm, h3, h4, h5, fun k a p z hk f1 f2 f3 => (h6 k a p z hk f1 f2 f3).mono hm⟩

theorem OwnH.hdr (h : OwnH m E Ei q s l i) (hx : goAt l j = some x) : ∃ (q0 : Piece) (hs : List Sl) (a : Sl), OwnL m E q0 s hs ∧ goAt hs j = some a := by
  obtain ⟨q0, hs, qs, h1, h2, h3, h4, h5, h6⟩ := h
  obtain ⟨h0, hx1⟩ := goAt_some hx
  have hlt := (List.getElem?_eq_some_iff.1 hx1).1
  obtain ⟨a, ha⟩ := getElem?_of_lt (l := hs) (i := j.toNat) (by rw [h3]; exact hlt)
  refine ⟨q0, hs, a, h2, ?_⟩
  unfold goAt
  rw [show decide (0 ≤ j) = true by simpa using h0]
  exact ha

theorem OwnH.idx (h : OwnH m E Ei q s l i) (hx : goAt l j = some x) : Idx s j := by
  obtain ⟨q0, hs, a, h1, h2⟩ := OwnH.hdr h hx
  exact h1.idx h2
end

section
variable {P : Program} {L : List (Nat × Value)} {m : Mem} {O : List Piece} {d : Option Tmp} {ty : TypeId} {p : String} {af : Array Edge} {g : Option (Nat × Bool)} {x y : Operand}
variable {a : Act} {n : Nat} {X : List Nat} {w0 w : World} {K : Act → World → Prop} {Q : Exit → Act → World → Prop} {β : Type} [Rep β] {l : List (List β)}

theorem wp_storeH {t E Ei : TypeId} {q qi : Piece} {s s2 : Sl} {k' : Nat} {i : Int} {x0 x2 : List β} (hF : FrD DS a n L) (hS : St X w0 w m (q :: qi :: O)) (hq : OwnH m E Ei q s l i) (hqi : OwnL m Ei qi s2 x2) (hz : szOf P t = some 1)
    (hx : evo L x = some (elP s k')) (hy : evo L y = some s2.v) (hi : goAt l i = some x0) (hk : k' = i.toNat * 1)
    (kk : ∀ w' q', St X w0 w' m (q' :: O) → OwnD m E Ei q' s (goSet l i x2) → K a w') :
    (⟨none, .store t x y, ty, p, af, g⟩ : Oper).wp P a w K Q := by
  obtain ⟨q0, hs, qs, e0, ho, l1, l2, l5, hel⟩ := hq
  obtain ⟨hi0, hi1⟩ := goAt_some hi
  have hlt := (List.getElem?_eq_some_iff.1 hi1).1
  obtain ⟨h0, ha⟩ := getElem?_of_lt (l := hs) (i := i.toNat) (by rw [l1]; exact hlt)
  have e4 : goAt hs i = some h0 := by
    unfold goAt
    rw [show decide (0 ≤ i) = true by simpa using hi0]
    exact ha
  obtain ⟨vs, hat, rfl⟩ := ho.at e4 1 rfl
  have hS1 : St X w0 w m (q0 :: qs.flatten :: qi :: O) := hS.permF (R := []) (by simp [e0])
  refine wp_storeE (α := Sl) (e' := s2) (us := [s2.v]) (vs := [h0.v]) 0 hF hS1 ho hz hx hy rfl rfl rfl rfl rfl e4 hat rfl hk rfl fun w' q' hS' hq' => ?_
  refine kk w' (q' ++ (qs.set i.toNat qi).flatten) ?_ ⟨q', goSet hs i s2, qs.set i.toNat qi, rfl, hq', by simp [goSet, l1], by simp [goSet, l2], fun k h1 p1 x1 f1 f2 f3 => ?_⟩
  · exact hS'.permF (R := []) (by
      simp only [List.flatten_cons, List.append_assoc]
      refine List.Perm.append_left _ ?_
      have hp := flatten_set_perm (p' := qi) l5
      refine (List.Perm.append_left (qs.set i.toNat qi).flatten List.perm_append_comm).trans ?_
      rw [← List.append_assoc, ← List.append_assoc]
      exact List.Perm.append_right _ (hp.trans List.perm_append_comm))
  · by_cases hki : k = i.toNat
    · subst hki
      have m1 := (List.getElem?_eq_some_iff.1 ha).1
      have m2 := (List.getElem?_eq_some_iff.1 l5).1
      simp [goSet, m1, m2, hlt] at f1 f2 f3
      subst f1 f2 f3
      exact hqi
    · rw [goSet, List.getElem?_set_ne (Ne.symm hki)] at f1 f3
      rw [List.getElem?_set_ne (Ne.symm hki)] at f2
      exact hel k h1 p1 x1 hki f1 f2 f3
end

/-! ### a part of a string -/
theorem bytes_extract (l : List UInt8) (i j : Nat) : (ByteArray.mk l.toArray).extract i j = ⟨((l.drop i).take (j - i)).toArray⟩ := by
  apply ByteArray.ext
  rw [ByteArray.data_extract]
  simp [List.extract_eq_take_drop]

section
variable {P : Program} {L : List (Nat × Value)} {m : Mem} {O : List Piece} {d : Option Tmp} {ty : TypeId} {p : String} {af : Array Edge} {g : Option (Nat × Bool)} {x y : Operand} {l r : List UInt8}

theorem ex_strSub {t : TypeId} {lo hi : Option Operand} {vl vh : Option Value} {i j : Int} (hu : P.underlying t = some .string) (hx : evo L x = some (strV l))
    (hlo : (match lo with | some y => (evo L y).map some | none => some none) = some vl) (hhi : (match hi with | some y => (evo L y).map some | none => some none) = some vh)
    (hb : vl = none ∧ i = 0 ∨ ∃ k, vl = some (.int k i)) (hh : vh = none ∧ j = goLen l ∨ ∃ k, vh = some (.int k j)) (h : goSub l i j = some r) :
    Ex P ⟨d, .slice t x lo hi none, ty, p, af, g⟩ L m O (strV r) := fun _ a n X w0 w hF hS => by
  obtain ⟨h0, h1, h2, rfl⟩ := goSub_some h
  have e1 : lo.map a.eval = vl := by
    cases lo with
    | none => simp at hlo; simp [hlo]
    | some y =>
      cases hy : evo L y with
      | none => simp [hy] at hlo
      | some u => simp [hy] at hlo; simp [hF.eval hy, hlo]
  have e2 : hi.map a.eval = vh := by
    cases hi with
    | none => simp at hhi; simp [hhi]
    | some y =>
      cases hy : evo L y with
      | none => simp [hy] at hhi
      | some u => simp [hy] at hhi; simp [hF.eval hy, hhi]
  have hs : (ByteArray.mk l.toArray).size = l.length := bytes_size l
  have hr : (Instr.slice t (strV l) vl vh none).run P w = .ok (strV ((l.drop i.toNat).take (j.toNat - i.toNat))) w := by
    rcases hb with ⟨rfl, rfl⟩ | ⟨k1, rfl⟩ <;> rcases hh with ⟨rfl, rfl⟩ | ⟨k2, rfl⟩
    · rw [run_slice_string_all w t _ hu, bytes_extract, hs]; simp [goLen]
    · rw [run_slice_string_h w t _ hu k2 j (by omega) (by rw [hs]; exact h2), bytes_extract]; rfl
    · rw [run_slice_string_l w t _ hu k1 i h0 (by rw [hs]; simp only [goLen] at h1; exact h1), bytes_extract, hs]; simp [goLen]
    · rw [run_slice_string w t _ k1 k2 i j hu h0 h1 (by rw [hs]; exact h2), bytes_extract]
  have hr2 : (Instr.sliceAt t (strV l) vl vh none).run P w = .ok (strV ((l.drop i.toNat).take (j.toNat - i.toNat))) w := by
    rw [← hr]; simp [Instr.sliceAt, run_underlying hu]
  simp only [execOp, e1, e2, Option.map_none, hF.eval hx, Sem.run_bind, hr2, Result.andThen_ok, Sem.run_pure]
end

/-! ### a round of a range over a function: its text, walked -/
/-- left in whatever way, not for want of room -/
def NO (Q : Exit → Act → World → Prop) : Exit → Act → World → Prop := fun e a w => e ≠ .outgrown ∧ Q e a w

abbrev FR (l : Option Nat) : Fence := { Fence.wide with round := l }

/-- the text of a round -/
def Wr (P : Program) (l : Option Nat) (c : Code) (Q : Exit → Act → World → Prop) (a : Act) (w : World) : Prop := c.wpIn (FR l) 0 P (NO Q) a w

def noDefer : List Oper → Bool
  | [] => true
  | o :: r => (match o.op with | .defer _ => false | _ => true) && noDefer r

section
variable {P : Program} {Q : Exit → Act → World → Prop} {a : Act} {w : World} {l : Option Nat}

theorem NO.out (Q : Exit → Act → World → Prop) : ¬ LetsOut (NO Q) := fun ⟨_, _, h, _⟩ => h rfl

theorem Oper.wpIn_of {o : Oper} {K K' : Act → World → Prop} {n : Nat} (hd : (match o.op with | .defer _ => false | _ => true) = true) (hQ : ¬ LetsOut Q) (hK : ∀ a w, K a w → K' a w)
    (h : o.wp P a w K Q) : o.wpIn (FR l) n P a w K' Q := by
  unfold Oper.wpIn
  refine ⟨fun _ _ => trivial, ?_⟩
  have e : Oper.semAt (FR l).round a.eval o = execOp a.eval o := Oper.semAt_eq l a.eval o fun c hc => by rw [hc] at hd; cases hd
  rw [e]
  unfold Oper.wp at h
  generalize (execOp a.eval o).run P w = r at *
  cases r with
  | ok x w' =>
    cases x
    case enter f args =>
      simp only [Oper.upon] at h
      simp only [Oper.uponIn]
      refine ⟨nofun, show CallsIn Fence.wide (n - 1) P f args w' _ from callsIn_wide.2 (Calls.mono h ?_)⟩
      intro e w'' he
      cases e <;> first | exact hK _ _ he | exact he
    case row =>
      simp only [Oper.upon] at h
      simp only [Oper.uponIn]
      exact ⟨nofun, fun c cs _ => Exists.elim (h c cs) fun v hv => Exists.elim hv fun w2 hv => ⟨v, w2, hK _ _ hv.1, stepsIn_wide.2 hv.2⟩⟩
    all_goals first | exact hK _ _ h | exact h.elim
  | halt x w' => cases x <;> first | exact h | exact h.elim

theorem wpListIn_of {ops : Array Oper} {n : Nat} (hQ : ¬ LetsOut Q) : ∀ (L : List Oper) (a : Act) (w : World), noDefer L = true → wpList P ops Q L a w → wpListIn (FR l) n P ops Q L a w
  | [], _, _, _, h => h
  | o :: r, a, w, hd, h => by
    simp only [noDefer, Bool.and_eq_true] at hd
    simp only [wpListIn]
    simp only [wpList] at h
    split
    · rename_i hw
      rw [if_pos hw] at h
      rcases h with h | ⟨_, h⟩
      · exact Oper.wpIn_of hd.1 hQ (fun a w h => wpListIn_of hQ r a w hd.2 h) h
      · exact absurd h hQ
    · rename_i hw
      rw [if_neg hw] at h
      exact ⟨fun _ _ => trivial, wpListIn_of hQ r _ w hd.2 h⟩

theorem wpAnyIn_of {ops : Array Oper} {n : Nat} {md : Region.Mode} (hQ : ¬ LetsOut Q) (hd : noDefer ops.toList = true) : ∀ (f : Nat) (ls : Array Bool) (a : Act) (w : World), wpAny P md ops Q f ls a w → wpAnyIn (FR l) n P md ops Q f ls a w
  | 0, _, _, _, h => h
  | f + 1, ls, a, w, h => by
    have hin : ∀ (L : List Oper), noDefer L = true → ∀ o ∈ L, (match o.op with | .defer _ => false | _ => true) = true := by
      intro L
      induction L with
      | nil => intro _ o ho; cases ho
      | cons x r ih =>
        intro hL o ho
        simp only [noDefer, Bool.and_eq_true] at hL
        rcases List.mem_cons.1 ho with rfl | ho
        · exact hL.1
        · exact ih hL.2 o ho
    refine ⟨h.1, fun i hi => ?_⟩
    have h1 := h.2 i hi
    unfold wpOpIn
    unfold wpOp at h1
    split
    · rename_i ho
      simp only [ho] at h1
      exact wpAnyIn_of hQ hd f _ a w h1
    · rename_i o ho
      simp only [ho] at h1
      split
      · rename_i hw
        rw [if_pos hw] at h1
        rcases h1 with h1 | ⟨_, h1⟩
        · have hm : o ∈ ops.toList := by
            obtain ⟨hlt, he⟩ := Array.getElem?_eq_some_iff.1 ho
            rw [← he]; simp
          exact Oper.wpIn_of (hin _ hd o hm) hQ (fun a w h => wpAnyIn_of hQ hd f _ a w h) h1
        · exact absurd h1 hQ
      · rename_i hw
        rw [if_neg hw] at h1
        exact ⟨fun _ _ => trivial, wpAnyIn_of hQ hd f _ _ w h1⟩

def Sr (P : Program) (l : Option Nat) (r : Code) (Q : Exit → Act → World → Prop) : Exit → Act → World → Prop := Exit.then (Wr P l r Q) Q

theorem rr_seq {x y : Code} (h : Wr P l x (Sr P l y Q) a w) : Wr P l (Code.seq x y) Q a w :=
  wpIn_seq (wpIn_mono h fun e a w hq => by
    obtain ⟨hne, hq⟩ := hq
    cases e <;> first | exact hq | exact ⟨hne, hq⟩)

theorem rr_end {ops : Array Oper} (h : Q .normal a w) : wpList P ops (NO Q) [] a w := ⟨nofun, h⟩
theorem rr_region {id : Nat} {L : List Oper} (hd : noDefer L = true) (h : wpList P L.toArray (NO Q) L a w) : Wr P l (Code.region id L.toArray false) Q a w :=
  wpIn_region_lit (wpListIn_of (NO.out Q) L a w hd h)

theorem rr_eregion {id : Nat} {L : List Oper} (Ld : LdB) (hm : P.follows .mixedOrders = true) (hd : noDefer L = true)
    (h : ∀ w', Below w.heap.size w w' → wpE P L.toArray Ld (fun a w => Q .normal a w) L.length (Array.replicate L.length false) a w') : Wr P l (Code.region id L.toArray true) Q a w := by
  refine wpIn_region_any hm ?_
  have h1 := h { w with drawn := w.drawn + 1 } ⟨rfl, rfl, rfl, Nat.le_refl _, fun _ _ => rfl⟩
  have h2 := wpAny_of_E (Q' := NO Q) (fun _ _ h => ⟨nofun, h⟩) _ _ _ _ h1
  have h3 := wpAnyIn_of (l := l) (n := 0) (NO.out Q) (by simpa using hd) _ _ _ _ h2
  simpa using h3

theorem rr_block {id : Nat} {c : Code} (h : Wr P l c (Ib id Q) a w) : Wr P l (Code.block id c) Q a w :=
  wpIn_block (wpIn_mono h fun e a w hq => by
    obtain ⟨hne, hq⟩ := hq
    cases e with
    | outgrown => exact absurd rfl hne
    | exit i =>
      simp only [Ib, Exit.inBlock] at hq ⊢
      split
      · rename_i he; rw [if_pos he] at hq; exact ⟨nofun, hq⟩
      · rename_i he; rw [if_neg he] at hq; exact ⟨nofun, hq⟩
    | normal => exact ⟨nofun, hq⟩
    | goto i => exact ⟨nofun, hq⟩
    | ret => exact ⟨nofun, hq⟩
    | panic c => exact ⟨nofun, hq⟩)

theorem rr_skipc (h : Q .normal a w) : Wr P l Code.skip Q a w := wpIn_skip ⟨nofun, h⟩
theorem rr_ret (h : Q .ret a w) : Wr P l Code.ret Q a w := wpIn_ret ⟨nofun, h⟩
theorem rr_exit {id : Nat} (h : Q (.exit id) a w) : Wr P l (Code.exit id) Q a w := wpIn_exit ⟨nofun, h⟩
theorem rn_sq {r : Code} (h : Wr P l r Q a w) : Sr P l r Q .normal a w := h
theorem rx_sq {r : Code} {id : Nat} (h : Q (.exit id) a w) : Sr P l r Q (.exit id) a w := h
theorem rret_sq {r : Code} (h : Q .ret a w) : Sr P l r Q .ret a w := h
theorem rr_join {x : Code} (N : Act → World → Prop) (h : Wr P l x (Jn N Q) a w) (k : ∀ a w, N a w → Q .normal a w) : Wr P l x Q a w :=
  wpIn_mono h fun e a w hq => by
    obtain ⟨hne, hq⟩ := hq
    cases e <;> first | exact ⟨nofun, k _ _ hq⟩ | exact ⟨hne, hq⟩

variable {n : Nat} {L : List (Nat × Value)}
theorem rr_cond_t {c : Operand} {x y : Code} {b : Bool} (hF : FrD DS a n L) (hc : evo L c = some (.bool b)) (hb : b = true) (h : Wr P l x Q a w) : Wr P l (Code.cond c x y) Q a w :=
  wpIn_cond_true (by rw [hF.eval hc, hb]) h
theorem rr_cond_f {c : Operand} {x y : Code} {b : Bool} (hF : FrD DS a n L) (hc : evo L c = some (.bool b)) (hb : b = false) (h : Wr P l y Q a w) : Wr P l (Code.cond c x y) Q a w :=
  wpIn_cond_false (by rw [hF.eval hc, hb]) h
end

/-! ### a list gone through -/
def seqC {α σ ρ : Type} (f : α → σ → Option (Stp σ ρ)) : List α → σ → Option (σ ⊕ ρ)
  | [], s => some (.inl s)
  | x :: r, s => match f x s with
    | none => none
    | some (.next s') => seqC f r s'
    | some (.done o) => some (.inr o)

/-! ### ranges over a function -/
def mk (D : Nat) : Deferred := { target := .collected D, args := #[] }

/-- what a function with such loops remembers: its start, and the blocks for deferred calls, none of which holds any -/
structure Mk (w0 : World) (Z : List Deferred) (X1 : List Nat) (w1 : World) : Prop where
  kept : Kept [] w0 w1
  out : ∀ b ∈ X1, w0.heap.size ≤ b
  cel : ∀ b ∈ X1, ∃ c T fz, w1.heap[b]? = some (.cells c T fz)
  ds : ∃ Ds : List Nat, Z = Ds.map mk ∧ Ds.Nodup ∧ ∀ D ∈ Ds, w0.heap.size ≤ D ∧ w1.heap[D]? = some (.deferred (some []))

/-- the state, taken from its own world -/
def Sf (w0 : World) (Z : List Deferred) (w : World) (m : Mem) (O : List Piece) : Prop := ∃ X1, Mk w0 Z X1 w ∧ St X1 w w m O

/-- a step of the loop's own machinery: record l, and piece q, may turn -/
structure Tr (w0 : World) (l : Nat) (q q' : Piece) (A B : World) : Prop where
  os : B.os = A.os
  tape : B.tape = A.tape
  output : B.output = A.output
  size : A.heap.size ≤ B.heap.size
  block : ∀ k, k < A.heap.size → (∀ x ∈ q, x.b ≠ k) → k ≠ l → B.heap[k]? = A.heap[k]?
  lo : w0.heap.size ≤ l
  lp : ∃ r, A.heap[l]? = some (.loop r)
  same : q'.map (·.b) = q.map (·.b)
  cells : ∀ o ∈ q', B.heap[o.b]? = some (.cells o.cs.toArray o.T (0, 0))

section
variable {P : Program} {w0 w1 w A B : World} {Z : List Deferred} {X1 : List Nat} {m m' m0 : Mem} {O : List Piece} {q q' : Piece} {l : Nat}

theorem Mk.start (w : World) : Mk w [] [] w := ⟨Kept.refl _ _, by simp, by simp, [], rfl, List.nodup_nil, by simp⟩

theorem Mk.not_in (h : Mk w0 Z X1 w1) {k : Nat} {o : Obj} (hk : w1.heap[k]? = some o) (ho : ∀ c T fz, o ≠ .cells c T fz) : k ∉ X1 := fun hx => by
  obtain ⟨c, T, fz, hc⟩ := h.cel k hx
  rw [hk] at hc
  exact ho c T fz (Option.some.inj hc)

theorem Mk.kp (h : Mk w0 Z X1 w1) (hS : St X1 w1 w m O) {k : Nat} {o : Obj} (hk : w1.heap[k]? = some o) (ho : ∀ c T fz, o ≠ .cells c T fz) : w.heap[k]? = some o :=
  (hS.kept.block k (lt_of_heap hk) (h.not_in hk ho)).trans hk

theorem Mk.keptB (h : Mk w0 Z X1 w1) (hk : Kept X1 w1 w) : Kept [] w0 w :=
  ⟨hk.os.trans h.kept.os, hk.tape.trans h.kept.tape, hk.output.trans h.kept.output, Nat.le_trans h.kept.size hk.size, fun k hlt hx => by
    rw [hk.block k (Nat.lt_of_lt_of_le hlt h.kept.size) fun hx1 => by have := h.out k hx1; omega]
    exact h.kept.block k hlt hx⟩

theorem Mk.freeB (h : Mk w0 Z X1 w1) (hS : St X1 w1 w m O) {o : OBlk} (ho : o ∈ O.flatten) : m o.b = none ∧ w0.heap.size ≤ o.b := by
  obtain ⟨h1, h2⟩ := hS.free o ho
  refine ⟨h1, ?_⟩
  rcases h2 with h2 | h2
  · exact Nat.le_trans h.kept.size h2
  · exact h.out _ h2

theorem Mk.back (h : Mk w0 Z X1 w1) (hS : St X1 w1 w m O) : St [] w0 w m O :=
  ⟨h.keptB hS.kept, hS.vis, hS.own, fun o ho => ⟨(h.freeB hS ho).1, .inl (h.freeB hS ho).2⟩, hS.nodup⟩

theorem Mk.mle (h : Mk w0 Z X1 w1) (hm : MLe X1 w1.heap.size m m') : MLe [] w0.heap.size m m' :=
  ⟨hm.le, fun b cs hb => (hm.new b cs hb).imp id fun h2 => .inl (h2.elim (fun h3 => Nat.le_trans h.kept.size h3) (h.out b))⟩

theorem Mk.sf (h : Mk w0 Z X1 w1) (hS : St X1 w1 w m O) : Sf w0 Z w m O := by
  refine ⟨O.flatten.map (·.b), ⟨h.keptB hS.kept, fun b hb => ?_, fun b hb => ?_, ?_⟩, ⟨Kept.refl _ _, hS.vis, hS.own, fun o ho => ⟨(hS.free o ho).1, .inr (List.mem_map.2 ⟨o, ho, rfl⟩)⟩, hS.nodup⟩⟩
  · obtain ⟨o, ho, rfl⟩ := List.mem_map.1 hb
    exact (h.freeB hS ho).2
  · obtain ⟨o, ho, rfl⟩ := List.mem_map.1 hb
    exact ⟨_, _, _, hS.own o ho⟩
  · obtain ⟨Ds, h1, h2, h3⟩ := h.ds
    exact ⟨Ds, h1, h2, fun D hD => ⟨(h3 D hD).1, h.kp hS (h3 D hD).2 (fun _ _ _ => nofun)⟩⟩

theorem Sf.mark (h : Sf w0 Z w m O) : Sf w0 (mk w.heap.size :: Z) (w.alloc (.deferred (some []))) m O := by
  obtain ⟨X1, hM, hS⟩ := h
  have hb : Below w.heap.size w (w.alloc (.deferred (some []))) := below_alloc _ _
  have hS' := hS.below hb
  have hM2 := hM.sf hS'
  obtain ⟨X2, hM2, hS2⟩ := hM2
  refine ⟨X2, ⟨hM2.kept, hM2.out, hM2.cel, ?_⟩, hS2⟩
  obtain ⟨Ds, h1, h2, h3⟩ := hM.ds
  refine ⟨w.heap.size :: Ds, by rw [h1]; rfl, List.nodup_cons.2 ⟨fun hin => ?_, h2⟩, fun D hD => ?_⟩
  · have := lt_of_heap (h3 _ hin).2; omega
  · rcases List.mem_cons.1 hD with rfl | hD
    · exact ⟨hM.kept.size, by show (w.heap.push _)[w.heap.size]? = _; simp⟩
    · exact ⟨(h3 D hD).1, (hb.block D (lt_of_heap (h3 D hD).2)).trans (h3 D hD).2⟩

theorem Sf.tr (h : Sf w0 Z A m (q :: O)) (t : Tr w0 l q q' A B) : Sf w0 Z B m (q' :: O) := by
  obtain ⟨X1, hM, hS⟩ := h
  obtain ⟨r, hr⟩ := t.lp
  have hq : ∀ o ∈ q, o ∈ (q :: O).flatten := fun o ho => by simp [ho]
  have hO : ∀ o ∈ O.flatten, o ∈ (q :: O).flatten := fun o ho => by simp only [List.flatten_cons, List.mem_append]; exact .inr ho
  have hbs : (q' :: O).flatten.map (·.b) = (q :: O).flatten.map (·.b) := by simp only [List.flatten_cons, List.map_append, t.same]
  have hin : ∀ o ∈ q', ∃ p ∈ q, p.b = o.b := fun o ho => by
    have : o.b ∈ q.map (·.b) := by rw [← t.same]; exact List.mem_map.2 ⟨o, ho, rfl⟩
    obtain ⟨p, hp, he⟩ := List.mem_map.1 this
    exact ⟨p, hp, he⟩
  have keep : ∀ k o, A.heap[k]? = some o → (∀ x ∈ q, x.b ≠ k) → (∀ r, o ≠ .loop r) → B.heap[k]? = some o := fun k o hk hx hl => by
    rw [t.block k (lt_of_heap hk) hx (fun e => by subst e; rw [hr] at hk; exact hl r (Option.some.inj hk).symm)]
    exact hk
  have hnd := hS.nodup
  simp only [List.flatten_cons, List.map_append] at hnd
  rw [List.nodup_append] at hnd
  obtain ⟨_, _, hdis⟩ := hnd
  refine ⟨(q :: O).flatten.map (·.b), ⟨⟨t.os.trans hM.kept.os, t.tape.trans hM.kept.tape, t.output.trans hM.kept.output, Nat.le_trans hM.kept.size t.size, fun k hk hx => ?_⟩, fun b hb => ?_, fun b hb => ?_, ?_⟩,
    ⟨Kept.refl _ _, fun b cs hb => ?_, fun o ho => ?_, fun o ho => ?_, by rw [hbs]; exact hS.nodup⟩⟩
  · rw [t.block k (Nat.lt_of_lt_of_le hk hM.kept.size) (fun x hxq e => by have := (hM.freeB hS (hq x hxq)).2; omega) (fun e => by have := t.lo; omega)]
    exact hM.kept.block k hk hx
  · obtain ⟨o, ho, rfl⟩ := List.mem_map.1 hb
    exact (hM.freeB hS ho).2
  · rw [← hbs] at hb
    obtain ⟨o, ho, rfl⟩ := List.mem_map.1 hb
    simp only [List.flatten_cons, List.mem_append] at ho
    rcases ho with ho | ho
    · exact ⟨_, _, _, t.cells o ho⟩
    · exact ⟨_, _, _, keep _ _ (hS.own o (hO o ho)) (fun x hx e => hdis _ (List.mem_map.2 ⟨x, hx, rfl⟩) _ (List.mem_map.2 ⟨o, ho, rfl⟩) e) (fun _ => nofun)⟩
  · obtain ⟨Ds, h1, h2, h3⟩ := hM.ds
    refine ⟨Ds, h1, h2, fun D hD => ⟨(h3 D hD).1, keep _ _ (h3 D hD).2 (fun x hx e => ?_) (fun _ => nofun)⟩⟩
    have := hS.own x (hq x hx)
    rw [e, (h3 D hD).2] at this
    cases this
  · obtain ⟨T, fz, hc⟩ := hS.vis b cs hb
    refine ⟨T, fz, keep _ _ hc (fun x hx e => ?_) (fun _ => nofun)⟩
    have := (hS.free x (hq x hx)).1
    rw [e, hb] at this
    cases this
  · simp only [List.flatten_cons, List.mem_append] at ho
    rcases ho with ho | ho
    · exact t.cells o ho
    · exact keep _ _ (hS.own o (hO o ho)) (fun x hx e => hdis _ (List.mem_map.2 ⟨x, hx, rfl⟩) _ (List.mem_map.2 ⟨o, ho, rfl⟩) e) (fun _ => nofun)
  · simp only [List.flatten_cons, List.mem_append] at ho
    rcases ho with ho | ho
    · obtain ⟨p, hp, he⟩ := hin o ho
      rw [← he]
      exact ⟨(hS.free p (hq p hp)).1, .inr (List.mem_map.2 ⟨p, hq p hp, rfl⟩)⟩
    · exact ⟨(hS.free o (hO o ho)).1, .inr (List.mem_map.2 ⟨o, hO o ho, rfl⟩)⟩

/-- what an iterator may ask of the world and of its piece -/
def ItF (m0 : Mem) (q : Piece) (A : World) : Prop := Vis m0 A ∧ (q.map (·.b)).Nodup ∧ ∀ o ∈ q, A.heap[o.b]? = some (.cells o.cs.toArray o.T (0, 0)) ∧ m0 o.b = none

theorem Sf.itf (h : Sf w0 Z A m (q :: O)) (hm : Mem.le m0 m) : ItF m0 q A := by
  obtain ⟨X1, _, hS⟩ := h
  have hnd := hS.nodup
  simp only [List.flatten_cons, List.map_append] at hnd
  rw [List.nodup_append] at hnd
  refine ⟨fun b cs hb => hS.vis b cs (hm b cs hb), hnd.1, fun o ho => ⟨hS.own o (by simp [ho]), ?_⟩⟩
  have := (hS.free o (by simp [ho])).1
  cases hc : m0 o.b with
  | none => rfl
  | some cs => rw [hm _ _ hc] at this; cases this

/-- the function gf, ranged over, hands on xs, one after the other -/
def ItOK (P : Program) (gf : FuncId) (q0 : Piece) (caps : List Value) (xs : List (List UInt8)) (m0 : Mem) : Prop :=
  ∀ (w0 : World) (l : Nat) (J : Nat → Piece → World → Prop) (Jx : World → Prop) (W : World), w0.heap.size ≤ l →
    (∀ i q q' A B, Tr w0 l q q' A B → B.heap[l]? = A.heap[l]? → J i q A → J i q' B) →
    (∀ i q A, J i q A → ItF m0 q A ∧ ∃ r, A.heap[l]? = some (.loop r)) →
    (∀ i q A x, J i q A → xs[i]? = some x → ∃ fn tmps assign body, (Instr.yield l #[strV x]).run P A = .ok (.round l fn tmps assign body) A ∧
      RoundIn (FR none) 0 P l fn tmps assign body A fun e W' => (e = .returned (.bool true) ∧ J (i + 1) q W') ∨ (e = .returned (.bool false) ∧ Jx W')) →
    J 0 q0 W →
    CallsIn (FR none) 0 P gf (#[.func (.yield l) #[] #[]] ++ caps.toArray) W fun e W' => (∃ v, e = .returned v) ∧ ((∃ q, J xs.length q W') ∨ Jx W')

/-- how a round is left -/
def RQ {σ ρ : Type} (I : List Deferred → σ → Piece → World → Prop) (D : List Deferred → ρ → Piece → World → Prop) (Z : List Deferred) (q : Piece) (wr : World) (st : Stp σ ρ) : Exit → Act → World → Prop := fun e _ w =>
  (∀ (k : Nat) (r : Loop), wr.heap[k]? = some (Obj.loop r) → w.heap[k]? = some (Obj.loop r)) ∧ match st with
  | .next s => e = .normal ∧ I Z s q w
  | .done o => e = .ret ∧ D Z o q w

theorem Tr.put (lo : w0.heap.size ≤ l) {r : Loop} (hl : A.heap[l]? = some (.loop r)) (hf : ItF m0 q A) (o : Obj) : Tr w0 l q q A (A.putObj l o) :=
  ⟨rfl, rfl, rfl, by simp, fun k _ _ hne => World.putObj_heap_other hne, lo, ⟨r, hl⟩, rfl, fun x hx => by
    rw [World.putObj_heap_other (fun e => by have := (hf.2.2 x hx).1; rw [e, hl] at this; cases this)]
    exact (hf.2.2 x hx).1⟩

variable {Q : Exit → Act → World → Prop} {a : Act} {n : Nat} {L L0 : List (Nat × Value)}

theorem q_range {σ ρ : Type} {f : List UInt8 → σ → Option (Stp σ ρ)} {s0 : σ} {r : σ ⊕ ρ} {g : Operand} {tp dst : Nat} {ty : TypeId} {p : String} {af : Array Edge} {id : Nat} {body : Code} {gf : FuncId} {fn : Func}
    {caps : List Value} {q0 : Piece} {xs : List (List UInt8)}
    (I : List Deferred → σ → Piece → World → Prop) (D : List Deferred → ρ → Piece → World → Prop) (hrun : seqC f xs s0 = some r)
    (hF0 : FrD Z a n L0) (hsub : Sub L0 L) (hg : evo L0 g = some (.func (.func gf) #[] caps.toArray)) (hfn : P.funcs[gf]? = some fn) (hname : (fn.name == "runtime.NumGoroutine") = false) (hbd : fn.body.isNone = false)
    (htp : dok (some tp) n = true) (hdst : dok (some dst) n = true)
    (hit : ItOK P gf q0 caps xs m0) (hw : w0.heap.size ≤ w.heap.size)
    (hIt : ∀ Z s q q' A B l, Tr w0 l q q' A B → I Z s q A → I Z s q' B) (hDt : ∀ Z s q q' A B l, Tr w0 l q q' A B → D Z s q A → D Z s q' B)
    (hIm : ∀ Z s q A, I Z s q A → I (mk A.heap.size :: Z) s q (A.alloc (.deferred (some [])))) (hIa : ∀ Z s q A B, I Z s q A → Below A.heap.size A B → I Z s q B)
    (hIf : ∀ Z s q A, I Z s q A → ItF m0 q A) (hDf : ∀ Z s q A, D Z s q A → ItF m0 q A)
    (h0 : I Z s0 q0 w)
    (hround : ∀ l Z x s q a w st, Fr a n ((dst, strV x) :: (tp, strV x) :: L) → I Z s q w → f x s = some st → Wr P (some l) body (RQ I D Z q w st) a w)
    (hdone : ∀ Z a w s q, FrD Z a n L → I Z s q w → r = .inl s → Q .normal a w)
    (hstop : ∀ Z a w o q, FrD Z a n L → D Z o q w → r = .inr o → Q .ret a w) :
    (Code.rangeFunc g #[tp] (.region id #[⟨some dst, .assign (.tmp tp), ty, p, af, none⟩] false) body).wp P Q a w := by
  have hF : FrD Z a n L := hF0.sub hsub
  refine (wpIn_wide (n := 0)).1 (wpIn_rangeFunc ?_)
  intro fnn _
  obtain ⟨rec, hrec⟩ : ∃ rec : LoopState → Option Code → Loop, rec = fun st pe => { state := st, pending := pe, fn := fnn, tmps := a.tmps, params := #[tp], assign := .region id #[⟨some dst, .assign (.tmp tp), ty, p, af, none⟩] false, body, defers := w.heap.size } := ⟨_, rfl⟩
  obtain ⟨W1, hW1⟩ : ∃ W1, (w.alloc (.deferred (some []))).alloc (.loop (rec .ready none)) = W1 := ⟨_, rfl⟩
  obtain ⟨l, hl⟩ : ∃ l, l = w.heap.size + 1 := ⟨_, rfl⟩
  have hL1 : W1.heap[l]? = some (.loop (rec .ready none)) := by
    rw [← hW1, hl]; have := World.alloc_heap_new (w.alloc (.deferred (some []))) (.loop (rec .ready none)); rwa [World.size_alloc] at this
  have lo : w0.heap.size ≤ l := by omega
  have hI1 : I (mk w.heap.size :: Z) s0 q0 W1 := by rw [← hW1]; exact hIa _ _ _ _ _ (hIm _ _ _ _ h0) (below_alloc _ _)
  have h1 : ¬ fn.name = "runtime.NumGoroutine" := by simpa using hname
  have h2 : ¬ fn.body = none := by cases hx : fn.body <;> simp_all
  refine ⟨l, [mk w.heap.size], W1, { target := .fn (.func gf) caps.toArray, args := #[.func (.yield l) #[] #[]] }, W1, gf, #[.func (.yield l) #[] #[]] ++ caps.toArray, W1, ?_, ?_, fun _ _ => trivial, ?_, nofun, ?_⟩
  · rw [← hW1, hl, hrec]; exact run_enterLoop_outer _ _ _ _ _
  · have hg' := hF0.eval hg
    simp only [resolve, hg']
    simp [Deferred.ofValue, Act.eval]
  · simp [invoke, callFunc, hfn, h1, h2]
  · have main := hit w0 l
      (fun i q A => ∃ s, I (mk w.heap.size :: Z) s q A ∧ seqC f (xs.drop i) s = some r ∧ A.heap[l]? = some (.loop (rec .ready none)))
      (fun A => ∃ o q, r = .inr o ∧ D (mk w.heap.size :: Z) o q A ∧ A.heap[l]? = some (.loop (rec .done (some .ret))))
      W1 lo
      (fun i q q' A B ht he ⟨s, hI, hs, hl⟩ => ⟨s, hIt _ _ _ _ _ _ _ ht hI, hs, he.trans hl⟩)
      (fun i q A ⟨s, hI, hs, hl⟩ => ⟨hIf _ _ _ _ hI, _, hl⟩) ?_ ⟨s0, hI1, by simpa using hrun, hL1⟩
    · refine CallsIn.mono (show CallsIn Fence.wide 0 P gf _ W1 _ from main) ?_
      rintro e W2 ⟨⟨v, rfl⟩, (⟨q, s, hI, hs, hll⟩ | ⟨o, q, ho, hD, hll⟩)⟩
      · rw [List.drop_eq_nil_of_le (Nat.le_refl _)] at hs
        simp only [seqC, Option.some.injEq] at hs
        refine ⟨none, _, by have := run_endLoop (P := P) hll (by rw [hrec]; simp); rw [hrec] at this; exact this, ?_⟩
        exact hdone (mk w.heap.size :: Z) _ _ s q ⟨hF.size, by rw [← hF.defers]; rfl, hF.has⟩ (hIt _ _ _ _ _ _ _ (Tr.put lo hll (hIf _ _ _ _ hI) _) hI) hs.symm
      · refine ⟨some .ret, _, by have := run_endLoop (P := P) hll (by rw [hrec]; simp); rw [hrec] at this; exact this, ?_⟩
        exact wpIn_ret (hstop (mk w.heap.size :: Z) _ _ o q ⟨hF.size, by rw [← hF.defers]; rfl, hF.has⟩ (hDt _ _ _ _ _ _ _ (Tr.put lo hll (hDf _ _ _ _ hD) _) hD) ho)
    · rintro i q A x ⟨s, hI, hs, hll⟩ hx
      have hlt : l < A.heap.size := lt_of_heap hll
      have hf := hIf _ _ _ _ hI
      have hd : xs.drop i = x :: xs.drop (i + 1) := by
        obtain ⟨hi, he⟩ := List.getElem?_eq_some_iff.1 hx
        rw [List.drop_eq_getElem_cons hi, he]
      rw [hd] at hs
      simp only [seqC] at hs
      obtain ⟨st, hst⟩ : ∃ st, f x s = some st := by
        cases hc : f x s with
        | none => rw [hc] at hs; cases hs
        | some st => exact ⟨st, rfl⟩
      rw [hst] at hs
      have hy := run_yield (P := P) (args := #[strV x]) hll (by rw [hrec]; rfl)
      rw [hrec] at hy
      refine ⟨fnn, _, _, body, hy, roundIn_of_wpIn trivial ?_⟩
      have hF1 : Fr { tmps := (#[tp].zip #[strV x]).foldl (fun t (p, v) => t.setIfInBounds p v) a.tmps, defers := [] } n ((tp, strV x) :: L) := by
        have := (show Fr { a with defers := [] } n L from ⟨hF.size, rfl, hF.has⟩).put (d := some tp) (strV x) htp
        simpa [Act.put, putL] using this
      generalize ({ tmps := (#[tp].zip #[strV x]).foldl (fun t (p, v) => t.setIfInBounds p v) a.tmps, defers := [] } : Act) = a1 at hF1 ⊢
      have has : Wr P (some l) (.region id #[⟨some dst, .assign (.tmp tp), ty, p, af, none⟩] false) (fun e a' w' => e = .normal ∧ w' = A ∧ Fr a' n ((dst, strV x) :: (tp, strV x) :: L)) a1 A := by
        have e1 : a1.eval (.tmp tp) = strV x := hF1.eval (by simp [evo, lk])
        refine rr_region (L := [⟨some dst, .assign (.tmp tp), ty, p, af, none⟩]) rfl ?_
        refine wpList_plain rfl fun K hK => wp_of_run (v := strV x) (w' := A) (by simp [execOp, e1]) (hK _ _ ?_)
        exact rr_end ⟨rfl, rfl, hF1.put (d := some dst) _ hdst⟩
      refine wpIn_mono (show Code.wpIn (FR (some l)) 0 P _ _ _ _ from has) ?_
      rintro e a' w' ⟨-, he, rfl, hF2⟩
      subst he
      refine ⟨_, run_beginRound hll (by rw [hrec]), ?_⟩
      have hI2 : I (mk w.heap.size :: Z) s q (w'.putObj l (.loop { rec .ready none with state := .busy })) := hIt _ _ _ _ _ _ _ (Tr.put lo hll hf _) hI
      have hl2 : (w'.putObj l (.loop { rec .ready none with state := .busy })).heap[l]? = some (.loop { rec .ready none with state := .busy }) := World.putObj_heap_same hlt
      refine wpIn_mono (show Code.wpIn (FR (some l)) 0 P _ _ _ _ from hround l _ x s q a' _ st hF2 hI2 hst) ?_
      rintro e a3 W3 ⟨-, hk, hp⟩
      have hl3 := hk _ _ hl2
      cases st with
      | next s' =>
        obtain ⟨rfl, hI3⟩ := hp
        simp only at hs
        refine ⟨_, _, run_endRound none hl3, .inl ⟨rfl, s', hIt _ _ _ _ _ _ _ (Tr.put lo hl3 (hIf _ _ _ _ hI3) _) hI3, hs, ?_⟩⟩
        rw [World.putObj_heap_same (lt_of_heap hl3), hrec]; rfl
      | done o =>
        obtain ⟨rfl, hD3⟩ := hp
        simp only [Option.some.injEq] at hs
        refine ⟨_, _, run_endRound (some .ret) hl3, .inr ⟨rfl, o, q, hs.symm, hDt _ _ _ _ _ _ _ (Tr.put lo hl3 (hDf _ _ _ _ hD3) _) hD3, ?_⟩⟩
        rw [World.putObj_heap_same (lt_of_heap hl3), hrec]; rfl

/-! the function's start and end -/
theorem St.putD {X : List Nat} {D : Nat} {o o' : Obj} (h : St X w0 w m O) (hD : w.heap[D]? = some o) (ho : ∀ c T fz, o ≠ .cells c T fz) (hlo : w0.heap.size ≤ D) : St X w0 (w.putObj D o') m O := by
  have keep : ∀ (k : Nat) c T fz, w.heap[k]? = some (Obj.cells c T fz) → (w.putObj D o').heap[k]? = some (Obj.cells c T fz) := fun k c T fz hk => by
    rw [World.putObj_heap_other (fun e => by subst e; rw [hD] at hk; exact ho c T fz (Option.some.inj hk))]; exact hk
  refine ⟨⟨h.kept.os, h.kept.tape, h.kept.output, by simpa using h.kept.size, fun k hk hx => ?_⟩, fun b cs hb => ?_, fun x hx => keep _ _ _ _ (h.own x hx), h.free, h.nodup⟩
  · rw [World.putObj_heap_other (by omega)]; exact h.kept.block k hk hx
  · obtain ⟨T, fz, hc⟩ := h.vis b cs hb
    exact ⟨T, fz, keep _ _ _ _ hc⟩

theorem leavesM {fn : Func} {tmps : Array Value} {R : Ending → World → Prop} : ∀ (Ds : List Nat) (w : World), Ds.Nodup → (∀ D ∈ Ds, w0.heap.size ≤ D ∧ w.heap[D]? = some (.deferred (some []))) → St [] w0 w m O →
    (∀ w', St [] w0 w' m O → ∃ v, (results fn tmps).run P w' = .ok v w' ∧ R (.returned v) w') → LeavesInM Fence.wide 0 P fn tmps R (Ds.map mk) .returning w
  | [], w, _, _, hS, h => h w hS
  | D :: Ds, w, hn, hD, hS, h => by
    obtain ⟨h1, h2⟩ := hD D (.head _)
    rw [List.nodup_cons] at hn
    refine ⟨nofun, .inl ⟨D, _, rfl, run_takeDeferred h2, ?_⟩⟩
    refine leavesM Ds _ hn.2 (fun D' hD' => ?_) (hS.putD h2 (fun _ _ _ => nofun) h1) h
    obtain ⟨h3, h4⟩ := hD D' (.tail _ hD')
    exact ⟨h3, (World.putObj_heap_other (fun e => hn.1 (by rw [← e]; exact hD'))).trans h4⟩

theorem ret_ofM {fn : Func} {R : Value → World → Prop} {rs : List ResultVar} {vs : List Value} (hM : Mk w0 Z X1 w1) (hF : FrD Z a n L) (hS : St X1 w1 w m O) (hr : fn.results = rs.toArray) (h : ResL P L O rs vs)
    (hR : ∀ w', St [] w0 w' m O → R (tup vs) w') :
    bodyPostM Fence.wide 0 P fn (fun e w' => ∃ v, e = .returned v ∧ Below w0.heap.size w0 w' ∧ R v w') .ret a w := by
  obtain ⟨Ds, h1, h2, h3⟩ := hM.ds
  show LeavesInM Fence.wide 0 P fn a.tmps _ a.defers .returning w
  rw [hF.defers, h1]
  refine leavesM Ds w h2 (fun D hD => ⟨(h3 D hD).1, hM.kp hS (h3 D hD).2 (fun _ _ _ => nofun)⟩) (hM.back hS) fun w' hS' => ?_
  exact ⟨_, run_results hF hS' hr h, _, rfl, hS'.kept.toBelow, hR w' hS'⟩

theorem normal_retM {fn : Func} {R : Ending → World → Prop} (h : bodyPostM Fence.wide 0 P fn R .ret a w) : bodyPostM Fence.wide 0 P fn R .normal a w := h

theorem ret_startM {f : FuncId} {fn : Func} {c : Code} {vs : List Value} {R : Value → World → Prop} (hf : P.funcs[f]? = some fn) (hb : fn.body = some c) (n : Nat) (hn : fn.ntmps = n) (hl : Nat.ble vs.length n = true)
    (m : Mem) (hv : Vis m w) (h : ∀ a, Fr a n (argL 0 vs) → St [] w w m [] → Mk w [] [] w → c.wp P (bodyPostM Fence.wide 0 P fn (fun e w' => ∃ v, e = .returned v ∧ Below w.heap.size w w' ∧ R v w')) a w) : Ret P f vs w R := by
  unfold Ret
  refine callsIn_wide.1 (callsIn_of_wp_marks hf hb trivial (wpIn_wide.2 (h _ ?_ (St.start w m hv) (Mk.start w))))
  subst hn
  exact Fr.start vs _ (Nat.le_of_ble_eq_true hl)
end

/-! ### a text, split at a sign -/
def splitB (c : UInt8) : List UInt8 → List (List UInt8)
  | [] => [[]]
  | x :: r => if x == c then [] :: splitB c r else match splitB c r with
    | [] => [[x]]
    | y :: ys => (x :: y) :: ys

theorem splitB_ne (c : UInt8) : ∀ s, splitB c s ≠ []
  | [] => by simp [splitB]
  | x :: r => by
    simp only [splitB]
    split
    · simp
    · split <;> simp

/-- the first place of a sign -/
def idxB (c : UInt8) : List UInt8 → Int
  | [] => -1
  | x :: r => if x == c then 0 else if idxB c r == -1 then -1 else idxB c r + 1

theorem idxB_bd (c : UInt8) : ∀ s, -1 ≤ idxB c s ∧ idxB c s < s.length ∨ s = [] ∧ idxB c s = -1
  | [] => .inr ⟨rfl, rfl⟩
  | x :: r => by
    left
    have ih := idxB_bd c r
    simp only [idxB, List.length_cons]
    split
    · omega
    · split
      · omega
      · rename_i h1 h2
        simp only [beq_iff_eq] at h2
        rcases ih with ih | ih
        · push_cast; omega
        · omega

theorem splitB_no {c : UInt8} : ∀ {s : List UInt8}, idxB c s < 0 → splitB c s = [s]
  | [], _ => rfl
  | x :: r, h => by
    simp only [idxB] at h
    simp only [splitB]
    split at h
    · omega
    · rename_i h1
      rw [if_neg h1]
      have hb := idxB_bd c r
      have : idxB c r < 0 := by
        split at h
        · rename_i h2; simp only [beq_iff_eq] at h2; omega
        · omega
      rw [splitB_no this]

theorem splitB_yes {c : UInt8} : ∀ {s : List UInt8}, ¬ idxB c s < 0 → splitB c s = s.take (idxB c s).toNat :: splitB c (s.drop ((idxB c s).toNat + 1))
  | [], h => by simp [idxB] at h
  | x :: r, h => by
    simp only [idxB] at h ⊢
    simp only [splitB]
    split at h
    · rename_i h1; simp [h1]
    · rename_i h1
      have hb := idxB_bd c r
      split at h
      · omega
      · rename_i h2
        simp only [beq_iff_eq] at h2
        have h3 : ¬ idxB c r < 0 := by omega
        have h4 : (idxB c r + 1).toNat = (idxB c r).toNat + 1 := by omega
        have h5 : ¬ (idxB c r == -1) = true := by simpa using h2
        rw [if_neg h1, if_neg h1, if_neg h5, h4]
        rw [splitB_yes h3]
        simp

/-! a text under a plain fence, and a call of yield in it -/
section
variable {P : Program} {Q : Exit → Act → World → Prop} {a : Act} {w w0 : World} {ro : Option Nat} {ops : Array Oper} {rest : List Oper} {L : List (Nat × Value)} {m m0 : Mem} {O : List Piece} {X : List Nat} {n : Nat}

theorem rl_region {id : Nat} {l : List Oper} (h : wpListIn (FR ro) 0 P l.toArray (NO Q) l a w) : Wr P ro (Code.region id l.toArray false) Q a w := wpIn_region_lit h

theorem rl_end (h : Q .normal a w) : wpListIn (FR ro) 0 P ops (NO Q) [] a w := ⟨nofun, h⟩

theorem rl_x {o : Oper} {v : Value} (hF : FrD DS a n L) (hS : St X w0 w m O) (hx : Ex P o L m O v) (hg : o.guard = none) (hd : dok o.dst n = true) (hn : noDefer [o] = true)
    (k : ∀ a', FrD DS a' n (putL o.dst v L) → wpListIn (FR ro) 0 P ops (NO Q) rest a' w) : wpListIn (FR ro) 0 P ops (NO Q) (o :: rest) a w :=
  wpListIn_plain hg fun K hK => Oper.wpIn_of (K := K) (by simpa [noDefer] using hn) (NO.out Q) (fun _ _ h => h) (wp_of_run (hx _ a n X w0 w hF hS) (hK _ _ (k _ (hF.put v hd))))

theorem rl_yield {d : Option Tmp} {c x : Operand} {ats : Array TypeId} {ty : TypeId} {p : String} {af : Array Edge} {l fn : Nat} {tmps : Array Value} {assign body : Code} {v : Value} {R : Ending → World → Prop}
    (hF : FrD DS a n L) (hc : evo L c = some (.func (.yield l) #[] #[])) (hx : evo L x = some v) (hd : dok d n = true)
    (hy : (Instr.yield l #[v]).run P w = .ok (.round l fn tmps assign body) w) (hr : RoundIn (FR none) 0 P l fn tmps assign body w R)
    (k : ∀ e w', R e w' → ∃ u, e = .returned u ∧ ∀ a', FrD DS a' n (putL d u L) → wpListIn (FR none) 0 P ops (NO Q) rest a' w') :
    wpListIn (FR none) 0 P ops (NO Q) (⟨d, .call { callee := .value c, args := #[x], argTypes := ats }, ty, p, af, none⟩ :: rest) a w := by
  refine wpListIn_plain rfl fun K hK => ?_
  unfold Oper.wpIn
  refine ⟨fun _ _ => trivial, ?_⟩
  rw [Oper.semAt_eq _ _ _ (fun c hc => by cases hc)]
  have e1 := hF.eval hc
  have e2 := hF.eval hx
  have hrun : (execOp a.eval ⟨d, .call { callee := .value c, args := #[x], argTypes := ats }, ty, p, af, none⟩).run P w = .ok (.round l fn tmps assign body) w := by
    simp [execOp, resolve, Deferred.ofValue, invoke, e1, e2, hy]
  rw [hrun]
  refine ⟨nofun, RoundIn.mono hr ?_⟩
  intro e w' hR
  obtain ⟨u, rfl, hk⟩ := k e w' hR
  exact hK _ _ (hk _ (hF.put u hd))

theorem rr_loop {c : Code} (I : Act → World → Prop) (μ : Act → World → Nat) (h0 : I a w)
    (round : ∀ a w, I a w → Wr P ro c (Jn (fun a' w' => I a' w' ∧ μ a' w' < μ a w) Q) a w) : Wr P ro (Code.loop c) Q a w :=
  wpIn_loop I μ h0 fun a w h => wpIn_mono (round a w h) fun e a' w' hq => by
    obtain ⟨hne, hq⟩ := hq
    cases e <;> first | exact hq | exact ⟨hne, hq⟩

theorem it_start {f : FuncId} {fn : Func} {c : Code} {v : Value} {vs : List Value} {R : Ending → World → Prop} (hf : P.funcs[f]? = some fn) (hb : fn.body = some c) (n : Nat) (hn : fn.ntmps = n) (hl : Nat.ble (v :: vs).length n = true)
    (h : ∀ a, Fr a n (argL 0 (v :: vs)) → Wr P none c (bodyPost P fn R) a w) : CallsIn (FR none) 0 P f (#[v] ++ vs.toArray) w R := by
  have e : #[v] ++ vs.toArray = (v :: vs).toArray := by simp
  rw [e]
  refine callsIn_of_wp hf hb trivial (wpIn_mono (h _ ?_) fun e a w h => h.2) rfl
  subst hn
  exact Fr.start (v :: vs) _ (Nat.le_of_ble_eq_true hl)

variable {q q' : Piece} {A B : World} {l : Nat}
theorem ItF.st (h : ItF m0 q A) : St (q.map (·.b)) A A m0 [q] :=
  ⟨Kept.refl _ _, h.1, fun o ho => (h.2.2 o (by simpa using ho)).1, fun o ho => by
    have ho' : o ∈ q := by simpa using ho
    exact ⟨(h.2.2 o ho').2, .inr (List.mem_map.2 ⟨o, ho', rfl⟩)⟩, by simpa using h.2.1⟩

theorem ItF.tr (h : ItF m0 q A) (hl : ∃ r, A.heap[l]? = some (.loop r)) (lo : w0.heap.size ≤ l) (hS : St (q.map (·.b)) A B m0 [q']) (hb : q'.map (·.b) = q.map (·.b)) : Tr w0 l q q' A B ∧ B.heap[l]? = A.heap[l]? := by
  obtain ⟨r, hr⟩ := hl
  refine ⟨⟨hS.kept.os, hS.kept.tape, hS.kept.output, hS.kept.size, fun k hk hx hne => hS.kept.block k hk fun hm => ?_, lo, ⟨r, hr⟩, hb, fun o ho => hS.own o (by simpa using ho)⟩, hS.kept.block l (lt_of_heap hr) fun hm => ?_⟩
  · obtain ⟨o, ho, he⟩ := List.mem_map.1 hm
    exact hx o ho he
  · obtain ⟨o, ho, he⟩ := List.mem_map.1 hm
    have := (h.2.2 o ho).1
    rw [he, hr] at this
    cases this
end

/-- how long the text in a block is -/
def lenB (w : World) (b : Nat) : Nat := match w.heap[b]? with
  | some (Obj.cells cs _ _) => match cs[0]? with
    | some (Value.string s) => s.size
    | _ => 0
  | _ => 0

theorem lenB_eq {w : World} {b : Nat} {t : List UInt8} {T : TypeId} {fz : Nat × Nat} (h : w.heap[b]? = some (.cells #[strV t] T fz)) : lenB w b = t.length := by
  unfold lenB
  rw [h]
  exact bytes_size t

/-! ### the loop over a function, its invariant without a world -/
theorem Sf.below {w0 w w' : World} {Z : List Deferred} {m : Mem} {O : List Piece} (h : Sf w0 Z w m O) (hb : Below w.heap.size w w') : Sf w0 Z w' m O := by
  obtain ⟨X1, hM, hS⟩ := h
  exact hM.sf (hS.below hb)

section
variable {P : Program} {w0 w : World} {Z : List Deferred} {m0 : Mem} {Q : Exit → Act → World → Prop} {a : Act} {n : Nat} {L L0 : List (Nat × Value)}

theorem q_rangeG {σ ρ : Type} {f : List UInt8 → σ → Option (Stp σ ρ)} {s0 : σ} {r : σ ⊕ ρ} {g : Operand} {tp dst : Nat} {ty : TypeId} {p : String} {af : Array Edge} {id : Nat} {body : Code} {gf : FuncId} {fn : Func}
    {caps : List Value} {q0 : Piece} {xs : List (List UInt8)}
    (G : σ → Mem → List Piece → Prop) (E : ρ → Mem → List Piece → Prop) (hrun : seqC f xs s0 = some r)
    (hF : FrD Z a n L0) (hsub : Sub L0 L) (hg : evo L0 g = some (.func (.func gf) #[] caps.toArray)) (hfn : P.funcs[gf]? = some fn) (hname : (fn.name == "runtime.NumGoroutine") = false) (hbd : fn.body.isNone = false)
    (htp : dok (some tp) n = true) (hdst : dok (some dst) n = true)
    (hit : ItOK P gf q0 caps xs m0) (hw : w0.heap.size ≤ w.heap.size) (hm0 : ∀ b cs, m0 b = some cs → False)
    (h0 : ∃ m O, G s0 m O ∧ Sf w0 Z w m (q0 :: O))
    (hround : ∀ l Z x s q a w st m O, Fr a n ((dst, strV x) :: (tp, strV x) :: L) → G s m O → Sf w0 Z w m (q :: O) → f x s = some st →
      Wr P (some l) body (RQ (fun Z s q w => ∃ m O, G s m O ∧ Sf w0 Z w m (q :: O)) (fun Z s q w => ∃ m O, E s m O ∧ Sf w0 Z w m (q :: O)) Z q w st) a w)
    (hdone : ∀ Z a w s q m O, FrD Z a n L → G s m O → Sf w0 Z w m (q :: O) → r = .inl s → Q .normal a w)
    (hstop : ∀ Z a w o q m O, FrD Z a n L → E o m O → Sf w0 Z w m (q :: O) → r = .inr o → Q .ret a w) :
    (Code.rangeFunc g #[tp] (.region id #[⟨some dst, .assign (.tmp tp), ty, p, af, none⟩] false) body).wp P Q a w := by
  refine q_range (fun Z s q w => ∃ m O, G s m O ∧ Sf w0 Z w m (q :: O)) (fun Z s q w => ∃ m O, E s m O ∧ Sf w0 Z w m (q :: O)) hrun hF hsub hg hfn hname hbd htp hdst hit hw
    (fun Z s q q' A B l ht ⟨m, O, hG, hS⟩ => ⟨m, O, hG, hS.tr ht⟩) (fun Z s q q' A B l ht ⟨m, O, hG, hS⟩ => ⟨m, O, hG, hS.tr ht⟩)
    (fun Z s q A ⟨m, O, hG, hS⟩ => ⟨m, O, hG, hS.mark⟩) (fun Z s q A B ⟨m, O, hG, hS⟩ hb => ⟨m, O, hG, hS.below hb⟩)
    (fun Z s q A ⟨m, O, hG, hS⟩ => hS.itf fun b cs h => (hm0 b cs h).elim) (fun Z s q A ⟨m, O, hG, hS⟩ => hS.itf fun b cs h => (hm0 b cs h).elim)
    h0 ?_ ?_ ?_
  · rintro l Z x s q a w st hF ⟨m, O, hG, hS⟩ hf
    exact hround l Z x s q a w st m O hF hG hS hf
  · rintro Z a w s q hF ⟨m, O, hG, hS⟩ hr
    exact hdone Z a w s q m O hF hG hS hr
  · rintro Z a w o q hF ⟨m, O, hG, hS⟩ hr
    exact hstop Z a w o q m O hF hG hS hr
end

/-! ### signs as texts; functions that call themselves -/
def goRune (i : Int) : Option (List UInt8) := cond (decide (0 ≤ i ∧ i < 128)) (some [UInt8.ofNat i.toNat]) none

section
variable {P : Program} {L : List (Nat × Value)} {m : Mem} {O : List Piece} {d : Option Tmp} {ty : TypeId} {p : String} {af : Array Edge} {g : Option (Nat × Bool)} {x : Operand}
theorem ex_runeStr {s t : TypeId} {k k' : IntKind} {i : Int} {v : List UInt8} (hs : P.underlying s = some (.int k)) (ht : P.underlying t = some .string) (hx : evo L x = some (.int k' i)) (h : goRune i = some v) :
    Ex P ⟨d, .convert s t x, ty, p, af, g⟩ L m O (strV v) := fun _ a n X w0 w hF _ => by
  unfold goRune at h
  cases hb : decide (0 ≤ i ∧ i < 128) with
  | false => rw [hb] at h; cases h
  | true =>
    rw [hb] at h
    obtain rfl := (Option.some.inj h).symm
    have hi : 0 ≤ i ∧ i < 128 := of_decide_eq_true hb
    have e : Utf8.encode i = ⟨[UInt8.ofNat i.toNat].toArray⟩ := by
      unfold Utf8.encode
      have hv : Utf8.valid i = true := by unfold Utf8.valid; simp; omega
      have hc : i.toNat < 0x80 := by omega
      simp only [hv, if_true, hc]
    simp only [execOp, hF.eval hx]
    simp [convert, run_underlying hs, run_underlying ht, Conv.intToString, e]
end

def goSpl (s : List UInt8) : Option Unit := cond (decide (s.length < 4294967281)) (some ()) none
theorem goSpl_lt {s : List UInt8} {u : Unit} (h : goSpl s = some u) : s.length < 4294967281 := by
  unfold goSpl at h
  cases hb : decide (s.length < 4294967281) with
  | false => rw [hb] at h; cases h
  | true => exact of_decide_eq_true hb

open Classical in
noncomputable def recO {α : Type} (F : Nat → Option α) : Option α := if h : ∃ k, (F k).isSome = true then F h.choose else none

theorem recO_run {α : Type} {F : Nat → Option α} {r : α} (h : recO F = some r) : ∃ k, F k = some r := by
  unfold recO at h
  split at h
  · exact ⟨_, h⟩
  · cases h

theorem recO_of {α : Type} {F : Nat → Option α} {r : α} {k : Nat} (hk : F k = some r) (hu : ∀ k r', F k = some r' → r' = r) : recO F = some r := by
  have hex : ∃ k, (F k).isSome = true := ⟨k, by simp [hk]⟩
  unfold recO
  rw [dif_pos hex]
  obtain ⟨r', hr'⟩ := Option.isSome_iff_exists.1 hex.choose_spec
  rw [hr', hu _ _ hr']

/-! ## shorter words for long walks -/
abbrev pP (b o : Nat) : Value := .pointer (some ⟨b, o, none⟩)

section
variable {P : Program} {L : List (Nat × Value)} {m : Mem} {O : List Piece} {d : Option Tmp} {ty : TypeId} {p : String} {af : Array Edge} {x : Operand}
variable {a : Act} {n : Nat} {X : List Nat} {w0 w : World} {K : Act → World → Prop} {Q : Exit → Act → World → Prop} {ops : Array Oper} {o : Oper} {rest : List Oper} {v : Value} {Ld : LdB} {f : Nat} {l : Array Bool} {c1 c2 : Code}

theorem q_sr {id : Nat} {lo : List Oper} (h : wpList P lo.toArray (Sq P c2 Q) lo a w) : (Code.seq (Code.region id lo.toArray false) c2).wp P Q a w := q_seq (q_region h)

theorem q_m (hF : FrD DS a n L) (hx : evo L x = some v) (k : ∀ a', FrD DS a' n (putL d v L) → wpList P ops Q rest a' w) (hd : dok d n = true := by rfl) : wpList P ops Q (⟨d, .move x, ty, p, af, none⟩ :: rest) a w :=
  q_x hF (St.start w _ (vis_none w)) (ex_move hx) rfl hd k

theorem q_s (hF : FrD DS a n L) (hx : evo L x = some v) (k : ∀ a', FrD DS a' n (putL d v L) → wpList P ops Q rest a' w) (hd : dok d n = true := by rfl) : wpList P ops Q (⟨d, .assign x, ty, p, af, none⟩ :: rest) a w :=
  q_x hF (St.start w _ (vis_none w)) (ex_assign hx) rfl hd k

theorem q_y (hF : FrD DS a n L) (hS : St X w0 w m O) (hx : Ex P o L m O v) (k : ∀ a', FrD DS a' n (putL o.dst v L) → wpList P ops Q rest a' w) (hg : o.guard = none := by rfl) (hd : dok o.dst n = true := by rfl) : wpList P ops Q (o :: rest) a w :=
  q_x hF hS hx hg hd k

theorem q_g {j t : Nat} {b c : Bool} (hF : FrD DS a n L) (hS : St X w0 w m O) (hx : Ex P o L m O v) (hb : b = c) (k : ∀ a', FrD DS a' n (putL o.dst v L) → wpList P ops Q rest a' w) (hg : o.guard = some (j, c) := by rfl) (hj : (ops[j]?).bind (·.dst) = some t := by rfl) (hl : lk L t = some (.bool b) := by rfl) (hd : dok o.dst n = true := by rfl) : wpList P ops Q (o :: rest) a w :=
  q_xg hF hS hx (wanted_t hF hg hj hl hb) hd k

theorem q_k {j t : Nat} {b c e : Bool} (hF : FrD DS a n L) (hb : b = e) (k : ∀ a', FrD DS a' n (putL o.dst undef L) → wpList P ops Q rest a' w) (hg : o.guard = some (j, c) := by rfl) (hj : (ops[j]?).bind (·.dst) = some t := by rfl) (hl : lk L t = some (.bool b) := by rfl) (hbc : (e == c) = false := by rfl) (hd : dok o.dst n = true := by rfl) : wpList P ops Q (o :: rest) a w :=
  q_skip hF (wanted_f hF hg hj hl hb hbc) hd k

theorem e_P (i : Nat) (hF : FrD DS a n L) (hi : ops[i]? = some o) (hx : Ex P o L (fun _ => none) [] v)
    (k : ∀ a', FrD DS a' n (putL o.dst v L) → wpE P ops Ld K f (l.setIfInBounds i true) a' w) (hg : o.guard = none := by rfl) (hd : dok o.dst n = true := by rfl) (hs : Region.noSelect ops = true := by kernel_rfl) (hf : Region.free .any ops l i = true := by kernel_rfl) (hr : (Region.ready .any ops l).contains i = true := by kernel_rfl) : wpE P ops Ld K (f + 1) l a w :=
  e_p i hF hi hx hg hd hs hf hr k

theorem e_X (i : Nat) (hF : FrD DS a n L) (hS : St X w0 w m O) (hi : ops[i]? = some o) (hx : Ex P o L m O v)
    (k : ∀ a', FrD DS a' n (putL o.dst v L) → wpE P ops Ld K f (l.setIfInBounds i true) a' w) (hg : o.guard = none := by rfl) (hd : dok o.dst n = true := by rfl) (hs : Region.noSelect ops = true := by kernel_rfl) (hf : Region.free .any ops l i = true := by kernel_rfl) (hr : (Region.ready .any ops l).contains i = true := by kernel_rfl) (hl : ldWait ops Ld l i = true := by kernel_rfl) : wpE P ops Ld K (f + 1) l a w :=
  e_x i hF hS hi hx hg hd hs hf hr hl k
end

/-- what a strings.Builder takes -/
def goBld (a b : List UInt8) : Option (List UInt8) := cond (decide (a.length + b.length ≤ 140737488355328)) (some (a ++ b)) none

/-! ### copy into memory of the call's own -/
theorem run_copyK {P : Program} (w : World) (dT sT ty elem : TypeId) (g o dLen dCap : Nat) (a : Addr) (sLen sCap : Nat) (cur : List Value) (t : TypeId) (cs : List Value) (k : Nat)
    (hu : P.underlying dT = some (.slice elem)) (hs : szOf P elem = some k)
    (hg : w.heap[g]? = some (.cells cur.toArray t (0, 0))) (hn : cs.length = Nat.min sLen dLen * k)
    (hsrc : ∀ j v, cs[j]? = some v → w.cell? (a.add j) = some v) (hfit : o + cs.length ≤ cur.length) (h1 : ∀ v ∈ cs, v.oneCell' = true) :
    (Builtin.copy_ #[dT, sT] ty #[.slice (some ⟨g, o, none⟩) dLen dCap, .slice (some a) sLen sCap]).run P w =
      .ok (goInt (Nat.min sLen dLen)) (w.setRow g (cur.take o ++ cs ++ cur.drop (o + cs.length)).toArray) := by
  have hl := run_loadCells_list (P := P) w a cs hsrc
  have hst := run_storeCells_at P g o t cs 0 cur.toArray w hg (by simpa using hfit) h1
  unfold szOf at hs
  cases hq : P.info? elem with
  | none => simp [hq] at hs
  | some i =>
    have hi : i.size = k := by simpa [hq] using hs
    subst hi
    simp [Builtin.copy_, run_underlying hu, Builtin.lenOf, Builtin.firstCells, sizeOf, typeInfo, hq, ← hn, hl, hst]

section
variable {P : Program} {L : List (Nat × Value)} {m : Mem} {O : List Piece} {a : Act} {n : Nat} {X : List Nat} {w0 w : World} {Q : Exit → Act → World → Prop} {K : Act → World → Prop}
variable {d : Option Tmp} {ty : TypeId} {p : String} {af : Array Edge} {g : Option (Nat × Bool)} {x y : Operand}

theorem wp_copyO {t t' E T : TypeId} {b o dLen dCap sLen sCap sz : Nat} {ad : Addr} {cs vs : List Value} (j k : Nat) (hF : FrD DS a n L) (hS : St X w0 w m O)
    (hu : P.underlying t = some (.slice E)) (hz : szOf P E = some sz) (hx : evo L x = some (.slice (some ⟨b, o, none⟩) dLen dCap)) (hy : evo L y = some (.slice (some ad) sLen sCap))
    (ho : getO O j k = some ⟨b, cs, T⟩) (hn : vs.length = Nat.min sLen dLen * sz) (hsrc : ∀ j v, vs[j]? = some v → w.cell? (ad.add j) = some v) (hfit : o + vs.length ≤ cs.length)
    (h1 : ∀ v ∈ vs, v.oneCell' = true) (hd : dok d n = true)
    (kk : ∀ a' w', FrD DS a' n (putL d (iV (Nat.min sLen dLen)) L) → St X w0 w' m (setO O j k ⟨b, cs.take o ++ vs ++ cs.drop (o + vs.length), T⟩) → K a' w') :
    (⟨d, .call { callee := .builtin .copy, args := #[x, y], argTypes := #[t, t'] }, ty, p, af, g⟩ : Oper).wp P a w K Q := by
  have hh := hS.own _ (getO_mem ho)
  refine wp_of_run (v := iV (Nat.min sLen dLen)) (w' := w.setRow b (cs.take o ++ vs ++ cs.drop (o + vs.length)).toArray) ?_ (kk _ _ (hF.put _ hd) (hS.setRow ho _))
  have := run_copyK (P := P) w t t' ty E b o dLen dCap ad sLen sCap cs T vs sz hu hz hh hn hsrc hfit h1
  simp [execOp, resolve, invoke, builtin, Sem.run_bind, hF.eval hx, hF.eval hy, this, goInt]
end

/-- at most k cuts -/
def splitBN (c : UInt8) : Nat → List UInt8 → List (List UInt8)
  | 0, s => [s]
  | k + 1, s => if idxB c s < 0 then [s] else s.take (idxB c s).toNat :: splitBN c k (s.drop ((idxB c s).toNat + 1))

section
variable {P : Program} {L : List (Nat × Value)} {m : Mem} {O : List Piece} {a : Act} {n : Nat} {X : List Nat} {w0 w : World} {Q : Exit → Act → World → Prop} {K : Act → World → Prop}
variable {d : Option Tmp} {ty : TypeId} {p : String} {af : Array Edge} {g : Option (Nat × Bool)} {x y : Operand}

/-- append of zeros where there is no room: the old row stays -/
theorem wp_appendZN {t tn E T : TypeId} {kn kc : IntKind} {b i N cap sz by' : Nat} {zc cs : List Value} (j jj : Nat) (hF : FrD DS a n L) (hS : St X w0 w m O) (hu : P.underlying t = some (.slice E)) (htn : P.underlying tn = some (.int kn))
    (hI : inf P E = some (sz, by', zc)) (hzc : sz = zc.length) (hpos : 0 < sz) (hx : evo L x = some (.slice (some ⟨b, 0, none⟩) i cap)) (hy : evo L y = some (.int kc (N : Nat))) (ho : getO O j jj = some ⟨b, cs, T⟩)
    (hcs : i * sz ≤ cs.length) (hN : 0 < N) (hg : cap < i + N) (hby : 1 ≤ by') (hbb : (i + N) * by' ≤ 140737488355328) (hd : dok d n = true)
    (k : ∀ a' w' b' c rs, FrD DS a' n (putL d (.slice (some ⟨b', 0, none⟩) (i + N) c) L) → i + N ≤ c → c ≤ maxLen → rs.length = (c - i) * sz → St X w0 w' m ([⟨b', cs.take (i * sz) ++ rs, E⟩] :: O) → K a' w') :
    (⟨d, .call { callee := .builtin .append, args := #[x, y], argTypes := #[t, tn] }, ty, p, af, g⟩ : Oper).wp P a w K Q := by
  obtain ⟨i0, z', hi, h1, h2, h3, h4⟩ := inf_spec hI
  subst hzc
  have hmx : i + N ≤ (i + N) * by' := Nat.le_mul_of_pos_right _ (by omega)
  have h63 : ((i + N : Nat) : Int) ≤ 9223372036854775807 := by omega
  have hfits : Builtin.nextslicecap (i + N) cap * i0.bytes ≤ 281474976710656 := growslice_fits hg (by rw [h2]; exact hbb)
  have hNb : N * by' ≤ (i + N) * by' := Nat.mul_le_mul_right _ (by omega)
  have hh := hS.own _ (getO_mem ho)
  have hof : (Builtin.firstCells i0.size i (.slice (some ⟨b, 0, none⟩) i cap)).run P w.drew = .ok (cs.take (i * zc.length)).toArray w.drew := by
    have hl : (cs.take (i * zc.length)).length = i * i0.size := by rw [List.length_take, h1]; omega
    simp only [Builtin.firstCells, ← hl]
    refine run_loadCells_list w.drew ⟨b, 0, none⟩ (cs.take (i * zc.length)) fun j' v hv => ?_
    have e : (⟨b, 0, none⟩ : Addr).add j' = ⟨b, j', none⟩ := by unfold Addr.add; split <;> simp_all
    rw [e]
    show w.cell? ⟨b, j', none⟩ = some v
    unfold World.cell?
    simp only [hh]
    rw [List.getElem?_take] at hv
    split at hv
    · simpa using hv
    · cases hv
  have hrun := run_appendZ_grow (P := P) (ty := ty) (kc := kc) (w := w) (sp := some ⟨b, 0, none⟩) (N := N) (len := i) (cap := cap) (olds := cs.take (i * zc.length)) hu htn hi h3 h4 h1 hpos hN hg h63 hfits (by rw [h2]; omega) hof
  have hb : Below w.heap.size w w.drew := (Below.refl _ _).drew
  have hge := grownCap_ge w (i + N) cap E
  have hcm := grownCap_le_maxLen w (i + N) cap E (by simp only [maxLen]; omega)
  refine wp_of_run (w' := w.drew.alloc (.cells (cs.take (i * zc.length) ++ ((madeCells zc.toArray (N * zc.length)).toList ++ (Builtin.zeroCells zc.toArray (grownCap w (i + N) cap E - (i + N))).toList)).toArray E)) (v := .slice (some ⟨w.heap.size, 0, none⟩) (i + N) (grownCap w (i + N) cap E)) ?_ (k _ _ w.heap.size (grownCap w (i + N) cap E) _ (hF.put _ hd) hge hcm ?_ ((hS.below hb).alloc _ E))
  · simp [execOp, resolve, invoke, builtin, hF.eval hx, hF.eval hy, hrun]
  · have hml : (madeCells zc.toArray (N * zc.length)).toList.length = N * zc.length := by simp [size_madeCells]
    have hzl : (Builtin.zeroCells zc.toArray (grownCap w (i + N) cap E - (i + N))).toList.length = (grownCap w (i + N) cap E - (i + N)) * zc.length := by simp [Builtin.zeroCells]
    rw [List.length_append, hml, hzl, ← Nat.add_mul]
    congr 1
    omega
end

section
variable {P : Program} {L : List (Nat × Value)} {m : Mem} {O : List Piece} {d : Option Tmp} {ty : TypeId} {p : String} {af : Array Edge} {g : Option (Nat × Bool)} {x : Operand}
/-- a slice up to its capacity -/
theorem ex_sliceC {t E : TypeId} {s : Sl} {sz : Nat} {lo hi : Option Operand} {vl vh : Option Value} {i j : Int} (hu : P.underlying t = some (.slice E)) (hz : szOf P E = some sz) (hx : evo L x = some s.v)
    (hlo : (match lo with | some y => (evo L y).map some | none => some none) = some vl) (hhi : (match hi with | some y => (evo L y).map some | none => some none) = some vh)
    (hb : vl = none ∧ i = 0 ∨ ∃ k, vl = some (.int k i)) (h0 : 0 ≤ i) (h1 : i ≤ j) (hcj : j ≤ (s.cap : Int)) (hvh : ∃ k, vh = some (.int k j)) :
    Ex P ⟨d, .slice t x lo hi none, ty, p, af, g⟩ L m O (subS s sz i.toNat j.toNat s.cap).v := fun _ a n X w0 w hF hS => by
  have ej : (j.toNat : Int) = j := Int.toNat_of_nonneg (by omega)
  have hbd : (Instr.sliceBounds true s.len s.cap vl vh none).run P w = .ok (i.toNat, j.toNat, s.cap) w := by
    have hj0 : 0 ≤ j := by omega
    rcases hb with ⟨rfl, rfl⟩ | ⟨k1, rfl⟩ <;> obtain ⟨k2, rfl⟩ := hvh <;> simp [Instr.sliceBounds, run_sliceBound, *]
  have e1 : lo.map a.eval = vl := by
    cases lo with
    | none => simp at hlo; simp [hlo]
    | some y =>
      cases hy : evo L y with
      | none => simp [hy] at hlo
      | some u => simp [hy] at hlo; simp [hF.eval hy, hlo]
  have e2 : hi.map a.eval = vh := by
    cases hi with
    | none => simp at hhi; simp [hhi]
    | some y =>
      cases hy : evo L y with
      | none => simp [hy] at hhi
      | some u => simp [hy] at hhi; simp [hF.eval hy, hhi]
  simp only [execOp, e1, e2, Option.map_none, hF.eval hx, Sem.run_bind, run_slice_gen hu hz hbd, Result.andThen_ok, Sem.run_pure]
end

end Go.Gx
