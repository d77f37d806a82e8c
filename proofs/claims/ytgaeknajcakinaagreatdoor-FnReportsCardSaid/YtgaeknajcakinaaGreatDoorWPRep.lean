/- Plain laws: reports: their text, both parsers, the law. -/
import Derived.Test.YtgaeknajcakinaaGreatDoorWPRp1
import Derived.Test.YtgaeknajcakinaaGreatDoorWPDt
namespace Go.Gx.F
open Go.Gx
set_option linter.all false

theorem quo_nat {a b : Nat} (hb : 0 < b) (ha : a ≤ 1000000) : goQuo .i64 (a : Int) (b : Int) = some ((a / b : Nat) : Int) := by
  have hle : a / b ≤ a := Nat.div_le_self _ _
  unfold goQuo
  rw [show ((b : Int) == 0) = false by simp; omega, cond_false]
  congr 1
  rw [Int.tdiv_eq_ediv_of_nonneg (by omega), ← Int.natCast_ediv]
  exact wnat (by omega)

theorem rem_nat {a b : Nat} (hb : 0 < b) : goRem (a : Int) (b : Int) = some ((a % b : Nat) : Int) := by
  unfold goRem
  rw [show ((b : Int) == 0) = false by simp; omega, cond_false]
  rfl

/-- the sizes of the part -/
def ps (s : List impl_Variable) (t : impl_Table) : List Nat := tops (part s t.Vars)
def cva (s : List impl_Variable) (t : impl_Table) (n : Nat) : List Nat := dig (ps s t) (n % cnt (ps s t))
def car (g : impl_Geo) (s : List impl_Variable) (t : impl_Table) (n : Nat) : Int := (lev g.Parents t.Level).getD (n / cnt (ps s t)) 0

section
variable {g : impl_Geo} {s : List impl_Variable} {t : impl_Table}

theorem car_at (hT : OkT g s t) {n : Nat} (hn : n < num g s t) : (lev g.Parents t.Level)[n / cnt (ps s t)]? = some (car g s t n) := by
  have hc := cnt_pos (ps s t)
  have hlt : n / cnt (ps s t) < (lev g.Parents t.Level).length := by
    rw [Nat.div_lt_iff_lt_mul hc]
    have : num g s t = (lev g.Parents t.Level).length * cnt (ps s t) := rfl
    omega
  unfold car
  rw [List.getD_eq_getElem?_getD]
  simp [hlt]

theorem car_bd (hT : OkT g s t) {n : Nat} (hn : n < num g s t) : 0 ≤ car g s t n ∧ car g s t n ≤ 29 := by
  have h := List.mem_of_getElem? (car_at hT hn)
  unfold lev at h
  obtain ⟨k, hk, _, e⟩ := mem_picks.1 h
  have := hT.go.l2
  omega

theorem cva_vx (hT : OkT g s t) (n : Nat) : VX (ps s t) (cva s t n) := dig_ok (Nat.mod_lt _ (cnt_pos _))

theorem cellAt_ok (hT : OkT g s t) {n : Nat} (hn : n < num g s t) : impl_cellAt g s t (n : Int) = some (car g s t n, up (cva s t n)) := by
  have hc := cnt_pos (ps s t)
  have hm : n % cnt (ps s t) < cnt (ps s t) := Nat.mod_lt _ hc
  have ht := hT.top
  unfold impl_cellAt
  rw [hT.cross, Option.bind_some, combinations_eq hT.lv, Option.bind_some, show tops (part s t.Vars) = ps s t from rfl, quo_nat hc (by omega), Option.bind_some, rem_nat hc, Option.bind_some, areasAt_eq hT.go, Option.bind_some, at_ok (car_at hT hn), Option.bind_some, valuesAt_eq hT.lv hm]
  rfl

theorem CellAt_ok (hs : TameS s) (hT : OkT g s t) {n : Nat} (hn : n < num g s t) : spec_CellAt g s t (n : Int) = some (car g s t n, up (cva s t n), true) := by
  have hc := cnt_pos (ps s t)
  have hm : n % cnt (ps s t) < cnt (ps s t) := Nat.mod_lt _ hc
  have ht := hT.top
  obtain ⟨b, e, h⟩ := uGood_bis (g := g) (s := s) (t := t) hs (by have := hT.vlen; omega)
  unfold spec_CellAt
  rw [e, h.2 hT, Option.bind_some, Bool.not_true, cond_false, hT.count', Option.bind_some, lIn_eq, wid (by omega) (by omega), decide_eq_true (show 0 ≤ (n : Int) ∧ (n : Int) ≤ (num g s t : Int) - 1 by omega)]
  simp only [Option.bind_some, Bool.not_true, cond_false]
  rw [hT.cross', Option.bind_some, sCount_eq hT.lv, Option.bind_some, show tops (part s t.Vars) = ps s t from rfl, quo_nat hc (by omega), Option.bind_some, rem_nat hc, Option.bind_some, gLevel_eq hT.go, Option.bind_some, at_ok (car_at hT hn), Option.bind_some, sAt_eq hT.lv hm]
  rfl

/-! ## the text of a cell -/
def nmx (s : List impl_Variable) (i : Int) : List UInt8 := match s[i.toNat]? with
  | some v => v.Name
  | none => []
def cvt (s : List impl_Variable) (V X : List Int) (k : Nat) : List UInt8 := (([32] ++ nmx s (V.getD k 0)) ++ [61]) ++ Go.Lib.itoa (X.getD k 0)
def cvs (s : List impl_Variable) (V X : List Int) (z : List UInt8) : Nat → List UInt8
  | 0 => z
  | k + 1 => cvs s V X z k ++ cvt s V X k
def ctxt (g : impl_Geo) (s : List impl_Variable) (t : impl_Table) (n : Nat) : List UInt8 := cvs s t.Vars (up (cva s t n)) ([97, 114, 101, 97, 32] ++ Go.Lib.itoa (car g s t n)) t.Vars.length

theorem itoa_small {n : Int} (h : 0 ≤ n ∧ n ≤ 30) : (Go.Lib.itoa n).length ≤ 2 ∧ ∀ b ∈ Go.Lib.itoa n, 48 ≤ b.toNat ∧ b.toNat ≤ 57 := by
  obtain ⟨u, rfl⟩ := Int.eq_ofNat_of_zero_le h.1
  rw [itoa_nat]
  have := read_small ⟨u, by omega⟩
  exact ⟨this.1.2, this.2⟩

theorem cvx (hT : OkT g s t) {n k : Nat} (hk : k < t.Vars.length) : ∃ (v : Int) (w : impl_Variable) (x : Nat), t.Vars[k]? = some v ∧ goAt s v = some w ∧ Word w.Name ∧ nmx s v = w.Name ∧ (up (cva s t n))[k]? = some (x : Int) ∧ x ≤ 30 := by
  have hv : t.Vars[k]? = some t.Vars[k] := by simp [hk]
  generalize t.Vars[k] = v at hv
  obtain ⟨w, e1, e2⟩ := rise_at hT.vars hv
  have hX := cva_vx hT n
  have hl := hX.len
  have hps : (ps s t).length = t.Vars.length := by unfold ps tops; rw [List.length_map, part_len]
  have hx : (cva s t n)[k]? = some ((cva s t n)[k]'(by omega)) := by simp [show k < (cva s t n).length by omega]
  generalize (cva s t n)[k]'(by omega) = x at hx
  have hsk : (ps s t)[k]? = some ((ps s t)[k]'(by omega)) := by simp [show k < (ps s t).length by omega]
  generalize hz : (ps s t)[k]'(by omega) = z at hsk
  have hxz := hX.get hsk hx
  have hw := hT.sch.2.2 v.toNat w e1
  obtain ⟨y, p1, p2, p3⟩ := part_at hT.vars hv
  have hzz : z ≤ 30 := by
    unfold ps tops at hsk
    rw [List.getElem?_map, p3] at hsk
    have := (hT.sch.2.2 v.toNat y p2).1.2
    simp only [Option.map_some, Option.some.injEq] at hsk
    omega
  exact ⟨v, w, x, hv, e2, hw.1.1, by unfold nmx; rw [e1], up_get hx, by omega⟩

theorem cvt_ok (hT : OkT g s t) {n k : Nat} (hk : k < t.Vars.length) : (cvt s t.Vars (up (cva s t n)) k).length ≤ 12 ∧ (10 : UInt8) ∉ cvt s t.Vars (up (cva s t n)) k := by
  obtain ⟨v, w, x, hv, _, hw, hnm, hx, hx30⟩ := cvx hT (n := n) hk
  unfold cvt
  rw [List.getD_eq_getElem?_getD, hv, List.getD_eq_getElem?_getD, hx]
  simp only [Option.getD_some]
  rw [hnm]
  have h1 := itoa_small (n := (x : Int)) (by omega)
  obtain ⟨w1, w2, w3⟩ := hw
  refine ⟨by simp only [List.length_append, List.length_singleton]; omega, fun h => ?_⟩
  simp only [List.mem_append, List.mem_singleton] at h
  rcases h with ((h | h) | h) | h
  · cases h
  · have := (w3 _ h).1; simp at this
  · cases h
  · have := (h1.2 _ h).1; simp at this

theorem cvs_ok (hT : OkT g s t) {n : Nat} {z : List UInt8} (hz : (10 : UInt8) ∉ z) : ∀ k, k ≤ t.Vars.length → (cvs s t.Vars (up (cva s t n)) z k).length ≤ z.length + 12 * k ∧ (10 : UInt8) ∉ cvs s t.Vars (up (cva s t n)) z k
  | 0, _ => ⟨by simp [cvs], hz⟩
  | k + 1, hk => by
    obtain ⟨i1, i2⟩ := cvs_ok hT (n := n) hz k (by omega)
    obtain ⟨j1, j2⟩ := cvt_ok hT (n := n) (k := k) (by omega)
    refine ⟨by simp only [cvs, List.length_append]; omega, fun h => ?_⟩
    rcases List.mem_append.1 h with h | h
    · exact i2 h
    · exact j2 h

theorem ctxt_ok (hT : OkT g s t) {n : Nat} (hn : n < num g s t) : (ctxt g s t n).length ≤ 100 ∧ (10 : UInt8) ∉ ctxt g s t n := by
  have h1 := itoa_small (n := car g s t n) (by have := car_bd hT hn; omega)
  have hz : (10 : UInt8) ∉ ([97, 114, 101, 97, 32] ++ Go.Lib.itoa (car g s t n) : List UInt8) := fun h => by
    rcases List.mem_append.1 h with h | h
    · revert h; decide
    · have := (h1.2 _ h).1; simp at this
  have := cvs_ok hT (n := n) hz t.Vars.length (Nat.le_refl _)
  have hv := hT.vlen
  refine ⟨?_, this.2⟩
  have h2 := this.1
  simp only [List.length_append, List.length_cons, List.length_nil] at h2
  unfold ctxt
  omega

theorem ctx_run (hT : OkT g s t) {n : Nat} {z : List UInt8} (hz : z.length ≤ 50) {body : (List UInt8) × Int → Option (Stp ((List UInt8) × Int) (List UInt8))}
    (h1 : ∀ (b : List UInt8) (k : Nat), k < t.Vars.length → b.length ≤ 1000 → body (b, (k : Int)) = some (.next (b ++ cvt s t.Vars (up (cva s t n)) k, ((k + 1 : Nat) : Int))))
    (h2 : ∀ b, body (b, (t.Vars.length : Int)) = some (.done b)) : loopC body (z, 0) = some (cvs s t.Vars (up (cva s t n)) z t.Vars.length) := by
  have hv := hT.vlen
  have len : ∀ k, k ≤ t.Vars.length → (cvs s t.Vars (up (cva s t n)) z k).length ≤ 50 + 12 * k := by
    intro k
    induction k with
    | zero => intro _; simp only [cvs]; omega
    | succ k ih =>
      intro hk
      have := ih (by omega)
      have := (cvt_ok hT (n := n) (k := k) (by omega)).1
      simp only [cvs, List.length_append]; omega
  have key : ∀ (j k : Nat), k + j = t.Vars.length → loopC body (cvs s t.Vars (up (cva s t n)) z k, (k : Int)) = some (cvs s t.Vars (up (cva s t n)) z t.Vars.length) := by
    intro j
    induction j with
    | zero =>
      intro k hk
      obtain rfl : k = t.Vars.length := by omega
      exact loopC_dn (h2 _)
    | succ j ih =>
      intro k hk
      rw [loopC_nx (h1 _ k (by omega) (by have := len k (by omega); omega))]
      exact ih (k + 1) (by omega)
  exact key t.Vars.length 0 (by omega)

theorem cellText_ok (hT : OkT g s t) {n : Nat} (hn : n < num g s t) : impl_cellText g s t (n : Int) = some (ctxt g s t n) := by
  have hb := car_bd hT hn
  have h1 := itoa_small (n := car g s t n) (by omega)
  have hv := hT.vlen
  unfold impl_cellText
  rw [cellAt_ok hT hn, Option.bind_some]
  simp only
  rw [itoa_ok (by omega) (by omega), Option.bind_some, cat_ok (by simp only [List.length_cons, List.length_nil]; omega), Option.bind_some]
  rw [ctx_run hT (n := n) (by simp only [List.length_append, List.length_cons, List.length_nil]; omega) (fun b k hk hbl => ?_) (fun b => ?_)]
  · rfl
  · obtain ⟨v, w, x, q1, q2, q3, q4, q5, q6⟩ := cvx hT (n := n) hk
    have h2 := itoa_small (n := (x : Int)) (by omega)
    have h3 := q3.2.1
    have e : cvt s t.Vars (up (cva s t n)) k = (([32] ++ w.Name) ++ [61]) ++ Go.Lib.itoa (x : Int) := by
      unfold cvt
      rw [List.getD_eq_getElem?_getD, q1, List.getD_eq_getElem?_getD, q5]
      simp only [Option.getD_some]
      rw [q4]
    simp only [impl_cellText_l1, lt_ok q1, at_ok q1, cond_true, Option.bind_some, q2]
    rw [cat_ok (by simp only [List.length_singleton]; omega), Option.bind_some, cat_ok (by simp only [List.length_append, List.length_singleton]; omega), Option.bind_some, at_ok q5, Option.bind_some, itoa_ok (by omega) (by omega), Option.bind_some, cat_ok (by simp only [List.length_append, List.length_singleton]; omega), Option.bind_some, cat_ok (by simp only [List.length_append, List.length_singleton]; omega), Option.bind_some, nx_ok q1 (by omega), ← e]
  · simp only [impl_cellText_l1, lt_end, cond_false]

theorem l1Num_it {n : Int} (h : 0 ≤ n ∧ n ≤ 1000000000) : spec_l1Num n = some (Go.Lib.itoa n) := by
  obtain ⟨u, rfl⟩ := Int.eq_ofNat_of_zero_le h.1
  rw [itoa_nat]
  exact l1Num_ok (by omega)

theorem nCell_ok (hs : TameS s) (hT : OkT g s t) {n : Nat} (hn : n < num g s t) : spec_nCell g s t (n : Int) = some (ctxt g s t n) := by
  have hb := car_bd hT hn
  have h1 := itoa_small (n := car g s t n) (by omega)
  have hv := hT.vlen
  unfold spec_nCell
  rw [CellAt_ok hs hT hn, Option.bind_some]
  simp only
  rw [l1Num_it (by omega), Option.bind_some, cat_ok (by simp only [List.length_cons, List.length_nil]; omega), Option.bind_some]
  rw [ctx_run hT (n := n) (by simp only [List.length_append, List.length_cons, List.length_nil]; omega) (fun b k hk hbl => ?_) (fun b => ?_)]
  · rfl
  · obtain ⟨v, w, x, q1, q2, q3, q4, q5, q6⟩ := cvx hT (n := n) hk
    have h2 := itoa_small (n := (x : Int)) (by omega)
    have h3 := q3.2.1
    have e : cvt s t.Vars (up (cva s t n)) k = (([32] ++ w.Name) ++ [61]) ++ Go.Lib.itoa (x : Int) := by
      unfold cvt
      rw [List.getD_eq_getElem?_getD, q1, List.getD_eq_getElem?_getD, q5]
      simp only [Option.getD_some]
      rw [q4]
    simp only [spec_nCell_l1, lt_ok q1, at_ok q1, cond_true, Option.bind_some, q2]
    rw [cat_ok (by simp only [List.length_singleton]; omega), Option.bind_some, cat_ok (by simp only [List.length_append, List.length_singleton]; omega), Option.bind_some, at_ok q5, Option.bind_some, l1Num_it (by omega), Option.bind_some, cat_ok (by simp only [List.length_append, List.length_singleton]; omega), Option.bind_some, cat_ok (by simp only [List.length_append, List.length_singleton]; omega), Option.bind_some, nx_ok q1 (by omega), ← e]
  · simp only [spec_nCell_l1, lt_end, cond_false]

/-! ## the text of a report -/
def Sml (l : List Int) : Prop := ∀ v ∈ l, -1000000 ≤ v ∧ v ≤ 1000000
def rln (g : impl_Geo) (s : List impl_Variable) (t : impl_Table) (i : Nat) (v : Int) : List UInt8 := ((ctxt g s t i ++ [58, 32]) ++ Go.Lib.itoa v) ++ [10]
def rtl (g : impl_Geo) (s : List impl_Variable) (t : impl_Table) : Nat → List Int → List UInt8
  | _, [] => []
  | i, v :: r => rln g s t i v ++ rtl g s t (i + 1) r

theorem digs_b {u : Nat} : ∀ {k : Nat}, 1 ≤ k → u < 10 ^ k → (Go.Lib.decDigits u).length ≤ k := by
  induction u using Nat.strongRecOn with
  | _ u ih =>
    intro k hk h
    by_cases hu : u < 10
    · rw [digs_small hu]; simpa using hk
    · rw [digs_big hu, List.length_append, List.length_singleton]
      have hk2 : 2 ≤ k := by
        rcases Nat.lt_or_ge k 2 with h2 | h2
        · obtain rfl : k = 1 := by omega
          omega
        · exact h2
      obtain ⟨j, rfl⟩ : ∃ j, k = j + 1 := ⟨k - 1, by omega⟩
      rw [Nat.pow_succ] at h
      have := ih (u / 10) (by omega) (k := j) (by omega) (by omega)
      omega

theorem digs_all (u : Nat) : ∀ b ∈ Go.Lib.decDigits u, 48 ≤ b.toNat ∧ b.toNat ≤ 57 := by
  induction u using Nat.strongRecOn with
  | _ u ih =>
    intro b hb
    by_cases hu : u < 10
    · rw [digs_small hu] at hb
      obtain rfl := List.mem_singleton.1 hb
      rw [dig_nat hu]; omega
    · rw [digs_big hu] at hb
      rcases List.mem_append.1 hb with hb | hb
      · exact ih (u / 10) (by omega) b hb
      · obtain rfl := List.mem_singleton.1 hb
        rw [dig_nat (by omega)]; omega

theorem int_cases (v : Int) : ∃ u : Nat, v = (u : Int) ∨ (u ≠ 0 ∧ v = -(u : Int)) := by
  by_cases h : 0 ≤ v
  · exact ⟨v.toNat, .inl (by omega)⟩
  · exact ⟨v.natAbs, .inr ⟨by omega, by omega⟩⟩

theorem itoa_bd {v : Int} (h : -1000000 ≤ v ∧ v ≤ 1000000) : (Go.Lib.itoa v).length ≤ 8 ∧ (32 : UInt8) ∉ Go.Lib.itoa v ∧ (10 : UInt8) ∉ Go.Lib.itoa v := by
  obtain ⟨u, rfl | ⟨h0, rfl⟩⟩ := int_cases v
  · rw [itoa_nat]
    have h1 := digs_b (u := u) (k := 7) (by omega) (by omega)
    refine ⟨by omega, fun hc => ?_, fun hc => ?_⟩
    · have := (digs_all u _ hc).1; simp at this
    · have := (digs_all u _ hc).1; simp at this
  · rw [itoa_neg h0]
    have h1 := digs_b (u := u) (k := 7) (by omega) (by omega)
    refine ⟨by simp only [List.length_cons]; omega, fun hc => ?_, fun hc => ?_⟩
    · rcases List.mem_cons.1 hc with hc | hc
      · cases hc
      · have := (digs_all u _ hc).1; simp at this
    · rcases List.mem_cons.1 hc with hc | hc
      · cases hc
      · have := (digs_all u _ hc).1; simp at this

theorem nSigned_ok {v : Int} (h : -1000000 ≤ v ∧ v ≤ 1000000) : spec_nSigned v = some (Go.Lib.itoa v) := by
  unfold spec_nSigned
  obtain ⟨u, rfl | ⟨h0, rfl⟩⟩ := int_cases v
  · rw [decide_eq_false (by omega), cond_false, l1Num_it (by omega)]; rfl
  · rw [decide_eq_true (by omega), cond_true, wid (by omega) (by omega), Int.neg_neg, l1Num_it (by omega), Option.bind_some]
    have hl := (itoa_bd h).1
    rw [itoa_neg h0] at hl
    simp only [List.length_cons] at hl
    rw [itoa_neg h0, itoa_nat, cat_ok (by simp only [List.length_singleton]; omega)]
    rfl

theorem rln_len (hT : OkT g s t) {n : Nat} (hn : n < num g s t) {v : Int} (h : -1000000 ≤ v ∧ v ≤ 1000000) : (rln g s t n v).length ≤ 120 := by
  have h1 := (ctxt_ok hT hn).1
  have h2 := (itoa_bd h).1
  unfold rln
  simp only [List.length_append, List.length_cons, List.length_nil]
  omega

theorem rtl_len (hT : OkT g s t) : ∀ (l : List Int) (i : Nat), i + l.length ≤ num g s t → Sml l → (rtl g s t i l).length ≤ 120 * l.length
  | [], _, _, _ => by simp [rtl]
  | v :: r, i, hi, h => by
    simp only [List.length_cons] at hi
    have h1 := rtl_len hT r (i + 1) (by omega) fun x hx => h x (List.mem_cons_of_mem _ hx)
    have h2 := rln_len hT (n := i) (by omega) (h v List.mem_cons_self)
    simp only [rtl, List.length_append, List.length_cons]
    omega

theorem rep_run (hT : OkT g s t) {cells : List Int} (hl : cells.length = num g s t) (hc : Sml cells) {body : (List UInt8) × Int → Option (Stp ((List UInt8) × Int) (List UInt8))}
    (h1 : ∀ (b : List UInt8) (k : Nat) (v : Int), cells[k]? = some v → k < num g s t → (-1000000 ≤ v ∧ v ≤ 1000000) → b.length ≤ 100000 → body (b, (k : Int)) = some (.next (b ++ rln g s t k v, ((k + 1 : Nat) : Int))))
    (h2 : ∀ b, body (b, (cells.length : Int)) = some (.done b)) : loopC body ([], 0) = some (rtl g s t 0 cells) := by
  have ht := hT.top
  have key : ∀ (r : List Int) (k : Nat) (b : List UInt8), cells.drop k = r → k ≤ cells.length → b.length ≤ 120 * k → loopC body (b, (k : Int)) = some (b ++ rtl g s t k r) := by
    intro r
    induction r with
    | nil =>
      intro k b hk hk2 hb
      have : cells.length ≤ k := by
        have := congrArg List.length hk
        simp only [List.length_drop, List.length_nil] at this
        omega
      obtain rfl : k = cells.length := by omega
      rw [loopC_dn (h2 _)]
      simp [rtl]
    | cons v r ih =>
      intro k b hk hk2 hb
      have hlen := congrArg List.length hk
      simp only [List.length_drop, List.length_cons] at hlen
      have hv : cells[k]? = some v := by
        have : (cells.drop k)[0]? = some v := by rw [hk]; rfl
        simpa using this
      have hvb := hc v (List.mem_of_getElem? hv)
      rw [loopC_nx (h1 b k v hv (by omega) hvb (by omega))]
      have hr := rln_len hT (n := k) (by omega) hvb
      rw [ih (k + 1) (b ++ rln g s t k v) (by rw [← List.drop_drop, hk]; rfl) (by omega) (by rw [List.length_append]; omega)]
      simp only [rtl, List.append_assoc]
  have := key cells 0 [] rfl (by omega) (by simp)
  simpa using this

theorem bld_ok {a b : List UInt8} (h : a.length + b.length ≤ 140737488355328) : goBld a b = some (a ++ b) := by
  unfold goBld
  rw [decide_eq_true h]; rfl

theorem areSml_bis {l : List Int} {n : Int} (hl : l.length ≤ 1000000) : Bis (impl_areSmallIntegers l n) ((l.length : Int) = n ∧ Sml l) := by
  unfold impl_areSmallIntegers
  by_cases h : (l.length : Int) = n
  · rw [show (goLen l != n) = false by simp [goLen, h], cond_false]
    refine bis_iff (bis_loop (l := l) (fun _ v => -1000000 ≤ v ∧ v ≤ 1000000) (fun k x hx => ⟨decide (-1000000 ≤ x ∧ x ≤ 1000000), by simp, ?_⟩) (by simp only [impl_areSmallIntegers_l1, lt_end, cond_false])) (by rw [all_mem_iff]; simp [h, Sml])
    simp only [impl_areSmallIntegers_l1, lt_ok hx, at_ok hx, cond_true, Option.bind_some, nx_ok hx (show l.length ≤ 9223372036854775807 by omega)]
    by_cases h1 : x < -1000000
    · rw [decide_eq_true h1, decide_eq_false (show ¬ (-1000000 ≤ x ∧ x ≤ 1000000) by omega)]; rfl
    · by_cases h2 : 1000000 < x
      · rw [decide_eq_false h1, decide_eq_true h2, decide_eq_false (show ¬ (-1000000 ≤ x ∧ x ≤ 1000000) by omega)]; rfl
      · rw [decide_eq_false h1, decide_eq_false h2, decide_eq_true (show (-1000000 ≤ x ∧ x ≤ 1000000) by omega)]; rfl
  · rw [show (goLen l != n) = true by simp [goLen, h]]
    exact ⟨false, rfl, by simp [h]⟩

theorem nCells_bis {cells : List Int} (hs : TameS s) (hV : t.Vars.length ≤ 1000000) (hl : cells.length ≤ 1000000) : Bis (spec_nCells g s t cells) (OkT g s t ∧ cells.length = num g s t ∧ Sml cells) := by
  unfold spec_nCells
  obtain ⟨b, e, h⟩ := uGood_bis (g := g) (s := s) (t := t) hs hV
  rw [e, Option.bind_some]
  cases b with
  | false => exact ⟨false, rfl, by simp only [Bool.false_eq_true, false_iff]; exact fun hc => by have := h.2 hc.1; cases this⟩
  | true =>
    have hT := h.1 rfl
    rw [cond_true, hT.count', Option.bind_some]
    by_cases hn : cells.length = num g s t
    · rw [show (goLen cells == (num g s t : Int)) = true by simp [goLen, hn], cond_true]
      obtain ⟨c, e2, h2⟩ := lAll_bis (l := cells) (lo := -1000000) (hi := 1000000) (by omega)
      rw [e2]
      exact ⟨c, rfl, h2.trans ⟨fun h => ⟨hT, hn, h⟩, fun h => h.2.2⟩⟩
    · rw [show (goLen cells == (num g s t : Int)) = false by simp only [goLen, beq_eq_false_iff_ne]; omega, cond_false]
      exact ⟨false, rfl, by simp [hn]⟩

theorem nReport_ok (hs : TameS s) (hT : OkT g s t) {cells : List Int} (hl : cells.length = num g s t) (hc : Sml cells) : spec_nReport g s t cells = some (rtl g s t 0 cells) := by
  have ht := hT.top
  unfold spec_nReport
  rw [rep_run hT hl hc (fun b k v hv hk hvb hb => ?_) (fun b => by simp only [spec_nReport_l1, lt_end, cond_false])]
  · rfl
  · have h1 := (ctxt_ok hT hk).1
    have h2 := (itoa_bd hvb).1
    simp only [spec_nReport_l1, lt_ok hv, at_ok hv, cond_true, Option.bind_some]
    rw [nCell_ok hs hT hk, Option.bind_some, cat_ok (by simp only [List.length_cons, List.length_nil]; omega), Option.bind_some, nSigned_ok hvb, Option.bind_some, cat_ok (by simp only [List.length_append, List.length_cons, List.length_nil]; omega), Option.bind_some, cat_ok (by simp only [List.length_append, List.length_cons, List.length_nil]; omega), Option.bind_some, cat_ok (by simp only [List.length_append, List.length_cons, List.length_nil]; omega), Option.bind_some, nx_ok hv (by omega)]
    rfl

theorem report_ok (hT : OkT g s t) {cells : List Int} (hl : cells.length = num g s t) (hc : Sml cells) : loopC (impl_ReportText_l1 g s t cells) ([], 0) = some (rtl g s t 0 cells) := by
  have ht := hT.top
  rw [rep_run hT hl hc (fun b k v hv hk hvb hb => ?_) (fun b => by simp only [impl_ReportText_l1, lt_end, cond_false])]
  have h1 := (ctxt_ok hT hk).1
  have h2 := (itoa_bd hvb).1
  simp only [impl_ReportText_l1, lt_ok hv, at_ok hv, cond_true, Option.bind_some]
  rw [cellText_ok hT hk, Option.bind_some, cat_ok (by simp only [List.length_cons, List.length_nil]; omega), Option.bind_some, itoa_ok (by omega) (by omega), Option.bind_some, cat_ok (by simp only [List.length_append, List.length_cons, List.length_nil]; omega), Option.bind_some, cat_ok (by simp only [List.length_append, List.length_cons, List.length_nil]; omega), Option.bind_some, bld_ok (by simp only [List.length_append, List.length_cons, List.length_nil]; omega), Option.bind_some, nx_ok hv (by omega)]
  rfl

/-- both reports -/
theorem ReportText_same {cells : List Int} (hs : TameS s) (hV : t.Vars.length ≤ 1000000) (hl : cells.length ≤ 1000000) :
    (impl_ReportText g s t cells = some ([], false) ∧ spec_ReportText g s t cells = some ([], false)) ∨
    (OkT g s t ∧ cells.length = num g s t ∧ Sml cells ∧ impl_ReportText g s t cells = some (rtl g s t 0 cells, true) ∧ spec_ReportText g s t cells = some (rtl g s t 0 cells, true)) := by
  obtain ⟨b1, f1, f1', g1⟩ := tables (g := g) (s := s) (t := t) hs hV
  obtain ⟨c, ec, hc⟩ := nCells_bis (g := g) (t := t) (cells := cells) hs hV hl
  unfold impl_ReportText spec_ReportText
  rw [f1, ec]
  cases b1 with
  | false =>
    cases c with
    | false => exact .inl ⟨rfl, rfl⟩
    | true => exact absurd (g1.2 (hc.1 rfl).1) (by simp)
  | true =>
    have hT := g1.1 rfl
    obtain ⟨d, ed, hd⟩ := areSml_bis (l := cells) (n := (num g s t : Int)) hl
    simp only [Option.bind_some, Bool.not_true, cond_false]
    rw [hT.count, Option.bind_some, ed]
    simp only [Option.bind_some]
    cases d with
    | false =>
      cases c with
      | false => exact .inl ⟨rfl, rfl⟩
      | true =>
        have := hc.1 rfl
        exact absurd (hd.2 ⟨by rw [this.2.1], this.2.2⟩) (by simp)
    | true =>
      have h := hd.1 rfl
      have hn : cells.length = num g s t := by omega
      have hcc := hc.2 ⟨hT, hn, h.2⟩
      subst hcc
      simp only [Bool.not_true, cond_false]
      rw [report_ok hT hn h.2, nReport_ok hs hT hn h.2]
      exact .inr ⟨hT, hn, h.2, rfl, rfl⟩

theorem CellText_same {i : Int} (hs : TameS s) (hV : t.Vars.length ≤ 1000000) : ∃ p, impl_CellText g s t i = some p ∧ spec_CellText g s t i = some p := by
  obtain ⟨b1, f1, f1', g1⟩ := tables (g := g) (s := s) (t := t) hs hV
  unfold impl_CellText spec_CellText
  rw [f1, f1']
  cases b1 with
  | false => exact ⟨_, rfl, rfl⟩
  | true =>
    have hT := g1.1 rfl
    have hn := hT.top
    simp only [Option.bind_some, Bool.not_true, cond_false]
    rw [hT.count, hT.count', Option.bind_some, Option.bind_some, lIn_eq, wid (by omega) (by omega)]
    by_cases h0 : 0 ≤ i ∧ i ≤ (num g s t : Int) - 1
    · rw [decide_eq_true h0, decide_eq_false (show ¬ i < 0 by omega), decide_eq_false (show ¬ (num g s t : Int) ≤ i by omega)]
      simp only [Option.bind_some, Bool.not_true, cond_false]
      obtain ⟨n, rfl⟩ := Int.eq_ofNat_of_zero_le h0.1
      rw [cellText_ok hT (n := n) (by omega), nCell_ok hs hT (n := n) (by omega)]
      exact ⟨_, rfl, rfl⟩
    · rw [decide_eq_false h0]
      by_cases h3 : i < 0
      · rw [decide_eq_true h3]; exact ⟨_, rfl, rfl⟩
      · rw [decide_eq_false h3, decide_eq_true (show (num g s t : Int) ≤ i by omega)]; exact ⟨_, rfl, rfl⟩

/-! ## the program's parser -/
theorem cutPre {x p : List UInt8} (hx : x.length ≤ 1000000) : (∃ q, x = p ++ q ∧ strings_CutPrefix x p = some (q, true)) ∨ ((∀ q, x ≠ p ++ q) ∧ strings_CutPrefix x p = some (x, false)) := by
  unfold strings_CutPrefix internal_stringslite_CutPrefix internal_stringslite_HasPrefix
  by_cases hl : p.length ≤ x.length
  · rw [decide_eq_true (show goLen p ≤ goLen x by simp only [goLen]; omega), cond_true]
    have e1 : goSub x 0 (goLen p) = some (x.take p.length) := by
      refine tot_eq (tot_sub (by omega) (by simp only [goLen]; omega) (by simp only [goLen]; omega) ?_)
      simp only [goLen]
      rw [show ((p.length : Int)).toNat - (0 : Int).toNat = p.length by omega]
      rfl
    rw [e1, Option.bind_some, Option.bind_some, Option.bind_some]
    by_cases h : x.take p.length = p
    · left
      refine ⟨x.drop p.length, by rw [← h, List.length_take, Nat.min_eq_left hl, List.take_append_drop], ?_⟩
      have e2 : goSub x (goLen p) (goLen x) = some (x.drop p.length) := by
        refine tot_eq (tot_sub (by simp only [goLen]; omega) (by simp only [goLen]; omega) (by simp only [goLen]; omega) ?_)
        simp only [goLen, Int.toNat_natCast]
        rw [List.take_of_length_le (by simp)]
      rw [show (List.take p.length x == p) = true by simpa using h, Bool.not_true, cond_false, e2]
      rfl
    · right
      refine ⟨fun q hq => h (by rw [hq, List.take_left']; rfl), ?_⟩
      rw [show (List.take p.length x == p) = false by simpa using h]
      rfl
  · right
    refine ⟨fun q hq => hl (by rw [hq, List.length_append]; omega), ?_⟩
    rw [decide_eq_false (show ¬ goLen p ≤ goLen x by simp only [goLen]; omega)]
    rfl

theorem goSet_nat {l : List Int} {i : Nat} {x : Int} : goSet l (i : Int) x = l.set i x := rfl

theorem pr_fwd (hT : OkT g s t) {i : Nat} (hi : i < num g s t) {v : Int} (hv : -1000000 ≤ v ∧ v ≤ 1000000) {r cs L : List Int} {y : List UInt8} (hx : (rln g s t i v ++ y).length ≤ 900000) (hcs : cs.length = num g s t) (hL : L.length = num g s t) :
    impl_ParseReport_l1 g s t L (rln g s t i v ++ y, cs, (i : Int)) = some (.next (y, cs.set i v, ((i + 1 : Nat) : Int))) := by
  have ht := hT.top
  have h1 := (ctxt_ok hT hi).1
  have hLi : L[i]? = some (L[i]'(by omega)) := by simp [show i < L.length by omega]
  generalize L[i]'(by omega) = z at hLi
  have hci : cs[i]? = some (cs[i]'(by omega)) := by simp [show i < cs.length by omega]
  generalize cs[i]'(by omega) = w at hci
  have hxe : rln g s t i v ++ y = (ctxt g s t i ++ [58, 32]) ++ (Go.Lib.itoa v ++ 10 :: y) := by
    unfold rln
    simp only [List.append_assoc, List.singleton_append]
  have hxl := hx
  rw [hxe] at hxl ⊢
  simp only [List.length_append, List.length_cons] at hxl
  simp only [impl_ParseReport_l1, lt_ok hLi, cond_true]
  rw [cellText_ok hT hi, Option.bind_some, cat_ok (by simp only [List.length_cons, List.length_nil]; omega), Option.bind_some]
  rcases cutPre (x := (ctxt g s t i ++ [58, 32]) ++ (Go.Lib.itoa v ++ 10 :: y)) (p := ctxt g s t i ++ [58, 32]) (by simp only [List.length_append, List.length_cons, List.length_nil]; omega) with ⟨q, e1, e2⟩ | ⟨e1, _⟩
  · have hq := List.append_cancel_left e1
    subst hq
    rw [e2, Option.bind_some]
    simp only [Bool.not_true, cond_false]
    rw [readInt_ok hv.1 hv.2 (by omega) (.inr ⟨10, y, rfl, .inl (by decide)⟩) (by simp only [List.length_cons]; omega), Option.bind_some, at_ok hci, Option.bind_some]
    simp only [Bool.not_true, cond_false]
    rw [show ((10 :: y : List UInt8) == []) = false from rfl, cond_false, strAt0, Option.bind_some, Option.bind_some, show (((10 : UInt8).toNat : Int) != 10) = false from rfl, cond_false, sub1, Option.bind_some, nx_ok hLi (by omega), goSet_nat]
  · exact absurd rfl (e1 _)

theorem pr_step (hT : OkT g s t) {i : Nat} (hi : i < num g s t) {cs L : List Int} {x : List UInt8} (hx : x.length ≤ 900000) (hcs : cs.length = num g s t) (hL : L.length = num g s t) :
    (impl_ParseReport_l1 g s t L (x, cs, (i : Int)) = some (.done (.inr ([], false)))) ∨
    (∃ v y, (-1000000 ≤ v ∧ v ≤ 1000000) ∧ x = rln g s t i v ++ y ∧ impl_ParseReport_l1 g s t L (x, cs, (i : Int)) = some (.next (y, cs.set i v, ((i + 1 : Nat) : Int)))) := by
  have ht := hT.top
  have h1 := (ctxt_ok hT hi).1
  have hLi : L[i]? = some (L[i]'(by omega)) := by simp [show i < L.length by omega]
  generalize L[i]'(by omega) = z at hLi
  have hci : cs[i]? = some (cs[i]'(by omega)) := by simp [show i < cs.length by omega]
  generalize cs[i]'(by omega) = w at hci
  simp only [impl_ParseReport_l1, lt_ok hLi, cond_true]
  rw [cellText_ok hT hi, Option.bind_some, cat_ok (by simp only [List.length_cons, List.length_nil]; omega), Option.bind_some]
  rcases cutPre (x := x) (p := ctxt g s t i ++ [58, 32]) (by omega) with ⟨q, e1, e2⟩ | ⟨_, e2⟩
  · subst e1
    simp only [List.length_append, List.length_cons] at hx
    rw [e2, Option.bind_some]
    simp only [Bool.not_true, cond_false]
    obtain ⟨n, r, b, e3, h3⟩ := readInt_inv (x := q) (most := 1000000) (by omega) (by omega)
    rw [e3, Option.bind_some, at_ok hci, Option.bind_some]
    cases b with
    | false => exact .inl rfl
    | true =>
      obtain ⟨h4, rfl⟩ := h3 rfl
      simp only [Bool.not_true, cond_false]
      cases r with
      | nil => exact .inl rfl
      | cons b r =>
        rw [show ((b :: r : List UInt8) == []) = false from rfl, cond_false, strAt0, Option.bind_some, Option.bind_some]
        by_cases hb : b = 10
        · subst hb
          right
          refine ⟨n, r, h4, by unfold rln; simp only [List.append_assoc, List.singleton_append], ?_⟩
          rw [show (((10 : UInt8).toNat : Int) != 10) = false from rfl, cond_false, sub1, Option.bind_some, nx_ok hLi (by omega), goSet_nat]
        · left
          have : (((b.toNat : Int)) != 10) = true := by
            unfold bne
            rw [show (10 : Int) = ((10 : UInt8).toNat : Int) from rfl, byte_eq]
            simpa using hb
          rw [this]; rfl
  · left
    rw [e2, Option.bind_some]
    rfl

theorem set_next {l r : List Int} {i : Nat} {v : Int} {rest : List Int} (h : i < l.length) : (l.set i v).take (i + 1) ++ rest = l.take i ++ v :: rest := by
  rw [List.take_add_one, List.take_set_of_le (Nat.le_refl _), List.getElem?_set_self h]
  simp

theorem pr_fwd_run (hT : OkT g s t) {L : List Int} (hL : L.length = num g s t) : ∀ (rest : List Int) (i : Nat) (cs : List Int), i + rest.length = num g s t → Sml rest → cs.length = num g s t →
    loopC (impl_ParseReport_l1 g s t L) (rtl g s t i rest, cs, (i : Int)) = some (.inl ([], cs.take i ++ rest))
  | [], i, cs, hi, _, hcs => by
    simp only [List.length_nil] at hi
    obtain rfl : i = L.length := by omega
    refine loopC_dn ?_
    simp only [impl_ParseReport_l1, lt_end, cond_false, rtl]
    rw [List.take_of_length_le (by omega), List.append_nil]
  | v :: r, i, cs, hi, h, hcs => by
    have ht := hT.top
    simp only [List.length_cons] at hi
    have hr : Sml r := fun x hx => h x (List.mem_cons_of_mem _ hx)
    have hl := rtl_len hT r (i + 1) (by omega) hr
    have hl2 := rln_len hT (n := i) (by omega) (h v List.mem_cons_self)
    simp only [rtl]
    rw [loopC_nx (pr_fwd (r := r) hT (by omega) (h v List.mem_cons_self) (by rw [List.length_append]; omega) hcs hL), pr_fwd_run hT hL r (i + 1) (cs.set i v) (by omega) hr (by rw [List.length_set]; exact hcs), set_next (r := r) (by omega)]

theorem pr_run (hT : OkT g s t) {L : List Int} (hL : L.length = num g s t) : ∀ (k i : Nat) (cs : List Int) (x : List UInt8), i + k = num g s t → x.length ≤ 900000 → cs.length = num g s t →
    loopC (impl_ParseReport_l1 g s t L) (x, cs, (i : Int)) = some (.inr ([], false)) ∨
    ∃ rest y, rest.length = k ∧ Sml rest ∧ x = rtl g s t i rest ++ y ∧ loopC (impl_ParseReport_l1 g s t L) (x, cs, (i : Int)) = some (.inl (y, cs.take i ++ rest))
  | 0, i, cs, x, hi, hx, hcs => by
    obtain rfl : i = L.length := by omega
    right
    refine ⟨[], x, rfl, (fun v hv => by cases hv), rfl, loopC_dn ?_⟩
    simp only [impl_ParseReport_l1, lt_end, cond_false]
    rw [List.take_of_length_le (by omega), List.append_nil]
  | k + 1, i, cs, x, hi, hx, hcs => by
    rcases pr_step hT (i := i) (by omega) hx hcs hL with h | ⟨v, y, hv, rfl, h⟩
    · exact .inl (loopC_dn h)
    · rw [loopC_nx h]
      rw [List.length_append] at hx
      rcases pr_run hT hL k (i + 1) (cs.set i v) y (by omega) (by omega) (by rw [List.length_set]; exact hcs) with h2 | ⟨rest, z, q1, q2, rfl, q4⟩
      · exact .inl h2
      · right
        refine ⟨v :: rest, z, by simp [q1], fun w hw => ?_, by simp only [rtl, List.append_assoc], ?_⟩
        · rcases List.mem_cons.1 hw with rfl | hw
          · exact hv
          · exact q2 w hw
        · rw [q4, set_next (r := rest) (by omega)]

theorem ParseReport_eq {x : List UInt8} (hs : TameS s) (hV : t.Vars.length ≤ 1000000) (hx : x.length ≤ 900000) :
    (∃ cells, OkT g s t ∧ cells.length = num g s t ∧ Sml cells ∧ x = rtl g s t 0 cells ∧ impl_ParseReport g s t x = some (cells, true)) ∨
    (impl_ParseReport g s t x = some ([], false) ∧ ∀ cells, OkT g s t → cells.length = num g s t → Sml cells → x ≠ rtl g s t 0 cells) := by
  obtain ⟨b, e, h⟩ := areTabled_bis (g := g) (s := s) (t := t) hs hV
  unfold impl_ParseReport
  rw [e, Option.bind_some]
  cases b with
  | false => exact .inr ⟨rfl, fun cells hT => by have := h.2 hT; cases this⟩
  | true =>
    have hT := h.1 rfl
    have ht := hT.top
    rw [Bool.not_true, cond_false, hT.count, Option.bind_some, goMake_ok (by omega) (by omega), Option.bind_some]
    have hL : (List.replicate (num g s t) (0 : Int)).length = num g s t := List.length_replicate
    have fwd : ∀ cells : List Int, cells.length = num g s t → Sml cells → x = rtl g s t 0 cells → loopC (impl_ParseReport_l1 g s t (List.replicate (num g s t) 0)) (x, List.replicate (num g s t) 0, 0) = some (.inl ([], cells)) := by
      rintro cells h1 h2 rfl
      have := pr_fwd_run hT hL cells 0 (List.replicate (num g s t) 0) (by omega) h2 hL
      simpa using this
    have P := pr_run hT hL (num g s t) 0 (List.replicate (num g s t) 0) x (by omega) hx hL
    rw [show (((0 : Nat)) : Int) = 0 from rfl] at P
    rcases P with h2 | ⟨rest, y, q1, q2, q3, q4⟩
    · right
      refine ⟨by rw [h2]; rfl, fun cells _ c1 c2 c3 => ?_⟩
      have := fwd cells c1 c2 c3
      rw [h2] at this
      cases this
    · rw [List.take_zero, List.nil_append] at q4
      rw [q4]
      cases y with
      | nil =>
        left
        rw [List.append_nil] at q3
        exact ⟨rest, hT, q1, q2, q3, rfl⟩
      | cons b y =>
        right
        refine ⟨rfl, fun cells _ c1 c2 c3 => ?_⟩
        have := fwd cells c1 c2 c3
        rw [q4] at this
        cases this

/-! ## the reference's parser -/
theorem split_cat {c : UInt8} : ∀ (a r : List UInt8), splitB c (a ++ c :: r) = splitB c a ++ splitB c r
  | [], r => by
    simp only [List.nil_append, splitB, beq_self_eq_true, if_true, cond_true]
    rfl
  | b :: a, r => by
    have ih := split_cat (c := c) a r
    simp only [List.cons_append, splitB]
    rw [ih]
    by_cases h : b = c
    · simp [h]
    · cases hs : splitB c a with
      | nil =>
        exfalso
        cases a with
        | nil => simp [splitB] at hs
        | cons d a =>
          simp only [splitB] at hs
          split at hs
          · cases hs
          · split at hs <;> cases hs
      | cons y ys => simp [h]

def lastW (x : List UInt8) : List UInt8 := (splitB 32 x).getLastD []
def val : Int → List UInt8 → Int
  | n, [] => n
  | n, b :: r => val (10 * n + (b.toNat : Int) - 48) r

theorem val_push : ∀ (D : List UInt8) (n : Int) (b : UInt8), val n (D ++ [b]) = 10 * val n D + (b.toNat : Int) - 48
  | [], _, _ => rfl
  | d :: D, n, b => val_push D _ b

theorem val_digs (u : Nat) : val 0 (Go.Lib.decDigits u) = (u : Int) := by
  induction u using Nat.strongRecOn with
  | _ u ih =>
    by_cases hu : u < 10
    · rw [digs_small hu]
      simp only [val]
      rw [dig_nat hu]; omega
    · rw [digs_big hu, val_push, ih (u / 10) (by omega), dig_nat (by omega)]; omega

theorem nd_tot (x : List UInt8) : ∃ r, spec_nDigits x = some r := by
  unfold spec_nDigits
  obtain ⟨⟨a, b⟩, e, _⟩ : Tot (loopC (spec_nDigits_l1 x) (1, 0, 0)) (fun _ => True) := by
    refine tot_loop (fun q => ∃ k : Nat, q.2.2 = (k : Int) ∧ k ≤ 9) (fun q => 9 - q.2.2.toNat) ⟨0, rfl, by omega⟩ ?_
    rintro ⟨sg, n, _⟩ ⟨k, rfl, hk⟩
    simp only [spec_nDigits_l1]
    by_cases h1 : k < x.length
    · rw [decide_eq_true (show (k : Int) < goLen x by simp only [goLen]; omega), cond_true, Option.bind_some]
      refine tot_cond (fun h2 => ?_) fun _ => tot_some trivial
      have h2 : (k : Int) < 9 := of_decide_eq_true h2
      have hb : x[k]? = some x[k] := by simp [h1]
      generalize x[k] = b at hb
      rw [strAt_k hb]
      simp only [Option.bind_some]
      cases ((b.toNat : Int) == 45) with
      | true =>
        simp only [cond_true, Option.bind_some]
        rw [wid (by omega) (by omega)]
        exact tot_some ⟨⟨k + 1, by simp only; omega, by omega⟩, by simp only; omega⟩
      | false =>
        simp only [cond_false, Option.bind_some]
        rw [wid (n := (k : Int) + 1) (by omega) (by omega)]
        exact tot_some ⟨⟨k + 1, by simp only; omega, by omega⟩, by simp only; omega⟩
    · rw [decide_eq_false (show ¬ (k : Int) < goLen x by simp only [goLen]; omega)]
      exact tot_some trivial
  rw [e]
  exact ⟨_, rfl⟩

noncomputable def nd (x : List UInt8) : Int := (spec_nDigits x).getD 0
theorem nd_eq (x : List UInt8) : spec_nDigits x = some (nd x) := by
  obtain ⟨r, e⟩ := nd_tot x
  unfold nd
  rw [e]; rfl

theorem nd_run {x : List UInt8} (hx : x.length ≤ 9) {sg : Int} : ∀ (D p : List UInt8) (n : Int), x = p ++ D → (∀ b ∈ D, 48 ≤ b.toNat ∧ b.toNat ≤ 57) → 0 ≤ n ∧ n < ((10 ^ p.length : Nat) : Int) → loopC (spec_nDigits_l1 x) (sg, n, (p.length : Int)) = some (sg, val n D)
  | [], p, n, he, _, _ => by
    rw [List.append_nil] at he
    subst he
    refine loopC_dn ?_
    simp only [spec_nDigits_l1, lt_end, cond_false, Option.bind_some, val]
  | b :: D, p, n, he, hd, hn => by
    have hb := hd b List.mem_cons_self
    have hl : x.length = p.length + (D.length + 1) := by rw [he]; simp
    have h9 : p.length ≤ 8 := by omega
    have hp : (10 : Nat) ^ p.length ≤ 10 ^ 8 := Nat.pow_le_pow_right (by omega) h9
    have hat : goStrAt x (p.length : Int) = some (b.toNat : Int) := by rw [he]; exact strAt_mid p D b
    rw [loopC_nx (y := (sg, 10 * n + (b.toNat : Int) - 48, ((p ++ [b]).length : Int)))]
    · exact nd_run hx D (p ++ [b]) _ (by rw [he]; simp) (fun c hc => hd c (List.mem_cons_of_mem _ hc)) ⟨by omega, by rw [List.length_append, List.length_singleton, Nat.pow_succ]; omega⟩
    · simp only [spec_nDigits_l1]
      rw [decide_eq_true (show (p.length : Int) < goLen x by simp only [goLen]; omega), cond_true, Option.bind_some, decide_eq_true (by omega), cond_true, hat]
      simp only [Option.bind_some]
      rw [show (((b.toNat : Int)) == 45) = false by rw [beq_eq_false_iff_ne]; omega]
      simp only [cond_false, Option.bind_some]
      rw [wid (n := 10 * n) (by omega) (by omega), wid (n := (b.toNat : Int)) (by omega) (by omega), wid (n := 10 * n + (b.toNat : Int)) (by omega) (by omega), wid (n := 10 * n + (b.toNat : Int) - 48) (by omega) (by omega), wid (n := (p.length : Int) + 1) (by omega) (by omega)]
      simp only [List.length_append, List.length_singleton]
      congr 4

theorem nd_itoa {v : Int} (h : -1000000 ≤ v ∧ v ≤ 1000000) : nd (Go.Lib.itoa v) = v := by
  have hl := (itoa_bd h).1
  have : spec_nDigits (Go.Lib.itoa v) = some v := by
    unfold spec_nDigits
    obtain ⟨u, rfl | ⟨h0, rfl⟩⟩ := int_cases v
    · rw [itoa_nat] at hl ⊢
      have := nd_run (x := Go.Lib.decDigits u) (sg := 1) (by omega) (Go.Lib.decDigits u) [] 0 rfl (digs_all u) ⟨by omega, by simp⟩
      rw [show (([] : List UInt8).length : Int) = 0 from rfl] at this
      rw [this, val_digs]
      simp only [Option.bind_some]
      rw [wid (by omega) (by omega)]
      congr 1; omega
    · rw [itoa_neg h0] at hl ⊢
      have := nd_run (x := 45 :: Go.Lib.decDigits u) (sg := -1) (by omega) (Go.Lib.decDigits u) [45] 0 rfl (digs_all u) ⟨by omega, by simp⟩
      rw [val_digs, show (([45] : List UInt8).length : Int) = 1 from rfl] at this
      rw [loopC_nx (y := (-1, 0, 1)), this]
      · simp only [Option.bind_some]
        rw [wid (by omega) (by omega)]
        congr 1; omega
      · simp only [spec_nDigits_l1]
        rw [decide_eq_true (show (0 : Int) < goLen (45 :: Go.Lib.decDigits u) by simp only [goLen, List.length_cons]; omega), cond_true, Option.bind_some, decide_eq_true (by omega), cond_true, strAt0]
        simp only [Option.bind_some]
        rw [show (((45 : UInt8).toNat : Int) == 45) = true from rfl]
        rfl
  rw [nd_eq] at this
  exact Option.some.inj this

theorem lastW_line (hT : OkT g s t) {i : Nat} {v : Int} (hv : -1000000 ≤ v ∧ v ≤ 1000000) : lastW ((ctxt g s t i ++ [58, 32]) ++ Go.Lib.itoa v) = Go.Lib.itoa v := by
  unfold lastW
  rw [show (ctxt g s t i ++ [58, 32]) ++ Go.Lib.itoa v = (ctxt g s t i ++ [58]) ++ 32 :: Go.Lib.itoa v by simp, split_cat, split_no (itoa_bd hv).2.1]
  simp

/-- the lines of a report -/
theorem rtl_split (hT : OkT g s t) : ∀ (l : List Int) (i : Nat), i + l.length ≤ num g s t → Sml l → ∃ ls, splitB 10 (rtl g s t i l) = ls ++ [[]] ∧ ls.map (fun x => nd (lastW x)) = l
  | [], _, _, _ => ⟨[], rfl, rfl⟩
  | v :: r, i, hi, h => by
    simp only [List.length_cons] at hi
    obtain ⟨ls, e1, e2⟩ := rtl_split hT r (i + 1) (by omega) fun x hx => h x (List.mem_cons_of_mem _ hx)
    have hv := h v List.mem_cons_self
    refine ⟨((ctxt g s t i ++ [58, 32]) ++ Go.Lib.itoa v) :: ls, ?_, ?_⟩
    · simp only [rtl, rln]
      rw [List.append_assoc, List.singleton_append, split_app ?_, e1]
      · rfl
      · intro hc
        simp only [List.mem_append, List.mem_cons, List.not_mem_nil, or_false] at hc
        rcases hc with (hc | hc | hc) | hc
        · exact (ctxt_ok hT (show i < num g s t by omega)).2 hc
        · cases hc
        · cases hc
        · exact (itoa_bd hv).2.2 hc
    · rw [List.map_cons, lastW_line hT hv, nd_itoa hv, e2]

theorem lines_ok {x : List UInt8} (hx : x.length ≤ 900000) : loopC (spec_ParseReport_l1 (splitB 10 x)) ([], 0) = some ((splitB 10 x).map fun l => nd (lastW l)) := by
  have hb := split_bd 10 x
  refine loop_push (fun l => nd (lastW l)) (fun out k p hp ho => ?_) fun out => by simp only [spec_ParseReport_l1, lt_end, cond_false]
  have hk := (List.getElem?_eq_some_iff.1 hp).1
  have hpl := (hb.2 p (List.mem_of_getElem? hp)).1
  have hpb := split_bd 32 p
  simp only [spec_ParseReport_l1, lt_ok hp, at_ok hp, cond_true, Option.bind_some]
  rw [l1Split_ok (c := 32) (z := 32) rfl (by omega), Option.bind_some]
  have hne : splitB 32 p ≠ [] := by
    intro h
    cases p with
    | nil => simp [splitB] at h
    | cons d a =>
      simp only [splitB] at h
      split at h
      · cases h
      · split at h <;> cases h
  have hpos : 0 < (splitB 32 p).length := List.length_pos_iff.2 hne
  have hlast : goAt (splitB 32 p) (w64 (goLen (splitB 32 p) - 1)) = some (lastW p) := by
    rw [wid (by simp only [goLen]; omega) (by simp only [goLen]; omega)]
    rw [show goLen (splitB 32 p) - 1 = (((splitB 32 p).length - 1 : Nat) : Int) by simp only [goLen]; omega]
    refine at_ok ?_
    unfold lastW
    rw [← List.getLast?_eq_getElem?, List.getLastD_eq_getLast?]
    cases hq : (splitB 32 p).getLast? with
    | none => exact absurd (List.getLast?_eq_none_iff.1 hq) hne
    | some y => rfl
  rw [hlast, Option.bind_some, nd_eq, Option.bind_some, goApp_ok (by simp only [List.length_singleton]; omega), Option.bind_some, nx_ok hp (by omega)]

theorem SpecParse_eq {x : List UInt8} (hs : TameS s) (hV : t.Vars.length ≤ 1000000) (hx : x.length ≤ 900000) :
    (∃ cells, OkT g s t ∧ cells.length = num g s t ∧ Sml cells ∧ x = rtl g s t 0 cells ∧ spec_ParseReport g s t x = some (cells, true)) ∨
    (spec_ParseReport g s t x = some ([], false) ∧ ∀ cells, OkT g s t → cells.length = num g s t → Sml cells → x ≠ rtl g s t 0 cells) := by
  obtain ⟨b, e, h⟩ := uGood_bis (g := g) (s := s) (t := t) hs hV
  unfold spec_ParseReport
  rw [e, Option.bind_some]
  cases b with
  | false => exact .inr ⟨rfl, fun cells hT => by have := h.2 hT; cases this⟩
  | true =>
    have hT := h.1 rfl
    have ht := hT.top
    have hb := split_bd 10 x
    have hne : 0 < (splitB 10 x).length := by
      cases x with
      | nil => simp [splitB]
      | cons d a =>
        simp only [splitB]
        split
        · simp
        · split <;> simp
    rw [Bool.not_true, cond_false, l1Split_ok (c := 10) (z := 10) rfl (by omega), Option.bind_some, lines_ok hx, Option.bind_some]
    generalize hC : ((splitB 10 x).map fun l => nd (lastW l)) = C
    have hCl : C.length = (splitB 10 x).length := by rw [← hC, List.length_map]
    have hsub : goSub C 0 (w64 (goLen C - 1)) = some (C.take (C.length - 1)) := by
      rw [wid (by simp only [goLen]; omega) (by simp only [goLen]; omega)]
      refine tot_eq (tot_sub (by omega) (by simp only [goLen]; omega) (by simp only [goLen]; omega) ?_)
      rw [show (goLen C - 1).toNat - (0 : Int).toNat = C.length - 1 by simp only [goLen]; omega]
      rfl
    rw [hsub, Option.bind_some]
    have back : ∀ cells : List Int, cells.length = num g s t → Sml cells → x = rtl g s t 0 cells → C.take (C.length - 1) = cells := by
      rintro cells c1 c2 rfl
      obtain ⟨ls, e1, e2⟩ := rtl_split hT cells 0 (by omega) c2
      rw [← hC, e1, List.map_append, e2]
      simp
    obtain ⟨c, ec, hc⟩ := nCells_bis (g := g) (t := t) (cells := C.take (C.length - 1)) hs hV (by rw [List.length_take]; omega)
    rw [ec]
    cases c with
    | false =>
      right
      refine ⟨rfl, fun cells _ c1 c2 c3 => ?_⟩
      have := hc.2 (by rw [back cells c1 c2 c3]; exact ⟨hT, c1, c2⟩)
      cases this
    | true =>
      obtain ⟨_, c1, c2⟩ := hc.1 rfl
      simp only [Option.bind_some, Bool.not_true, cond_false]
      rw [nReport_ok hs hT c1 c2]
      simp only [Option.bind_some]
      by_cases hxe : rtl g s t 0 (C.take (C.length - 1)) = x
      · left
        refine ⟨_, hT, c1, c2, hxe.symm, ?_⟩
        rw [show (rtl g s t 0 (C.take (C.length - 1)) != x) = false by simpa using hxe]
        rfl
      · right
        rw [show (rtl g s t 0 (C.take (C.length - 1)) != x) = true by simpa using hxe]
        refine ⟨rfl, fun cells _ d1 d2 d3 => hxe ?_⟩
        rw [back cells d1 d2 d3, ← d3]

theorem sameInts_same {l : List Int} (h : l.length ≤ 1048576) : laws_sameInts l l = some true := by
  unfold laws_sameInts
  rw [bne_self_eq_false, cond_false]
  have h := loop_all (l := l) (fun _ => true) (laws_sameInts_l1 l l) (fun k x hx => by
    simp only [laws_sameInts_l1, lt_ok hx, cond_true, at_ok hx, Option.bind_some, bne_self_eq_false, cond_false, nx_ok hx (by omega), if_true]) (fun _ => by simp only [laws_sameInts_l1, lt_end, cond_false])
  rw [h]; simp

theorem Parse_same {x : List UInt8} (hs : TameS s) (hV : t.Vars.length ≤ 1000000) (hx : x.length ≤ 900000) : ∃ p : List Int × Bool, impl_ParseReport g s t x = some p ∧ spec_ParseReport g s t x = some p ∧ p.1.length ≤ 600 := by
  rcases ParseReport_eq (g := g) (t := t) hs hV hx with ⟨cells, hT, c1, c2, c3, e1⟩ | ⟨e1, n1⟩ <;> rcases SpecParse_eq (g := g) (t := t) hs hV hx with ⟨cells', hT', d1, d2, d3, e2⟩ | ⟨e2, n2⟩
  · have ht := hT.top
    rcases SpecParse_eq (g := g) (t := t) hs hV hx with ⟨_, _, _, _, _, _⟩ | ⟨_, _⟩
    · have hL : (List.replicate (num g s t) (0 : Int)).length = num g s t := List.length_replicate
      have f1 := pr_fwd_run hT hL cells 0 (List.replicate (num g s t) 0) (by omega) c2 hL
      have f2 := pr_fwd_run hT hL cells' 0 (List.replicate (num g s t) 0) (by omega) d2 hL
      rw [← c3] at f1
      rw [← d3, f1] at f2
      have : cells = cells' := by simpa using f2
      subst this
      exact ⟨_, e1, e2, by simp only; omega⟩
    · rename_i h1 h2
      exact absurd c3 (h2 cells hT c1 c2)
  · exact absurd c3 (n2 cells hT c1 c2)
  · exact absurd d3 (n1 cells' hT' d1 d2)
  · exact ⟨_, e1, e2, by simp⟩

end

/-! ## what is drawn -/
theorem tDrawReportText {code : List (K .u8)} (ho : ∀ x ∈ code, Rng.ok x) : Tot (spec_DrawReportText code) fun r => SmallS 8 r.2.1 ∧ SmallT 9 r.2.2.1 ∧ r.2.2.2.length ≤ 700 := by
  unfold spec_DrawReportText
  refine tot_bind (tanySurvey (cur0 ho)) fun ⟨g, s, l, c1⟩ ⟨hs, hl, k1⟩ => ?_
  simp only at hs hl k1
  refine tot_bind (tanyTable k1 hs) fun ⟨t, c2⟩ ⟨ht, k2⟩ => ?_
  simp only at ht k2
  have hV := ht.1
  obtain ⟨b1, e1, h1⟩ := uGood_bis (g := g) (s := s) (t := t) hs.tame (by omega)
  rw [e1, Option.bind_some]
  cases hb : b1 with
  | false => exact tot_some ⟨hs, ht, by simp⟩
  | true =>
    have hT := h1.1 hb
    obtain ⟨b2, e2, h2⟩ := uSurvey_bis (l := l) hT.geo hT.sch hs.tame hl.tame
    rw [Bool.not_true, cond_false, e2, Option.bind_some]
    cases hb2 : b2 with
    | false => exact tot_some ⟨hs, ht, by simp⟩
    | true =>
      have hU := h2.1 hb2
      have hn := hT.top
      have hI := (tabF_inv hT (by have := hU.1.1; omega) hU.cnt).l
      simp only [Bool.not_true, Option.bind_some, cond_false]
      rw [uTable_eq hT (by have := hU.1.1; omega) hU.cnt, Option.bind_some]
      refine tot_bind (tpick k2) fun ⟨x, c3⟩ ⟨_, _, _, k3⟩ => ?_
      simp only at k3
      refine tot_bind (Q := fun r => r.length ≤ 700) (tot_cond (fun _ => ?_) fun _ => tot_bind (Q := fun r => r.length ≤ 700) (tot_cond (fun _ => ?_) fun _ => tot_some (by omega)) fun _ h => tot_some h) fun cells hc => tot_some ⟨hs, ht, hc⟩
      · rw [goApp_ok (by simp; omega), Option.bind_some]
        exact tot_some (by simp; omega)
      · have hp := hT.pos
        refine tot_bind (tpick k3 (hk := by simp only [goLen]; omega)) fun ⟨y, c4⟩ ⟨y0, y1, _, k4⟩ => ?_
        have hy := y1 (by simp only [goLen]; omega)
        simp only [goLen] at y0 hy k4
        refine tot_bind (tamong k4) fun ⟨z, c5⟩ _ => ?_
        refine tot_bind (tot_at (Q := fun _ => True) y0 hy fun _ _ _ => trivial) fun _ _ => tot_some ?_
        show ((tabF g s t l).set _ _).length ≤ 700
        rw [List.length_set]; omega

theorem tspoilt {B : Nat} {c : spec_l1Cur} {x w : List UInt8} (h : Cur B c) (hx : x.length ≤ 100000) (hw : 1 ≤ w.length ∧ w.length ≤ 1000) (hB : B ≤ 100000 := by omega) : Tot (spec_l1Cur_spoilt c x w) fun r => r.1.length ≤ x.length + 2 ∧ Cur (B + 20) r.2 := by
  unfold spec_l1Cur_spoilt
  refine tot_bind (tpick h) fun ⟨n, c1⟩ ⟨n0, n1, _, k1⟩ => ?_
  have n1 := n1 (by omega)
  simp only at n0 n1 k1 ⊢
  rw [wid (by omega) (by omega)]
  refine tot_bind (Q := fun r => r.1.length ≤ x.length + 2 ∧ Cur (B + 20) r.2) (tot_loop (fun q => ∃ m : Nat, q.2.1 = (m : Int) ∧ m ≤ 2 ∧ q.1.length + m ≤ x.length + 2 ∧ Cur (B + 2 + 6 * (2 - m)) q.2.2) (fun q => q.2.1.toNat) ⟨(1 + n).toNat, by simp only; omega, by omega, by simp only; omega, k1.le (by omega)⟩ ?_) fun r hr => tot_some hr
  rintro ⟨y, _, c3⟩ ⟨m, rfl, hm, hy, kc⟩
  simp only at hy kc
  simp only [spec_l1Cur_spoilt_l1]
  have hz : ((cond (decide (0 < (m : Int))) (some (decide (0 < goLen y))) (some false)) : Option Bool) = some (decide (0 < m ∧ 0 < y.length)) := by
    by_cases h1 : 0 < m
    · rw [decide_eq_true (by omega), cond_true]
      by_cases h2 : 0 < y.length
      · rw [decide_eq_true (by simp only [goLen]; omega), decide_eq_true ⟨h1, h2⟩]
      · rw [decide_eq_false (by simp only [goLen]; omega), decide_eq_false (show ¬ (0 < m ∧ 0 < y.length) from fun h => h2 h.2)]
    · rw [decide_eq_false (show ¬ (0 < (m : Int)) by omega), decide_eq_false (show ¬ (0 < m ∧ 0 < y.length) from fun h => h1 h.1)]; rfl
  rw [hz, Option.bind_some]
  refine tot_cond (fun hc => ?_) fun _ => tot_some ⟨by simp only; omega, kc.le (by omega)⟩
  have hc' : 0 < m ∧ 0 < y.length := by simpa using hc
  refine tot_bind (tpick kc (hk := by simp only [goLen]; omega)) fun ⟨i, c4⟩ ⟨i0, i1, _, k4⟩ => ?_
  have i1 := i1 (by simp only [goLen]; omega)
  simp only [goLen] at i0 i1 k4 ⊢
  refine tot_bind (tpick k4 (hk := by omega)) fun ⟨j, c5⟩ ⟨j0, j1, _, k5⟩ => ?_
  have j1 := j1 (by omega)
  simp only at j0 j1 k5 ⊢
  obtain ⟨jn, rfl⟩ := Int.eq_ofNat_of_zero_le j0
  have hwj : w[jn]? = some (w[jn]'(by omega)) := by simp [show jn < w.length by omega]
  rw [strAt_k hwj, Option.bind_some]
  refine tot_bind (tpick k5) fun ⟨z, c6⟩ ⟨_, _, _, k6⟩ => ?_
  simp only at k6 ⊢
  have hg1 : ∀ v : Int, (goBytes ([(⟨v⟩ : K .u8)] : List (K .u8))).length = 1 := fun v => rfl
  have s1 : ∀ {a b : Int}, 0 ≤ a → a ≤ b → b ≤ y.length → ∃ l, goSub y a b = some l ∧ l.length = (b - a).toNat := by
    intro a b h1 h2 h3
    obtain ⟨l, e, hl⟩ := tot_sub (l := y) (Q := fun l => l.length = (b - a).toNat) h1 h2 h3 (by simp; omega)
    exact ⟨l, e, hl⟩
  obtain ⟨l1, e1, q1⟩ := s1 (a := 0) (b := i) (by omega) (by omega) (by omega)
  obtain ⟨l2, e2, q2⟩ := s1 (a := i) (b := (y.length : Int)) (by omega) (by omega) (by omega)
  obtain ⟨l3, e3, q3⟩ := s1 (a := i + 1) (b := (y.length : Int)) (by omega) (by omega) (by omega)
  have hw1 : w64 (i + 1) = i + 1 := wid (by omega) (by omega)
  refine tot_bind (Q := fun r => r.length ≤ y.length + 1) ?_ fun r hr => ?_
  · refine tot_cond (fun _ => ?_) fun _ => tot_bind (Q := fun r => r.length ≤ y.length + 1) (tot_cond (fun _ => ?_) fun _ => ?_) fun r hr => tot_some hr
    · rw [e1, Option.bind_some, cat_ok (by rw [hg1]; omega), Option.bind_some, e2, Option.bind_some, cat_ok (by rw [List.length_append, hg1]; omega), Option.bind_some]
      exact tot_some (by simp only [List.length_append, hg1]; omega)
    · rw [e1, Option.bind_some, cat_ok (by rw [hg1]; omega), Option.bind_some, hw1, e3, Option.bind_some, cat_ok (by rw [List.length_append, hg1]; omega), Option.bind_some]
      exact tot_some (by simp only [List.length_append, hg1]; omega)
    · rw [e1, Option.bind_some, hw1, e3, Option.bind_some, cat_ok (by omega), Option.bind_some]
      exact tot_some (by simp only [List.length_append]; omega)
  · refine tot_some ⟨⟨m - 1, ?_, by omega, by simp only; omega, k6.le (by omega)⟩, ?_⟩
    · simp only; rw [wid (by omega) (by omega)]; omega
    · simp only; rw [wid (by omega) (by omega)]; omega

theorem big_tot (a b : List (K .u8)) : ∃ t, laws_big a b = some t := by
  unfold laws_big
  cases decide (1048576 < goLen a) <;> exact ⟨_, rfl⟩

theorem tDrawParseReport {code : List (K .u8)} (ho : ∀ x ∈ code, Rng.ok x) : Tot (spec_DrawParseReport code) fun r => SmallS 8 r.2.1 ∧ SmallT 9 r.2.2.1 ∧ r.2.2.2.length ≤ 90000 := by
  unfold spec_DrawParseReport
  refine tot_bind (tDrawReportText ho) fun ⟨g, s, t, cells⟩ ⟨hs, ht, hc⟩ => ?_
  simp only at hs ht hc ⊢
  rcases ReportText_same (g := g) (t := t) (cells := cells) hs.tame (by have := ht.1; omega) (by omega) with ⟨_, e⟩ | ⟨hT, c1, c2, _, e⟩
  · rw [e, Option.bind_some]
    exact tot_some ⟨hs, ht, by simp⟩
  · have hn := hT.top
    have hl := rtl_len hT cells 0 (by omega) c2
    rw [e, Option.bind_some]
    simp only [Bool.not_true, cond_false]
    refine tot_bind (tone (cur0 ho)) fun ⟨y, c3⟩ k3 => ?_
    simp only at k3 ⊢
    refine tot_bind (Q := fun x => x.length ≤ 90000) (tot_cond (fun _ => ?_) fun _ => tot_some (by omega)) fun x hx => tot_some ⟨hs, ht, hx⟩
    exact tot_bind (tspoilt k3 (by omega) (by simp)) fun ⟨x, c4⟩ ⟨hx, _⟩ => tot_some (by simp only at hx ⊢; omega)

theorem tDrawTableText {code : List (K .u8)} (ho : ∀ x ∈ code, Rng.ok x) : Tot (spec_DrawTableText code) fun r => SmallS 8 r.2.1 ∧ SmallT 9 r.2.2 := by
  unfold spec_DrawTableText
  refine tot_bind (tanySurvey (cur0 ho)) fun ⟨g, s, l, c1⟩ ⟨hs, hl, k1⟩ => ?_
  simp only at hs hl k1
  exact tot_bind (tanyTable k1 hs) fun ⟨t, c2⟩ ⟨ht, _⟩ => tot_some ⟨hs, ht⟩

theorem tDrawCellText {code : List (K .u8)} (ho : ∀ x ∈ code, Rng.ok x) : Tot (spec_DrawCellText code) fun r => SmallS 8 r.2.1 ∧ SmallT 9 r.2.2.1 := by
  unfold spec_DrawCellText
  refine tot_bind (tDrawTableText ho) fun ⟨g, s, t⟩ ⟨hs, ht⟩ => ?_
  simp only at hs ht ⊢
  refine tot_bind (tpick (cur0 ho)) fun ⟨x, c1⟩ ⟨_, _, _, k1⟩ => ?_
  simp only at k1 ⊢
  refine tot_bind (tpick k1) fun ⟨y, c2⟩ _ => ?_
  exact tot_bind (tot_quo (Q := fun _ => True) (by decide) trivial) fun z _ => tot_some ⟨hs, ht⟩

theorem laws_FnReports_true (a b : List (K .u8)) (o1 : Rng.ok a) (o2 : Rng.ok b) : laws_FnReports a b = some true := by
  refine tot_eq ?_
  unfold laws_FnReports
  obtain ⟨z, ez⟩ := big_tot a b
  rw [ez, Option.bind_some]
  refine tot_cond (fun _ => tot_some rfl) fun _ => ?_
  obtain ⟨⟨g, s, t, cells⟩, q1, hs, ht, hc⟩ := tDrawReportText o1.2
  obtain ⟨⟨g2, s2, t2, x⟩, q2, hs2, ht2, hx⟩ := tDrawParseReport o2.2
  obtain ⟨⟨g3, s3, t3, i⟩, q3, hs3, ht3⟩ := tDrawCellText o2.2
  simp only at hs ht hc hs2 ht2 hx hs3 ht3
  obtain ⟨p, w1, w2, wl⟩ := Parse_same (g := g2) (t := t2) (x := x) hs2.tame (by have := ht2.1; omega) (by omega)
  obtain ⟨c, v1, v2⟩ := CellText_same (g := g3) (t := t3) (i := i) hs3.tame (by have := ht3.1; omega)
  have htail : ∀ F : Option Bool, F = (spec_DrawParseReport b).bind (fun t_25 => ((impl_ParseReport t_25.1 t_25.2.1 t_25.2.2.1 t_25.2.2.2).bind fun t_33 => ((spec_ParseReport t_25.1 t_25.2.1 t_25.2.2.1 t_25.2.2.2).bind fun t_37 => (((cond (t_33.2 != t_37.2) (some true) ((laws_sameInts t_33.1 t_37.1).bind fun t_41 => some (!t_41))) : Option (Bool)).bind fun t_43 => (cond t_43 (some false) ((spec_DrawCellText b).bind fun t_44 => ((impl_CellText t_44.1 t_44.2.1 t_44.2.2.1 t_44.2.2.2).bind fun t_52 => ((spec_CellText t_44.1 t_44.2.1 t_44.2.2.1 t_44.2.2.2).bind fun t_54 => (((cond (t_52.2 == t_54.2) (some (t_52.1 == t_54.1)) (some false)) : Option (Bool)).bind fun t_56 => some t_56))))))))) → Tot F (fun z => z = true) := by
    rintro F rfl
    rw [q2]
    simp only [Option.bind_some]
    rw [w1, w2]
    simp only [Option.bind_some, bne_self_eq_false, cond_false]
    rw [sameInts_same (by omega)]
    simp only [Option.bind_some, Bool.not_true, cond_false]
    rw [q3]
    simp only [Option.bind_some]
    rw [v1, v2]
    simp only [Option.bind_some, beq_self_eq_true, cond_true]
    exact tot_some rfl
  rw [q1]
  simp only [Option.bind_some]
  rcases ReportText_same (g := g) (t := t) (cells := cells) hs.tame (by have := ht.1; omega) (by omega) with ⟨e1, e2⟩ | ⟨hT, c1, c2, e1, e2⟩
  · rw [e1, e2]
    simp only [Option.bind_some, bne_self_eq_false, cond_false]
    exact htail _ rfl
  · have hn := hT.top
    have hl := rtl_len hT cells 0 (by omega) c2
    rw [e1, e2]
    simp only [Option.bind_some, bne_self_eq_false, cond_false, cond_true]
    rcases ParseReport_eq (g := g) (t := t) (x := rtl g s t 0 cells) hs.tame (by have := ht.1; omega) (by omega) with ⟨cells', _, d1, d2, d3, f⟩ | ⟨_, f⟩
    · have hL : (List.replicate (num g s t) (0 : Int)).length = num g s t := List.length_replicate
      have f1 := pr_fwd_run hT hL cells 0 (List.replicate (num g s t) 0) (by omega) c2 hL
      have f2 := pr_fwd_run hT hL cells' 0 (List.replicate (num g s t) 0) (by omega) d2 hL
      rw [← d3, f1] at f2
      have : cells = cells' := by simpa using f2
      subst this
      rw [f]
      simp only [Option.bind_some, Bool.not_true, cond_false]
      rw [sameInts_same (by omega)]
      simp only [Option.bind_some, Bool.not_true, cond_false]
      exact htail _ rfl
    · exact absurd rfl (f cells hT c1 c2)

end Go.Gx.F
