/- Plain laws: edits as texts, and read back. -/
import Derived.Test.YtebjhiflnemkhaaDoorEPPas
import Derived.Test.YtebjhiflnemkhaaDoorEPSet
namespace Go.Gx.F
open Go.Gx
set_option linter.all false

theorem name_no {w : List UInt8} {b : UInt8} (h : Word w) (hb : b.toNat < 97) : b ∉ w := fun hc => by have := h.2.2 b hc; omega

/-- a name is found -/
theorem nameIndex_ok {s : List impl_Variable} (hs : OkS s) {k : Nat} {v : impl_Variable} (hv : s[k]? = some v) : impl_nameIndex s v.Name = some (k : Int) := by
  have hl := hs.2.1
  unfold impl_nameIndex slices_IndexFunc_impl_Variable_impl_Variable_of_impl_nameIndex_1
  have hk := (List.getElem?_eq_some_iff.1 hv).1
  suffices h : ∀ (j i : Nat), i + j = k → loopC (slices_IndexFunc_impl_Variable_impl_Variable_of_impl_nameIndex_1_l1 s v.Name) (i : Int) = some (.inr (k : Int)) by
    have := h k 0 (by omega)
    rw [show ((0 : Nat) : Int) = 0 from rfl] at this
    rw [this]; rfl
  intro j
  induction j with
  | zero =>
    intro i hi
    obtain rfl : i = k := by omega
    rw [loopC_eq]
    simp only [slices_IndexFunc_impl_Variable_impl_Variable_of_impl_nameIndex_1_l1, lt_ok hv, at_ok hv, cond_true, Option.bind_some, impl_nameIndex_1, beq_self_eq_true]
  | succ j ih =>
    intro i hi
    have hw : s[i]? = some (s[i]'(by omega)) := by simp [show i < s.length by omega]
    generalize s[i]'(by omega) = w at hw
    have hne := (hs.2.2 k v hv).2 i w (by omega) hw
    rw [loopC_eq]
    simp only [slices_IndexFunc_impl_Variable_impl_Variable_of_impl_nameIndex_1_l1, lt_ok hw, at_ok hw, cond_true, Option.bind_some, impl_nameIndex_1]
    rw [show (w.Name == v.Name) = false by rw [beq_eq_false_iff_ne]; exact hne, cond_false, nx_ok hw (show s.length ≤ 9223372036854775807 by omega)]
    exact ih (i + 1) (by omega)

/-- name=levels -/
def pse (v : impl_Variable) (x : Int) : List UInt8 := (v.Name ++ [61]) ++ stx x.toNat

theorem pse_len {v : impl_Variable} {x : Int} (hv : Word v.Name) (hx : 0 ≤ x ∧ x ≤ 255) : (pse v x).length ≤ 24 := by
  have h := (stx_len ⟨x.toNat, by omega⟩).1
  have := hv.2.1
  unfold pse
  simp only [List.length_append, List.length_singleton] at h ⊢
  omega

theorem pse_no {v : impl_Variable} {x : Int} (hv : Word v.Name) (hx : 0 ≤ x ∧ x ≤ 255) : (32 : UInt8) ∉ pse v x ∧ (10 : UInt8) ∉ pse v x := by
  have h := stx_no ⟨x.toNat, by omega⟩
  unfold pse
  constructor
  · intro hc
    simp only [List.mem_append, List.mem_singleton] at hc
    rcases hc with (hc | hc) | hc
    · exact name_no hv (by decide) hc
    · exact absurd hc (by decide)
    · exact h.1 hc
  · intro hc
    simp only [List.mem_append, List.mem_singleton] at hc
    rcases hc with (hc | hc) | hc
    · exact name_no hv (by decide) hc
    · exact absurd hc (by decide)
    · exact h.2.2 hc

theorem cut_ok {b : UInt8} {a r : List UInt8} (h : b ∉ a) (hl : a.length + r.length ≤ 1000000) : strings_Cut (a ++ b :: r) [b] = some (a, r, true) := by
  have hidx : ∀ {a r : List UInt8}, b ∉ a → Go.Lib.index (a ++ b :: r) [b] = (a.length : Int) := by
    intro a
    induction a with
    | nil => intro r _; unfold Go.Lib.index; simp [List.isPrefixOf]
    | cons x a ih =>
      intro r h
      have hx : (b == x) = false := by rw [beq_eq_false_iff_ne]; exact fun hc => h (by rw [hc]; exact List.mem_cons_self)
      have ih := ih (r := r) (fun hc => h (List.mem_cons_of_mem _ hc))
      rw [List.cons_append]
      unfold Go.Lib.index
      rw [ih]
      simp only [List.isPrefixOf, hx, Bool.false_and, Bool.false_eq_true, if_false]
      rw [if_neg (by rw [beq_iff_eq]; omega), List.length_cons]
      omega
  unfold strings_Cut
  rw [decide_eq_true (by simp; omega), cond_true]
  unfold Go.Lib.cut
  rw [hidx h, if_pos (by omega), Int.toNat_natCast, List.take_left]
  congr 3
  rw [← List.drop_drop, List.drop_left]
  rfl

theorem pse_cut {v : impl_Variable} {x : Int} (hv : Word v.Name) (hx : 0 ≤ x ∧ x ≤ 255) : strings_Cut (pse v x) [61] = some (v.Name, stx x.toNat, true) := by
  have h := (stx_len ⟨x.toNat, by omega⟩).1
  have := hv.2.1
  unfold pse
  rw [List.append_assoc, List.singleton_append]
  exact cut_ok (name_no hv (by decide)) (by simp only at h; omega)

/-! the involved variables -/
def isel (s : List impl_Variable) (e : impl_Edit) (k : Nat) : Bool := match s[k]?, e.Sets[k]? with
  | some v, some x => x != full v
  | _, _ => false

def invl (s : List impl_Variable) (e : impl_Edit) : List Int := picks (isel s e) (fun k => (k : Int)) s.length

theorem isel_at {s : List impl_Variable} {e : impl_Edit} {k : Nat} {v : impl_Variable} {x : Int} (hv : s[k]? = some v) (hx : e.Sets[k]? = some x) : isel s e k = (x != full v) := by unfold isel; rw [hv, hx]

theorem OkE.at_ {s : List impl_Variable} {e : impl_Edit} (hs : OkS s) (he : OkE s e) {k : Nat} (hk : k < s.length) : ∃ v x, s[k]? = some v ∧ e.Sets[k]? = some x ∧ Word v.Name ∧ (2 ≤ v.Levels ∧ v.Levels ≤ 8) ∧ 1 ≤ x ∧ x ≤ full v ∧ x ≤ 255 := by
  have hl := he.1
  have hv : s[k]? = some s[k] := by simp [hk]
  have hx : e.Sets[k]? = some (e.Sets[k]'(by omega)) := by simp [show k < e.Sets.length by omega]
  have h1 := (hs.2.2 k _ hv).1
  have h2 := he.2 k _ _ hv hx
  have h3 := full_le2 h1.2
  exact ⟨_, _, hv, hx, h1.1, h1.2, h2.1, h2.2, by omega⟩

theorem involvedIn_eq {s : List impl_Variable} {e : impl_Edit} (hs : OkS s) (he : OkE s e) : impl_involvedIn s e = some (invl s e) := by
  have hl := hs.2.1; have hel := he.1
  unfold impl_involvedIn invl
  rw [loop_sel (n := s.length) (isel s e) (fun k => (k : Int)) (fun out k hk ho => ?_) (fun out => by simp only [impl_involvedIn_l1]; rw [decide_eq_false (by simp [goLen, hel])]; rfl)]
  · rfl
  · obtain ⟨v, x, hv, hx, _, h8, _⟩ := OkE.at_ hs he hk
    simp only [impl_involvedIn_l1, lt_ok hx, at_ok hx, at_ok hv, cond_true, Option.bind_some, fullSet_eq (v := v) (by omega), isel_at hv hx, nx_ok hx (show e.Sets.length ≤ 9223372036854775807 by omega)]
    cases x != full v
    · rfl
    · rw [cond_true, goApp_ok (by simp; omega)]; rfl

theorem eInvolved_eq {s : List impl_Variable} {e : impl_Edit} (hs : OkS s) (he : OkE s e) : spec_eInvolved s e = some (invl s e) := by
  have hl := hs.2.1; have hel := he.1
  unfold spec_eInvolved invl
  rw [loop_sel (n := s.length) (isel s e) (fun k => (k : Int)) (fun out k hk ho => ?_) (fun out => by simp only [spec_eInvolved_l1]; rw [decide_eq_false (by simp [goLen, hel])]; rfl)]
  · rfl
  · obtain ⟨v, x, hv, hx, _, h8, _⟩ := OkE.at_ hs he hk
    simp only [spec_eInvolved_l1, lt_ok hx, at_ok hx, cond_true, Option.bind_some, eFull_eq hs hv, isel_at hv hx, nx_ok hx (show e.Sets.length ≤ 9223372036854775807 by omega)]
    cases x != full v
    · rfl
    · rw [cond_true, goApp_ok (by simp; omega)]; rfl

/-- the parts of the text -/
def prt (s : List impl_Variable) (e : impl_Edit) (i : Int) : List UInt8 := match s[i.toNat]?, e.Sets[i.toNat]? with
  | some v, some x => pse v x
  | _, _ => []

theorem prt_at {s : List impl_Variable} {e : impl_Edit} {k : Nat} {v : impl_Variable} {x : Int} (hv : s[k]? = some v) (hx : e.Sets[k]? = some x) : prt s e (k : Int) = pse v x := by
  unfold prt; rw [Int.toNat_natCast, hv, hx]

theorem invl_mem {s : List impl_Variable} {e : impl_Edit} (hs : OkS s) (he : OkE s e) {i : Int} (h : i ∈ invl s e) :
    ∃ k v x, i = ((k : Nat) : Int) ∧ k < s.length ∧ s[k]? = some v ∧ e.Sets[k]? = some x ∧ Word v.Name ∧ (2 ≤ v.Levels ∧ v.Levels ≤ 8) ∧ 1 ≤ x ∧ x ≤ full v ∧ x ≤ 255 ∧ x ≠ full v := by
  obtain ⟨k, hk, hsel, rfl⟩ := mem_picks.1 h
  obtain ⟨v, x, hv, hx, h1, h2, h3, h4, h5⟩ := OkE.at_ hs he hk
  rw [isel_at hv hx] at hsel
  exact ⟨k, v, x, rfl, hk, hv, hx, h1, h2, h3, h4, h5, by simpa using hsel⟩

def etx (s : List impl_Variable) (e : impl_Edit) : List UInt8 := if invl s e = [] then [97, 108, 108] else Go.Lib.join ((invl s e).map (prt s e)) [32]

theorem invl_len {s : List impl_Variable} {e : impl_Edit} (hs : OkS s) : (invl s e).length ≤ 6 := by
  have := picks_len (sel := isel s e) (f := fun k => (k : Int)) s.length
  have := hs.2.1
  unfold invl; omega

theorem parts_len {s : List impl_Variable} {e : impl_Edit} (hs : OkS s) (he : OkE s e) {l : List Int} (hl : ∀ i ∈ l, i ∈ invl s e) : ∀ x ∈ l.map (prt s e), x.length ≤ 24 := fun x hx => by
  obtain ⟨i, hi, rfl⟩ := List.mem_map.1 hx
  obtain ⟨k, v, y, rfl, hk, hv, hy, h1, h2, h3, h4, h5, h6⟩ := invl_mem hs he (hl i hi)
  rw [prt_at hv hy]
  exact pse_len h1 (by omega)

theorem EditText_impl {s : List impl_Variable} {e : impl_Edit} (hs : OkS s) (he : OkE s e) (ht : TameS s) : impl_EditText s e = some (etx s e, true) := by
  obtain ⟨b1, e1, hb1⟩ := IsSchema_bis ht
  obtain rfl := hb1.2 hs
  obtain ⟨b2, e2, hb2⟩ := isEdit_bis (e := e) hs
  obtain rfl := hb2.2 he
  have hl := hs.2.1
  have hil := invl_len (e := e) hs
  unfold impl_EditText etx
  rw [e1, e2]
  simp only [Option.bind_some, Bool.not_true, cond_false, involvedIn_eq hs he]
  by_cases h0 : invl s e = []
  · rw [h0, if_pos rfl]
    rfl
  · rw [if_neg h0, show (goLen (invl s e) == 0) = false by
      rw [beq_eq_false_iff_ne]; simp only [goLen]
      have : (invl s e).length ≠ 0 := fun h => h0 (List.eq_nil_of_length_eq_zero h)
      omega, cond_false, show goLen (invl s e) = (((invl s e).length : Nat) : Int) from rfl, goMake_ok (by omega) (by omega), Option.bind_some]
    have h := loop_map (l := invl s e) (prt s e) ([] : List UInt8) (impl_EditText_l1 s e (invl s e)) (fun k i out hi ho => by
      obtain ⟨j, v, x, rfl, hj, hv, hx, h1, h2, h3, h4, h5, h6⟩ := invl_mem hs he (List.mem_of_getElem? hi)
      have hk := (List.getElem?_eq_some_iff.1 hi).1
      have e0 : goAt out (k : Int) = some out[k] := at_ok (by simp [ho, hk])
      have hst := (stx_len ⟨x.toNat, by omega⟩).1
      have hnl := h1.2.1
      simp only at hst
      simp only [impl_EditText_l1, lt_ok hi, at_ok hi, at_ok hv, at_ok hx, cond_true, Option.bind_some, nx_ok hi (show (invl s e).length ≤ 9223372036854775807 by omega)]
      have hset : impl_setText x = some (stx x.toNat) := by
        have := setText_ok (x := x.toNat) (by omega)
        rwa [show ((x.toNat : Nat) : Int) = x by omega] at this
      rw [cat_ok (by simp; omega), Option.bind_some, hset, Option.bind_some, cat_ok (by simp; omega), Option.bind_some, e0, Option.bind_some, prt_at hv hx]
      simp only [goSet, Int.toNat_natCast]
      rfl) (fun out => by simp only [impl_EditText_l1, lt_end, cond_false])
    rw [h, Option.bind_some, join_ok (parts_len hs he fun i hi => hi) (by simp; omega) (by simp; omega)]
    rfl

theorem EditText_spec {s : List impl_Variable} {e : impl_Edit} (hs : OkS s) (he : OkE s e) (ht : TameS s) : spec_EditText s e = some (etx s e, true) := by
  obtain ⟨b1, e1, hb1⟩ := eList_bis (s := s) (l := [e]) ht
  obtain rfl := hb1.2 ⟨hs, by simp, fun x hx => by obtain rfl := List.mem_singleton.1 hx; exact he⟩
  have hl := hs.2.1
  have hil := invl_len (e := e) hs
  unfold spec_EditText spec_eText
  rw [e1]
  simp only [Option.bind_some, Bool.not_true, cond_false, eInvolved_eq hs he]
  have hne : ∀ i ∈ invl s e, prt s e i ≠ [] := fun i hi => by
    obtain ⟨j, v, x, rfl, hj, hv, hx, h1, _⟩ := invl_mem hs he hi
    rw [prt_at hv hx]; unfold pse; simp
  have key : loopC (spec_eText_l1 s e (invl s e)) ([], 0) = some (Go.Lib.join ((invl s e).map (prt s e)) [32]) := by
    suffices h : ∀ (j k : Nat), k + j = (invl s e).length → loopC (spec_eText_l1 s e (invl s e)) (Go.Lib.join (((invl s e).take k).map (prt s e)) [32], (k : Int)) = some (Go.Lib.join ((invl s e).map (prt s e)) [32]) by
      have := h (invl s e).length 0 (by omega)
      simpa [join_nil] using this
    intro j
    induction j with
    | zero =>
      intro k hk
      obtain rfl : k = (invl s e).length := by omega
      rw [loopC_eq]
      simp only [spec_eText_l1, lt_end, cond_false, List.take_length]
    | succ j ih =>
      intro k hk
      have hk' : k < (invl s e).length := by omega
      have hi : (invl s e)[k]? = some (invl s e)[k] := by simp [hk']
      have hmem := List.getElem_mem hk'
      have htk : (invl s e).take (k + 1) = (invl s e).take k ++ [(invl s e)[k]] := by rw [List.take_add_one]; simp [hk']
      generalize (invl s e)[k] = i at hi hmem htk
      obtain ⟨q, v, x, rfl, hq, hv, hx, h1, h2, h3, h4, h5, h6⟩ := invl_mem hs he hmem
      have hpl := join_len_le (sep := [32]) (B := 24) (l := ((invl s e).take k).map (prt s e)) (parts_len hs he fun i hi => List.mem_of_mem_take hi)
      simp only [List.length_map, List.length_take, List.length_singleton] at hpl
      have hpl2 : (Go.Lib.join (((invl s e).take k).map (prt s e)) [32]).length ≤ 150 := by omega
      have hst := (stx_len ⟨x.toNat, by omega⟩).1
      have hnl := h1.2.1
      simp only at hst
      have hlv : spec_eLevels x = some ((lvs x.toNat).map fun (k : Nat) => (k : Int)) := by
        have := eLevels_ok (x := x.toNat) (by omega)
        rwa [show ((x.toNat : Nat) : Int) = x by omega] at this
      have hld := lvs_dig ⟨x.toNat, by omega⟩
      have hll := (stx_len ⟨x.toNat, by omega⟩).2
      simp only at hld hll
      have step : ∀ out : List UInt8, out.length ≤ 200 → (goCat (v.Name) ([61] : List UInt8)).bind (fun t_15 => (goCat out t_15).bind fun t_16 => (goAt e.Sets (q : Int)).bind fun e_17 => (spec_eLevels e_17).bind fun t_19 => (loopC (spec_eText_l2 t_19) (t_16, 0)).bind fun out_30 => (some (Stp.next (out_30, (w64 ((k : Int) + 1)))) : Option (Stp ((List UInt8) × Int) (List UInt8)))) = some (.next (out ++ pse v x, ((k + 1 : Nat) : Int))) := by
        intro out ho
        rw [cat_ok (by simp; omega), Option.bind_some, cat_ok (by simp; omega), Option.bind_some, at_ok hx, Option.bind_some, hlv, Option.bind_some]
        rw [digits_loop (body := spec_eText_l2 ((lvs x.toNat).map fun (k : Nat) => (k : Int))) rfl hld hll (fun out t => rfl) (by simp; omega), Option.bind_some, nx_ok hi (show (invl s e).length ≤ 9223372036854775807 by omega)]
        unfold pse stx
        simp [List.append_assoc]
      have hnext : spec_eText_l1 s e (invl s e) (Go.Lib.join (((invl s e).take k).map (prt s e)) [32], (k : Int)) = some (.next (Go.Lib.join (((invl s e).take (k + 1)).map (prt s e)) [32], ((k + 1 : Nat) : Int))) := by
        simp only [spec_eText_l1, lt_ok hi, at_ok hi, cond_true, Option.bind_some, at_ok hv]
        rw [htk, List.map_append, List.map_singleton, prt_at hv hx]
        by_cases hk0 : k = 0
        · subst hk0
          have e0 : Go.Lib.join (((invl s e).take 0).map (prt s e)) [32] = [] := rfl
          rw [e0, show ((([] : List UInt8)) != []) = false from rfl, cond_false, Option.bind_some, step [] (by simp)]
          simp [Go.Lib.join_one]
        · have hne0 : (Go.Lib.join (((invl s e).take k).map (prt s e)) [32] != []) = true := by
            obtain ⟨k', rfl⟩ := Nat.exists_eq_succ_of_ne_zero hk0
            obtain ⟨i0, r0, hir⟩ := List.exists_cons_of_length_pos (show 0 < (invl s e).length by omega)
            have := hne i0 (by rw [hir]; exact List.mem_cons_self)
            rw [hir, List.take_succ_cons, List.map_cons, Go.Lib.join_cons]
            simp [this]
          rw [hne0, cond_true, cat_ok (by simp only [List.length_singleton]; omega)]
          simp only [Option.bind_some]
          rw [step _ (by simp only [List.length_append, List.length_singleton]; omega), join_snoc _ _ _ (fun h => by have := congrArg List.length h; simp only [List.length_map, List.length_take, List.length_nil] at this; omega)]
          simp [List.append_assoc]
      rw [loopC_eq, hnext]
      exact ih (k + 1) (by omega)
  rw [key]
  simp only [Option.bind_some]
  by_cases h0 : invl s e = []
  · unfold etx
    rw [h0, if_pos rfl]
    rfl
  · unfold etx
    rw [if_neg h0, show (Go.Lib.join ((invl s e).map (prt s e)) [32] == []) = false by
      rw [beq_eq_false_iff_ne]
      obtain ⟨i, r, hir⟩ := List.exists_cons_of_ne_nil h0
      have := hne i (by rw [hir]; exact List.mem_cons_self)
      rw [hir, List.map_cons, Go.Lib.join_cons]
      simp [this]]
    rfl

/-! and back -/
theorem seqC_steps {α σ ρ : Type} {f : α → σ → Option (Stp σ ρ)} (S : Nat → σ) : ∀ (l : List α) (i : Nat), (∀ j x, l[j]? = some x → f x (S (i + j)) = some (.next (S (i + j + 1)))) → seqC f l (S i) = some (.inl (S (i + l.length)))
  | [], i, _ => rfl
  | x :: r, i, h => by
    have h0 := h 0 x rfl
    rw [Nat.add_zero] at h0
    simp only [seqC, h0]
    have := seqC_steps S r (i + 1) fun j y hy => by
      have := h (j + 1) y hy
      rwa [show i + (j + 1) = i + 1 + j by omega] at this
    rw [this]
    simp only [List.length_cons]
    rw [show i + 1 + r.length = i + (r.length + 1) by omega]

/-- e's sets up to t, behind it all levels -/
def mixed (s : List impl_Variable) (e : impl_Edit) (t : Int) : List Int := (List.range s.length).map fun (k : Nat) => match s[k]?, e.Sets[k]? with
  | some v, some x => if (k : Int) ≤ t then x else full v
  | _, _ => 0

theorem mixed_at {s : List impl_Variable} {e : impl_Edit} {t : Int} {k : Nat} {v : impl_Variable} {x : Int} (hv : s[k]? = some v) (hx : e.Sets[k]? = some x) : (mixed s e t)[k]? = some (if (k : Int) ≤ t then x else full v) := by
  have hk := (List.getElem?_eq_some_iff.1 hv).1
  unfold mixed
  rw [List.getElem?_map, List.getElem?_range hk]
  simp only [Option.map_some, hv, hx]

theorem mixed_len (s : List impl_Variable) (e : impl_Edit) (t : Int) : (mixed s e t).length = s.length := by unfold mixed; simp

/-- the number of the last part that is read -/
def lastI (s : List impl_Variable) (e : impl_Edit) (j : Nat) : Int := match j with
  | 0 => -1
  | j + 1 => match (invl s e)[j]? with
    | some i => i
    | none => -1

theorem lastI_succ {s : List impl_Variable} {e : impl_Edit} {j : Nat} {i : Int} (h : (invl s e)[j]? = some i) : lastI s e (j + 1) = i := by
  show (match (invl s e)[j]? with | some i => i | none => -1) = i
  rw [h]

theorem lastI_lt {s : List impl_Variable} {e : impl_Edit} {j : Nat} {i : Int} (h : (invl s e)[j]? = some i) (h0 : 0 ≤ i) : lastI s e j < i := by
  cases j with
  | zero => show (-1 : Int) < i; omega
  | succ j =>
    have hj := (List.getElem?_eq_some_iff.1 h).1
    have h1 : (invl s e)[j]? = some ((invl s e)[j]'(by omega)) := by simp [show j < (invl s e).length by omega]
    rw [lastI_succ h1]
    exact picks_lt (Nat.lt_succ_self j) h1 h

/-- between two parts nothing is involved -/
theorem between {s : List impl_Variable} {e : impl_Edit} {j k : Nat} (hk : k < s.length) (hj0 : j ≤ (invl s e).length) (h1 : lastI s e j < (k : Int)) (h2 : ∀ i, (invl s e)[j]? = some i → (k : Int) < i) : isel s e k = false := by
  cases hsel : isel s e k with
  | false => rfl
  | true =>
    exfalso
    have hp := picks_at (f := fun k => (k : Int)) hsel hk
    have hp' : (invl s e)[pos (isel s e) k]? = some (k : Int) := hp
    rcases Nat.lt_trichotomy (pos (isel s e) k) j with hlt | heq | hgt
    · obtain ⟨j', rfl⟩ : ∃ j', j = j' + 1 := ⟨j - 1, by omega⟩
      cases hj : (invl s e)[j']? with
      | none =>
        have h4 := List.getElem?_eq_none_iff.1 hj
        omega
      | some i =>
        rw [lastI_succ hj] at h1
        by_cases he : pos (isel s e) k = j'
        · rw [he, hj] at hp'
          obtain rfl := Option.some.inj hp'
          omega
        · have := picks_lt (show pos (isel s e) k < j' by omega) hp' hj
          omega
    · rw [heq] at hp'
      have := h2 _ hp'
      omega
    · have h3 := (List.getElem?_eq_some_iff.1 hp').1
      have hj : (invl s e)[j]? = some ((invl s e)[j]'(by omega)) := by simp [show j < (invl s e).length by omega]
      have h4 := h2 _ hj
      have := picks_lt hgt hj hp'
      omega

theorem mixed_full {s : List impl_Variable} {e : impl_Edit} (hs : OkS s) (he : OkE s e) : mixed s e (-1) = s.map full := by
  apply List.ext_getElem?
  intro k
  by_cases hk : k < s.length
  · obtain ⟨v, x, hv, hx, _⟩ := OkE.at_ hs he hk
    rw [mixed_at hv hx, if_neg (by omega), List.getElem?_map, hv]; rfl
  · rw [List.getElem?_eq_none (by rw [mixed_len]; omega), List.getElem?_eq_none (by simp; omega)]

theorem mixed_end {s : List impl_Variable} {e : impl_Edit} (hs : OkS s) (he : OkE s e) : mixed s e (lastI s e (invl s e).length) = e.Sets := by
  apply List.ext_getElem?
  intro k
  by_cases hk : k < s.length
  · obtain ⟨v, x, hv, hx, _⟩ := OkE.at_ hs he hk
    rw [mixed_at hv hx, hx]
    split
    · rfl
    · rename_i hc
      have := between (j := (invl s e).length) hk (Nat.le_refl _) (by omega) (fun i hi => by simp at hi)
      rw [isel_at hv hx] at this
      have : x = full v := by simpa using this
      rw [this]
  · rw [List.getElem?_eq_none (by rw [mixed_len]; omega), List.getElem?_eq_none (by have := he.1; omega)]

theorem mixed_step {s : List impl_Variable} {e : impl_Edit} (hs : OkS s) (he : OkE s e) {j : Nat} {k : Nat} {x : Int} (hj : (invl s e)[j]? = some (k : Int)) (hx : e.Sets[k]? = some x) :
    goSet (mixed s e (lastI s e j)) (k : Int) x = mixed s e (k : Int) := by
  have hlt := lastI_lt hj (by omega)
  unfold goSet
  rw [Int.toNat_natCast]
  apply List.ext_getElem?
  intro q
  by_cases hq : q < s.length
  · obtain ⟨v, y, hv, hy, _⟩ := OkE.at_ hs he hq
    by_cases hqk : q = k
    · subst hqk
      rw [List.getElem?_set_self (by rw [mixed_len]; omega), mixed_at hv hy, if_pos (by omega)]
      rw [hx] at hy
      exact hy
    · rw [List.getElem?_set_ne (Ne.symm hqk), mixed_at hv hy, mixed_at hv hy]
      by_cases h1 : (q : Int) ≤ lastI s e j
      · rw [if_pos h1, if_pos (by omega)]
      · rw [if_neg h1]
        by_cases h2 : (q : Int) ≤ (k : Int)
        · rw [if_pos h2]
          have := between (j := j) hq (Nat.le_of_lt (List.getElem?_eq_some_iff.1 hj).1) (by omega) (fun i hi => by rw [hj] at hi; obtain rfl := Option.some.inj hi; omega)
          rw [isel_at hv hy] at this
          have : y = full v := by simpa using this
          rw [this]
        · rw [if_neg h2]
  · rw [List.getElem?_eq_none (by rw [List.length_set, mixed_len]; omega), List.getElem?_eq_none (by rw [mixed_len]; omega)]

theorem Edit_back {s : List impl_Variable} {e : impl_Edit} (hs : OkS s) (he : OkE s e) (ht : TameS s) : impl_ParseEdit s (etx s e) = some (⟨e.Sets⟩, true) := by
  obtain ⟨b1, e1, hb1⟩ := IsSchema_bis ht
  obtain rfl := hb1.2 hs
  have hl := hs.2.1
  have hil := invl_len (e := e) hs
  unfold impl_ParseEdit
  rw [e1]
  simp only [Option.bind_some, Bool.not_true, cond_false]
  rw [show goLen s = ((s.length : Nat) : Int) from rfl, goMake_ok (by omega) (by omega), Option.bind_some]
  have hfull : loopC (impl_ParseEdit_l1 s) (0, List.replicate s.length (0 : Int)) = some (s.map full) := by
    refine tot_eq (tot_loop (fun t => ∃ k : Nat, k ≤ s.length ∧ t = ((k : Int), (s.take k).map full ++ List.replicate (s.length - k) 0)) (fun t => s.length - t.1.toNat) ⟨0, by omega, by simp⟩ ?_)
    rintro t ⟨k, hk, rfl⟩
    by_cases hlt : k < s.length
    · have hv : s[k]? = some s[k] := by simp [hlt]
      have h8 := (hs.2.2 k _ hv).1.2
      have hat : ((s.take k).map full ++ List.replicate (s.length - k) (0 : Int))[k]? = some 0 := by
        rw [List.getElem?_append_right (by simp; omega)]
        simp only [List.length_map, List.length_take]
        rw [List.getElem?_replicate]
        simp; omega
      simp only [impl_ParseEdit_l1, lt_ok hv, at_ok hv, cond_true, Option.bind_some, fullSet_eq (v := s[k]) (by omega), at_ok hat, nx_ok hv (show s.length ≤ 9223372036854775807 by omega)]
      refine tot_some ⟨⟨k + 1, by omega, ?_⟩, by simp only; omega⟩
      congr 1
      unfold goSet
      rw [Int.toNat_natCast]
      apply List.ext_getElem?
      intro q
      by_cases hq : q = k
      · subst hq
        rw [List.getElem?_set_self (by simp; omega), List.getElem?_append_left (by simp; omega)]
        simp [List.getElem?_take, hlt]
      · rw [List.getElem?_set_ne (Ne.symm hq)]
        by_cases hq2 : q < k
        · rw [List.getElem?_append_left (by simp; omega), List.getElem?_append_left (by simp; omega)]
          simp [List.getElem?_take, hq2, show q < k + 1 by omega]
        · rw [List.getElem?_append_right (by simp; omega), List.getElem?_append_right (by simp; omega)]
          simp only [List.length_map, List.length_take, List.getElem?_replicate]
          by_cases hq3 : q < s.length
          · rw [if_pos (by omega), if_pos (by omega)]
          · rw [if_neg (by omega), if_neg (by omega)]
    · obtain rfl : k = s.length := by omega
      simp only [impl_ParseEdit_l1, lt_end, cond_false]
      exact tot_some (by simp)
  rw [hfull, Option.bind_some]
  by_cases h0 : invl s e = []
  · have h1 := mixed_end hs he
    rw [h0] at h1
    have h2 := mixed_full hs he
    have h3 : lastI s e ([] : List Int).length = -1 := rfl
    rw [h3, h2] at h1
    unfold etx
    rw [if_pos h0, h1]
    rfl
  · have hpl := join_len_le (sep := [32]) (B := 24) (l := (invl s e).map (prt s e)) (parts_len hs he fun i hi => hi)
    simp only [List.length_map, List.length_singleton] at hpl
    unfold etx
    rw [if_neg h0, show (Go.Lib.join ((invl s e).map (prt s e)) [32] == [97, 108, 108]) = false by
      rw [beq_eq_false_iff_ne]
      intro hc
      obtain ⟨i, r, hir⟩ := List.exists_cons_of_ne_nil h0
      obtain ⟨k, v, x, rfl, _, hv, hx, _⟩ := invl_mem hs he (show i ∈ invl s e by rw [hir]; exact List.mem_cons_self)
      have h61 : (61 : UInt8) ∈ Go.Lib.join ((invl s e).map (prt s e)) [32] := by
        rw [hir, List.map_cons, Go.Lib.join_cons, prt_at hv hx]
        unfold pse
        simp
      rw [hc] at h61
      exact absurd h61 (by decide), cond_false]
    have hspl : goSpl (Go.Lib.join ((invl s e).map (prt s e)) [32]) = some () := by
      unfold goSpl
      rw [decide_eq_true (by omega), cond_true]
    rw [hspl, Option.bind_some, split_join (by simp [h0]) (fun x hx => by
      obtain ⟨i, hi, rfl⟩ := List.mem_map.1 hx
      obtain ⟨k, v, y, rfl, hk, hv, hy, h1, h2, h3, h4, h5, h6⟩ := invl_mem hs he hi
      rw [prt_at hv hy]
      exact (pse_no h1 (by omega)).1)]
    have hstep := seqC_steps (f := impl_ParseEdit_l2 s) (fun j => (lastI s e j, mixed s e (lastI s e j))) ((invl s e).map (prt s e)) 0 (fun j x hx => by
      rw [List.getElem?_map] at hx
      cases hi : (invl s e)[j]? with
      | none => rw [hi] at hx; cases hx
      | some i =>
        rw [hi] at hx
        obtain rfl := Option.some.inj hx
        obtain ⟨k, v, y, rfl, hk, hv, hy, h1, h2, h3, h4, h5, h6⟩ := invl_mem hs he (List.mem_of_getElem? hi)
        have hlt := lastI_lt hi (by omega)
        have hps := parseSet_ok (x := y.toNat) (n := v.Levels) (by omega) h2 (by unfold full at h4; omega)
        rw [show ((y.toNat : Nat) : Int) = y by omega] at hps
        have hnx : lastI s e (j + 1) = (k : Int) := lastI_succ hi
        simp only [Nat.zero_add, hnx]
        simp only [impl_ParseEdit_l2]
        rw [prt_at hv hy, pse_cut h1 (by omega)]
        simp only [Option.bind_some, nameIndex_ok hs hv, Bool.not_true, cond_false]
        rw [decide_eq_false (show ¬ (k : Int) ≤ lastI s e j by omega)]
        simp only [Option.bind_some, cond_false, at_ok hv, hps]
        rw [show (y == 0) = false by rw [beq_eq_false_iff_ne]; omega]
        simp only [cond_false, fullSet_eq (v := v) (by omega), Option.bind_some]
        rw [show (y == full v) = false by rw [beq_eq_false_iff_ne]; exact h6]
        simp only [cond_false]
        rw [at_ok (mixed_at hv hy), Option.bind_some, mixed_step hs he hi hy])
    have hinit : (lastI s e 0, mixed s e (lastI s e 0)) = ((-1 : Int), s.map full) := by
      have : lastI s e 0 = -1 := rfl
      rw [this, mixed_full hs he]
    rw [hinit] at hstep
    rw [hstep]
    simp only [Nat.zero_add, List.length_map, Option.bind_some, mixed_end hs he]

end Go.Gx.F
