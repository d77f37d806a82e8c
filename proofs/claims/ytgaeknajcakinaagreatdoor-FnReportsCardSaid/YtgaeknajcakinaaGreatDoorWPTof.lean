/- Plain laws: the cells of a table, and the records in them. -/
import Derived.Test.YtgaeknajcakinaaGreatDoorWPCel
namespace Go.Gx.F
open Go.Gx
set_option linter.all false

theorem loop_fold {α σ ρ : Type} {l : List α} (f : σ → α → σ) (I : Nat → σ → Prop) (fin : σ → ρ) {body : σ × Int → Option (Stp (σ × Int) ρ)}
    (h1 : ∀ (out : σ) (k : Nat) (x : α), l[k]? = some x → I k out → body (out, (k : Int)) = some (.next (f out x, ((k + 1 : Nat) : Int))) ∧ I (k + 1) (f out x))
    (h2 : ∀ out, I l.length out → body (out, (l.length : Int)) = some (.done (fin out))) {s : σ} (h0 : I 0 s) : loopC body (s, 0) = some (fin (l.foldl f s)) ∧ I l.length (l.foldl f s) := by
  suffices h : ∀ (j k : Nat) (s : σ), k + j = l.length → I k s → loopC body (s, (k : Int)) = some (fin ((l.drop k).foldl f s)) ∧ I l.length ((l.drop k).foldl f s) by
    have := h l.length 0 s (by omega) h0
    simpa using this
  intro j
  induction j with
  | zero =>
    intro k s hk hi
    obtain rfl : k = l.length := by omega
    rw [loopC_eq, h2 s hi, List.drop_of_length_le (Nat.le_refl _)]
    exact ⟨rfl, hi⟩
  | succ j ih =>
    intro k s hk hi
    have hx : l[k]? = some (l[k]'(by omega)) := by simp [show k < l.length by omega]
    generalize l[k]'(by omega) = x at hx
    obtain ⟨e, hi2⟩ := h1 s k x hx hi
    rw [loopC_eq, e, drop_cons hx]
    exact ih (k + 1) _ (by omega) hi2

/-! ## adding to cells -/
def addC (out : List Int) (c : Int × Int) : List Int := if 0 ≤ c.1 then out.set c.1.toNat (out.getD c.1.toNat 0 + c.2) else out

structure Inv (N k : Nat) (out : List Int) : Prop where
  l : out.length = N
  b : ∀ v ∈ out, 0 ≤ v ∧ v ≤ 8 * (k : Int)

theorem Inv.zero (N : Nat) : Inv N 0 (List.replicate N 0) := ⟨by simp, fun v hv => by have := (List.mem_replicate.1 hv).2; omega⟩

theorem addC_step {N k : Nat} {out : List Int} {c : Int × Int} (h : Inv N k out) (hc : 0 ≤ c.1 → ∃ i : Nat, c.1 = (i : Int) ∧ i < N) (ha : 0 ≤ c.2 ∧ c.2 ≤ 8) (hk : k ≤ 1000000) :
    (cond (decide (0 ≤ c.1)) ((goAt out c.1).bind fun e => ((goAt out c.1).bind fun _ => some (goSet out c.1 (w64 (e + c.2))))) (some out) : Option (List Int)) = some (addC out c) ∧ Inv N (k + 1) (addC out c) := by
  by_cases h0 : 0 ≤ c.1
  · obtain ⟨i, hi, hl⟩ := hc h0
    have hx : out[i]? = some (out[i]'(by rw [h.l]; exact hl)) := by simp
    generalize out[i]'(by rw [h.l]; exact hl) = x at hx
    have hb := h.b x (List.mem_of_getElem? hx)
    have e : addC out c = out.set i (x + c.2) := by
      unfold addC
      rw [if_pos h0, hi, show (i : Int).toNat = i by omega, List.getD_eq_getElem?_getD, hx]
      rfl
    rw [e, decide_eq_true h0, hi, at_ok hx]
    refine ⟨by simp only [cond_true, Option.bind_some]; rw [wid (by omega) (by omega)]; rfl, by rw [List.length_set, h.l], fun v hv => ?_⟩
    rcases List.mem_or_eq_of_mem_set hv with hv | rfl
    · have := h.b v hv; omega
    · omega
  · have e : addC out c = out := by unfold addC; rw [if_neg h0]
    rw [e, decide_eq_false h0]
    exact ⟨rfl, h.l, fun v hv => by have := h.b v hv; omega⟩

/-- the amounts of some records, in a cell -/
noncomputable def tabF (g : impl_Geo) (s : List impl_Variable) (t : impl_Table) (l : List impl_Record) : List Int := l.foldl (fun out r => addC out (cellF g s t r)) (List.replicate (num g s t) 0)

/-- records that may be counted -/
def Cnt (g : impl_Geo) (s : List impl_Variable) (l : List impl_Record) : Prop := ∀ r ∈ l, OkR s r ∧ r.Area ∈ leaves g.Parents

theorem OkU.cnt {g : impl_Geo} {s : List impl_Variable} {l : List impl_Record} (h : OkU g s l) : Cnt g s l := fun r hr => ⟨h.1.2 r hr, h.2 r hr⟩

theorem tabF_loop {g : impl_Geo} {s : List impl_Variable} {t : impl_Table} {l : List impl_Record} {ρ : Type} (hT : OkT g s t) (hl : l.length ≤ 1000) (hU : Cnt g s l) (fin : List Int → ρ) {body : List Int × Int → Option (Stp (List Int × Int) ρ)}
    (h1 : ∀ (out : List Int) (k : Nat) (r : impl_Record), l[k]? = some r → OkR s r → r.Area ∈ leaves g.Parents → (cond (decide (0 ≤ (cellF g s t r).1)) ((goAt out (cellF g s t r).1).bind fun e => ((goAt out (cellF g s t r).1).bind fun _ => some (goSet out (cellF g s t r).1 (w64 (e + (cellF g s t r).2))))) (some out) : Option (List Int)) = some (addC out (cellF g s t r)) →
      body (out, (k : Int)) = some (.next (addC out (cellF g s t r), ((k + 1 : Nat) : Int))))
    (h2 : ∀ out, body (out, (l.length : Int)) = some (.done (fin out))) : loopC body (List.replicate (num g s t) 0, 0) = some (fin (tabF g s t l)) ∧ Inv (num g s t) l.length (tabF g s t l) := by
  unfold tabF
  refine loop_fold (l := l) (fun out r => addC out (cellF g s t r)) (Inv (num g s t)) fin (fun out k r hr hI => ?_) (fun out _ => h2 out) (Inv.zero _)
  obtain ⟨ho, ha⟩ := hU r (List.mem_of_getElem? hr)
  have hc := (cellS_ok hT ho ha).2
  have hk := (List.getElem?_eq_some_iff.1 hr).1
  obtain ⟨e1, e2⟩ := addC_step hI hc.cell (hc.amount hT ho) (by omega)
  exact ⟨h1 out k r hr ho ha e1, e2⟩

theorem tabF_inv {g : impl_Geo} {s : List impl_Variable} {t : impl_Table} {l : List impl_Record} (hT : OkT g s t) (hl : l.length ≤ 1000) (hU : Cnt g s l) : Inv (num g s t) l.length (tabF g s t l) := by
  refine (loop_fold (l := l) (ρ := List Int) (body := fun st => cond (decide (st.2 < l.length)) ((l[st.2.toNat]?).bind fun r => some (.next (addC st.1 (cellF g s t r), st.2 + 1))) (some (.done st.1))) (fun out r => addC out (cellF g s t r)) (Inv (num g s t)) (fun out => out) (fun out k r hr hI => ?_) (fun out _ => ?_) (Inv.zero _)).2
  · obtain ⟨ho, ha⟩ := hU r (List.mem_of_getElem? hr)
    have hc := (cellS_ok hT ho ha).2
    have hk := (List.getElem?_eq_some_iff.1 hr).1
    obtain ⟨e1, e2⟩ := addC_step hI hc.cell (hc.amount hT ho) (by omega)
    refine ⟨?_, e2⟩
    simp only
    rw [decide_eq_true (show (k : Int) < l.length by omega), cond_true, show (k : Int).toNat = k by omega, hr]
    rfl
  · simp

theorem uTable_eq {g : impl_Geo} {s : List impl_Variable} {t : impl_Table} {l : List impl_Record} (hT : OkT g s t) (hl : l.length ≤ 1000) (hU : Cnt g s l) : spec_uTable g s t l = some (tabF g s t l) := by
  have hn := hT.top
  unfold spec_uTable
  rw [hT.count', Option.bind_some, goMake_ok (by omega) (by omega), Option.bind_some, (tabF_loop hT hl hU (fun out => out) (fun out k r hr ho ha e => ?_) (fun out => by simp only [spec_uTable_l1, lt_end, cond_false])).1]
  · rfl
  · simp only [spec_uTable_l1, lt_ok hr, at_ok hr, cond_true, Option.bind_some, (cellS_ok hT ho ha).1, nx_ok hr (show l.length ≤ 9223372036854775807 by omega)]
    rw [e]; rfl

/-! ## cells add up -/
noncomputable def wtR (g : impl_Geo) (s : List impl_Variable) (t : impl_Table) (j : Nat) (r : impl_Record) : Int := if (cellF g s t r).1 = (j : Int) then (cellF g s t r).2 else 0

theorem addC_get {out : List Int} {c : Int × Int} (hc : 0 ≤ c.1 → c.1.toNat < out.length) {j : Nat} (hj : j < out.length) : (addC out c).getD j 0 = out.getD j 0 + (if c.1 = (j : Int) then c.2 else 0) := by
  unfold addC
  by_cases h0 : 0 ≤ c.1
  · rw [if_pos h0]
    by_cases h : c.1 = (j : Int)
    · rw [if_pos h, show c.1.toNat = j by omega]
      simp [List.getD_eq_getElem?_getD, List.getElem?_set, hj]
    · rw [if_neg h]
      simp [List.getD_eq_getElem?_getD, List.getElem?_set, show ¬ c.1.toNat = j by omega]
  · rw [if_neg h0, if_neg (show ¬ c.1 = (j : Int) by omega)]; omega

theorem addC_len (out : List Int) (c : Int × Int) : (addC out c).length = out.length := by unfold addC; split <;> simp

theorem fold_get {g : impl_Geo} {s : List impl_Variable} {t : impl_Table} (hT : OkT g s t) {j : Nat} (hj : j < num g s t) : ∀ (l : List impl_Record) (out : List Int), Cnt g s l → out.length = num g s t → (l.foldl (fun out r => addC out (cellF g s t r)) out).getD j 0 = out.getD j 0 + (l.map (wtR g s t j)).sum
  | [], out, _, _ => by simp
  | r :: l, out, hU, ho => by
    obtain ⟨h1, h2⟩ := hU r (by simp)
    have hc := (cellS_ok hT h1 h2).2
    rw [List.foldl_cons, fold_get hT hj l _ (fun x hx => hU x (by simp [hx])) (by rw [addC_len, ho]), addC_get (fun h0 => by obtain ⟨i, hi, hl⟩ := hc.cell h0; omega) (by omega), List.map_cons, List.sum_cons]
    unfold wtR
    omega

theorem tabF_get {g : impl_Geo} {s : List impl_Variable} {t : impl_Table} {l : List impl_Record} (hT : OkT g s t) (hU : Cnt g s l) {j : Nat} (hj : j < num g s t) : (tabF g s t l).getD j 0 = (l.map (wtR g s t j)).sum := by
  unfold tabF
  rw [fold_get hT hj l _ hU (by simp)]
  have : (List.replicate (num g s t) (0 : Int)).getD j 0 = 0 := by simp [List.getD_eq_getElem?_getD, List.getElem?_replicate, hj]
  omega

/-! ## the records in a cell -/
noncomputable def inCell (g : impl_Geo) (s : List impl_Variable) (t : impl_Table) (l : List impl_Record) (i : Int) (k : Nat) : Bool := match l[k]? with
  | some r => (cellF g s t r).1 == i
  | none => false

noncomputable def recF (g : impl_Geo) (s : List impl_Variable) (t : impl_Table) (l : List impl_Record) (i : Int) : List Int := picks (inCell g s t l i) (fun k => (k : Int)) l.length

theorem inCell_at {g : impl_Geo} {s : List impl_Variable} {t : impl_Table} {l : List impl_Record} {i : Int} {k : Nat} {r : impl_Record} (h : l[k]? = some r) : inCell g s t l i k = ((cellF g s t r).1 == i) := by unfold inCell; rw [h]

end Go.Gx.F
