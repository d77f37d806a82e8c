/- Plain laws: base tables, sources, sizes and the cheapest source of a plan. -/
import Derived.Test.YtnmimeojimfogaaBPJoins
import Derived.Test.YtnmimeojimfogaaBPChn

namespace Go.Gx.F

open Go.Gx

set_option linter.all false

/-! ## loops whose states are known -/

theorem loop_F {τ σ ρ : Type} (mk : Int → σ → τ) (n : Nat) (F : Nat → σ) {body : τ → Option (Stp τ ρ)} {r : ρ} (h1 : ∀ k, k < n → body (mk (k : Int) (F k)) = some (.next (mk ((k + 1 : Nat) : Int) (F (k + 1)))))
    (h2 : body (mk (n : Int) (F n)) = some (.done r)) : loopC body (mk 0 (F 0)) = some r := by
  suffices h : ∀ (j k : Nat), k + j = n → loopC body (mk (k : Int) (F k)) = some r from h n 0 (by omega)
  intro j
  induction j with
  | zero =>
    intro k hk
    obtain rfl : k = n := by omega
    rw [loopC_eq, h2]
  | succ j ih =>
    intro k hk
    rw [loopC_eq, h1 k (by omega)]
    exact ih (k + 1) (by omega)

theorem get_of {α : Type} {l : List α} {k : Nat} (h : k < l.length) : ∃ x, l[k]? = some x := ⟨l[k], by simp [h]⟩

/-! ## what follows is a preorder -/

theorem Fol.refl {g : impl_Geo} {s : List impl_Variable} {t : impl_Table} : Fol g s t t := ⟨.inl rfl, fun _ h => h, fun k _ => ⟨fun _ => Nat.and_self _, fun _ => rfl⟩, .inl rfl⟩

theorem Fol.trans {g : impl_Geo} {s : List impl_Variable} {t u w : impl_Table} (h : Fol g s t u) (k : Fol g s u w) : Fol g s t w := by
  refine ⟨?_, fun v hv => k.vars v (h.vars v hv), fun j hj => ⟨fun hw => ?_, fun hw => ?_⟩, ?_⟩
  · rcases h.lvl with h1 | ⟨h1, h2⟩
    · rw [h1]; exact k.lvl
    · rcases k.lvl with k1 | ⟨k1, k2⟩
      · rw [← k1]; exact .inr ⟨h1, h2⟩
      · exact .inr ⟨by omega, fun n hn hl hd => k2 n hn hl (h2 n hn hl hd)⟩
  · have e2 := (k.sets j hj).1 hw
    by_cases hu : (j : Int) ∈ u.Vars
    · have e1 := (h.sets j hj).1 hu
      calc cset s t j &&& cset s w j = (cset s t j &&& cset s u j) &&& cset s w j := by rw [e1]
        _ = cset s t j &&& (cset s u j &&& cset s w j) := Nat.and_assoc ..
        _ = cset s t j := by rw [e2, e1]
    · rw [(h.sets j hj).2 hu]; exact e2
  · have hu : (j : Int) ∉ u.Vars := fun hc => hw (k.vars _ hc)
    rw [(h.sets j hj).2 hu, (k.sets j hj).2 hw]
  · rcases h.sum with h1 | ⟨h1, h2⟩
    · rw [h1]; exact k.sum
    · rcases k.sum with k1 | ⟨k1, k2⟩
      · exact .inr ⟨by omega, k.vars _ h2⟩
      · exact .inr ⟨k1, k.vars _ h2⟩

noncomputable def fk (g : impl_Geo) (s : List impl_Variable) (l : List impl_Table) (i k : Nat) : Bool := @decide (∃ t u, l[i]? = some t ∧ l[k]? = some u ∧ Fol g s t u) (Classical.propDecidable _)

section

variable {g : impl_Geo} {s : List impl_Variable} {l : List impl_Table}

theorem fk_iff {i k : Nat} : fk g s l i k = true ↔ ∃ t u, l[i]? = some t ∧ l[k]? = some u ∧ Fol g s t u := by
  unfold fk
  exact @decide_eq_true_iff _ (Classical.propDecidable _)

theorem fk_ok (hl : OkP g s l) {i k : Nat} {t u : impl_Table} (ht : l[i]? = some t) (hu : l[k]? = some u) : impl_followsFrom g s t u = some (fk g s l i k) ∧ spec_lFollows g s t u = some (fk g s l i k) := by
  obtain ⟨b, e1, e2, h⟩ := follows (hl.tab t (List.mem_of_getElem? ht)) (hl.tab u (List.mem_of_getElem? hu))
  have : b = fk g s l i k := by
    rw [Bool.eq_iff_iff, h, fk_iff]
    constructor
    · intro h; exact ⟨t, u, ht, hu, h⟩
    · rintro ⟨t', u', h1, h2, h3⟩
      rw [ht] at h1; rw [hu] at h2
      obtain rfl := Option.some.inj h1
      obtain rfl := Option.some.inj h2
      exact h3
  rw [← this]
  exact ⟨e1, e2⟩

theorem fk_refl {i : Nat} (h : i < l.length) : fk g s l i i = true := by
  obtain ⟨t, ht⟩ := get_of h
  exact fk_iff.2 ⟨t, t, ht, ht, Fol.refl⟩

theorem fk_trans {i j k : Nat} (h1 : fk g s l i j = true) (h2 : fk g s l j k = true) : fk g s l i k = true := by
  obtain ⟨t, u, ht, hu, hF⟩ := fk_iff.1 h1
  obtain ⟨u', w, hu', hw, hG⟩ := fk_iff.1 h2
  rw [hu] at hu'
  obtain rfl := Option.some.inj hu'
  exact fk_iff.2 ⟨t, w, ht, hw, hF.trans hG⟩

noncomputable def abv (g : impl_Geo) (s : List impl_Variable) (l : List impl_Table) (k i : Nat) : Bool := (k != i) && fk g s l i k && (decide (k < i) || !fk g s l k i)

theorem abv_ord : Ord l.length (abv g s l) := by
  refine ⟨fun a b c ha hb hc h1 h2 => ?_, fun a _ => by simp [abv]⟩
  unfold abv at h1 h2 ⊢
  simp only [Bool.and_eq_true, Bool.or_eq_true, bne_iff_ne, ne_eq, decide_eq_true_eq, Bool.not_eq_true'] at h1 h2 ⊢
  obtain ⟨⟨n1, f1⟩, o1⟩ := h1
  obtain ⟨⟨n2, f2⟩, o2⟩ := h2
  have f3 := fk_trans f2 f1
  by_cases h : fk g s l a c = true
  · have e1 : fk g s l a b = true := fk_trans h f2
    have e2 : fk g s l b c = true := fk_trans f1 h
    rcases o1 with o1 | o1
    · rcases o2 with o2 | o2
      · exact ⟨⟨by omega, f3⟩, .inl (by omega)⟩
      · rw [e2] at o2; cases o2
    · rw [e1] at o1; cases o1
  · simp only [Bool.not_eq_true] at h
    refine ⟨⟨?_, f3⟩, .inr h⟩
    rintro rfl
    rw [fk_refl ha] at h
    cases h

noncomputable def bse (g : impl_Geo) (s : List impl_Variable) (l : List impl_Table) (i : Nat) : Bool := !(List.range l.length).any (fun k => abv g s l k i)

noncomputable def bss (g : impl_Geo) (s : List impl_Variable) (l : List impl_Table) : List Nat := (List.range l.length).filter (bse g s l)

theorem bss_mem {i : Nat} : i ∈ bss g s l ↔ i < l.length ∧ bse g s l i = true := by simp [bss]

theorem bss_over : ∀ (i : Nat), i < l.length → ∃ j ∈ bss g s l, fk g s l i j = true := by
  intro i
  induction hr : rk l.length (abv g s l) i using Nat.strongRecOn generalizing i with
  | ind r ih =>
    intro hi
    cases hb : bse g s l i with
    | true => exact ⟨i, bss_mem.2 ⟨hi, hb⟩, fk_refl hi⟩
    | false =>
      unfold bse at hb
      simp only [Bool.not_eq_false', List.any_eq_true, List.mem_range] at hb
      obtain ⟨k, hk, hak⟩ := hb
      obtain ⟨j, hj, hf⟩ := ih _ (by rw [← hr]; exact rk_lt abv_ord hk hi hak) k rfl hk
      refine ⟨j, hj, fk_trans ?_ hf⟩
      unfold abv at hak
      simp only [Bool.and_eq_true] at hak
      exact hak.1.2

theorem base_in (hl : OkP g s l) {i : Nat} {t : impl_Table} (ht : l[i]? = some t) :
    loopC (impl_BaseTables_l2 g s l (i : Int) t) (true, 0) = some (bse g s l i) ∧ loopC (spec_BaseTables_l2 g s l (i : Int) t) (true, 0) = some (bse g s l i) := by
  have hn := hl.n
  have hb : ∀ (k : Nat) (b : Bool), k < l.length → ∃ u, l[k]? = some u ∧
      (cond ((k : Int) != (i : Int)) ((impl_followsFrom g s t u).bind fun t_21 => (cond t_21 (cond (decide ((i : Int) < (k : Int))) ((impl_followsFrom g s u t).bind fun t_22 => some (!t_22)) (some (!false))) (some false))) (some false)) = some (abv g s l k i) ∧
      (cond ((k : Int) != (i : Int)) ((spec_lFollows g s t u).bind fun t_21 => (cond t_21 (cond (decide ((k : Int) < (i : Int))) (some true) ((spec_lFollows g s u t).bind fun t_22 => some (!t_22))) (some false))) (some false)) = some (abv g s l k i) := by
    intro k b hk
    obtain ⟨u, hu⟩ := get_of hk
    refine ⟨u, hu, ?_⟩
    obtain ⟨e1, e2⟩ := fk_ok hl ht hu
    obtain ⟨e3, e4⟩ := fk_ok hl hu ht
    rw [e1, e2, e3, e4]
    unfold abv
    by_cases h : k = i
    · subst h; simp
    · have h' : ((k : Int) != (i : Int)) = true := by simp; omega
      have h2 : (k != i) = true := by simp [h]
      rw [h', h2]
      simp only [cond_true, Option.bind_some, Bool.true_and]
      cases fk g s l i k with
      | false => exact ⟨rfl, rfl⟩
      | true =>
        simp only [cond_true, Bool.true_and]
        by_cases hlt : k < i
        · have a1 : decide ((i : Int) < (k : Int)) = false := by simp; omega
          have a2 : decide ((k : Int) < (i : Int)) = true := by simp; omega
          rw [a1, a2, decide_eq_true hlt]
          exact ⟨rfl, rfl⟩
        · have a1 : decide ((i : Int) < (k : Int)) = true := by simp; omega
          have a2 : decide ((k : Int) < (i : Int)) = false := by simp; omega
          rw [a1, a2, decide_eq_false hlt]
          exact ⟨rfl, rfl⟩
  have hF : ∀ k, (cond (abv g s l k i) (some false) (some (!(List.range k).any fun k => abv g s l k i)) : Option Bool) = some (!(List.range (k + 1)).any fun k => abv g s l k i) := by
    intro k
    rw [List.range_succ, List.any_append, show ([k] : List Nat).any (fun k => abv g s l k i) = abv g s l k i by simp]
    cases abv g s l k i <;> simp
  constructor
  · refine loop_F (fun k b => (b, k)) l.length (fun k => !(List.range k).any fun k => abv g s l k i) (fun k hk => ?_) ?_
    · obtain ⟨u, hu, e1, _⟩ := hb k true hk
      simp only [impl_BaseTables_l2, lt_ok hu, at_ok hu, cond_true, Option.bind_some, nx_ok hu (show l.length ≤ 9223372036854775807 by omega)]
      rw [e1, Option.bind_some, hF, Option.bind_some]
    · simp only [impl_BaseTables_l2, lt_end, cond_false]
      rfl
  · refine loop_F (fun k b => (b, k)) l.length (fun k => !(List.range k).any fun k => abv g s l k i) (fun k hk => ?_) ?_
    · obtain ⟨u, hu, _, e1⟩ := hb k true hk
      simp only [spec_BaseTables_l2, lt_ok hu, at_ok hu, cond_true, Option.bind_some, nx_ok hu (show l.length ≤ 9223372036854775807 by omega)]
      rw [e1, Option.bind_some, hF, Option.bind_some]
    · simp only [spec_BaseTables_l2, lt_end, cond_false]
      rfl

theorem filt_step {p : Nat → Bool} {k n : Nat} (hk : k < n) (hn : n ≤ 1000) : (((cond (p k) ((goApp 8 (((List.range k).filter p).map Int.ofNat) ([(k : Int)] : List Int)).bind fun l_27 => some l_27) (some (((List.range k).filter p).map Int.ofNat))) : Option (List Int))) = some (((List.range (k + 1)).filter p).map Int.ofNat) := by
  have h := List.length_filter_le p (List.range k)
  rw [List.length_range] at h
  rw [List.range_succ, List.filter_append, List.map_append]
  cases hp : p k with
  | false => simp [hp]
  | true =>
    rw [cond_true, goApp_ok (by simp; omega), Option.bind_some]
    simp [hp]

theorem Base_same (hs : TameS s) (hl : TameP l) : (impl_BaseTables g s l = some ([], false) ∧ spec_BaseTables g s l = some ([], false)) ∨
    (OkP g s l ∧ impl_BaseTables g s l = some ((bss g s l).map Int.ofNat, true) ∧ spec_BaseTables g s l = some ((bss g s l).map Int.ofNat, true)) := by
  obtain ⟨b, e1, e2, hb⟩ := plans (g := g) hs hl
  unfold impl_BaseTables spec_BaseTables
  rw [e1, e2]
  cases b with
  | false => exact .inl ⟨rfl, rfl⟩
  | true =>
    have hP := hb.1 rfl
    have hn := hP.n
    refine .inr ⟨hP, ?_, ?_⟩
    · have h := loop_F (fun k (o : List Int) => (o, k)) l.length (fun k => ((List.range k).filter (bse g s l)).map Int.ofNat) (body := impl_BaseTables_l1 g s l) (r := (bss g s l).map Int.ofNat) (fun k hk => by
        obtain ⟨u, hu⟩ := get_of hk
        simp only [impl_BaseTables_l1, lt_ok hu, at_ok hu, cond_true, Option.bind_some, nx_ok hu (show l.length ≤ 9223372036854775807 by omega)]
        rw [(base_in hP hu).1, Option.bind_some, filt_step hk (by omega), Option.bind_some]) (by simp only [impl_BaseTables_l1, lt_end, cond_false]; rfl)
      simp only [Option.bind_some, Bool.not_true, cond_false]
      rw [show loopC (impl_BaseTables_l1 g s l) (([] : List Int), 0) = _ from h]
      rfl
    · have h := loop_F (fun k (o : List Int) => (o, k)) l.length (fun k => ((List.range k).filter (bse g s l)).map Int.ofNat) (body := spec_BaseTables_l1 g s l) (r := (bss g s l).map Int.ofNat) (fun k hk => by
        obtain ⟨u, hu⟩ := get_of hk
        simp only [spec_BaseTables_l1, lt_ok hu, at_ok hu, cond_true, Option.bind_some, nx_ok hu (show l.length ≤ 9223372036854775807 by omega)]
        rw [(base_in hP hu).2, Option.bind_some, filt_step hk (by omega), Option.bind_some]) (by simp only [spec_BaseTables_l1, lt_end, cond_false]; rfl)
      simp only [Option.bind_some, Bool.not_true, cond_false]
      rw [show loopC (spec_BaseTables_l1 g s l) (([] : List Int), 0) = _ from h]
      rfl

/-! ## sources -/

noncomputable def src (g : impl_Geo) (s : List impl_Variable) (l : List impl_Table) (i k : Nat) : List Int := ((List.range k).filter (fun k => fk g s l i k)).map Int.ofNat

theorem src_len {i k : Nat} : (src g s l i k).length ≤ k := by
  unfold src
  rw [List.length_map]
  have := List.length_filter_le (fun k => fk g s l i k) (List.range k)
  simpa using this

theorem src_step (hn : l.length ≤ 1000) {i k : Nat} (hk : k < l.length) : (((cond (fk g s l i k) ((goApp 8 (src g s l i k) ([(k : Int)] : List Int)).bind fun l_25 => some l_25) (some (src g s l i k))) : Option (List Int))) = some (src g s l i (k + 1)) := filt_step hk hn

theorem set_same {α : Type} {l : List α} {i : Nat} {x : α} (h : l[i]? = some x) : l.set i x = l := by
  obtain ⟨h1, h2⟩ := List.getElem?_eq_some_iff.1 h
  subst h2
  simp

theorem src_in1 (hl : OkP g s l) {i : Nat} {t : impl_Table} (ht : l[i]? = some t) {out : List (List Int)} (ho : out[i]? = some []) : loopC (impl_SourcesIn_l2 g s l (i : Int) t) (out, 0) = some (out.set i (src g s l i l.length)) := by
  have hn := hl.n
  have hlt := (List.getElem?_eq_some_iff.1 ho).1
  have h := loop_F (fun k (o : List (List Int)) => (o, k)) l.length (fun k => out.set i (src g s l i k)) (body := impl_SourcesIn_l2 g s l (i : Int) t) (r := out.set i (src g s l i l.length)) (fun k hk => by
    obtain ⟨u, hu⟩ := get_of hk
    have hg : goAt (out.set i (src g s l i k)) (i : Int) = some (src g s l i k) := at_ok (by simp [hlt])
    simp only [impl_SourcesIn_l2, lt_ok hu, at_ok hu, cond_true, Option.bind_some, nx_ok hu (show l.length ≤ 9223372036854775807 by omega), (fk_ok hl ht hu).1]
    have hstep := src_step (g := g) (s := s) (i := i) (by omega) hk
    cases hf : fk g s l i k with
    | false =>
      rw [hf] at hstep
      simp only [cond_false] at hstep ⊢
      rw [← Option.some.inj hstep]
      rfl
    | true =>
      rw [hf] at hstep
      simp only [cond_true] at hstep ⊢
      have hle := src_len (g := g) (s := s) (l := l) (i := i) (k := k)
      have hlen : ∀ x : List Int, x.length ≤ 1000 → goApp 8 x [(k : Int)] = some (x ++ [(k : Int)]) := fun x hx => goApp_ok (by simp; omega)
      rw [hlen _ (by omega)] at hstep
      rw [hg, Option.bind_some, hlen _ (by omega), Option.bind_some, Option.bind_some]
      rw [Option.bind_some] at hstep
      rw [Option.some.inj hstep]
      simp [goSet]) (by simp only [impl_SourcesIn_l2, lt_end, cond_false])
  have e : out.set i (src g s l i 0) = out := set_same ho
  rw [e] at h
  exact h

theorem src_in2 (hl : OkP g s l) {i : Nat} {t : impl_Table} (ht : l[i]? = some t) : loopC (spec_SourcesIn_l2 g s l t) (([] : List Int), 0) = some (src g s l i l.length) := by
  have hn := hl.n
  exact loop_F (fun k (o : List Int) => (o, k)) l.length (fun k => src g s l i k) (body := spec_SourcesIn_l2 g s l t) (r := src g s l i l.length) (fun k hk => by
    obtain ⟨u, hu⟩ := get_of hk
    simp only [spec_SourcesIn_l2, lt_ok hu, at_ok hu, cond_true, Option.bind_some, nx_ok hu (show l.length ≤ 9223372036854775807 by omega), (fk_ok hl ht hu).2]
    rw [src_step (by omega) hk, Option.bind_some]) (by simp only [spec_SourcesIn_l2, lt_end, cond_false])

noncomputable def srcs (g : impl_Geo) (s : List impl_Variable) (l : List impl_Table) : List (List Int) := (List.range l.length).map fun i => src g s l i l.length

theorem repl_set {β : Type} {f : Nat → β} {z : β} {n k : Nat} (hk : k < n) : ((List.range k).map f ++ List.replicate (n - k) z).set k (f k) = (List.range (k + 1)).map f ++ List.replicate (n - (k + 1)) z := by
  obtain ⟨m, hm⟩ : ∃ m, n - k = m + 1 := ⟨n - k - 1, by omega⟩
  rw [hm, show n - (k + 1) = m by omega, List.replicate_succ, List.range_succ, List.map_append]
  simp [List.set_append]

theorem repl_at {β : Type} {f : Nat → β} {z : β} {n k : Nat} (hk : k < n) : ((List.range k).map f ++ List.replicate (n - k) z)[k]? = some z := by
  rw [List.getElem?_append_right (by simp)]
  simp [List.getElem?_replicate]
  omega

theorem Sources_ok (hl : OkP g s l) (hi : impl_isPlan g s l = some true) (hq : spec_nPlan g s l = some true) : impl_SourcesIn g s l = some (srcs g s l, true) ∧ spec_SourcesIn g s l = some (srcs g s l, true) := by
  have hn := hl.n
  constructor
  · unfold impl_SourcesIn
    rw [hi]
    simp only [Option.bind_some, Bool.not_true, cond_false]
    rw [goMake_ok (by omega) (by omega), Option.bind_some]
    have h := loop_F (fun k (o : List (List Int)) => (o, k)) l.length (fun k => (List.range k).map (fun i => src g s l i l.length) ++ List.replicate (l.length - k) []) (body := impl_SourcesIn_l1 g s l) (r := srcs g s l) (fun k hk => by
      obtain ⟨u, hu⟩ := get_of hk
      simp only [impl_SourcesIn_l1, lt_ok hu, at_ok hu, cond_true, Option.bind_some, nx_ok hu (show l.length ≤ 9223372036854775807 by omega)]
      rw [src_in1 hl hu (repl_at hk), Option.bind_some, repl_set (f := fun i => src g s l i l.length) hk]) (by simp [impl_SourcesIn_l1, lt_end, srcs])
    rw [show loopC (impl_SourcesIn_l1 g s l) (List.replicate l.length ([] : List Int), 0) = some (srcs g s l) by simpa using h]
    rfl
  · unfold spec_SourcesIn
    rw [hq]
    simp only [Option.bind_some, Bool.not_true, cond_false]
    have h := loop_F (fun k (o : List (List Int)) => (o, k)) l.length (fun k => (List.range k).map (fun i => src g s l i l.length)) (body := spec_SourcesIn_l1 g s l) (r := srcs g s l) (fun k hk => by
      obtain ⟨u, hu⟩ := get_of hk
      simp only [spec_SourcesIn_l1, lt_ok hu, at_ok hu, cond_true, Option.bind_some, nx_ok hu (show l.length ≤ 9223372036854775807 by omega)]
      rw [src_in2 hl hu, Option.bind_some, goApp_ok (by simp; omega), Option.bind_some, List.range_succ, List.map_append]
      rfl) (by simp [spec_SourcesIn_l1, lt_end, srcs])
    rw [show loopC (spec_SourcesIn_l1 g s l) (([] : List (List Int)), 0) = _ from h]
    rfl

/-! ## sizes -/

def nums (g : impl_Geo) (s : List impl_Variable) (l : List impl_Table) : List Int := l.map fun t => (num g s t : Int)

theorem Sizes_ok (hl : OkP g s l) (hi : impl_isPlan g s l = some true) (hq : spec_nPlan g s l = some true) : impl_PlanSizes g s l = some (nums g s l, true) ∧ spec_PlanSizes g s l = some (nums g s l, true) := by
  have hn := hl.n
  constructor
  · unfold impl_PlanSizes
    rw [hi]
    simp only [Option.bind_some, Bool.not_true, cond_false]
    rw [goMake_ok (by omega) (by omega), Option.bind_some]
    rw [loop_map (l := l) (fun t => (num g s t : Int)) 0 _ (fun k t out ht ho => by
      have hk := (List.getElem?_eq_some_iff.1 ht).1
      obtain ⟨x, hx⟩ := get_of (l := out) (k := k) (by omega)
      simp only [impl_PlanSizes_l1, lt_ok ht, at_ok ht, cond_true, Option.bind_some, nx_ok ht (show l.length ≤ 9223372036854775807 by omega), (hl.tab t (List.mem_of_getElem? ht)).count, at_ok hx]
      simp [goSet]) (fun out => by simp only [impl_PlanSizes_l1, lt_end, cond_false])]
    rfl
  · unfold spec_PlanSizes
    rw [hq]
    simp only [Option.bind_some, Bool.not_true, cond_false]
    have h := loop_F (fun k (o : List Int) => (o, k)) l.length (fun k => (l.take k).map (fun t => (num g s t : Int))) (body := spec_PlanSizes_l1 g s l) (r := nums g s l) (fun k hk => by
      obtain ⟨u, hu⟩ := get_of hk
      simp only [spec_PlanSizes_l1, lt_ok hu, at_ok hu, cond_true, Option.bind_some, nx_ok hu (show l.length ≤ 9223372036854775807 by omega), (hl.tab u (List.mem_of_getElem? hu)).count']
      rw [goApp_ok (by simp; omega), Option.bind_some]
      have : l.take (k + 1) = l.take k ++ [u] := by rw [List.take_add_one, hu]; rfl
      rw [this, List.map_append]
      rfl) (by simp [spec_PlanSizes_l1, lt_end, nums])
    simp only [List.take_zero, List.map_nil] at h
    rw [show loopC (spec_PlanSizes_l1 g s l) (([] : List Int), 0) = _ from h]
    rfl

end

end Go.Gx.F
