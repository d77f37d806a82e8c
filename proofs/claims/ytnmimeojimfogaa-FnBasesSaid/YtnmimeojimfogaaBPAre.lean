/- Plain laws: areas of a geography: levels, ancestors, leaves. -/
import Derived.Test.YtnmimeojimfogaaBPTre

namespace Go.Gx.F

open Go.Gx

set_option linter.all false

/-! ## those that are picked, by their numbers -/

def picks {α : Type} (sel : Nat → Bool) (f : Nat → α) : Nat → List α
  | 0 => []
  | n + 1 => cond (sel n) (picks sel f n ++ [f n]) (picks sel f n)

theorem picks_len {α : Type} {sel : Nat → Bool} {f : Nat → α} : ∀ n, (picks sel f n).length ≤ n
  | 0 => Nat.le_refl _
  | n + 1 => by
    have := picks_len (sel := sel) (f := f) n
    rw [picks]
    cases sel n <;> simp <;> omega

theorem mem_picks {α : Type} {sel : Nat → Bool} {f : Nat → α} {x : α} : ∀ {n : Nat}, x ∈ picks sel f n ↔ ∃ k, k < n ∧ sel k = true ∧ f k = x
  | 0 => by simp [picks]
  | n + 1 => by
    rw [picks]
    cases h : sel n with
    | true =>
      rw [cond_true, List.mem_append, mem_picks, List.mem_singleton]
      constructor
      · rintro (⟨k, h1, h2, h3⟩ | rfl)
        · exact ⟨k, by omega, h2, h3⟩
        · exact ⟨n, by omega, h, rfl⟩
      · rintro ⟨k, h1, h2, h3⟩
        by_cases hk : k = n
        · subst hk; exact .inr h3.symm
        · exact .inl ⟨k, by omega, h2, h3⟩
    | false =>
      rw [cond_false, mem_picks]
      constructor
      · rintro ⟨k, h1, h2, h3⟩; exact ⟨k, by omega, h2, h3⟩
      · rintro ⟨k, h1, h2, h3⟩
        by_cases hk : k = n
        · subst hk; rw [h] at h2; cases h2
        · exact ⟨k, by omega, h2, h3⟩

def pos (sel : Nat → Bool) (k : Nat) : Nat := (picks sel (fun i => i) k).length

theorem loop_sel {α : Type} {n : Nat} (sel : Nat → Bool) (f : Nat → α) {body : List α × Int → Option (Stp (List α × Int) (List α))}
    (h1 : ∀ (out : List α) (k : Nat), k < n → out.length ≤ k → body (out, (k : Int)) = some (.next (cond (sel k) (out ++ [f k]) out, ((k + 1 : Nat) : Int))))
    (h2 : ∀ out : List α, body (out, (n : Int)) = some (.done out)) : loopC body ([], 0) = some (picks sel f n) := by
  suffices h : ∀ (j k : Nat), k + j = n → loopC body (picks sel f k, (k : Int)) = some (picks sel f n) from h n 0 (by omega)
  intro j
  induction j with
  | zero =>
    intro k hk
    obtain rfl : k = n := by omega
    rw [loopC_eq, h2]
  | succ j ih =>
    intro k hk
    rw [loopC_eq, h1 _ k (by omega) (picks_len k)]
    exact ih (k + 1) (by omega)

theorem loop_first {ρ : Type} {l : List Int} {x : Int} {p : Nat} (r : Nat → ρ) {body : Int → Option (Stp Int (Unit ⊕ ρ))}
    (h1 : ∀ (k : Nat) (y : Int), l[k]? = some y → body k = some (cond (y == x) (.done (.inr (r k))) (.next ((k + 1 : Nat) : Int))))
    (hp : l[p]? = some x) (hb : ∀ (k : Nat), k < p → l[k]? ≠ some x) : loopC body 0 = some (.inr (r p)) := by
  have hpl := (List.getElem?_eq_some_iff.1 hp).1
  suffices h : ∀ (j k : Nat), k + j = p → loopC body (k : Int) = some (.inr (r p)) from h p 0 (by omega)
  intro j
  induction j with
  | zero =>
    intro k hk
    obtain rfl : k = p := by omega
    rw [loopC_eq, h1 k x hp, beq_self_eq_true]; rfl
  | succ j ih =>
    intro k hk
    have hy : l[k]? = some (l[k]'(by omega)) := by simp [show k < l.length by omega]
    have hne := hb k (by omega)
    generalize l[k]'(by omega) = y at hy
    rw [hy] at hne
    rw [loopC_eq, h1 k y hy, show (y == x) = false by simpa using fun e => hne (by rw [e])]
    exact ih (k + 1) (by omega)

theorem l1Has_bis {l : List Int} {x : Int} (hl : l.length ≤ 1000000) : Bis (spec_l1Has l x) (x ∈ l) := by
  unfold spec_l1Has
  obtain ⟨b, hb, e⟩ := loop_find (l := l) (body := spec_l1Has_l1 l x) (fun _ y => y = x) true (fun k y hy => ⟨y == x, by simp, by
    simp only [spec_l1Has_l1, lt_ok hy, at_ok hy, cond_true, Option.bind_some, nx_ok hy (show l.length ≤ 9223372036854775807 by omega)]; exact cond_some⟩) (by simp only [spec_l1Has_l1, lt_end, cond_false])
  rw [e]
  refine ⟨b, by cases b <;> rfl, ?_⟩
  rw [hb]
  constructor
  · rintro ⟨k, y, hy, rfl⟩; exact List.mem_of_getElem? hy
  · intro h
    obtain ⟨k, hk⟩ := List.getElem?_of_mem h
    exact ⟨k, x, hk, rfl⟩

theorem contains_bis {l : List Int} {x : Int} (hl : l.length ≤ 1000000) : Bis (slices_Contains_int_int l x) (x ∈ l) := by
  unfold slices_Contains_int_int slices_Index_int_int
  by_cases h : x ∈ l
  · -- the first place
    have hex : ∃ k : Nat, l[k]? = some x := List.getElem?_of_mem h
    obtain ⟨p, hp, hb⟩ : ∃ p : Nat, l[p]? = some x ∧ ∀ k, k < p → l[k]? ≠ some x := by
      obtain ⟨k, hk⟩ := hex
      induction k using Nat.strongRecOn with
      | _ k ih =>
        by_cases hj : ∃ j, j < k ∧ l[j]? = some x
        · obtain ⟨j, h1, h2⟩ := hj; exact ih j h1 h2
        · exact ⟨k, hk, fun j h1 h2 => hj ⟨j, h1, h2⟩⟩
    rw [loop_first (fun k => (k : Int)) (fun k y hy => by
      simp only [slices_Index_int_int_l1, lt_ok hy, at_ok hy, cond_true, Option.bind_some, nx_ok hy (show l.length ≤ 9223372036854775807 by omega), show (x == y) = (y == x) from Bool.beq_comm]; exact cond_some) hp hb]
    exact ⟨true, by simp, by simp [h]⟩
  · obtain ⟨b, hb, e⟩ := loop_find (l := l) (body := slices_Index_int_int_l1 l x) (fun _ y => y = x) (0 : Int) (fun k y hy => ⟨false, by simp; exact fun e => h (e ▸ List.mem_of_getElem? hy), by
      simp only [slices_Index_int_int_l1, lt_ok hy, at_ok hy, cond_true, Option.bind_some, nx_ok hy (show l.length ≤ 9223372036854775807 by omega)]
      rw [show (x == y) = false by simpa using fun e : x = y => h (e ▸ List.mem_of_getElem? hy)]; rfl⟩) (by simp only [slices_Index_int_int_l1, lt_end, cond_false])
    have : b = false := by
      cases b with
      | false => rfl
      | true => obtain ⟨k, y, hy, rfl⟩ := hb.1 rfl; exact absurd (List.mem_of_getElem? hy) h
    subst this
    rw [e]
    exact ⟨false, by simp, by simp [h]⟩

/-! ## levels -/

def dep (p : List Int) (i : Nat) : Nat := (gpath p i).length - 1

def atL (p : List Int) (L : Int) (i : Nat) : Bool := ((dep p i : Nat) : Int) == L

def lev (p : List Int) (L : Int) : List Int := picks (atL p L) (fun k => (k : Int)) p.length

theorem lev_len (p : List Int) (L : Int) : (lev p L).length ≤ p.length := picks_len _

theorem gLevel_eq {g : impl_Geo} (h : GeoOk g.Parents) (L : Int) : spec_gLevel g L = some (lev g.Parents L) := by
  have hl := h.l2
  unfold spec_gLevel
  rw [loop_sel (n := g.Parents.length) (atL g.Parents L) (fun k => (k : Int)) (fun out k hk ho => ?_) (fun out => by simp only [spec_gLevel_l1, lt_end, cond_false])]
  · rfl
  · have hx : g.Parents[k]? = some g.Parents[k] := by simp [hk]
    simp only [spec_gLevel_l1, lt_ok hx, cond_true, spec_gDepth_eq h hk, Option.bind_some, nx_ok hx (show g.Parents.length ≤ 9223372036854775807 by omega)]
    rw [show ((((gpath g.Parents k).length - 1 : Nat) : Int) == L) = atL g.Parents L k from rfl]
    cases atL g.Parents L k
    · rfl
    · rw [cond_true, goApp_ok (by simp; omega)]; rfl

theorem areasAt_eq {g : impl_Geo} (h : GeoOk g.Parents) (L : Int) : impl_areasAt g L = some (lev g.Parents L) := by
  have hl := h.l2
  unfold impl_areasAt
  rw [loop_sel (n := g.Parents.length) (atL g.Parents L) (fun k => (k : Int)) (fun out k hk ho => ?_) (fun out => by simp only [impl_areasAt_l1, lt_end, cond_false])]
  · rfl
  · have hx : g.Parents[k]? = some g.Parents[k] := by simp [hk]
    simp only [impl_areasAt_l1, lt_ok hx, cond_true, impl_depthOf_eq h hk, Option.bind_some, nx_ok hx (show g.Parents.length ≤ 9223372036854775807 by omega)]
    rw [show ((((gpath g.Parents k).length - 1 : Nat) : Int) == L) = atL g.Parents L k from rfl]
    cases atL g.Parents L k
    · rfl
    · rw [cond_true, goApp_ok (by simp; omega)]; rfl

/-! ## ancestors -/

def anc (p : List Int) (i : Nat) (L : Int) : Int := if 0 ≤ L then ((gpath p i)[L.toNat]?).getD (-1) else -1

theorem anc_cases {p : List Int} (h : GeoOk p) {i : Nat} (hi : i < p.length) (L : Int) : (anc p i L = -1) ∨ ∃ n k : Nat, L = (k : Int) ∧ anc p i L = (n : Int) ∧ n ≤ i ∧ (gpath p i)[k]? = some (n : Int) ∧ atL p L n = true := by
  unfold anc
  by_cases h0 : 0 ≤ L
  · rw [if_pos h0]
    obtain ⟨k, rfl⟩ := Int.eq_ofNat_of_zero_le h0
    cases e : (gpath p i)[(k : Int).toNat]? with
    | none => left; rfl
    | some a =>
      right
      obtain ⟨n, n1, n2, _, n4⟩ := gpath_at h i hi _ _ e
      refine ⟨n, k, rfl, n2, n1, ?_, ?_⟩
      · rw [← n2]; exact e
      · unfold atL dep; rw [n4]; simp
  · rw [if_neg h0]; left; rfl

theorem up_loop {g : impl_Geo} (h : GeoOk g.Parents) {i : Nat} (hi : i < g.Parents.length) {k : Nat} {a : Int} (hk : (gpath g.Parents i)[k]? = some a) {ρ : Type} (out : Int → Int → ρ) {body : Int × Int → Option (Stp (Int × Int) ρ)}
    (hb : ∀ n d, body (n, d) = cond (decide ((k : Int) < d)) ((goAt g.Parents n).bind fun e => some (.next (e, w64 (d - 1)))) (some (.done (out n d)))) : loopC body ((i : Int), (((gpath g.Parents i).length - 1 : Nat) : Int)) = some (out a (k : Int)) := by
  have hlt := (List.getElem?_eq_some_iff.1 hk).1
  have hl := gpath_len g.Parents i; have hl2 := h.l2
  obtain ⟨r, hr, hq⟩ := loopC_inv (f := body) (fun s => ∃ n d : Nat, s = ((n : Int), (d : Int)) ∧ n < g.Parents.length ∧ k ≤ d ∧ (gpath g.Parents n).length = d + 1 ∧ gpath g.Parents n = (gpath g.Parents i).take (d + 1)) (fun s => s.2.toNat) (fun r => r = out a (k : Int)) (by
    rintro s ⟨n, d, rfl, hn, hd, e1, e2⟩
    rw [hb]
    by_cases hkd : k < d
    · right
      have h0 : 0 < n := by
        apply Nat.pos_of_ne_zero
        rintro rfl
        rw [gpath_zero] at e1
        simp at e1; omega
      have hp := par_at h hn h0
      have e := gpath_up h hn h0
      have hln := gpath_len g.Parents n
      have hpl : (gpath g.Parents (par g.Parents n)).length = d := by rw [e] at e1; simp at e1; exact e1
      rw [decide_eq_true (show (k : Int) < (d : Int) by omega), at_ok hp.1, show w64 ((d : Int) - 1) = ((d - 1 : Nat) : Int) from (w64_in (by omega) (by omega)).trans (by omega)]
      refine ⟨_, rfl, ⟨par g.Parents n, d - 1, rfl, by omega, by omega, by omega, ?_⟩, by show ((d - 1 : Nat) : Int).toNat < (d : Int).toNat; omega⟩
      have : gpath g.Parents (par g.Parents n) = (gpath g.Parents n).take d := by rw [e, ← hpl]; simp
      rw [this, e2, List.take_take, show min d (d + 1) = d - 1 + 1 by omega]
    · left
      have : d = k := by omega
      subst this
      rw [decide_eq_false (by omega)]
      have hlast := gpath_last g.Parents n
      rw [List.getLast?_eq_getElem?, e1, e2, List.getElem?_take, if_pos (by omega), show d + 1 - 1 = d by omega, hk] at hlast
      have : a = (n : Int) := by simpa using hlast
      exact ⟨out (n : Int) (d : Int), rfl, by rw [this]⟩) ((i : Int), (((gpath g.Parents i).length - 1 : Nat) : Int)) ⟨i, _, rfl, hi, by omega, by omega, by rw [List.take_of_length_le (by omega)]⟩
  rw [hr, hq]

theorem gUp_eq {g : impl_Geo} (h : GeoOk g.Parents) {i : Nat} (hi : i < g.Parents.length) (L : Int) : spec_gUp g (i : Int) L = some (anc g.Parents i L) := by
  have hl := gpath_len g.Parents i; have hl2 := h.l2
  unfold spec_gUp anc
  rw [spec_gDepth_eq h hi, Option.bind_some]
  by_cases h0 : 0 ≤ L
  · obtain ⟨k, rfl⟩ := Int.eq_ofNat_of_zero_le h0
    rw [if_pos h0, decide_eq_false (show ¬ (k : Int) < 0 by omega), cond_false, show (k : Int).toNat = k by omega]
    cases e : (gpath g.Parents i)[k]? with
    | none =>
      have := List.getElem?_eq_none_iff.1 e
      rw [loopC_eq]
      simp only [spec_gUp_l1]
      rw [decide_eq_false (show ¬ (k : Int) < (((gpath g.Parents i).length - 1 : Nat) : Int) by omega)]
      simp only [cond_false, Option.bind_some]
      rw [decide_eq_true (show (((gpath g.Parents i).length - 1 : Nat) : Int) < (k : Int) by omega)]
      rfl
    | some a =>
      rw [up_loop h hi e (fun n d => (n, d)) fun n d => rfl]
      simp only [Option.bind_some]
      rw [decide_eq_false (show ¬ (k : Int) < (k : Int) by omega)]
      rfl
  · rw [if_neg h0, decide_eq_true (show L < 0 by omega)]
    rfl

/-! ## leaves -/

def leaf (p : List Int) (i : Nat) : Bool := !p.contains (i : Int)

theorem gChildren_eq {g : impl_Geo} (i : Nat) (hl : g.Parents.length ≤ 1000) : ∃ l, spec_gChildren g (i : Int) = some l ∧ l.length ≤ 1000 ∧ ((goLen l == 0) = leaf g.Parents i) := by
  refine ⟨picks (fun k => g.Parents[k]? == some (i : Int)) (fun k => (k : Int)) g.Parents.length, ?_, by have := picks_len (sel := fun k => g.Parents[k]? == some (i : Int)) (f := fun k : Nat => (k : Int)) g.Parents.length; omega, ?_⟩
  · unfold spec_gChildren
    rw [loop_sel (n := g.Parents.length) (fun k => g.Parents[k]? == some (i : Int)) (fun k => (k : Int)) (fun out k hk ho => ?_) (fun out => by simp only [spec_gChildren_l1, lt_end, cond_false])]
    · rfl
    · have hx : g.Parents[k]? = some g.Parents[k] := by simp [hk]
      generalize g.Parents[k] = x at hx
      simp only [spec_gChildren_l1, lt_ok hx, at_ok hx, cond_true, Option.bind_some, nx_ok hx (show g.Parents.length ≤ 9223372036854775807 by omega), hx]
      rw [show (some x == some (i : Int)) = (x == (i : Int)) from rfl]
      cases x == (i : Int)
      · rfl
      · rw [cond_true, goApp_ok (by simp; omega)]; rfl
  · rw [Bool.eq_iff_iff]
    unfold leaf goLen
    simp only [beq_iff_eq, Bool.not_eq_true', List.contains_eq_mem, decide_eq_false_iff_not]
    constructor
    · intro h hm
      obtain ⟨k, hk⟩ := List.getElem?_of_mem hm
      have := (List.getElem?_eq_some_iff.1 hk).1
      have hmem : (k : Int) ∈ picks (fun k => g.Parents[k]? == some (i : Int)) (fun k => (k : Int)) g.Parents.length := mem_picks.2 ⟨k, this, by rw [hk]; simp, rfl⟩
      have := List.length_pos_of_mem hmem
      omega
    · intro h
      cases e : picks (fun k => g.Parents[k]? == some (i : Int)) (fun k => (k : Int)) g.Parents.length with
      | nil => rfl
      | cons a l =>
        exfalso
        obtain ⟨k, _, hk, _⟩ := mem_picks.1 (show a ∈ picks (fun k => g.Parents[k]? == some (i : Int)) (fun k => (k : Int)) g.Parents.length by rw [e]; exact List.mem_cons_self)
        exact h (List.mem_of_getElem? (by simpa using hk))

def leaves (p : List Int) : List Int := picks (leaf p) (fun k => (k : Int)) p.length

theorem gLeaves_eq {g : impl_Geo} (hl : g.Parents.length ≤ 1000) : spec_gLeaves g = some (leaves g.Parents) := by
  unfold spec_gLeaves
  rw [loop_sel (n := g.Parents.length) (leaf g.Parents) (fun k => (k : Int)) (fun out k hk ho => ?_) (fun out => by simp only [spec_gLeaves_l1, lt_end, cond_false])]
  · rfl
  · have hx : g.Parents[k]? = some g.Parents[k] := by simp [hk]
    obtain ⟨l, e1, _, e2⟩ := gChildren_eq (g := g) k hl
    simp only [spec_gLeaves_l1, lt_ok hx, cond_true, e1, Option.bind_some, e2, nx_ok hx (show g.Parents.length ≤ 9223372036854775807 by omega)]
    cases leaf g.Parents k
    · rfl
    · rw [cond_true, goApp_ok (by simp; omega)]; rfl

theorem mem_leaves {p : List Int} {x : Int} : x ∈ leaves p ↔ ∃ k : Nat, k < p.length ∧ leaf p k = true ∧ x = (k : Int) := by
  unfold leaves
  rw [mem_picks]
  exact ⟨fun ⟨k, h1, h2, h3⟩ => ⟨k, h1, h2, h3.symm⟩, fun ⟨k, h1, h2, h3⟩ => ⟨k, h1, h2, h3.symm⟩⟩

theorem leaves_len (p : List Int) : (leaves p).length ≤ p.length := picks_len _

theorem leaves_pos {p : List Int} (h : GeoOk p) : 1 ≤ (leaves p).length := by
  have hl := h.l1
  have hm : ((p.length - 1 : Nat) : Int) ∈ leaves p := mem_leaves.2 ⟨p.length - 1, by omega, by
    unfold leaf
    simp only [Bool.not_eq_true', List.contains_eq_mem, decide_eq_false_iff_not]
    intro hm
    obtain ⟨k, hk⟩ := List.getElem?_of_mem hm
    have hkl := (List.getElem?_eq_some_iff.1 hk).1
    by_cases h0 : 0 < k
    · have := (h.up k _ hk h0).2; omega
    · obtain rfl : k = 0 := by omega
      rw [h.rt] at hk
      have := Option.some.inj hk
      omega, rfl⟩
  exact List.length_pos_of_mem hm

end Go.Gx.F
