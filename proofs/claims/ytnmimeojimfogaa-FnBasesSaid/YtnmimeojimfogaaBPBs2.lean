/- Plain laws: the longest chain of a plan, and the law of base tables. -/
import Derived.Test.YtnmimeojimfogaaBPBas

namespace Go.Gx.F

open Go.Gx

set_option linter.all false

theorem loop_R {τ σ ρ : Type} (mk : Int → σ → τ) (n : Nat) (I : Nat → σ → Prop) (Q : ρ → Prop) {body : τ → Option (Stp τ ρ)} (h1 : ∀ k s, k < n → I k s → ∃ s', body (mk (k : Int) s) = some (.next (mk ((k + 1 : Nat) : Int) s')) ∧ I (k + 1) s')
    (h2 : ∀ s, I n s → ∃ r, body (mk (n : Int) s) = some (.done r) ∧ Q r) {s : σ} (h0 : I 0 s) : ∃ r, loopC body (mk 0 s) = some r ∧ Q r := by
  suffices h : ∀ (j k : Nat) (s : σ), k + j = n → I k s → ∃ r, loopC body (mk (k : Int) s) = some r ∧ Q r from h n 0 s (by omega) h0
  intro j
  induction j with
  | zero =>
    intro k s hk hi
    obtain rfl : k = n := by omega
    obtain ⟨r, e, hr⟩ := h2 s hi
    exact ⟨r, by rw [loopC_eq, e], hr⟩
  | succ j ih =>
    intro k s hk hi
    obtain ⟨s', e, hi'⟩ := h1 k s (by omega) hi
    rw [loopC_eq, e]
    exact ih (k + 1) s' (by omega) hi'

section

variable {g : impl_Geo} {s : List impl_Variable} {l : List impl_Table}

/-! ## chains -/

noncomputable def lb (g : impl_Geo) (s : List impl_Variable) (l : List impl_Table) (k i : Nat) : Bool := fk g s l k i && !fk g s l i k

theorem lb_ord : Ord l.length (lb g s l) := by
  refine ⟨fun a b c ha hb hc h1 h2 => ?_, fun a ha => by simp [lb]⟩
  unfold lb at h1 h2 ⊢
  simp only [Bool.and_eq_true, Bool.not_eq_true'] at h1 h2 ⊢
  refine ⟨fk_trans h1.1 h2.1, ?_⟩
  cases h : fk g s l c a with
  | false => rfl
  | true => have := fk_trans h h1.1; rw [this] at h2; exact absurd h2.2 (by simp)

theorem less_ok (hl : OkP g s l) {i k : Nat} {t u : impl_Table} (ht : l[i]? = some t) (hu : l[k]? = some u) : spec_lLess g s t u = some (lb g s l i k) := by
  unfold spec_lLess lb
  rw [(fk_ok hl ht hu).2, (fk_ok hl hu ht).2, Option.bind_some]
  cases fk g s l i k <;> rfl

def MV (g : impl_Geo) (s : List impl_Variable) (l : List impl_Table) (memo : List NL) : Prop := memo.length = l.length ∧ ∀ (i : Nat) (x : NL), memo[i]? = some x → x.l = [] ∨ x.l = ch l.length (lb g s l) i

theorem MV.set {memo : List NL} (h : MV g s l memo) {i : Nat} : MV g s l (memo.set i ⟨ch l.length (lb g s l) i⟩) := by
  refine ⟨by simp [h.1], fun j x hx => ?_⟩
  by_cases hj : i = j
  · subst hj
    by_cases hlt : i < memo.length
    · rw [List.getElem?_set_self hlt] at hx
      obtain rfl := Option.some.inj hx
      exact .inr rfl
    · rw [List.set_eq_of_length_le (by omega)] at hx
      exact h.2 i x hx
  · rw [List.getElem?_set_ne hj] at hx
    exact h.2 j x hx

noncomputable def bk (g : impl_Geo) (s : List impl_Variable) (l : List impl_Table) (p : Nat → Bool) (k : Nat) : List Int := (((List.range k).filter p).map (ch l.length (lb g s l))).foldl lng []

theorem bk_succ {p : Nat → Bool} {k : Nat} : bk g s l p (k + 1) = cond (p k) (lng (bk g s l p k) (ch l.length (lb g s l) k)) (bk g s l p k) := by
  unfold bk
  rw [List.range_succ, List.filter_append, List.map_append, List.foldl_append]
  cases h : p k <;> simp [h]

theorem lng_eq (b c : List Int) : ((cond (decide ((goLen b) < (goLen c))) (some c) (some b)) : Option (List Int)) = some (lng b c) := by
  unfold lng goLen
  by_cases h : b.length < c.length
  · rw [decide_eq_true (by omega), if_pos h]; rfl
  · rw [decide_eq_false (by omega), if_neg h]; rfl

theorem hgt_le {i : Nat} (hi : i < l.length) : hgt l.length (lb g s l) i ≤ l.length := by
  have h1 := hgt_n (lb_ord (g := g) (s := s) (l := l)) i hi
  have h2 := rk_n (lb_ord (g := g) (s := s) (l := l)) hi
  omega

theorem chain_ok (hl : OkP g s l) : ∀ (f i : Nat), i < l.length → rk l.length (lb g s l) i < f → ∀ memo, MV g s l memo → ∃ memo', impl_LongestChain_1_k f (i : Int) memo l g s 5 = some (ch l.length (lb g s l) i, memo') ∧ MV g s l memo'
  | 0, i, _, h, _, _ => by omega
  | f + 1, i, hi, hr, memo, hm => by
    have hn := hl.n
    obtain ⟨e, he⟩ := get_of (l := memo) (k := i) (by rw [hm.1]; exact hi)
    obtain ⟨u, hu⟩ := get_of hi
    have hce := ch_eq (lb_ord (g := g) (s := s) (l := l)) hi
    unfold impl_LongestChain_1_k impl_LongestChain_1_B
    rw [at_ok he, Option.bind_some]
    cases hE : e.l.isEmpty with
    | false =>
      have h1 : e.l = ch l.length (lb g s l) i := by
        rcases hm.2 i e he with h | h
        · rw [h] at hE; simp at hE
        · exact h
      rw [cond_false, Option.bind_some, at_ok he, Option.bind_some, h1]
      exact ⟨memo, rfl, hm⟩
    | true =>
      rw [cond_true]
      obtain ⟨r, e1, hr1, hr2⟩ := loop_R (fun k (z : List Int × List NL) => (z.1, k, z.2)) l.length (fun k z => z.1 = bk g s l (fun k => lb g s l k i) k ∧ MV g s l z.2) (fun r => r.1 = bst l.length (lb g s l) i ∧ MV g s l r.2)
        (body := impl_LongestChain_1_l1 (impl_LongestChain_1_k f) (i : Int) l g s 5) (s := ([], memo)) (fun k z hk ⟨h1, h2⟩ => by
          obtain ⟨t, ht⟩ := get_of hk
          simp only [impl_LongestChain_1_l1, lt_ok ht, at_ok ht, at_ok hu, cond_true, Option.bind_some, nx_ok ht (show l.length ≤ 9223372036854775807 by omega), (fk_ok hl ht hu).1, (fk_ok hl hu ht).1]
          have hc : ((cond (!fk g s l k i) (some true) (some (fk g s l i k))) : Option Bool) = some (!lb g s l k i) := by
            unfold lb; cases fk g s l k i <;> cases fk g s l i k <;> rfl
          rw [hc, Option.bind_some]
          cases hlb : lb g s l k i with
          | false =>
            refine ⟨z, rfl, ?_, h2⟩
            rw [bk_succ, hlb, h1]; rfl
          | true =>
            have hrk := rk_lt (lb_ord (g := g) (s := s) (l := l)) hk hi hlb
            obtain ⟨memo', e2, hm'⟩ := chain_ok hl f k hk (by omega) z.2 h2
            simp only [Bool.not_true, cond_false]
            rw [e2, Option.bind_some]
            simp only
            rw [lng_eq, Option.bind_some, Option.bind_some]
            refine ⟨(_, memo'), rfl, ?_, hm'⟩
            rw [bk_succ, hlb, h1]; rfl) (fun z ⟨h1, h2⟩ => ⟨z, by simp only [impl_LongestChain_1_l1, lt_end, cond_false], h1, h2⟩) ⟨rfl, hm⟩
      obtain ⟨best, memo1⟩ := r
      simp only at hr1 hr2
      subst hr1
      rw [show loopC (impl_LongestChain_1_l1 (impl_LongestChain_1_k f) (i : Int) l g s 5) (([] : List Int), 0, memo) = _ from e1, Option.bind_some]
      have hle := hgt_le (g := g) (s := s) hi
      have hh := hgt_eq (lb_ord (g := g) (s := s) (l := l)) hi
      simp only
      obtain ⟨e3, he3⟩ := get_of (l := memo1) (k := i) (by rw [hr2.1]; exact hi)
      rw [goApp_ok (by simp; omega), Option.bind_some, at_ok he3, Option.bind_some, Option.bind_some]
      have h5 : goSet memo1 (i : Int) ⟨[(i : Int)] ++ bst l.length (lb g s l) i⟩ = memo1.set i ⟨ch l.length (lb g s l) i⟩ := by
        rw [hce]; simp [goSet]
      rw [h5]
      rw [at_ok (x := ⟨ch l.length (lb g s l) i⟩) (by rw [List.getElem?_set_self (by rw [hr2.1]; exact hi)]), Option.bind_some]
      exact ⟨_, rfl, hr2.set⟩

noncomputable def chs (g : impl_Geo) (s : List impl_Variable) (l : List impl_Table) : List Int := top l.length (lb g s l)

theorem bk_top : bk g s l (fun _ => true) l.length = chs g s l := by
  unfold bk chs
  rw [top_eq]

theorem chs_len : (chs g s l).length ≤ l.length := by
  unfold chs
  rw [top_eq]
  rcases best_first (lb_ord (g := g) (s := s) (l := l)) (fun _ => true) with ⟨h, _⟩ | ⟨k, hk, _, h, _⟩
  · rw [h]; simp
  · rw [h]; exact hgt_le hk

theorem Chain_impl (hl : OkP g s l) (hi : impl_isPlan g s l = some true) : impl_LongestChain g s l = some (chs g s l, true) := by
  have hn := hl.n
  unfold impl_LongestChain
  rw [hi]
  simp only [Option.bind_some, Bool.not_true, cond_false, goLen]
  rw [goMake_ok (by omega) (by omega), Option.bind_some]
  obtain ⟨r, e1, hr1⟩ := loop_R (fun k (z : List Int × List NL) => (z.1, k, z.2)) l.length (fun k z => z.1 = bk g s l (fun _ => true) k ∧ MV g s l z.2) (fun r => r = chs g s l)
    (body := impl_LongestChain_l1 g s l) (s := ([], List.replicate l.length (NL.mk []))) (fun k z hk ⟨h1, h2⟩ => by
      obtain ⟨t, ht⟩ := get_of hk
      obtain ⟨memo', e2, hm'⟩ := chain_ok hl 40 k hk (by have := rk_n (lb_ord (g := g) (s := s) (l := l)) hk; omega) z.2 h2
      simp only [impl_LongestChain_l1, lt_ok ht, cond_true, impl_LongestChain_1, nx_ok ht (show l.length ≤ 9223372036854775807 by omega)]
      rw [e2, Option.bind_some]
      simp only
      rw [lng_eq, Option.bind_some]
      refine ⟨(lng z.1 (ch l.length (lb g s l) k), memo'), rfl, ?_, hm'⟩
      show lng z.1 _ = _
      rw [bk_succ, h1]; rfl) (fun z ⟨h1, h2⟩ => ⟨z.1, by simp only [impl_LongestChain_l1, lt_end, cond_false], by rw [h1, bk_top]⟩) ⟨rfl, by simp, fun i x hx => by
        rw [List.getElem?_replicate] at hx
        split at hx
        · obtain rfl := Option.some.inj hx; exact .inl rfl
        · cases hx⟩
  subst hr1
  rw [show loopC (impl_LongestChain_l1 g s l) (([] : List Int), 0, List.replicate l.length (NL.mk [])) = _ from e1, Option.bind_some, clone_eq (by have := chs_len (g := g) (s := s) (l := l); omega)]
  rfl

/-! ## heights -/

def Rel (g : impl_Geo) (s : List impl_Variable) (l : List impl_Table) (r j : Nat) (out : List Int) : Prop :=
  out.length = l.length ∧ ∀ (i : Nat) (v : Int), out[i]? = some v → v ≤ (hgt l.length (lb g s l) i : Int) ∧ ((min (hgt l.length (lb g s l) i) (if i < j then r + 1 else r) : Nat) : Int) ≤ v

theorem Rel.set {r j : Nat} {out : List Int} (h : Rel g s l r j out) {x : Int} (h0 : ∀ v, out[j]? = some v → v ≤ x) (h1 : x ≤ (hgt l.length (lb g s l) j : Int)) : Rel g s l r j (out.set j x) := by
  refine ⟨by simp [h.1], fun i v hv => ?_⟩
  by_cases hj : j = i
  · subst hj
    by_cases hlt : j < out.length
    · obtain ⟨y, hy⟩ := get_of hlt
      rw [List.getElem?_set_self hlt] at hv
      obtain rfl := Option.some.inj hv
      exact ⟨h1, by have := (h.2 j y hy).2; have := h0 y hy; omega⟩
    · rw [List.set_eq_of_length_le (by omega)] at hv
      exact h.2 j v hv
  · rw [List.getElem?_set_ne hj] at hv
    exact h.2 i v hv

theorem heights3 (hl : OkP g s l) {r j : Nat} {e : impl_Table} (he : l[j]? = some e) {out : List Int} (ho : Rel g s l r j out) (h1 : ∀ v, out[j]? = some v → 1 ≤ v) :
    ∃ out', loopC (spec_lHeights_l3 g s l (j : Int) e) (out, 0) = some out' ∧ Rel g s l r (j + 1) out' := by
  have hn := hl.n
  have hj := (List.getElem?_eq_some_iff.1 he).1
  refine loop_R (fun k (z : List Int) => (z, k)) l.length (fun k z => Rel g s l r j z ∧ ∀ v, z[j]? = some v → 1 ≤ v ∧ ∀ k', k' < k → lb g s l k' j = true → ((min (hgt l.length (lb g s l) k') r : Nat) : Int) + 1 ≤ v) _ (fun k z hk ⟨h2, h3⟩ => ?_) (fun z ⟨h2, h3⟩ => ⟨z, by simp only [spec_lHeights_l3, lt_end, cond_false], ?_⟩) ⟨ho, fun v hv => ⟨h1 v hv, fun k' hk' => by omega⟩⟩
  · obtain ⟨t, ht⟩ := get_of hk
    obtain ⟨v, hv⟩ := get_of (l := z) (k := j) (by rw [h2.1]; exact hj)
    obtain ⟨w, hw⟩ := get_of (l := z) (k := k) (by rw [h2.1]; exact hk)
    simp only [spec_lHeights_l3, lt_ok ht, at_ok ht, cond_true, Option.bind_some, nx_ok ht (show l.length ≤ 9223372036854775807 by omega), less_ok hl ht he, at_ok hv, at_ok hw]
    obtain ⟨b1, b2⟩ := h2.2 k w hw
    obtain ⟨c1, c2⟩ := h2.2 j v hv
    have hk2 := hgt_le (g := g) (s := s) hk
    have h3v := h3 v hv
    cases hlb : lb g s l k j with
    | false =>
      refine ⟨z, rfl, h2, fun v' hv' => ⟨(h3 v' hv').1, fun k' hk' hr' => ?_⟩⟩
      by_cases hkk : k' = k
      · subst hkk; rw [hlb] at hr'; cases hr'
      · exact (h3 v' hv').2 k' (by omega) hr'
    | true =>
      have hlt := hgt_lt (lb_ord (g := g) (s := s) (l := l)) hk hj hlb
      have hmin : ((min (hgt l.length (lb g s l) k) r : Nat) : Int) ≤ w := by
        refine Int.le_trans ?_ b2
        split <;> omega
      simp only [cond_true]
      rw [wid (by omega) (by omega), lMost_eq, Option.bind_some, Option.bind_some]
      have hz : goSet z (j : Int) (max v (w + 1)) = z.set j (max v (w + 1)) := by simp [goSet]
      rw [hz]
      refine ⟨_, rfl, h2.set (fun v' hv' => by rw [hv] at hv'; obtain rfl := Option.some.inj hv'; omega) (by omega), fun v' hv' => ?_⟩
      rw [List.getElem?_set_self (by rw [h2.1]; exact hj)] at hv'
      obtain rfl := Option.some.inj hv'
      refine ⟨by omega, fun k' hk' hr' => ?_⟩
      by_cases hkk : k' = k
      · subst hkk; omega
      · have := h3v.2 k' (by omega) hr'; omega
  · refine ⟨h2.1, fun i v hv => ?_⟩
    obtain ⟨c1, c2⟩ := h2.2 i v hv
    refine ⟨c1, ?_⟩
    by_cases hij : i = j
    · subst hij
      obtain ⟨h4, h5⟩ := h3 v hv
      rw [if_pos (by omega)]
      rcases hgt_step (lb_ord (g := g) (s := s) (l := l)) hj with h6 | ⟨k, hk, h6, h7⟩
      · omega
      · have := h5 k hk h6; omega
    · by_cases hlt : i < j
      · rw [if_pos hlt] at c2; rw [if_pos (by omega)]; exact c2
      · rw [if_neg hlt] at c2; rw [if_neg (by omega)]; exact c2

theorem heights_ok (hl : OkP g s l) : ∃ out, spec_lHeights g s l = some out ∧ out = (List.range l.length).map (fun i => (hgt l.length (lb g s l) i : Int)) := by
  have hn := hl.n
  unfold spec_lHeights
  simp only [goLen]
  rw [goMake_ok (by omega) (by omega), Option.bind_some]
  obtain ⟨out, e, h⟩ := loop_R (fun k (z : List Int) => (z, k)) l.length (fun r z => Rel g s l r 0 z) (fun out => Rel g s l l.length 0 out) (body := spec_lHeights_l1 g s l) (s := List.replicate l.length (0 : Int)) (fun r z hr hz => by
    obtain ⟨t0, ht0⟩ := get_of hr
    simp only [spec_lHeights_l1, lt_ok ht0, cond_true, nx_ok ht0 (show l.length ≤ 9223372036854775807 by omega)]
    obtain ⟨out, e, h⟩ := loop_R (fun k (z : List Int) => (z, k)) l.length (fun j z => Rel g s l r j z) (fun out => Rel g s l r l.length out) (body := spec_lHeights_l2 g s l) (s := z) (fun j z hj hz => by
      obtain ⟨t, ht⟩ := get_of hj
      obtain ⟨v, hv⟩ := get_of (l := z) (k := j) (by rw [hz.1]; exact hj)
      have h1 := ch_ne (lb_ord (g := g) (s := s) (l := l)) hj
      have h2 := (hz.2 j v hv).1
      simp only [spec_lHeights_l2, lt_ok ht, at_ok ht, at_ok hv, cond_true, Option.bind_some, nx_ok ht (show l.length ≤ 9223372036854775807 by omega), lMost_eq]
      have hs : goSet z (j : Int) (max v 1) = z.set j (max v 1) := by simp [goSet]
      rw [hs]
      obtain ⟨out', e', h'⟩ := heights3 hl ht (hz.set (x := max v 1) (fun v' hv' => by rw [hv] at hv'; obtain rfl := Option.some.inj hv'; omega) (by omega)) (fun v' hv' => by
        rw [List.getElem?_set_self (by rw [hz.1]; exact hj)] at hv'
        obtain rfl := Option.some.inj hv'
        omega)
      rw [e', Option.bind_some]
      exact ⟨out', rfl, h'⟩) (fun z hz => ⟨z, by simp only [spec_lHeights_l2, lt_end, cond_false], hz⟩) hz
    rw [show loopC (spec_lHeights_l2 g s l) (z, 0) = _ from e, Option.bind_some]
    refine ⟨out, rfl, h.1, fun i v hv => ?_⟩
    obtain ⟨c1, c2⟩ := h.2 i v hv
    have := (List.getElem?_eq_some_iff.1 hv).1
    rw [if_pos (by rw [h.1] at this; exact this)] at c2
    rw [if_neg (by omega)]
    exact ⟨c1, c2⟩) (fun z hz => ⟨z, by simp only [spec_lHeights_l1, lt_end, cond_false], hz⟩) ⟨by simp, fun i v hv => by
      rw [List.getElem?_replicate] at hv
      split at hv
      · obtain rfl := Option.some.inj hv
        rw [if_neg (by omega)]
        exact ⟨by omega, by omega⟩
      · cases hv⟩
  rw [show loopC (spec_lHeights_l1 g s l) (List.replicate l.length (0 : Int), 0) = _ from e, Option.bind_some]
  refine ⟨out, rfl, List.ext_getElem? fun i => ?_⟩
  by_cases hi : i < l.length
  · obtain ⟨v, hv⟩ := get_of (l := out) (k := i) (by rw [h.1]; exact hi)
    obtain ⟨c1, c2⟩ := h.2 i v hv
    rw [if_neg (by omega)] at c2
    have := hgt_le (g := g) (s := s) hi
    rw [hv, List.getElem?_map, List.getElem?_range hi]
    simp only [Option.map_some]
    rw [show v = (hgt l.length (lb g s l) i : Int) by omega]
  · rw [List.getElem?_eq_none (by rw [h.1]; omega), List.getElem?_eq_none (by simp; omega)]

/-! ## the other way to the longest chain -/

noncomputable def pO (g : impl_Geo) (s : List impl_Variable) (l : List impl_Table) (out : List Int) (k : Nat) : Bool := match out.getLast? with
  | none => true
  | some x => lb g s l k x.toNat

noncomputable def hts (g : impl_Geo) (s : List impl_Variable) (l : List impl_Table) : List Int := (List.range l.length).map (fun i => (hgt l.length (lb g s l) i : Int))

theorem hts_at {k : Nat} (hk : k < l.length) : (hts g s l)[k]? = some (hgt l.length (lb g s l) k : Int) := by
  unfold hts
  rw [List.getElem?_map, List.getElem?_range hk]
  rfl

theorem hts_len : (hts g s l).length = l.length := by simp [hts]

def InP (l : List impl_Table) (out : List Int) : Prop := ∀ x ∈ out, ∃ i : Nat, x = (i : Int) ∧ i < l.length

theorem pick_ok (hl : OkP g s l) {out : List Int} (ho : InP l out) (hlen : out.length ≤ 1000) {k : Nat} (hk : k < l.length) {w : Int} :
    ((cond ((hgt l.length (lb g s l) k : Int) == w) (cond ((goLen out) == 0) (some true) ((goAt l (k : Int)).bind fun e_21 => ((goAt out (w64 ((goLen out) - 1))).bind fun e_25 => ((goAt l e_25).bind fun e_27 => ((spec_lLess g s e_21 e_27).bind fun t_31 => some t_31))))) (some false)) : Option Bool) = some (decide ((hgt l.length (lb g s l) k : Int) = w) && pO g s l out k) := by
  by_cases hw : (hgt l.length (lb g s l) k : Int) = w
  · subst hw
    rw [beq_self_eq_true, cond_true, decide_eq_true rfl, Bool.true_and]
    unfold pO
    rcases List.eq_nil_or_concat out with rfl | ⟨a, x, rfl⟩
    · rfl
    · rw [List.concat_eq_append] at ho hlen ⊢
      obtain ⟨i, rfl, hi⟩ := ho x (by simp)
      obtain ⟨t, ht⟩ := get_of hk
      obtain ⟨u, hu⟩ := get_of hi
      have h0 : (goLen (a ++ [(i : Int)]) == 0) = false := by simp [goLen]; omega
      have h1 : w64 ((goLen (a ++ [(i : Int)])) - 1) = (a.length : Int) := by
        simp only [goLen, List.length_append, List.length_singleton]
        simp only [List.length_append, List.length_singleton] at hlen
        rw [wid (by omega) (by omega)]; omega
      rw [h0, cond_false, at_ok ht, Option.bind_some, h1, at_ok (x := (i : Int)) (by simp), Option.bind_some, at_ok hu, Option.bind_some, less_ok hl ht hu]
      simp
  · have : ((hgt l.length (lb g s l) k : Int) == w) = false := by simpa using hw
    rw [this, cond_false, decide_eq_false hw]
    rfl

theorem walk_ok (hl : OkP g s l) : ∀ (w : Nat) (out rest : List Int), rest.length = w → chs g s l = out ++ rest → InP l out → rest = (((List.range l.length).filter (pO g s l out)).map (ch l.length (lb g s l))).foldl lng [] →
    loopC (spec_LongestChain_l2 g s l (hts g s l)) ((w : Int), out) = some (chs g s l)
  | 0, out, rest, hw, hc, ho, hr => by
    obtain rfl : rest = [] := List.eq_nil_of_length_eq_zero hw
    rw [loopC_eq]
    simp only [spec_LongestChain_l2]
    rw [decide_eq_false (by omega), cond_false]
    simp [hc]
  | w + 1, out, rest, hw, hc, ho, hr => by
    have hn := hl.n
    have hcl := chs_len (g := g) (s := s) (l := l)
    have hol : out.length + (w + 1) ≤ l.length := by rw [hc, List.length_append, hw] at hcl; exact hcl
    rw [loopC_eq]
    simp only [spec_LongestChain_l2]
    rw [decide_eq_true (by omega), cond_true]
    rcases best_first (lb_ord (g := g) (s := s) (l := l)) (pO g s l out) with ⟨h, _⟩ | ⟨k, hk, hp, h, hfirst, hmax⟩
    · rw [h] at hr; rw [hr] at hw; simp at hw
    · rw [h] at hr
      have hkw : hgt l.length (lb g s l) k = w + 1 := by unfold hgt; rw [← hr, hw]
      have hin : ∀ (d j : Nat), j + d = k → loopC (spec_LongestChain_l3 g s l (hts g s l) ((w + 1 : Nat) : Int) out) (j : Int) = some (out ++ [(k : Int)]) := by
        intro d
        induction d with
        | zero =>
          intro j hj
          obtain rfl : j = k := by omega
          have hat := hts_at (g := g) (s := s) hk
          rw [loopC_eq]
          simp only [spec_LongestChain_l3, lt_ok hat, at_ok hat, cond_true, Option.bind_some]
          rw [pick_ok hl ho (by omega) hk, Option.bind_some, decide_eq_true (by omega), hp]
          simp only [Bool.and_self, cond_true]
          rw [goApp_ok (by simp; omega), Option.bind_some]
        | succ d ih =>
          intro j hj
          have hat := hts_at (g := g) (s := s) (l := l) (k := j) (by omega)
          rw [loopC_eq]
          simp only [spec_LongestChain_l3, lt_ok hat, at_ok hat, cond_true, Option.bind_some]
          rw [pick_ok hl ho (by omega) (by omega), Option.bind_some]
          have hno : (decide ((hgt l.length (lb g s l) j : Int) = ((w + 1 : Nat) : Int)) && pO g s l out j) = false := by
            cases hpj : pO g s l out j with
            | false => simp
            | true =>
              have := hfirst j (by omega) hpj
              rw [decide_eq_false (by omega)]; rfl
          rw [hno, cond_false, nx_ok hat (by rw [hts_len]; omega)]
          exact ih (j + 1) (by omega)
      rw [show loopC (spec_LongestChain_l3 g s l (hts g s l) ((w + 1 : Nat) : Int) out) 0 = _ from hin k 0 (by omega), Option.bind_some]
      simp only
      rw [show w64 (((w + 1 : Nat) : Int) - 1) = (w : Int) by rw [wid (by omega) (by omega)]; omega]
      have hce := ch_eq (lb_ord (g := g) (s := s) (l := l)) hk
      rw [hce] at hr
      subst hr
      refine walk_ok hl w (out ++ [(k : Int)]) (bst l.length (lb g s l) k) (by simpa using hw) (by rw [hc]; simp) (fun x hx => ?_) ?_
      · rcases List.mem_append.1 hx with hx | hx
        · exact ho x hx
        · exact ⟨k, List.mem_singleton.1 hx, hk⟩
      · unfold bst dn
        have : pO g s l (out ++ [(k : Int)]) = fun k' => lb g s l k' k := by
          funext k'
          unfold pO
          simp
        rw [this]

theorem Chain_spec (hl : OkP g s l) (hq : spec_nPlan g s l = some true) : spec_LongestChain g s l = some (chs g s l, true) := by
  have hn := hl.n
  unfold spec_LongestChain
  obtain ⟨out, e, rfl⟩ := heights_ok hl
  rw [hq]
  simp only [Option.bind_some, Bool.not_true, cond_false]
  rw [e, Option.bind_some]
  change ((loopC (spec_LongestChain_l1 (hts g s l)) (0, 0)).bind fun want_14 => ((loopC (spec_LongestChain_l2 g s l (hts g s l)) (want_14, ([] : List Int))).bind fun out_38 => some (out_38, true))) = _
  have hwant : loopC (spec_LongestChain_l1 (hts g s l)) (0, 0) = some ((chs g s l).length : Int) := by
    obtain ⟨r, e1, hr, hr2⟩ := loop_R (fun k (z : Int) => (z, k)) l.length (fun k z => (∀ i, i < k → (hgt l.length (lb g s l) i : Int) ≤ z) ∧ (z = 0 ∨ ∃ i, i < k ∧ z = (hgt l.length (lb g s l) i : Int))) (fun z => (∀ i, i < l.length → (hgt l.length (lb g s l) i : Int) ≤ z) ∧ (z = 0 ∨ ∃ i, i < l.length ∧ z = (hgt l.length (lb g s l) i : Int)))
      (body := spec_LongestChain_l1 (hts g s l)) (s := (0 : Int)) (fun k z hk ⟨h1, h2⟩ => by
        have hat := hts_at (g := g) (s := s) hk
        simp only [spec_LongestChain_l1, lt_ok hat, at_ok hat, cond_true, Option.bind_some, lMost_eq, nx_ok hat (show (hts g s l).length ≤ 9223372036854775807 by rw [hts_len]; omega)]
        refine ⟨_, rfl, fun i hi => ?_, ?_⟩
        · by_cases hik : i = k
          · subst hik; omega
          · have := h1 i (by omega); omega
        · by_cases hz : (hgt l.length (lb g s l) k : Int) ≤ z
          · rw [show max z (hgt l.length (lb g s l) k : Int) = z by omega]
            rcases h2 with h2 | ⟨i, hi, h2⟩
            · exact .inl h2
            · exact .inr ⟨i, by omega, h2⟩
          · exact .inr ⟨k, by omega, by omega⟩) (fun z hz => ⟨z, by
            have := lt_end (l := hts g s l)
            rw [hts_len] at this
            simp only [spec_LongestChain_l1, this, cond_false], hz⟩) ⟨fun i hi => by omega, .inl rfl⟩
    rw [show loopC (spec_LongestChain_l1 (hts g s l)) (0, 0) = _ from e1]
    congr 1
    unfold chs
    rw [top_eq]
    rcases best_first (lb_ord (g := g) (s := s) (l := l)) (fun _ => true) with ⟨h, h2⟩ | ⟨k, hk, _, h, _, hmax⟩
    · rw [h]
      rcases hr2 with h3 | ⟨i, hi, _⟩
      · simpa using h3
      · have := h2 i hi; cases this
    · rw [h]
      change r = (hgt l.length (lb g s l) k : Int)
      have h3 := hr k hk
      rcases hr2 with h4 | ⟨i, hi, h4⟩
      · have := ch_ne (lb_ord (g := g) (s := s) (l := l)) hk; omega
      · have := hmax i hi rfl; omega
  rw [hwant, Option.bind_some, walk_ok hl (chs g s l).length [] (chs g s l) rfl (by simp) (fun x hx => by cases hx) (by
    unfold chs
    rw [top_eq]
    rfl)]
  rfl

end

end Go.Gx.F
