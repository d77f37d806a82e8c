/- Plain laws: drawn networks. -/
import Derived.Test.YtpjcfmpfiadkgaaFPFl17

namespace Go.Gx.F

open Go.Gx

set_option linter.all false

set_option maxRecDepth 10000

structure TD (m n i : Nat) (t : impl_Transport) : Prop where
  rl : t.Rows.length = m
  cl : t.Cols.length = n
  ll : t.Lo.length = i
  hl : t.Hi.length = i
  lr : ∀ r ∈ t.Lo, r.length = n
  hr : ∀ r ∈ t.Hi, r.length = n

def Dim (t : impl_Transport) : Prop := t.Rows.length ≤ 1000 ∧ t.Cols.length ≤ 1000 ∧ t.Lo.length ≤ 1000 ∧ t.Hi.length ≤ 1000

theorem trow {B m n i : Nat} {c : spec_l1Cur} {t : impl_Transport} {t7 : Int × spec_l1Cur} (h7 : t7.1 = (n : Int) - 1) (hn : n ≤ 3) (hm : m ≤ 3) (hi : i < m) (ht : TD m n i t) (hc : Cur B c) (hB : B ≤ 1000000000) :
    Tot (loopC (spec_l1Cur_transport_l2 t7 (i : Int)) (([] : List Int), ([] : List Int), 0, t, c)) fun r => r.1.length = n ∧ r.2.1.length = n ∧ TD m n i r.2.2.1 ∧ Cur (B + 6 * n) r.2.2.2 := by
  have ew : w64 (1 + t7.1) = (n : Int) := by rw [h7, wid (by omega) (by omega)]; omega
  refine tot_loop (fun s => ∃ j : Nat, j ≤ n ∧ s.2.2.1 = (j : Int) ∧ s.1.length = j ∧ s.2.1.length = j ∧ TD m n i s.2.2.2.1 ∧ Cur (B + 6 * j) s.2.2.2.2) (fun s => n - s.2.2.1.toNat) ⟨0, by omega, rfl, rfl, rfl, ht, hc⟩ ?_
  rintro ⟨lo, hh, _, t, c⟩ ⟨j, hj', rfl, h1, h2, ht, hc⟩
  simp only at h1 h2 ht hc
  have a1 := ht.rl; have a2 := ht.cl
  by_cases hj : j < n
  · simp only [spec_l1Cur_transport_l2]
    rw [ew, decide_eq_true (by omega), cond_true]
    refine tot_bind (tpick hc) fun ⟨v, c1⟩ ⟨_, _, _, k1⟩ => ?_
    simp only at k1 ⊢
    refine tot_bind (tpick k1) fun ⟨a, c2⟩ ⟨_, _, _, k2⟩ => ?_
    simp only at k2 ⊢
    refine tot_bind (Q := fun _ => True) (by unfold spec_l1Most; exact tot_cond (fun _ => tot_some trivial) fun _ => tot_some trivial) fun u _ => ?_
    refine tot_bind (tpick k2) fun ⟨b, c3⟩ ⟨_, _, _, k3⟩ => ?_
    simp only at k3 ⊢
    refine tot_bind (tot_app (Q := fun l => l.length = j + 1) (by simp; omega) (by simp; omega)) fun lo1 g1 => ?_
    refine tot_bind (tot_app (Q := fun l => l.length = j + 1) (by simp; omega) (by simp; omega)) fun hi1 g2 => ?_
    refine tot_bind (tot_at (Q := fun _ => True) (by omega) (by omega) fun _ _ _ => trivial) fun e1 _ => ?_
    refine tot_bind (tot_at (Q := fun _ => True) (by omega) (by omega) fun _ _ _ => trivial) fun e2 _ => ?_
    refine tot_bind (tot_at (Q := fun _ => True) (by omega) (by omega) fun _ _ _ => trivial) fun e3 _ => ?_
    refine tot_bind (tot_at (Q := fun _ => True) (by omega) (by omega) fun _ _ _ => trivial) fun e4 _ => ?_
    rw [wid (n := (j : Int) + 1) (by omega) (by omega)]
    exact tot_some ⟨⟨j + 1, by omega, by simp only; omega, g1, g2, ⟨by simp only [goSet, List.length_set]; exact a1, by simp only [goSet, List.length_set]; exact a2, ht.ll, ht.hl, ht.lr, ht.hr⟩, k3.le (by omega)⟩, by simp only; omega⟩
  · obtain rfl : j = n := by omega
    simp only [spec_l1Cur_transport_l2]
    rw [ew, decide_eq_false (by omega), cond_false]
    exact tot_some ⟨h1, h2, ht, hc⟩

theorem ttransport {B : Nat} {c : spec_l1Cur} (hc : Cur B c) (hB : B ≤ 100000000) : Tot (spec_l1Cur_transport c) fun r => ∃ m n, 1 ≤ m ∧ m ≤ 3 ∧ 1 ≤ n ∧ n ≤ 3 ∧ TD m n m r.1 ∧ Cur (B + 100) r.2 := by
  unfold spec_l1Cur_transport
  refine tot_bind (tpick hc) fun ⟨m', c1⟩ ⟨x0, x1, _, k1⟩ => ?_
  simp only at x0 x1 k1 ⊢
  refine tot_bind (tpick k1) fun ⟨n', c2⟩ ⟨y0, y1, _, k2⟩ => ?_
  simp only at y0 y1 k2 ⊢
  have x1 := x1 (by omega)
  have y1 := y1 (by omega)
  obtain ⟨m1, rfl⟩ := Int.eq_ofNat_of_zero_le x0
  obtain ⟨n1, rfl⟩ := Int.eq_ofNat_of_zero_le y0
  have em : w64 (1 + (m1 : Int)) = ((m1 + 1 : Nat) : Int) := by rw [wid (by omega) (by omega)]; omega
  have en : w64 (1 + (n1 : Int)) = ((n1 + 1 : Nat) : Int) := by rw [wid (by omega) (by omega)]; omega
  generalize hm : m1 + 1 = m at em
  generalize hn : n1 + 1 = n at en
  simp only [em, en]
  refine tot_bind (Q := fun t => t.Rows.length = m ∧ t.Cols.length = n) (tot_bind (tot_make (n := m) (Q := fun l => l.length = m) rfl (by omega) (by omega) (by simp)) fun l1 h1 => tot_bind (tot_make (n := n) (Q := fun l => l.length = n) rfl (by omega) (by omega) (by simp)) fun l2 h2 => tot_some ⟨h1, h2⟩) fun t0 ⟨r0, s0⟩ => ?_
  have hl : Tot (loopC (spec_l1Cur_transport_l1 ((m1 : Int), c1) ((n1 : Int), c2)) (0, (impl_Transport.mk t0.Rows t0.Cols ([] : List (List Int)) ([] : List (List Int))), c2)) fun r => TD m n m r.1 ∧ Cur (B + 4 + 20 * m) r.2 := by
    refine tot_loop (fun s => ∃ i : Nat, i ≤ m ∧ s.1 = (i : Int) ∧ TD m n i s.2.1 ∧ Cur (B + 4 + 20 * i) s.2.2) (fun s => m - s.1.toNat) ⟨0, by omega, rfl, ⟨r0, s0, rfl, rfl, fun r hr => (by cases hr), fun r hr => (by cases hr)⟩, k2.le (by omega)⟩ ?_
    rintro ⟨_, t, c⟩ ⟨i, hi', rfl, ht, hk⟩
    simp only at ht hk
    by_cases hi : i < m
    · simp only [spec_l1Cur_transport_l1]
      rw [em, decide_eq_true (by omega), cond_true]
      refine tot_bind (trow (n := n) (by simp only; omega) (by omega) (by omega) hi ht hk (by omega)) fun ⟨lo, hh, t2, c3⟩ ⟨g1, g2, g3, g4⟩ => ?_
      simp only at g1 g2 g3 g4 ⊢
      have a3 := g3.ll; have a4 := g3.hl
      refine tot_bind (tot_app (Q := fun l => l.length = i + 1 ∧ ∀ r ∈ l, r.length = n) (by simp; omega) ⟨by simp; omega, fun r hr => ?_⟩) fun l1 q1 => ?_
      · rcases List.mem_append.1 hr with hr | hr
        · exact g3.lr r hr
        · rw [List.mem_singleton.1 hr]; exact g1
      refine tot_bind (tot_app (Q := fun l => l.length = i + 1 ∧ ∀ r ∈ l, r.length = n) (by simp; omega) ⟨by simp; omega, fun r hr => ?_⟩) fun l2 q2 => ?_
      · rcases List.mem_append.1 hr with hr | hr
        · exact g3.hr r hr
        · rw [List.mem_singleton.1 hr]; exact g2
      rw [wid (n := (i : Int) + 1) (by omega) (by omega)]
      exact tot_some ⟨⟨i + 1, by omega, by simp only; omega, ⟨g3.rl, g3.cl, q1.1, q2.1, q1.2, q2.2⟩, g4.le (by omega)⟩, by simp only; omega⟩
    · obtain rfl : i = m := by omega
      simp only [spec_l1Cur_transport_l1]
      rw [em, decide_eq_false (by omega), cond_false]
      exact tot_some ⟨ht, hk⟩
  refine tot_bind hl fun ⟨t, c3⟩ ⟨ht, k3⟩ => ?_
  simp only at ht k3 ⊢
  have a1 := ht.rl; have a2 := ht.cl
  refine tot_bind (tpick k3) fun ⟨b, c4⟩ ⟨_, _, _, k4⟩ => ?_
  simp only at k4 ⊢
  refine tot_bind (Q := fun r => TD m n m r.2 ∧ Cur (B + 100) r.1) (tot_cond (fun _ => ?_) fun _ => ?_) fun ⟨c9, t9⟩ h9 => tot_some ⟨m, n, by omega, by omega, by omega, by omega, h9⟩
  · refine tot_bind (tpick k4) fun ⟨k, c5⟩ ⟨_, _, _, k5⟩ => ?_
    simp only at k5 ⊢
    refine tot_bind (tpick k5) fun ⟨i, c6⟩ ⟨i0, i1, _, k6⟩ => ?_
    simp only at i0 i1 k6 ⊢
    have i1 := i1 (by omega)
    refine tot_bind (tot_at (Q := fun _ => True) i0 (by omega) fun _ _ _ => trivial) fun e1 _ => ?_
    refine tot_bind (tot_at (Q := fun _ => True) i0 (by omega) fun _ _ _ => trivial) fun e2 _ => ?_
    refine tot_bind (tpick k6) fun ⟨j, c7⟩ ⟨j0, j1, _, k7⟩ => ?_
    simp only at j0 j1 k7 ⊢
    have j1 := j1 (by omega)
    refine tot_bind (tot_at (Q := fun _ => True) j0 (by omega) fun _ _ _ => trivial) fun e3 _ => ?_
    refine tot_bind (tot_at (Q := fun _ => True) j0 (by omega) fun _ _ _ => trivial) fun e4 _ => ?_
    exact tot_some ⟨⟨by simp only [goSet, List.length_set]; exact a1, by simp only [goSet, List.length_set]; exact a2, ht.ll, ht.hl, ht.lr, ht.hr⟩, k7.le (by omega)⟩
  · refine tot_bind (Q := fun r => TD m n m r.2 ∧ Cur (B + 100) r.1) (tot_cond (fun _ => ?_) fun _ => tot_some ⟨ht, k4.le (by omega)⟩) fun ⟨c9, t9⟩ h9 => tot_some h9
    refine tot_bind (tpick k4) fun ⟨i, c6⟩ ⟨i0, i1, _, k6⟩ => ?_
    simp only at i0 i1 k6 ⊢
    have i1 := i1 (by omega)
    refine tot_bind (tot_at (Q := fun _ => True) i0 (by omega) fun _ _ _ => trivial) fun e1 _ => ?_
    refine tot_bind (tot_at (Q := fun _ => True) i0 (by omega) fun _ _ _ => trivial) fun e2 _ => ?_
    exact tot_some ⟨⟨by simp only [goSet, List.length_set]; exact a1, a2, ht.ll, ht.hl, ht.lr, ht.hr⟩, k6.le (by omega)⟩

theorem tfilled {m n : Nat} {pm pn ps : Int} (em : pm = m) (en : pn = n) (hm : m ≤ 100) (hn1 : 1 ≤ n) (hn : n ≤ 100) (hs : ps ≤ 100) : Tot (spec_filled pm pn ps) Dim := by
  subst em en
  unfold spec_filled
  refine tot_bind (tot_make (n := n) (Q := fun l => l.length = n) rfl (by omega) (by omega) (by simp)) fun l0 h0 => ?_
  have h : Tot (loopC (spec_filled_l1 (m : Int) (n : Int) ps) (0, (impl_Transport.mk ([] : List Int) l0 ([] : List (List Int)) ([] : List (List Int))))) Dim := by
    refine tot_loop (fun s => ∃ i : Nat, i ≤ m ∧ s.1 = (i : Int) ∧ s.2.Rows.length = i ∧ s.2.Cols.length = n ∧ s.2.Lo.length = i ∧ s.2.Hi.length = i) (fun s => m - s.1.toNat) ⟨0, by omega, rfl, rfl, h0, rfl, rfl⟩ ?_
    rintro ⟨_, t⟩ ⟨i, hi', rfl, h1, h2, h3, h4⟩
    simp only at h1 h2 h3 h4
    by_cases hi : i < m
    · simp only [spec_filled_l1]
      rw [decide_eq_true (by omega), cond_true]
      refine tot_bind (tot_app (Q := fun l => l.length = i + 1) (by simp; omega) (by simp; omega)) fun l1 g1 => ?_
      refine tot_bind (Q := fun r => r.1.length = n ∧ r.2.length = n) (tot_bind (tot_make (n := n) (Q := fun l => l.length = n) rfl (by omega) (by omega) (by simp)) fun a ha => tot_bind (tot_make (n := n) (Q := fun l => l.length = n) rfl (by omega) (by omega) (by simp)) fun b hb => tot_some ⟨ha, hb⟩) fun ⟨lo, hh⟩ ⟨ha, hb⟩ => ?_
      simp only at ha hb ⊢
      have hL2 : Tot (loopC (spec_filled_l2 hh) (hh, 0)) fun r => r.length = n := by
        refine tot_loop (fun s => ∃ k : Nat, k ≤ n ∧ s.2 = (k : Int) ∧ s.1.length = n) (fun s => n - s.2.toNat) ⟨0, by omega, rfl, hb⟩ ?_
        rintro ⟨l, _⟩ ⟨k, hk', rfl, hl⟩
        simp only at hl
        by_cases hk : k < n
        · simp only [spec_filled_l2]
          rw [decide_eq_true (by simp only [goLen]; omega), cond_true]
          refine tot_bind (tot_at (Q := fun _ => True) (by omega) (by omega) fun _ _ _ => trivial) fun e1 _ => ?_
          rw [wid (by omega) (by omega)]
          exact tot_some ⟨⟨k + 1, by omega, by simp only; omega, by simp only [goSet, List.length_set]; exact hl⟩, by simp only; omega⟩
        · obtain rfl : k = n := by omega
          simp only [spec_filled_l2]
          rw [decide_eq_false (by simp only [goLen]; omega), cond_false]
          exact tot_some hl
      refine tot_bind hL2 fun h35 _ => ?_
      refine tot_bind (tot_app (Q := fun l => l.length = i + 1) (by simp; omega) (by simp; omega)) fun l2 g2 => ?_
      refine tot_bind (tot_app (Q := fun l => l.length = i + 1) (by simp; omega) (by simp; omega)) fun l3 g3 => ?_
      have hL3 : Tot (loopC (spec_filled_l3 (n : Int) ps (i : Int)) (0, (impl_Transport.mk l1 t.Cols l2 l3))) fun r => r.Rows.length = i + 1 ∧ r.Cols.length = n ∧ r.Lo.length = i + 1 ∧ r.Hi.length = i + 1 := by
        refine tot_loop (fun s => ∃ k : Nat, k ≤ 100 ∧ s.1 = (k : Int) ∧ s.2.Rows.length = i + 1 ∧ s.2.Cols.length = n ∧ s.2.Lo.length = i + 1 ∧ s.2.Hi.length = i + 1) (fun s => 100 - s.1.toNat) ⟨0, by omega, rfl, g1, h2, g2, g3⟩ ?_
        rintro ⟨_, w⟩ ⟨k, hk', rfl, w1, w2, w3, w4⟩
        simp only at w1 w2 w3 w4
        by_cases hk : (k : Int) < ps
        · simp only [spec_filled_l3]
          rw [decide_eq_true hk, cond_true, wid (n := (i : Int) + k) (by omega) (by omega)]
          refine tot_bind (tot_rem (Q := fun z => 0 ≤ z ∧ z < n) (by omega) ⟨Int.tmod_nonneg _ (by omega), Int.tmod_lt_of_pos _ (by omega)⟩) fun z hz => ?_
          refine tot_bind (tot_at (Q := fun _ => True) hz.1 (by omega) fun _ _ _ => trivial) fun e1 _ => ?_
          refine tot_bind (tot_at (Q := fun _ => True) hz.1 (by omega) fun _ _ _ => trivial) fun e2 _ => ?_
          rw [wid (n := (k : Int) + 1) (by omega) (by omega)]
          exact tot_some ⟨⟨k + 1, by omega, by simp only; omega, w1, by simp only [goSet, List.length_set]; exact w2, w3, w4⟩, by simp only; omega⟩
        · simp only [spec_filled_l3]
          rw [decide_eq_false hk, cond_false]
          exact tot_some ⟨w1, w2, w3, w4⟩
      refine tot_bind hL3 fun w hw => ?_
      rw [wid (by omega) (by omega)]
      exact tot_some ⟨⟨i + 1, by omega, by simp only; omega, hw⟩, by simp only; omega⟩
    · obtain rfl : i = m := by omega
      simp only [spec_filled_l1]
      rw [decide_eq_false (by omega), cond_false]
      exact tot_some ⟨by omega, by omega, by omega, by omega⟩
  exact tot_bind h fun r hr => tot_some hr

def Q1 : (spec_l1Cur × impl_Transport) ⊕ (impl_Transport × spec_l1Cur) → Prop
  | .inl a => Dim a.2
  | .inr b => Dim b.1

def Q2 : (spec_l1Cur × impl_Transport) ⊕ ((spec_l1Cur × impl_Transport) ⊕ (impl_Transport × spec_l1Cur)) → Prop
  | .inl a => Dim a.2
  | .inr b => Q1 b

def Q3 : (spec_l1Cur × impl_Transport) ⊕ ((spec_l1Cur × impl_Transport) ⊕ ((spec_l1Cur × impl_Transport) ⊕ (impl_Transport × spec_l1Cur))) → Prop
  | .inl a => Dim a.2
  | .inr b => Q2 b

def Q4 : (spec_l1Cur × impl_Transport) ⊕ ((spec_l1Cur × impl_Transport) ⊕ ((spec_l1Cur × impl_Transport) ⊕ ((spec_l1Cur × impl_Transport) ⊕ (impl_Transport × spec_l1Cur)))) → Prop
  | .inl a => Dim a.2
  | .inr b => Q3 b

def Q5 : (spec_l1Cur × impl_Transport) ⊕ ((spec_l1Cur × impl_Transport) ⊕ ((spec_l1Cur × impl_Transport) ⊕ ((spec_l1Cur × impl_Transport) ⊕ ((spec_l1Cur × impl_Transport) ⊕ (impl_Transport × spec_l1Cur))))) → Prop
  | .inl a => Dim a.2
  | .inr b => Q4 b

theorem tanyTransport {B : Nat} {c : spec_l1Cur} (hc : Cur B c) (hB : B ≤ 100000000) : Tot (spec_l1Cur_anyTransport c) fun r => Dim r.1 := by
  unfold spec_l1Cur_anyTransport
  refine tot_bind (ttransport hc hB) fun ⟨t, c1⟩ ⟨m, n, hm1, hm, hn1, hn, ht, k1⟩ => ?_
  simp only at ht k1 ⊢
  have a1 := ht.rl; have a2 := ht.cl; have a3 := ht.ll; have a4 := ht.hl
  refine tot_bind (tpick k1) fun ⟨b, c2⟩ ⟨_, _, _, k2⟩ => ?_
  simp only at k2 ⊢
  refine tot_bind (Q := Q1) (tot_cond (fun _ => ?_) fun _ => tot_bind (Q := Q2) (tot_cond (fun _ => ?_) fun _ => tot_bind (Q := Q3) (tot_cond (fun _ => ?_) fun _ => tot_bind (Q := Q4) (tot_cond (fun _ => ?_) fun _ => tot_bind (Q := Q5) (tot_cond (fun _ => ?_) fun _ => tot_cond (fun _ => ?_) fun _ => tot_cond (fun _ => ?_) fun _ => ?_) fun o ho => ?_) fun o ho => ?_) fun o ho => ?_) fun o ho => ?_) fun o ho => ?_
  · refine tot_bind (tamong k2) fun ⟨v, c3⟩ _ => ?_
    refine tot_bind (tot_at (Q := fun _ => True) (by omega) (by omega) fun _ _ _ => trivial) fun e1 _ => ?_
    refine tot_some ?_
    show Dim _
    exact ⟨by simp only [goSet, List.length_set]; omega, by simp only; omega, by simp only; omega, by simp only; omega⟩
  · refine tot_bind (tot_at (Q := fun e => e ∈ t.Lo) (by omega) (by omega) fun e _ he => he) fun e1 m1 => ?_
    refine tot_bind (tot_at (Q := fun e => e ∈ t.Hi) (by omega) (by omega) fun e _ he => he) fun e2 m2 => ?_
    have b1 := ht.lr _ m1; have b2 := ht.hr _ m2
    refine tot_bind (tot_at (Q := fun _ => True) (by omega) (by omega) fun _ _ _ => trivial) fun e3 _ => ?_
    refine tot_bind (tot_at (Q := fun _ => True) (by omega) (by omega) fun _ _ _ => trivial) fun e4 _ => ?_
    refine tot_some ?_
    show Dim _
    exact ⟨by simp only; omega, by simp only; omega, by simp only [goSet, List.length_set]; omega, by simp only; omega⟩
  · refine tot_bind (tot_sub (Q := fun l => l.length ≤ 1000) (by omega) (by simp only [goLen]; omega) (by simp only [goLen]; omega) (by simp; omega)) fun l hl => ?_
    refine tot_some ?_
    show Dim _
    exact ⟨by simp only; omega, by simp only; omega, hl, by simp only; omega⟩
  · refine tot_bind (tot_app (Q := fun l => l.length ≤ 1000) (by simp; omega) (by simp; omega)) fun l hl => ?_
    refine tot_some ?_
    show Dim _
    exact ⟨by simp only; omega, hl, by simp only; omega, by simp only; omega⟩
  · refine tot_bind (Q := fun r : spec_l1Cur × impl_Transport => Dim r.2) ?_ fun ⟨c9, t9⟩ h9 => tot_some (show Q5 (.inl (c9, t9)) from h9)
    refine tot_bind (tot_at (Q := fun e => e ∈ t.Hi) (by omega) (by omega) fun e _ he => he) fun e2 m2 => ?_
    have b2 := ht.hr _ m2
    refine tot_bind (tamong k2) fun ⟨v, c3⟩ _ => ?_
    refine tot_bind (tot_at (Q := fun _ => True) (by omega) (by omega) fun _ _ _ => trivial) fun e3 _ => ?_
    refine tot_some ?_
    show Dim _
    exact ⟨by simp only; omega, by simp only; omega, by simp only; omega, by simp only [goSet, List.length_set]; omega⟩
  · refine tot_bind (tpick k2) fun ⟨v, c3⟩ ⟨v0, v1, _, _⟩ => ?_
    simp only at v0 v1 ⊢
    have v1 := v1 (by omega)
    refine tot_bind (tfilled (m := 4) (n := (4 + v).toNat) rfl (by rw [wid (by omega) (by omega)]; omega) (by omega) (by omega) (by omega) (by omega)) fun w hw => tot_some (show Q5 (.inr (.inr (.inr (.inr (.inr (w, c3)))))) from hw)
  · refine tot_bind (tpick k2) fun ⟨v, c3⟩ ⟨v0, v1, _, _⟩ => ?_
    simp only at v0 v1 ⊢
    have v1 := v1 (by omega)
    refine tot_bind (tfilled (m := (8 + v).toNat) (n := 1) (by rw [wid (by omega) (by omega)]; omega) rfl (by omega) (by omega) (by omega) (by omega)) fun w hw => tot_some (show Q5 (.inr (.inr (.inr (.inr (.inr (w, c3)))))) from hw)
  · refine tot_some ?_
    show Dim _
    exact ⟨by simp only; omega, by simp only; omega, by simp only; omega, by simp only; omega⟩
  all_goals
    rcases o with ⟨c9, t9⟩ | o
    · exact tot_some ho
    · exact tot_some ho

theorem tDrawTr {code : List (K .u8)} (ho : ∀ x ∈ code, Rng.ok x) : Tot (spec_DrawIsTransport code) Dim := by
  unfold spec_DrawIsTransport
  exact tot_bind (tanyTransport (cur0 ho) (by omega)) fun r hr => tot_some hr

end Go.Gx.F
