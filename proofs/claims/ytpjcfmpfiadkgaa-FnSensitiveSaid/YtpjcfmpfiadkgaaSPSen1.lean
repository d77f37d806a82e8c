/- Plain laws: two-way tables, patterns and amounts that are drawn. -/
import Derived.Test.YtpjcfmpfiadkgaaSPLst
namespace Go.Gx.F
open Go.Gx
set_option linter.all false

def Sz (x : List (List Int)) : Prop := x.length ≤ 10 ∧ ∀ r ∈ x, r.length ≤ 10

def Two (x : List (List Int)) : Prop := 1 ≤ x.length ∧ x.length ≤ 4 ∧ ∀ r ∈ x, 1 ≤ r.length ∧ r.length ≤ 4

theorem ttwo {B : Nat} {c : spec_l1Cur} (h : Cur B c) (hB : B ≤ 1000000 := by omega) : Tot (spec_l1Cur_twoWay c) fun r => Two r.1 ∧ Cur (B + 100) r.2 := by
  unfold spec_l1Cur_twoWay
  refine tot_bind (tpick h) fun ⟨x, c1⟩ ⟨x0, x1, _, k1⟩ => ?_
  refine tot_bind (tpick k1) fun ⟨y, c2⟩ ⟨y0, y1, _, k2⟩ => ?_
  simp only at x0 x1 y0 y1 k2
  have hx := x1 (by omega)
  have hy := y1 (by omega)
  have wx : w64 (1 + x) = 1 + x := wid (by omega) (by omega)
  have wy : w64 (1 + y) = 1 + y := wid (by omega) (by omega)
  refine tot_bind (Q := fun r => Two r.1 ∧ Cur (B + 100) r.2) (tot_loop (fun s => ∃ k : Nat, s.2.1 = (k : Int) ∧ (k : Int) ≤ 1 + x ∧ s.1.length = k ∧ (∀ r ∈ s.1, 1 ≤ r.length ∧ r.length ≤ 4) ∧ Cur (B + 4 + 16 * k) s.2.2) (fun s => 10 - s.2.1.toNat) ⟨0, rfl, by omega, rfl, fun r hr => by simp at hr, k2.le (by omega)⟩ ?_) fun ⟨o, c3⟩ ho => tot_some ho
  rintro ⟨out, i, c3⟩ ⟨k, hk, hkx, hlen, hrs, k3⟩
  simp only at hk hlen hrs k3
  subst hk
  simp only [spec_l1Cur_twoWay_l1, wx]
  refine tot_cond (fun hc => ?_) fun hc => tot_some ?_
  · have hc' : (k : Int) < 1 + x := by simpa using hc
    refine tot_bind (Q := fun r => (1 ≤ r.1.length ∧ r.1.length ≤ 4) ∧ Cur (B + 4 + 16 * (k + 1)) r.2) (tot_loop (fun s => ∃ j : Nat, s.2.1 = (j : Int) ∧ (j : Int) ≤ 1 + y ∧ s.1.length = j ∧ Cur (B + 4 + 16 * k + 4 * j) s.2.2) (fun s => 10 - s.2.1.toNat) ⟨0, rfl, by omega, rfl, k3.le (by omega)⟩ ?_) fun ⟨row, c4⟩ ⟨hrow, k4⟩ => ?_
    · rintro ⟨row, j', c4⟩ ⟨j, hj, hjy, hrl, k4⟩
      simp only at hj hrl k4
      subst hj
      simp only [spec_l1Cur_twoWay_l2, wy]
      refine tot_cond (fun hd => ?_) fun hd => tot_some ?_
      · have hd' : (j : Int) < 1 + y := by simpa using hd
        refine tot_bind (tpick k4) fun ⟨z, c5⟩ ⟨_, _, _, k5⟩ => ?_
        refine tot_bind (tamong k5) fun ⟨v, c6⟩ ⟨_, k6⟩ => ?_
        refine tot_bind (tot_app (Q := fun l => l.length = j + 1) (by simp; omega) (by simp [hrl])) fun l hl => tot_some ⟨⟨j + 1, ?_, by omega, hl, k6.le (by omega)⟩, ?_⟩
        · simp only; rw [wid (by omega) (by omega)]; omega
        · simp only; rw [wid (by omega) (by omega)]; omega
      · have hd' : ¬ (j : Int) < 1 + y := by simpa using hd
        exact ⟨by simp only; omega, k4.le (by omega)⟩
    · refine tot_bind (tot_app (Q := fun l => l = out ++ [row]) (by simp; omega) rfl) fun l hl => tot_some ⟨⟨k + 1, ?_, by omega, by simp only; rw [hl]; simp [hlen], fun r hr => ?_, k4⟩, ?_⟩
      · simp only; rw [wid (by omega) (by omega)]; omega
      · simp only at hr
        rw [hl, List.mem_append, List.mem_singleton] at hr
        rcases hr with hr | rfl
        · exact hrs r hr
        · exact hrow
      · simp only; rw [wid (by omega) (by omega)]; omega
  · have hc' : ¬ (k : Int) < 1 + x := by simpa using hc
    exact ⟨⟨by simp only; omega, by simp only; omega, hrs⟩, k3.le (by omega)⟩

theorem Two.sz {x : List (List Int)} (h : Two x) : Sz x := ⟨by have := h.2.1; omega, fun r hr => by have := (h.2.2 r hr).2; omega⟩

theorem Two.at0 {x : List (List Int)} (h : Two x) : ∃ r, goAt x 0 = some r ∧ 1 ≤ r.length ∧ r.length ≤ 4 := by
  obtain ⟨h1, h2, h3⟩ := h
  cases x with
  | nil => simp at h1
  | cons r x => exact ⟨r, rfl, h3 r (by simp)⟩

theorem sz_set {x : List (List Int)} {i : Nat} {r : List Int} (h : Sz x) (hr : r.length ≤ 10) : Sz (x.set i r) := by
  refine ⟨by rw [List.length_set]; exact h.1, fun q hq => ?_⟩
  rcases List.mem_or_eq_of_mem_set hq with h1 | rfl
  · exact h.2 q h1
  · exact hr

theorem tanyTwo {B : Nat} {c : spec_l1Cur} (h : Cur B c) (hB : B ≤ 100000 := by omega) : Tot (spec_l1Cur_anyTwoWay c) fun r => Sz r.1 ∧ Cur (B + 110) r.2 := by
  unfold spec_l1Cur_anyTwoWay
  refine tot_bind (ttwo h) fun ⟨x, c1⟩ ⟨hx, k1⟩ => ?_
  refine tot_bind (tpick k1) fun ⟨y, c2⟩ ⟨_, _, _, k2⟩ => ?_
  simp only at hx k1 k2 ⊢
  obtain ⟨r0, e0, l1, l2⟩ := hx.at0
  have e1 : ∃ v, goAt r0 0 = some v := by
    cases r0 with
    | nil => simp at l1
    | cons v r => exact ⟨v, rfl⟩
  obtain ⟨v0, e1⟩ := e1
  refine tot_bind (Q := fun r : ((List (List Int)) × spec_l1Cur) ⊕ ((List (List Int)) × spec_l1Cur) => match r with | .inl s => Sz s.1 ∧ Cur (B + 110) s.2 | .inr s => Sz s.1 ∧ Cur (B + 110) s.2) ?_ fun r hr => ?_
  · refine tot_cond (fun _ => ?_) fun _ => ?_
    · rw [e0, Option.bind_some]
      refine tot_bind (Q := fun r => Sz r.1 ∧ Cur (B + 110) r.2) ?_ fun r hr => tot_some hr
      refine tot_bind (tamong k2) fun ⟨z, c3⟩ ⟨_, k3⟩ => ?_
      rw [e1, Option.bind_some]
      exact tot_some ⟨sz_set hx.sz (by simp only [List.length_set]; omega), k3.le (by omega)⟩
    · refine tot_bind (Q := fun r : (List (List Int)) ⊕ (((List (List Int)) × spec_l1Cur) ⊕ ((List (List Int)) × spec_l1Cur)) => match r with | .inl s => Sz s | .inr (.inl s) => Sz s.1 ∧ Cur (B + 110) s.2 | .inr (.inr s) => Sz s.1 ∧ Cur (B + 110) s.2) ?_ fun r hr => ?_
      · refine tot_cond (fun _ => ?_) fun _ => tot_cond (fun _ => tot_some ⟨⟨by simp, fun r hr => by simp at hr⟩, k2.le (by omega)⟩) fun _ => tot_cond (fun _ => ?_) fun _ => tot_some hx.sz
        · rw [e0, Option.bind_some]
          refine tot_bind (tot_app (Q := fun l => l.length ≤ 10) (by simp; omega) (by simp; omega)) fun l hl => ?_
          rw [Option.bind_some]
          exact tot_some (sz_set hx.sz hl)
        · refine tot_bind (tpick k2) fun ⟨z, c3⟩ ⟨z0, z1, _, k3⟩ => ?_
          have hz := z1 (by omega)
          simp only at z0 hz k3
          refine tot_bind (tot_make (n := (1 + z).toNat) (Q := fun l => Sz l) ?_ (by omega) (by omega) ⟨by simp; omega, fun r hr => by rw [List.mem_replicate] at hr; rw [hr.2]; simp⟩) fun l hl => tot_some ⟨hl, k3.le (by omega)⟩
          rw [wid (by omega) (by omega)]; omega
      · rcases r with r | r | r
        · exact tot_some ⟨hr, k2.le (by omega)⟩
        · exact tot_some hr
        · exact tot_some hr
  · rcases r with r | r
    · exact tot_some hr
    · exact tot_some hr

theorem tamounts {B : Nat} {c : spec_l1Cur} (h : Cur B c) (hB : B ≤ 100000 := by omega) : Tot (spec_l1Cur_amounts c) fun r => r.1.length ≤ 41 ∧ Cur (B + 200) r.2 := by
  unfold spec_l1Cur_amounts
  refine tot_bind (tpick h) fun ⟨x, c1⟩ ⟨x0, x1, _, k1⟩ => ?_
  have hx := x1 (by omega)
  simp only at x0 hx k1
  refine tot_bind (Q := fun r => r.1.length ≤ 6 ∧ Cur (B + 30) r.2) (tot_loop (fun s => (s.1.length : Int) + s.2.1 ≤ 6 ∧ 0 ≤ s.2.1 ∧ Cur (B + 2 + 4 * s.1.length) s.2.2) (fun s => s.2.1.toNat) ⟨by simp; omega, x0, k1.le (by simp)⟩ ?_) fun ⟨l, c2⟩ ⟨hl, k2⟩ => ?_
  · rintro ⟨l, k, c2⟩ ⟨h1, h2, k2⟩
    simp only at h1 h2 k2
    simp only [spec_l1Cur_amounts_l1]
    refine tot_cond (fun hc => ?_) fun hc => tot_some ⟨by simp only; omega, k2.le (by omega)⟩
    have hc' : 0 < k := by simpa using hc
    refine tot_bind (tpick k2) fun ⟨z, c5⟩ ⟨_, _, _, k5⟩ => ?_
    refine tot_bind (tamong k5) fun ⟨v, c6⟩ ⟨_, k6⟩ => ?_
    refine tot_bind (tot_app (Q := fun r => r.length = l.length + 1) (by simp; omega) (by simp)) fun r hr => tot_some ⟨⟨?_, ?_, k6.le (by simp only; omega)⟩, ?_⟩ <;> (simp only; rw [wid (by omega) (by omega)]; omega)
  · simp only at hl k2
    refine tot_bind (tpick k2) fun ⟨y, c3⟩ ⟨_, _, _, k3⟩ => ?_
    simp only at k3 ⊢
    refine tot_bind (Q := fun r => r.1.length ≤ 41 ∧ Cur (B + 200) r.2) ?_ fun ⟨r, c4⟩ hr => tot_some hr
    refine tot_cond (fun _ => ?_) fun _ => ?_
    · refine tot_bind (tamong k3) fun ⟨v, c6⟩ ⟨_, k6⟩ => ?_
      exact tot_bind (tot_app (Q := fun r => r.length = l.length + 1) (by simp; omega) (by simp)) fun r hr => tot_some ⟨by simp only; omega, k6.le (by omega)⟩
    · refine tot_bind (Q := fun r => r.1.length ≤ 41 ∧ Cur (B + 200) r.2) ?_ fun ⟨r, c4⟩ hr => tot_some hr
      refine tot_cond (fun _ => ?_) fun _ => tot_some ⟨by simp only; omega, k3.le (by omega)⟩
      refine tot_bind (Q := fun r => r.1.length ≤ 41 ∧ Cur (B + 200) r.2) (tot_loop (fun s => s.1.length ≤ 41 ∧ Cur (B + 40 + 2 * s.1.length) s.2) (fun s => 50 - s.1.length) ⟨by simp only; omega, k3.le (by omega)⟩ ?_) fun ⟨r, c4⟩ hr => tot_some hr
      rintro ⟨l, c4⟩ ⟨h1, k4⟩
      simp only at h1 k4
      simp only [spec_l1Cur_amounts_l2]
      refine tot_bind (tpick k4) fun ⟨z, c5⟩ ⟨z0, z1, _, k5⟩ => ?_
      have hz := z1 (by omega)
      simp only at z0 hz k5 ⊢
      rw [wid (n := 40 + z) (by omega) (by omega)]
      refine tot_cond (fun hc => ?_) fun _ => tot_some ⟨by simp only; omega, k5.le (by omega)⟩
      have hc' : goLen l < 40 + z := by simpa using hc
      simp only [goLen] at hc'
      exact tot_bind (tot_app (Q := fun r => r.length = l.length + 1) (by simp; omega) (by simp)) fun r hr => tot_some ⟨⟨by simp only; omega, k5.le (by simp only; omega)⟩, by simp only; omega⟩

theorem tone2 {B : Nat} {c : spec_l1Cur} {k : Int} (h : Cur B c) (hB : B ≤ 4000000000000000000 := by omega) (hk : k ≤ 1000000000 := by omega) : Tot (spec_l1Cur_one c k) fun r => Cur (B + 2) r.2 := tone h hB hk

theorem tpat {B : Nat} {c : spec_l1Cur} {x : List (List Int)} (h : Cur B c) (hx : Two x) (hB : B ≤ 100000 := by omega) : Tot (spec_l1Cur_pattern c x) fun r => Sz r.1 ∧ Cur (B + 200) r.2 := by
  unfold spec_l1Cur_pattern
  obtain ⟨x1, x2, x3⟩ := hx
  refine tot_bind (Q := fun r => Two r.1 ∧ Cur (B + 100) r.2) (tot_loop (fun s => ∃ k : Nat, s.2.1 = (k : Int) ∧ k ≤ x.length ∧ s.1.length = k ∧ (∀ r ∈ s.1, 1 ≤ r.length ∧ r.length ≤ 4) ∧ Cur (B + 10 * k) s.2.2) (fun s => 10 - s.2.1.toNat) ⟨0, rfl, by omega, rfl, fun r hr => by simp at hr, h.le (by omega)⟩ ?_) fun ⟨o, c3⟩ ⟨ho, k3⟩ => ?_
  · rintro ⟨out, i, c3⟩ ⟨k, hk, hkx, hlen, hrs, k3⟩
    simp only at hk hlen hrs k3
    subst hk
    simp only [spec_l1Cur_pattern_l1]
    refine tot_cond (fun hc => ?_) fun hc => tot_some ?_
    · have hc' : (k : Int) < goLen x := by simpa using hc
      simp only [goLen] at hc'
      refine tot_bind (tot_at (Q := fun e => 1 ≤ e.length ∧ e.length ≤ 4) (by omega) (by omega) fun e _ he => x3 e he) fun e ⟨he1, he2⟩ => ?_
      refine tot_bind (tot_make (n := e.length) (Q := fun l => l.length = e.length) rfl (by omega) (by omega) (by simp)) fun z hz => ?_
      refine tot_bind (Q := fun r => r.1.length = e.length ∧ Cur (B + 10 * (k + 1)) r.2) (tot_loop (fun s => ∃ j : Nat, s.2.1 = (j : Int) ∧ j ≤ e.length ∧ s.1.length = e.length ∧ Cur (B + 10 * k + 2 * j) s.2.2) (fun s => 10 - s.2.1.toNat) ⟨0, rfl, by omega, hz, k3.le (by omega)⟩ ?_) fun ⟨row, c4⟩ ⟨hrow, k4⟩ => ?_
      · rintro ⟨row, j', c4⟩ ⟨j, hj, hjy, hrl, k4⟩
        simp only at hj hrl k4
        subst hj
        simp only [spec_l1Cur_pattern_l2]
        refine tot_cond (fun hd => ?_) fun hd => tot_some ?_
        · have hd' : (j : Int) < goLen z := by simpa using hd
          simp only [goLen] at hd'
          refine tot_bind (tone k4) fun ⟨v, c6⟩ k6 => ?_
          simp only at k6 ⊢
          refine tot_bind (Q := fun l => l.length = e.length) (tot_cond (fun _ => ?_) fun _ => tot_some hrl) fun l hl => tot_some ⟨⟨j + 1, ?_, by omega, hl, k6.le (by omega)⟩, ?_⟩
          · exact tot_bind (tot_at (Q := fun _ => True) (by omega) (by omega) fun _ _ _ => trivial) fun _ _ => tot_some (by simp [hrl])
          · simp only; rw [wid (by omega) (by omega)]; omega
          · simp only; rw [wid (by omega) (by omega)]; omega
        · exact ⟨hrl, k4.le (by omega)⟩
      · simp only at hrow k4
        refine tot_bind (tot_app (Q := fun l => l = out ++ [row]) (by simp; omega) rfl) fun l hl => tot_some ⟨⟨k + 1, ?_, by omega, by simp only; rw [hl]; simp [hlen], fun r hr => ?_, k4⟩, ?_⟩
        · simp only; rw [wid (by omega) (by omega)]; omega
        · simp only at hr
          rw [hl, List.mem_append, List.mem_singleton] at hr
          rcases hr with hr | rfl
          · exact hrs r hr
          · omega
        · simp only; rw [wid (by omega) (by omega)]; omega
    · have hc' : ¬ (k : Int) < goLen x := by simpa using hc
      simp only [goLen] at hc'
      exact ⟨⟨by simp only; omega, by simp only; omega, hrs⟩, k3.le (by omega)⟩
  · simp only at ho k3 ⊢
    obtain ⟨r0, e0, l1, l2⟩ := ho.at0
    have e1 : ∃ v, goAt r0 0 = some v := by
      cases r0 with
      | nil => simp at l1
      | cons v r => exact ⟨v, rfl⟩
    obtain ⟨v0, e1⟩ := e1
    refine tot_bind (Q := fun r => Cur (B + 102) r.2) ?_ fun ⟨t, c4⟩ k4 => ?_
    · refine tot_cond (fun _ => ?_) fun _ => tot_some (k3.le (by omega))
      rw [e0, Option.bind_some]
      refine tot_cond (fun _ => ?_) fun _ => tot_some (k3.le (by omega))
      exact tot_bind (tone k3) fun ⟨v, c6⟩ k6 => tot_some (k6.le (by omega))
    · simp only at k4
      refine tot_bind (Q := fun r : ((List (List Int)) × spec_l1Cur) ⊕ ((List (List Int)) × spec_l1Cur) => match r with | .inl s => Sz s.1 ∧ Cur (B + 200) s.2 | .inr s => Sz s.1 ∧ Cur (B + 200) s.2) ?_ fun r hr => ?_
      · refine tot_cond (fun _ => ?_) fun _ => ?_
        · refine tot_bind (Q := fun r => Sz r.1 ∧ Cur (B + 200) r.2) ?_ fun r hr => tot_some hr
          rw [e0, Option.bind_some]
          refine tot_bind (tamong k4) fun ⟨z, c5⟩ ⟨_, k5⟩ => ?_
          rw [e1, Option.bind_some]
          exact tot_some ⟨sz_set ho.sz (by simp only [List.length_set]; omega), k5.le (by omega)⟩
        · refine tot_bind (tone k4) fun ⟨v, c6⟩ k6 => ?_
          simp only at k6
          refine tot_cond (fun _ => ?_) fun _ => tot_some ⟨ho.sz, k6.le (by omega)⟩
          refine tot_bind (tot_app (Q := fun l => Sz l) ?_ ?_) fun l hl => tot_some ⟨hl, k6.le (by omega)⟩
          · have := ho.2.1; simp; omega
          · have := ho.2.1
            refine ⟨by simp; omega, fun r hr => ?_⟩
            rw [List.mem_append, List.mem_singleton] at hr
            rcases hr with hr | rfl
            · exact ho.sz.2 r hr
            · simp
      · rcases r with r | r
        · exact tot_some hr
        · exact tot_some hr

end Go.Gx.F
