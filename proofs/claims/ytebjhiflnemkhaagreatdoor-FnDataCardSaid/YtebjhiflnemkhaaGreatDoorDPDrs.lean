/- Plain laws: geographies, schemas, surveys and tables that are drawn. -/
import Derived.Test.YtebjhiflnemkhaaGreatDoorDPTof
namespace Go.Gx.F
open Go.Gx
set_option linter.all false

theorem geo_app {p : List Int} {x : Int} (h : GeoOk p) (hl : p.length < 30) (h0 : 0 ≤ x) (h1 : x < p.length) : GeoOk (p ++ [x]) := by
  refine ⟨by simp, by simp; omega, ?_, fun k y hk h2 => ?_⟩
  · rw [List.getElem?_append_left (by have := h.l1; omega)]; exact h.rt
  · by_cases hkl : k < p.length
    · rw [List.getElem?_append_left hkl] at hk
      exact h.up k y hk h2
    · have hk2 := (List.getElem?_eq_some_iff.1 hk).1
      simp at hk2
      rw [List.getElem?_append_right (by omega), show k - p.length = 0 by omega] at hk
      have : x = y := by simpa using hk
      omega

/-- a small schema -/
structure SmallS (n : Nat) (s : List impl_Variable) : Prop where
  l : s.length ≤ n
  b : ∀ v ∈ s, v.Name.length ≤ 9 ∧ 1 ≤ v.Levels ∧ v.Levels ≤ 9

theorem SmallS.tame {n : Nat} {s : List impl_Variable} (h : SmallS n s) (hn : n ≤ 1000 := by omega) : TameS s := ⟨by have := h.l; omega, fun v hv => by have := (h.b v hv).1; omega⟩

theorem SmallS.push {n m : Nat} {s : List impl_Variable} {v : impl_Variable} (h : SmallS n s) (hv : v.Name.length ≤ 9 ∧ 1 ≤ v.Levels ∧ v.Levels ≤ 9) (hm : s.length + 1 ≤ m) : SmallS m (s ++ [v]) := ⟨by simp; omega, fun w hw => by
  rcases List.mem_append.1 hw with hw | hw
  · exact h.b w hw
  · rw [List.mem_singleton.1 hw]; exact hv⟩

theorem SmallS.set {n : Nat} {s : List impl_Variable} {v : impl_Variable} (h : SmallS n s) (hv : v.Name.length ≤ 9 ∧ 1 ≤ v.Levels ∧ v.Levels ≤ 9) (k : Nat) : SmallS n (s.set k v) := ⟨by rw [List.length_set]; exact h.l, fun w hw => by
  rcases List.mem_or_eq_of_mem_set hw with hw | rfl
  · exact h.b w hw
  · exact hv⟩

theorem SmallS.le {n m : Nat} {s : List impl_Variable} (h : SmallS n s) (hm : n ≤ m) : SmallS m s := ⟨by have := h.l; omega, h.b⟩

theorem tschema {B : Nat} {c : spec_l1Cur} (h : Cur B c) (hB : B ≤ 1000000 := by omega) : Tot (spec_l1Cur_schema c) fun r => SmallS 3 r.1 ∧ 1 ≤ r.1.length ∧ Cur (B + 14) r.2 := by
  unfold spec_l1Cur_schema
  refine tot_bind (Q := fun r => SmallS 3 r.1 ∧ 1 ≤ r.1.length ∧ Cur (B + 14) r.2) (tot_loop (fun t => ∃ k : Nat, t.2.1 = (k : Int) ∧ t.1.length = k ∧ SmallS 3 t.1 ∧ Cur (B + 4 * k) t.2.2) (fun t => 3 - t.2.1.toNat) ⟨0, rfl, rfl, ⟨by simp, by simp⟩, h.le (by omega)⟩ ?_) fun ⟨s3, c3⟩ ⟨h1, h2, h3⟩ => tot_some ⟨h1, h2, h3⟩
  rintro ⟨s3, _, c3⟩ ⟨k, rfl, hk, hs, kc⟩
  simp only at hk hs kc
  have hs3 := hs.l
  simp only [spec_l1Cur_schema_l1]
  refine tot_bind (tpick kc) fun ⟨x, c4⟩ ⟨x0, x1, _, k4⟩ => ?_
  have hx := x1 (by omega)
  simp only at x0 hx
  refine tot_cond (fun hc => ?_) fun hc => ?_
  · have hc' : (k : Int) < w64 (1 + x) := by simpa using hc
    rw [wid (by omega) (by omega)] at hc'
    have hT : Tot (((goAt ([([115, 101, 120] : List UInt8), ([97, 103, 101] : List UInt8), ([106, 111, 98] : List UInt8), ([104, 111, 109, 101] : List UInt8), ([115, 105, 122, 101] : List UInt8), ([108, 97, 110, 103] : List UInt8)] : List (List UInt8)) (k : Int)).bind fun e_11 => ((spec_l1Cur_pick c4 3).bind fun t_17 => ((goApp 24 s3 ([(impl_Variable.mk e_11 (w64 (2 + t_17.1)))] : List impl_Variable)).bind fun l_20 => some (l_20, t_17.2)))) : Option ((List impl_Variable) × spec_l1Cur)) fun r => r.1.length = k + 1 ∧ SmallS 3 r.1 ∧ Cur (B + 4 * (k + 1)) r.2 := by
      refine tot_bind (tot_at (Q := fun e => e.length ≤ 9) (by omega) (by simp; omega) fun e _ he => ?_) fun w hw => ?_
      · simp only [List.mem_cons, List.not_mem_nil, or_false] at he
        rcases he with rfl | rfl | rfl | rfl | rfl | rfl <;> simp
      · refine tot_bind (tpick k4) fun ⟨y, c5⟩ ⟨y0, y1, _, k5⟩ => ?_
        have hy := y1 (by omega)
        simp only at y0 hy
        rw [goApp_ok (by simp; omega), Option.bind_some]
        exact tot_some ⟨by simp; omega, hs.push ⟨hw, by show 1 ≤ w64 (2 + y) ∧ w64 (2 + y) ≤ 9; rw [wid (by omega) (by omega)]; omega⟩ (by omega), k5.le (by omega)⟩
    refine tot_bind hT fun ⟨s4, c5⟩ ⟨h1, h2, h3⟩ => tot_some ⟨⟨k + 1, by simp only; rw [wid (by omega) (by omega)]; omega, h1, h2, h3⟩, by simp only; rw [wid (by omega) (by omega)]; omega⟩
  · have hc' : ¬ (k : Int) < w64 (1 + x) := by simpa using hc
    rw [wid (by omega) (by omega)] at hc'
    exact tot_some ⟨hs, by simp only; omega, k4.le (by omega)⟩

theorem tvalues {B n : Nat} {c : spec_l1Cur} {s : List impl_Variable} (h : Cur B c) (hs : SmallS n s) (hn : n ≤ 100 := by omega) (hB : B ≤ 1000000 := by omega) : Tot (spec_l1Cur_values c s) fun r => r.1.length = s.length ∧ Cur (B + 2 * n) r.2 := by
  unfold spec_l1Cur_values
  have hl := hs.l
  refine tot_bind (Q := fun r => r.1.length = s.length ∧ Cur (B + 2 * n) r.2) (tot_loop (fun t => ∃ k : Nat, t.2.1 = (k : Int) ∧ k ≤ s.length ∧ t.1.length = k ∧ Cur (B + 2 * k) t.2.2) (fun t => s.length - t.2.1.toNat) ⟨0, rfl, by omega, rfl, h.le (by omega)⟩ ?_) fun ⟨s3, c3⟩ ⟨h1, h2⟩ => tot_some ⟨h1, h2⟩
  rintro ⟨o, _, c3⟩ ⟨k, rfl, hk, ho, kc⟩
  simp only at ho kc
  simp only [spec_l1Cur_values_l1]
  refine tot_cond (fun hc => ?_) fun hc => tot_some ⟨?_, kc.le (by omega)⟩
  · have hc' : (k : Int) < s.length := by simpa [goLen] using hc
    refine tot_bind (tot_at (Q := fun v => v.Levels ≤ 9) (by omega) hc' fun e _ he => (hs.b e he).2.2) fun v hv => ?_
    refine tot_bind (tpick kc) fun ⟨y, c5⟩ ⟨y0, y1, _, k5⟩ => ?_
    rw [goApp_ok (by simp; omega), Option.bind_some]
    exact tot_some ⟨⟨k + 1, by simp only; rw [wid (by omega) (by omega)]; omega, by omega, by simp; omega, k5.le (by omega)⟩, by simp only; rw [wid (by omega) (by omega)]; omega⟩
  · have hc' : ¬ (k : Int) < s.length := by simpa [goLen] using hc
    simp only; omega

theorem trecord {B n : Nat} {c : spec_l1Cur} {s : List impl_Variable} {areas : List Int} (h : Cur B c) (hs : SmallS n s) (ha : 1 ≤ areas.length ∧ areas.length ≤ 1000) (hn : n ≤ 100 := by omega) (hB : B ≤ 900000 := by omega) : Tot (spec_l1Cur_record c s areas) fun r => r.1.Values.length ≤ n ∧ Cur (B + 4 + 2 * n) r.2 := by
  unfold spec_l1Cur_record
  have hl := hs.l
  refine tot_bind (tamong h (h1 := ha.1) (h2 := by omega)) fun ⟨a, c1⟩ ⟨_, k1⟩ => ?_
  refine tot_bind (tpick k1) fun ⟨y, c2⟩ ⟨_, _, _, k2⟩ => ?_
  refine tot_bind (tvalues k2 hs) fun ⟨v, c3⟩ ⟨hv, k3⟩ => tot_some ⟨by simp only at hv ⊢; omega, k3.le (by omega)⟩

theorem tdata {B n : Nat} {c : spec_l1Cur} {s : List impl_Variable} {areas : List Int} (h : Cur B c) (hs : SmallS n s) (ha : 1 ≤ areas.length ∧ areas.length ≤ 1000) (hn : n ≤ 100 := by omega) (hB : B ≤ 100000 := by omega) :
    Tot (spec_l1Cur_data c s areas) fun r => r.1.length ≤ 22 ∧ (∀ x ∈ r.1, x.Values.length ≤ n) ∧ Cur (B + 2 + 11 * (6 + 2 * n)) r.2 := by
  unfold spec_l1Cur_data
  refine tot_bind (tpick h) fun ⟨x, c1⟩ ⟨x0, x1, _, k1⟩ => ?_
  have hx := x1 (by omega)
  simp only at x0 hx
  obtain ⟨i, hi⟩ := Int.eq_ofNat_of_zero_le x0
  refine tot_bind (Q := fun r => r.1.length ≤ 22 ∧ (∀ x ∈ r.1, x.Values.length ≤ n) ∧ Cur (B + 2 + 11 * (6 + 2 * n)) r.2) (tot_loop (fun t => ∃ k j : Nat, t.2.1 = (k : Int) ∧ k + j = 11 ∧ t.1.length ≤ 2 * j ∧ (∀ x ∈ t.1, x.Values.length ≤ n) ∧ Cur (B + 2 + j * (6 + 2 * n)) t.2.2) (fun t => t.2.1.toNat) ⟨i, 11 - i, hi, by omega, by simp, by simp, k1.le (by omega)⟩ ?_) fun ⟨s3, c3⟩ h1 => tot_some h1
  rintro ⟨o, _, c3⟩ ⟨k, j, rfl, hk, ho, hv, kc⟩
  simp only at ho kc hv
  have hj : j * (6 + 2 * n) ≤ 11 * (6 + 2 * n) := Nat.mul_le_mul_right _ (by omega)
  simp only [spec_l1Cur_data_l1]
  refine tot_cond (fun hc => ?_) fun hc => tot_some ⟨by simp only; omega, hv, kc.le (by omega)⟩
  have hc' : 0 < (k : Int) := by simpa using hc
  have hj2 : (j + 1) * (6 + 2 * n) = j * (6 + 2 * n) + 6 + 2 * n := by rw [Nat.add_mul]; omega
  refine tot_bind (trecord kc hs ha) fun ⟨r, c4⟩ ⟨hr, k4⟩ => ?_
  simp only at hr k4
  rw [goApp_ok (by simp; omega), Option.bind_some]
  refine tot_bind (tone k4) fun ⟨b, c5⟩ k5 => ?_
  have hv2 : ∀ x ∈ o ++ [r], x.Values.length ≤ n := fun x hx => by
    rcases List.mem_append.1 hx with hx | hx
    · exact hv x hx
    · rw [List.mem_singleton.1 hx]; exact hr
  refine tot_bind (Q := fun z => z.length ≤ 2 * (j + 1) ∧ ∀ x ∈ z, x.Values.length ≤ n) (tot_cond (fun _ => ?_) fun _ => tot_some ⟨by simp; omega, hv2⟩) fun z hz => tot_some ⟨⟨k - 1, j + 1, by simp only; rw [wid (by omega) (by omega)]; omega, by omega, hz.1, hz.2, k5.le (by omega)⟩, by simp only; rw [wid (by omega) (by omega)]; omega⟩
  unfold spec_rOwn
  rw [own_eq (by omega), Option.bind_some, Option.bind_some, goApp_ok (by simp; omega), Option.bind_some]
  exact tot_some ⟨by simp; omega, fun x hx => by
    rcases List.mem_append.1 hx with hx | hx
    · exact hv2 x hx
    · rw [List.mem_singleton.1 hx]; exact hr⟩

/-- records that are drawn -/
def SmallD (l : List impl_Record) : Prop := l.length ≤ 30 ∧ ∀ x ∈ l, x.Values.length ≤ 100

theorem SmallD.tame {l : List impl_Record} (h : SmallD l) : TameD l := ⟨by have := h.1; omega, fun r hr => by have := h.2 r hr; unfold TameR; omega⟩

theorem tanySchema {B : Nat} {c : spec_l1Cur} (h : Cur B c) (hB : B ≤ 100000 := by omega) : Tot (spec_l1Cur_anySchema c) fun r => SmallS 8 r.1 ∧ Cur (B + 40) r.2 := by
  unfold spec_l1Cur_anySchema
  refine tot_bind (tschema h) fun ⟨s, c1⟩ ⟨hs, hsl, k1⟩ => ?_
  simp only at hs hsl k1
  have hs3 := hs.l
  refine tot_bind (tpick k1) fun ⟨x, c2⟩ ⟨_, _, _, k2⟩ => ?_
  simp only at k2
  have h0 : ∀ (Q : impl_Variable → Prop), (∀ e ∈ s, Q e) → Tot (goAt s 0) Q := fun Q hQ => tot_at (by omega) (by omega) fun e _ he => hQ e he
  refine tot_bind (Q := fun r => match r with | .inl z => SmallS 8 z.1 ∧ Cur (B + 40) z.2 | .inr z => SmallS 8 z.1 ∧ Cur (B + 40) z.2) (tot_cond (fun _ => ?_) fun _ => ?_) fun r hr => ?_
  · refine tot_bind (tamong k2) fun ⟨y, c3⟩ ⟨hy, k3⟩ => ?_
    refine tot_bind (h0 (fun e => e.Name.length ≤ 9) fun e he => (hs.b e he).1) fun e he => tot_some ⟨(hs.le (m := 8) (by omega)).set (v := ⟨e.Name, y⟩) ⟨he, ?_⟩ 0, k3.le (by omega)⟩
    simp only [List.mem_cons, List.not_mem_nil, or_false] at hy
    simp only
    omega
  · refine tot_bind (Q := fun r => match r with | .inl z => SmallS 8 z.1 ∧ Cur (B + 40) z.2 | .inr (.inl z) => SmallS 8 z.1 ∧ Cur (B + 40) z.2 | .inr (.inr z) => SmallS 8 z.1 ∧ Cur (B + 40) z.2) (tot_cond (fun _ => ?_) fun _ => tot_cond (fun _ => tot_some ⟨⟨by simp, by simp⟩, k2.le (by omega)⟩) fun _ => ?_) fun r hr => ?_
    · refine tot_bind (Q := fun r => r.1.length ≤ 9 ∧ Cur (B + 40) r.2) ?_ fun ⟨w, c3⟩ ⟨hw, k3⟩ => ?_
      · unfold spec_l1Cur_of
        refine tot_bind (tpick k2 (hk := by simp [goLen])) fun ⟨y, c3⟩ ⟨y0, y1, _, k3⟩ => ?_
        have hy := y1 (by simp [goLen])
        refine tot_bind (tot_at (Q := fun e => e.length ≤ 9) y0 (by simpa [goLen] using hy) fun e _ he => ?_) fun e he => tot_some ⟨he, k3.le (by omega)⟩
        simp only [List.mem_cons, List.not_mem_nil, or_false] at he
        rcases he with rfl | rfl | rfl | rfl | rfl <;> simp
      · refine tot_bind (h0 (fun e => 1 ≤ e.Levels ∧ e.Levels ≤ 9) fun e he => (hs.b e he).2) fun e he => tot_some ⟨(hs.le (m := 8) (by omega)).set (v := ⟨w, e.Levels⟩) ⟨hw, he⟩ 0, k3⟩
    · refine tot_bind (Q := fun z => SmallS 8 z.1 ∧ Cur (B + 40) z.2) (tot_cond (fun _ => ?_) fun _ => tot_some ⟨hs.le (by omega), k2.le (by omega)⟩) fun z hz => tot_some hz
      refine tot_bind (Q := fun z => SmallS 8 z.1 ∧ Cur (B + 40) z.2) (tot_loop (fun t => SmallS 8 t.1 ∧ t.1.length ≤ 7 ∧ Cur (B + 16 + 2 * t.1.length) t.2) (fun t => 8 - t.1.length) ⟨hs.le (by omega), by simp only; omega, k2.le (by simp only; omega)⟩ ?_) fun z hz => tot_some hz
      rintro ⟨s4, c4⟩ ⟨hs4, hl4, k4⟩
      simp only at hs4 hl4 k4
      simp only [spec_l1Cur_anySchema_l1]
      refine tot_bind (tpick k4) fun ⟨y, c5⟩ ⟨y0, y1, _, k5⟩ => ?_
      have hy := y1 (by omega)
      simp only at y0 hy k5
      refine tot_cond (fun hc => ?_) fun _ => tot_some ⟨hs4, k5.le (by omega)⟩
      have hc' : goLen s4 < w64 (6 + y) := by simpa using hc
      rw [wid (by omega) (by omega)] at hc'
      simp only [goLen] at hc'
      unfold goCat
      rw [decide_eq_true (by simp [goBytes]), cond_true, Option.bind_some, goApp_ok (by simp; omega), Option.bind_some]
      exact tot_some ⟨⟨hs4.push ⟨by simp [goBytes], by simp⟩ (by omega), by simp; omega, k5.le (by simp; omega)⟩, by simp; omega⟩
    · rcases r with z | z | z
      · exact tot_some hr
      · exact tot_some hr
      · exact tot_some hr
  · rcases r with z | z
    · exact tot_some hr
    · exact tot_some hr

end Go.Gx.F
