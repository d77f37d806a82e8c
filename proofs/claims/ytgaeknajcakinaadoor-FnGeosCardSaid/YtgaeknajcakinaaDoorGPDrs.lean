/- Plain laws: geographies, schemas, surveys and tables that are drawn. -/
import Derived.Test.YtgaeknajcakinaaDoorGPTof
namespace Go.Gx.F
open Go.Gx
set_option linter.all false

theorem geo_app {p : List Int} {x : Int} (h : GeoOk p) (hl : p.length < 30) (h0 : 0 ≤ x) (h1 : x < p.length) : GeoOk (p ++ [x]) := by
  refine ⟨by simp, by simp; omega, ?_, fun k y hk h2 => ?_⟩
  · rw [List.getElem?_append_left (by have := h.l1; omega)]; exact h.rt
  · by_cases hkl : k < p.length
    · rw [List.getElem?_append_left hkl] at hk
      exact h.up k y hk h2
    · have hk2 := (List.getElem?_eq_some_iff.1 hk).1
      simp at hk2
      rw [List.getElem?_append_right (by omega), show k - p.length = 0 by omega] at hk
      have : x = y := by simpa using hk
      omega

theorem tgeo {B : Nat} {c : spec_l1Cur} (h : Cur B c) (hB : B ≤ 1000000 := by omega) : Tot (spec_l1Cur_geo c) fun r => GeoOk r.1.Parents ∧ r.1.Parents.length ≤ 11 ∧ Cur (B + 10) r.2 := by
  unfold spec_l1Cur_geo
  generalize hL : ([([-1, 0, 0] : List Int), ([-1, 0, 0, 1, 1, 2, 2] : List Int), ([-1, 0, 0, 0, 1, 1, 2, 3] : List Int), ([-1, 0, 0, 1, 1] : List Int), ([-1] : List Int), ([-1, 0, 1, 2] : List Int)] : List (List Int)) = L
  have h6 : L.length = 6 := by rw [← hL]; rfl
  have hm : ∀ l ∈ L, gok l = true ∧ l.length ≤ 8 := by rw [← hL]; decide
  refine tot_bind (tpick h (hk := by simp only [goLen]; omega)) fun ⟨x, c1⟩ ⟨x0, x1, _, k1⟩ => ?_
  have hx := x1 (by simp only [goLen]; omega)
  simp only [goLen] at x0 hx
  refine tot_bind (tot_at (Q := fun e => gok e = true ∧ e.length ≤ 8) x0 hx fun e _ he => hm e he) fun p ⟨hp, hpl⟩ => ?_
  rw [own_eq (by omega), Option.bind_some]
  refine tot_bind (tpick k1) fun ⟨y, c2⟩ ⟨y0, y1, _, k2⟩ => ?_
  have hy := y1 (by omega)
  simp only at y0 hy
  obtain ⟨i, hi⟩ := Int.eq_ofNat_of_zero_le y0
  refine tot_bind (Q := fun r => GeoOk r.2.Parents ∧ r.2.Parents.length ≤ 11 ∧ Cur (B + 10) r.1) (tot_loop (fun t => ∃ k : Nat, t.1 = (k : Int) ∧ k ≤ 3 ∧ GeoOk t.2.2.Parents ∧ t.2.2.Parents.length + k ≤ 11 ∧ Cur (B + 4 + 2 * (3 - k)) t.2.1) (fun t => t.1.toNat) ⟨i, hi, by omega, gok_ok hp, by simp only; omega, k2.le (by omega)⟩ ?_) fun ⟨c3, g3⟩ ⟨h1, h2, h3⟩ => tot_some ⟨h1, h2, h3⟩
  rintro ⟨_, c3, g3⟩ ⟨k, rfl, hk, hg, hgl, kc⟩
  simp only at hg hgl kc
  simp only [spec_l1Cur_geo_l1]
  refine tot_cond (fun hc => ?_) fun hc => tot_some ⟨hg, by simp only; omega, kc.le (by omega)⟩
  have hc' : 0 < (k : Int) := by simpa using hc
  have hg1 := hg.l1
  have hT : Tot (((spec_l1Cur_pick c3 (goLen g3.Parents)).bind fun t_35 => ((goApp 8 g3.Parents ([t_35.1] : List Int)).bind fun l_38 => some (t_35.2, (impl_Geo.mk l_38)))) : Option (spec_l1Cur × impl_Geo)) fun r => GeoOk r.2.Parents ∧ r.2.Parents.length + (k - 1) ≤ 11 ∧ Cur (B + 4 + 2 * (3 - (k - 1))) r.1 := by
    refine tot_bind (tpick kc (hk := by simp only [goLen]; omega)) fun ⟨z, c4⟩ ⟨z0, z1, _, k4⟩ => ?_
    have hz := z1 (by simp only [goLen]; omega)
    simp only [goLen] at z0 hz
    rw [goApp_ok (by simp; omega), Option.bind_some]
    exact tot_some ⟨geo_app hg (by omega) z0 hz, by simp only [List.length_append, List.length_singleton]; omega, k4.le (by omega)⟩
  refine tot_bind hT fun ⟨c4, g4⟩ ⟨h1, h2, h3⟩ => tot_some ⟨⟨k - 1, ?_, by omega, h1, h2, h3⟩, ?_⟩
  · simp only; rw [wid (by omega) (by omega)]; omega
  · simp only; rw [wid (by omega) (by omega)]; omega

theorem tanyGeo {B : Nat} {c : spec_l1Cur} (h : Cur B c) (hB : B ≤ 100000 := by omega) : Tot (spec_l1Cur_anyGeo c) fun r => Cur (B + 14) r.2 := by
  unfold spec_l1Cur_anyGeo
  refine tot_bind (tgeo h) fun ⟨g, c1⟩ ⟨hg, hgl, k1⟩ => ?_
  simp only at hg hgl k1
  have hg1 := hg.l1
  refine tot_bind (tpick k1) fun ⟨x, c2⟩ ⟨_, _, _, k2⟩ => ?_
  simp only at k2
  refine tot_bind (Q := fun r => match r with | .inl z => Cur (B + 14) z.1 | .inr z => Cur (B + 14) z.2) (tot_cond (fun _ => ?_) fun _ => ?_) fun r hr => ?_
  · refine tot_bind (tot_at (Q := fun _ => True) (by omega) (by simp only; omega) fun _ _ _ => trivial) fun _ _ => tot_some (k2.le (by omega))
  · refine tot_bind (Q := fun r => match r with | .inl z => Cur (B + 14) z.1 | .inr (.inl z) => Cur (B + 14) z.1 | .inr (.inr z) => Cur (B + 14) z.2) (tot_cond (fun _ => ?_) fun _ => tot_cond (fun _ => tot_some (k2.le (by omega))) fun _ => ?_) fun r hr => ?_
    · refine tot_bind (Q := fun z => Cur (B + 14) z.1) (tot_bind (tamong k2) fun ⟨y, c3⟩ ⟨_, k3⟩ => ?_) fun z hz => tot_some hz
      rw [goApp_ok (by simp; omega), Option.bind_some]
      exact tot_some (k3.le (by omega))
    · refine tot_bind (Q := fun z => Cur (B + 14) z.1) (tot_cond (fun _ => tot_bind (tpick k2) fun ⟨y, c3⟩ ⟨y0, y1, _, k3⟩ => ?_) fun _ => tot_some (k2.le (by omega))) fun z hz => tot_some hz
      have hy := y1 (by omega)
      simp only at y0 hy
      simp only [goLen]
      rw [wid (n := 30 - (g.Parents.length : Int)) (by omega) (by omega), wid (n := 30 - (g.Parents.length : Int) + y) (by omega) (by omega)]
      unfold goAppZ
      rw [decide_eq_true (show 0 ≤ 30 - (g.Parents.length : Int) + y by omega), decide_eq_true (by omega)]
      exact tot_some (k3.le (by omega))
    · rcases r with z | z | z
      · exact tot_some hr
      · exact tot_some hr
      · exact tot_some hr
  · rcases r with z | z
    · exact tot_some hr
    · exact tot_some hr

end Go.Gx.F
