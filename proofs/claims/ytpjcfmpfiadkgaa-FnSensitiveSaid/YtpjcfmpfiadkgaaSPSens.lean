/- Plain laws: FnSensitive. -/
import Derived.Test.YtpjcfmpfiadkgaaSPSen3
namespace Go.Gx.F
open Go.Gx
set_option linter.all false

theorem tDrawThr {code : List (K .u8)} (ho : ∀ x ∈ code, Rng.ok x) : Tot (spec_DrawThresholdCells code) fun r => Sz r.1 := by
  unfold spec_DrawThresholdCells
  refine tot_bind (tanyTwo (cur0 ho)) fun ⟨x, c1⟩ ⟨hx, k1⟩ => ?_
  exact tot_bind (tamong k1) fun ⟨t, c2⟩ _ => tot_some hx

theorem tDrawDom {code : List (K .u8)} (ho : ∀ x ∈ code, Rng.ok x) : Tot (spec_DrawIsDominated code) fun r => r.1.length ≤ 50 ∧ (-10 ≤ r.2.2 ∧ r.2.2 ≤ 1000) ∧ (-10 ≤ r.2.1 ∧ r.2.1 ≤ 1000) := by
  unfold spec_DrawIsDominated
  refine tot_bind (tamounts (cur0 ho)) fun ⟨l, c1⟩ ⟨hl, k1⟩ => ?_
  refine tot_bind (tamong k1) fun ⟨n, c2⟩ ⟨hn, k2⟩ => ?_
  refine tot_bind (tamong k2) fun ⟨p, c3⟩ ⟨hp, k3⟩ => tot_some ⟨by simp only at hl ⊢; omega, ?_, ?_⟩
  · simp only [List.mem_cons, List.mem_nil_iff, or_false] at hp ⊢; omega
  · simp only [List.mem_cons, List.mem_nil_iff, or_false] at hn ⊢; omega

theorem tDrawExp {code : List (K .u8)} (ho : ∀ x ∈ code, Rng.ok x) : Tot (spec_DrawIsExposedShare code) fun r => r.1.length ≤ 50 ∧ (-10 ≤ r.2 ∧ r.2 ≤ 1000) := by
  unfold spec_DrawIsExposedShare
  refine tot_bind (tamounts (cur0 ho)) fun ⟨l, c1⟩ ⟨hl, k1⟩ => ?_
  refine tot_bind (tamong k1) fun ⟨p, c3⟩ ⟨hp, k3⟩ => tot_some ⟨by simp only at hl ⊢; omega, ?_⟩
  simp only [List.mem_cons, List.mem_nil_iff, or_false] at hp ⊢; omega

theorem tDrawJoin {code : List (K .u8)} (ho : ∀ x ∈ code, Rng.ok x) : Tot (spec_DrawJoinPatterns code) fun r => Sz r.1 ∧ Sz r.2 := by
  unfold spec_DrawJoinPatterns
  refine tot_bind (ttwo (cur0 ho)) fun ⟨x, c1⟩ ⟨hx, k1⟩ => ?_
  refine tot_bind (tone k1) fun ⟨b, c2⟩ k2 => ?_
  simp only at hx k1 k2 ⊢
  refine tot_cond (fun _ => ?_) fun _ => ?_
  · refine tot_bind (tpat k2 hx) fun ⟨p, c3⟩ ⟨hp, k3⟩ => ?_
    refine tot_bind (ttwo k3) fun ⟨y, c4⟩ ⟨hy, k4⟩ => ?_
    exact tot_bind (tpat k4 hy) fun ⟨q, c5⟩ ⟨hq, _⟩ => tot_some ⟨hp, hq⟩
  · refine tot_bind (tpat k2 hx) fun ⟨p, c3⟩ ⟨hp, k3⟩ => ?_
    exact tot_bind (tpat k3 hx) fun ⟨q, c5⟩ ⟨hq, _⟩ => tot_some ⟨hp, hq⟩

theorem thrs_sz {x : List (List Int)} {t : Int} (hx : Sz x) : Sz (thrs t x) := by
  refine ⟨by simp [thrs]; exact hx.1, fun r hr => ?_⟩
  unfold thrs at hr
  obtain ⟨q, hq, rfl⟩ := List.mem_map.1 hr
  rw [List.length_map]
  exact hx.2 q hq

theorem thrs_wdt {x : List (List Int)} {t : Int} : wdt (thrs t x) = wdt x := by
  cases x with
  | nil => rfl
  | cons r x => simp [wdt, thrs]

theorem thr01 (t v : Int) : 0 ≤ thr t v ∧ thr t v ≤ 1 := by
  unfold thr
  split <;> omega

theorem thrs_grid {x : List (List Int)} {t : Int} (h : Grid 1000 x) : Grid 1 (thrs t x) := by
  have hl : (thrs t x).length = x.length := by simp [thrs]
  refine ⟨by rw [hl]; exact h.1, by rw [hl]; exact h.2.1, by rw [thrs_wdt]; exact h.2.2.1, by rw [thrs_wdt]; exact h.2.2.2.1, fun r hr => ?_, fun r hr v hv => ?_⟩
  · unfold thrs at hr
    obtain ⟨q, hq, rfl⟩ := List.mem_map.1 hr
    rw [List.length_map, thrs_wdt]
    exact h.2.2.2.2.1 q hq
  · unfold thrs at hr
    obtain ⟨q, hq, rfl⟩ := List.mem_map.1 hr
    obtain ⟨u, _, rfl⟩ := List.mem_map.1 hv
    exact thr01 t u

theorem jn_self : ∀ l : List Int, jn l l = l
  | [] => rfl
  | x :: l => by
    have := jn_self l
    unfold jn at this ⊢
    rw [List.zipWith_cons_cons, this]
    congr 1; omega

theorem jns_self : ∀ l : List (List Int), jns l l = l
  | [] => rfl
  | x :: l => by
    have := jns_self l
    unfold jns at this ⊢
    rw [List.zipWith_cons_cons, this, jn_self]

theorem jns_sz {a b : List (List Int)} (ha : Sz a) : Sz (jns a b) := by
  refine ⟨by have := ha.1; simp [jns]; omega, fun r hr => ?_⟩
  obtain ⟨i, hi⟩ := List.getElem?_of_mem hr
  unfold jns at hi
  rw [List.getElem?_zipWith] at hi
  cases h1 : a[i]? with
  | none => simp [h1] at hi
  | some u =>
    cases h2 : b[i]? with
    | none => simp [h1, h2] at hi
    | some w =>
      simp only [h1, h2, Option.some.injEq] at hi
      subst hi
      have := ha.2 u (List.mem_of_getElem? h1)
      simp [jn]; omega

theorem qL {x : List (List Int)} (h : Sz x) : laws_qLists x x = some true :=
  qLists_same (by have := h.1; omega) fun r hr => by have := h.2 r hr; omega

theorem sz_cond {b : Bool} {x : List (List Int)} (h : Sz x) : Sz (cond b x []) := by
  cases b with
  | true => exact h
  | false => exact ⟨by simp, fun r hr => by simp at hr⟩

theorem isPattern_ok {x : List (List Int)} {t : Int} (hx : Sz x) (hg : Grid 1000 x) : impl_IsPattern x (thrs t x) = some (true, true) := by
  obtain ⟨b, e, h⟩ := grid_bis (m := 1000) hx
  obtain rfl := h.2 hg
  obtain ⟨c, e2, h2⟩ := grid_bis (m := 1) (thrs_sz (t := t) hx)
  obtain rfl := h2.2 (thrs_grid hg)
  obtain ⟨d, e3, h3⟩ := shape_bis (x := thrs t x) (n := goLen x) (w := goLen (x.headD [])) (by have := (thrs_sz (t := t) hx).1; omega)
  obtain rfl : d = true := h3.2 ⟨by simp [thrs, goLen], fun r hr => by
    have := (thrs_grid (t := t) hg).2.2.2.2.1 r hr
    rw [thrs_wdt] at this
    rw [this]; rfl⟩
  unfold impl_IsPattern impl_IsTwoWay impl_isPattern
  rw [e, e2]
  simp only [Option.bind_some, Bool.not_true, cond_false, cond_true, head_ok hg.1, e3]

theorem laws_FnSensitive_true (a b : List (K .u8)) (o1 : Rng.ok a) (o2 : Rng.ok b) : laws_FnSensitive a b = some true := by
  refine tot_eq ?_
  unfold laws_FnSensitive
  refine tot_cond (fun _ => tot_some rfl) fun _ => ?_
  refine tot_bind (tDrawThr o1.2) fun ⟨x, t⟩ hx => ?_
  simp only at hx ⊢
  obtain ⟨b1, hb1, q1, q2⟩ := thr_same t hx
  rw [q1, q2, Option.bind_some, Option.bind_some]
  refine tot_bind (tDrawDom o2.2) fun ⟨l, n, p⟩ ⟨h1, h2, h3⟩ => ?_
  simp only at h1 h2 h3 ⊢
  obtain ⟨r2, q3, q4⟩ := dominated_same n p h1 h2 h3
  rw [q3, q4, Option.bind_some, Option.bind_some]
  refine tot_bind (tDrawExp o2.2) fun ⟨l2, p2⟩ ⟨h4, h5⟩ => ?_
  simp only at h4 h5 ⊢
  obtain ⟨r3, q5, q6⟩ := exposed_same p2 h4 h5
  rw [q5, q6, Option.bind_some, Option.bind_some]
  refine tot_bind (tDrawJoin o1.2) fun ⟨u, v⟩ ⟨hu, hv⟩ => ?_
  simp only at hu hv ⊢
  obtain ⟨b2, hb2, q7, q8⟩ := join_same hu hv
  rw [q7, q8, Option.bind_some, Option.bind_some]
  simp only [bne_self_eq_false, cond_false, qL (sz_cond (thrs_sz hx)), qL (sz_cond (jns_sz hu)), Option.bind_some, Bool.not_true]
  cases b1 with
  | false => exact tot_some rfl
  | true =>
    obtain ⟨hg, ht⟩ := hb1.1 rfl
    obtain ⟨b3, hb3, q9, _⟩ := join_same (thrs_sz (t := t) hx) (thrs_sz (t := t) hx)
    obtain rfl : b3 = true := hb3.2 ⟨thrs_grid hg, thrs_grid hg, rfl, rfl⟩
    obtain ⟨b4, e4, h4⟩ := grid_bis (m := 1000) hx
    obtain rfl := h4.2 hg
    simp only [Bool.not_true, cond_false, cond_true, isPattern_ok hx hg, q9, jns_self, qL (thrs_sz hx), Option.bind_some]
    unfold impl_IsTwoWay
    rw [e4]
    exact tot_some rfl

end Go.Gx.F
