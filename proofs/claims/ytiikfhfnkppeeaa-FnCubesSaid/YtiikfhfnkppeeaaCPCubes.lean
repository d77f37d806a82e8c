/- Plain laws: the law of cubes. -/
import Derived.Test.YtiikfhfnkppeeaaCPCub4
namespace Go.Gx.F
open Go.Gx
set_option linter.all false

/-! ## what is drawn -/
theorem tsizes {B : Nat} {c : spec_l1Cur} (h : Cur B c) (hB : B ≤ 1000000000) : Tot (spec_l1Cur_sizes c) fun r => r.1.length ≤ 5 ∧ Cur (B + 50) r.2 := by
  unfold spec_l1Cur_sizes
  refine tot_bind (tpick h) fun ⟨n, c1⟩ ⟨n0, n1, _, k1⟩ => ?_
  have hn := n1 (by omega)
  simp only at n0 hn
  refine tot_bind (Q := fun r => r.1.length ≤ 3 ∧ Cur (B + 20) r.2) ?_ fun ⟨l, c2⟩ ⟨hl, k2⟩ => ?_
  · refine tot_loop (fun s => (s.1.length : Int) + s.2.1 ≤ 3 ∧ 0 ≤ s.2.1 ∧ Cur (B + 2 + 2 * s.1.length) s.2.2) (fun s => s.2.1.toNat) ⟨by simp; omega, n0, k1.le (by simp)⟩ ?_
    rintro ⟨l, k, c2⟩ ⟨h1, h2, k2⟩
    simp only at h1 h2 k2
    simp only [spec_l1Cur_sizes_l1]
    refine tot_cond (fun hc => ?_) fun _ => tot_some ⟨by simp only; omega, k2.le (by omega)⟩
    have hc' : 0 < k := by simpa using hc
    refine tot_bind (tpick k2) fun ⟨x, c3⟩ ⟨_, _, _, k3⟩ => ?_
    refine tot_bind (tot_app (Q := fun r => r.length = l.length + 1) (by simp; omega) (by simp)) fun r hr => tot_some ?_
    rw [wid (n := k - 1) (by omega) (by omega)]
    simp only
    rw [hr]
    exact ⟨⟨by omega, by omega, k3.le (by omega)⟩, by omega⟩
  replace hl : l.length ≤ 3 := hl
  refine tot_bind (tpick k2) fun ⟨x, c3⟩ ⟨_, _, _, k3⟩ => ?_
  refine tot_bind (Q := fun r => match r with | .inl x => x.1.length ≤ 5 ∧ Cur (B + 50) x.2 | .inr x => x.1.length ≤ 5 ∧ Cur (B + 50) x.2) ?_ fun r hr => ?_
  · refine tot_cond (fun _ => ?_) fun _ => tot_cond (fun _ => ?_) fun _ => tot_cond (fun _ => tot_some ⟨by simp, k3.le (by omega)⟩) fun _ => tot_cond (fun _ => ?_) fun _ => tot_some ⟨by simp only; omega, k3.le (by omega)⟩
    · refine tot_bind (tamong k3) fun ⟨v, c4⟩ ⟨_, k4⟩ => ?_
      exact tot_bind (tot_app (Q := fun r => r.length ≤ 5) (by simp; omega) (by simp; omega)) fun r hr => tot_some ⟨hr, k4.le (by omega)⟩
    · refine tot_bind (tpick k3) fun ⟨y, c4⟩ ⟨y0, y1, _, k4⟩ => ?_
      have hy := y1 (by omega)
      simp only at y0 hy
      rw [wid (n := 3 + y) (by omega) (by omega)]
      exact tot_bind (tot_sub (Q := fun r => r.length ≤ 5) (by omega) (by omega) (by simp; omega) (by simp; omega)) fun r hr => tot_some ⟨hr, k4.le (by omega)⟩
    · refine tot_bind (tpick k3) fun ⟨y, c4⟩ ⟨y0, y1, _, k4⟩ => ?_
      have hy := y1 (by omega)
      simp only at y0 hy
      refine tot_bind (tot_at (Q := fun r => r.length ≤ 5) y0 (by simp; omega) fun e _ he => ?_) fun r hr => tot_some ⟨hr, k4.le (by omega)⟩
      simp at he
      rcases he with rfl | rfl <;> simp
  · rcases r with ⟨x, y⟩ | ⟨x, y⟩ <;> exact tot_some hr

theorem tbase {B : Nat} {c : spec_l1Cur} {sizes : List Int} (h : Cur B c) (hB : B ≤ 1000000000) : Tot (spec_l1Cur_baseCells c sizes) fun r => r.1.length ≤ 2000 ∧ Bnd r.1 ∧ (∀ S, sizes = up S → VC S → r.1.length = rk S (cnt S)) ∧ Cur (B + 20000) r.2 := by
  unfold spec_l1Cur_baseCells
  have hb : ∃ l : List Int, spec_cbBase sizes = some l ∧ l.length ≤ 2000 ∧ (∀ S, sizes = up S → VC S → l.length = rk S (cnt S)) := by
    by_cases hv : ∃ S, sizes = up S ∧ VC S
    · obtain ⟨S, rfl, hv⟩ := hv
      have h1 := rk_le S (cnt S)
      have h2 := hv.2
      refine ⟨_, cbBase_eq hv, by rw [up_len]; unfold rk at h1; omega, fun S' e _ => ?_⟩
      rw [← up_inj e, up_len]; rfl
    · exact ⟨[], cbBase_bad hv, by simp, fun S e hS => absurd ⟨S, e, hS⟩ hv⟩
  obtain ⟨l, e, hl, hS⟩ := hb
  rw [e, Option.bind_some]
  refine tot_bind (Q := fun r => r.1.length = l.length ∧ Bnd r.1 ∧ Cur (B + 20000) r.2) ?_ fun ⟨r, c2⟩ ⟨h1, h2, k2⟩ => tot_some ⟨by simp only at h1 ⊢; omega, h2, fun S e1 e2 => by simp only at h1 ⊢; rw [h1]; exact hS S e1 e2, k2⟩
  refine tot_loop (fun s => ∃ k : Nat, s.2.1 = (k : Int) ∧ k ≤ l.length ∧ s.1.length = k ∧ Bnd s.1 ∧ Cur (B + 6 * k) s.2.2) (fun s => l.length - s.2.1.toNat) ⟨0, rfl, by omega, rfl, fun v hv => by simp at hv, h⟩ ?_
  rintro ⟨out, t, c1⟩ ⟨k, rfl, hk, ho, hb, k1⟩
  simp only at ho hb k1
  simp only [spec_l1Cur_baseCells_l1]
  refine tot_cond (fun hc => ?_) fun hc => tot_some ?_
  · have hlt : k < l.length := by
      have := of_decide_eq_true hc
      simp only [goLen] at this; omega
    refine tot_bind (tpick k1) fun ⟨x, c2⟩ ⟨x0, x1, _, k2⟩ => ?_
    have hx := x1 (by omega)
    simp only at x0 hx
    refine tot_bind (tone k2) fun ⟨b, c3⟩ k3 => ?_
    refine tot_bind (Q := fun r => (-1000000 ≤ r.1 ∧ r.1 ≤ 1000000) ∧ Cur (B + 6 * k + 6) r.2) (tot_cond (fun _ => ?_) fun _ => tot_some ⟨by simp only; omega, k3.le (by omega)⟩) fun ⟨y, c4⟩ ⟨hy, k4⟩ => ?_
    · refine tot_bind (tpick k3) fun ⟨z, c4⟩ ⟨z0, z1, _, k4⟩ => tot_some ?_
      have hz := z1 (by omega)
      simp only at z0 hz ⊢
      rw [wid (by omega) (by omega)]
      exact ⟨by omega, k4.le (by omega)⟩
    · refine tot_bind (tot_app (Q := fun r => r = out ++ [y]) (by simp; omega) rfl) fun r hr => tot_some ?_
      subst hr
      rw [wid (n := (k : Int) + 1) (by omega) (by omega)]
      refine ⟨⟨k + 1, rfl, by omega, by simp [ho], fun v hv => ?_, k4.le (by omega)⟩, by simp only; omega⟩
      rcases List.mem_append.1 hv with h1 | h1
      · exact hb v h1
      · simp at h1; subst h1; exact hy
  · have hlt : ¬ k < l.length := by
      have := of_decide_eq_false hc
      simp only [goLen] at this; omega
    exact ⟨by simp only; omega, hb, k1.le (by omega)⟩

theorem DrawCubeOf_ok {code : List (K .u8)} (ho : ∀ x ∈ code, Rng.ok x) : Tot (spec_DrawCubeOf code) fun r => r.1.length ≤ 5 ∧ r.2.length ≤ 2001 := by
  unfold spec_DrawCubeOf
  refine tot_bind (tsizes (cur0 ho) (by omega)) fun ⟨sizes, c1⟩ ⟨hs, k1⟩ => ?_
  refine tot_bind (tbase k1 (by omega)) fun ⟨base, c2⟩ ⟨hb, _, _, k2⟩ => ?_
  replace hb : base.length ≤ 2000 := hb
  replace hs : sizes.length ≤ 5 := hs
  refine tot_bind (tpick k2) fun ⟨x, c3⟩ ⟨_, _, _, k3⟩ => ?_
  refine tot_bind (Q := fun r => r.length ≤ 2001) (tot_cond (fun _ => ?_) fun _ => ?_) fun r hr => tot_some ⟨hs, hr⟩
  · exact tot_bind (tot_app (Q := fun r => r.length ≤ 2001) (by simp; omega) (by simp; omega)) fun r hr => tot_some hr
  · refine tot_bind (Q := fun r => r.length ≤ 2001) (tot_cond (fun _ => ?_) fun _ => tot_some (by omega)) fun r hr => tot_some hr
    refine tot_bind (Q := fun r => r.length ≤ 2001) (tot_cond (fun hc => ?_) fun _ => tot_some (by omega)) fun r hr => tot_some hr
    refine tot_bind (tamong k3) fun ⟨v, c4⟩ _ => ?_
    have hl : 0 < base.length := by simpa [goLen] using hc
    simp only
    exact tot_bind (tot_at (Q := fun _ => True) (by omega) (by omega) fun _ _ _ => trivial) fun _ _ => tot_some (by simp; omega)

theorem tcube {B : Nat} {c : spec_l1Cur} (h : Cur B c) (hB : B ≤ 900000000) : Tot (spec_l1Cur_cube c) fun r => r.1.Sizes.length ≤ 5 ∧ r.1.Cells.length ≤ 2001 ∧ Cur (B + 30000) r.2 := by
  unfold spec_l1Cur_cube
  refine tot_bind (tsizes h (by omega)) fun ⟨sizes, c1⟩ ⟨hs, k1⟩ => ?_
  replace hs : sizes.length ≤ 5 := hs
  obtain ⟨n, e1, e2, h1, h2, h3⟩ := counts sizes
  simp only
  rw [e2, Option.bind_some]
  refine tot_cond (fun _ => tot_some ⟨hs, by simp, k1.le (by omega)⟩) fun hn => ?_
  have hn' : n ≠ 0 := by simpa using hn
  obtain ⟨S, rfl, hv, rfl⟩ := h2 hn'
  have hp := cnt_pos S
  refine tot_bind (tbase k1 (by omega)) fun ⟨base, c2⟩ ⟨hb, hBd, hrk, k2⟩ => ?_
  simp only at hBd hrk ⊢
  rw [spec_cbOf_eq hv hBd (hrk S rfl hv), Option.bind_some]
  have hcl : (cubeT S base).Cells.length = cnt S := tab_len _ _
  have hcs : (cubeT S base).Sizes = up S := rfl
  generalize cubeT S base = x at hcl hcs ⊢
  have hc2 := hv.2
  rw [up_len] at hs
  refine tot_bind (tpick k2) fun ⟨v, c3⟩ ⟨_, _, _, k3⟩ => ?_
  have hok : ∀ l : List Int, l.length ≤ 2001 → ∀ c4, Cur (B + 25000) c4 → (⟨x.Sizes, l⟩ : impl_Cube).Sizes.length ≤ 5 ∧ (⟨x.Sizes, l⟩ : impl_Cube).Cells.length ≤ 2001 ∧ Cur (B + 30000) c4 := fun l hl c4 k4 => ⟨by rw [hcs, up_len]; exact hs, hl, k4.le (by omega)⟩
  refine tot_bind (Q := fun r => r.2.Sizes.length ≤ 5 ∧ r.2.Cells.length ≤ 2001 ∧ Cur (B + 30000) r.1) (tot_cond (fun _ => ?_) fun _ => ?_) fun ⟨r1, r2⟩ hr => tot_some hr
  · refine tot_bind (tpick k3 (by omega) (by simp only [goLen]; omega)) fun ⟨i, c4⟩ ⟨i0, i1, _, k4⟩ => ?_
    have hi := i1 (by simp only [goLen]; omega)
    simp only [goLen] at i0 hi
    refine tot_bind (tot_at (Q := fun _ => True) i0 hi fun _ _ _ => trivial) fun _ _ => ?_
    exact tot_bind (tot_at (Q := fun _ => True) i0 hi fun _ _ _ => trivial) fun _ _ => tot_some (hok _ (by simp; omega) _ (k4.le (by omega)))
  · refine tot_bind (Q := fun r => r.2.Sizes.length ≤ 5 ∧ r.2.Cells.length ≤ 2001 ∧ Cur (B + 30000) r.1) (tot_cond (fun _ => ?_) fun _ => ?_) fun ⟨r1, r2⟩ hr => tot_some hr
    · exact tot_bind (tot_app (Q := fun r => r.length ≤ 2001) (by simp; omega) (by simp; omega)) fun r hr => tot_some (hok _ hr _ (k3.le (by omega)))
    · refine tot_bind (Q := fun r => r.2.Sizes.length ≤ 5 ∧ r.2.Cells.length ≤ 2001 ∧ Cur (B + 30000) r.1) (tot_cond (fun _ => ?_) fun _ => tot_some (hok _ (by omega) _ (k3.le (by omega)))) fun ⟨r1, r2⟩ hr => tot_some hr
      refine tot_bind (Q := fun r => r.2.Sizes.length ≤ 5 ∧ r.2.Cells.length ≤ 2001 ∧ Cur (B + 30000) r.1) ?_ fun ⟨r1, r2⟩ hr => tot_some hr
      refine tot_bind (tamong k3) fun ⟨y, c4⟩ ⟨_, k4⟩ => ?_
      exact tot_bind (tot_at (Q := fun _ => True) (by omega) (by omega) fun _ _ _ => trivial) fun _ _ => tot_some (hok _ (by simp; omega) _ (k4.le (by omega)))

theorem DrawMarginOf_ok {code : List (K .u8)} (ho : ∀ x ∈ code, Rng.ok x) : Tot (spec_DrawMarginOf code) fun r => r.1.Sizes.length ≤ 5 ∧ r.1.Cells.length ≤ 2001 ∧ r.2.length ≤ 10 := by
  unfold spec_DrawMarginOf
  refine tot_bind (tcube (cur0 ho) (by omega)) fun ⟨x, c1⟩ ⟨hs, hc, k1⟩ => ?_
  replace hs : x.Sizes.length ≤ 5 := hs
  refine tot_bind (Q := fun r => r.1.length ≤ 5 ∧ Cur 50000 r.2) ?_ fun ⟨dims, c2⟩ ⟨hd, k2⟩ => ?_
  · refine tot_loop (fun s => ∃ k : Nat, s.2.1 = (k : Int) ∧ k ≤ x.Sizes.length ∧ s.1.length ≤ k ∧ Cur (0 + 30000 + 2 * k) s.2.2) (fun s => 10 - s.2.1.toNat) ⟨0, rfl, by omega, by simp, k1⟩ ?_
    rintro ⟨out, t, c2⟩ ⟨k, rfl, hk, hl, k2⟩
    simp only at hl k2
    simp only [spec_DrawMarginOf_l1]
    refine tot_cond (fun hcc => ?_) fun hcc => tot_some ⟨by simp only; omega, k2.le (by omega)⟩
    have hlt : k < x.Sizes.length := by
      have := of_decide_eq_true hcc
      simp only [goLen] at this; omega
    refine tot_bind (tone k2) fun ⟨b, c3⟩ k3 => ?_
    rw [wid (n := (k : Int) + 1) (by omega) (by omega)]
    refine tot_bind (Q := fun r => r.length ≤ k + 1) (tot_cond (fun _ => ?_) fun _ => tot_some (by omega)) fun r hr => tot_some ⟨⟨k + 1, rfl, by omega, hr, k3.le (by omega)⟩, by simp only; omega⟩
    exact tot_bind (tot_app (Q := fun r => r.length ≤ k + 1) (by simp; omega) (by simp; omega)) fun r hr => tot_some hr
  · replace hd : dims.length ≤ 5 := hd
    refine tot_bind (tone k2) fun ⟨b, c3⟩ k3 => ?_
    refine tot_bind (Q := fun r => r.length ≤ 10) (tot_cond (fun _ => ?_) fun _ => tot_some (by omega)) fun r hr => tot_some ⟨hs, hc, hr⟩
    refine tot_bind (tamong k3) fun ⟨v, c4⟩ _ => ?_
    exact tot_bind (tot_app (Q := fun r => r.length ≤ 10) (by simp; omega) (by simp; omega)) fun r hr => tot_some hr

theorem laws_FnCubes_true (a b : List (K .u8)) (o1 : Rng.ok a) (o2 : Rng.ok b) : laws_FnCubes a b = some true := by
  refine tot_eq ?_
  unfold laws_FnCubes
  refine tot_cond (fun _ => tot_some rfl) fun _ => ?_
  refine tot_bind (DrawCubeOf_ok o1.2) fun ⟨sizes, base⟩ ⟨hs, hbl⟩ => ?_
  replace hs : sizes.length ≤ 5 := hs
  replace hbl : base.length ≤ 2001 := hbl
  obtain ⟨p, p1, p2, p3, p4⟩ := CubeOf_same sizes base (by omega)
  simp only [p1, p2, Option.bind_some]
  refine tot_bind (DrawMarginOf_ok o2.2) fun ⟨x, dims⟩ ⟨hxs, hxc, hdl⟩ => ?_
  replace hxs : x.Sizes.length ≤ 5 := hxs
  replace hxc : x.Cells.length ≤ 2001 := hxc
  replace hdl : dims.length ≤ 10 := hdl
  obtain ⟨q, q1, q2, q3, q4⟩ := MarginOf_same x dims (by omega) (by omega)
  have hp : laws_qInts p.1.Sizes p.1.Sizes = some true ∧ laws_qInts p.1.Cells p.1.Cells = some true := by
    cases h : p.2 with
    | false => rw [p4 h]; exact ⟨qInts_same (by simp [noCube]), qInts_same (by simp [noCube])⟩
    | true =>
      obtain ⟨S, _, hv, _, _, _, hg⟩ := p3 h
      have := hv.1.l; have := hv.2
      exact ⟨qInts_same (by rw [hg.sz, up_len]; omega), qInts_same (by rw [hg.ln]; omega)⟩
  have hq : laws_qInts q.1.Sizes q.1.Sizes = some true ∧ laws_qInts q.1.Cells q.1.Cells = some true := by
    cases h : q.2 with
    | false => rw [q4 h]; exact ⟨qInts_same (by simp [noCube]), qInts_same (by simp [noCube])⟩
    | true =>
      obtain ⟨S, D, hg, hD, he⟩ := q3 h
      have hv := pick_vc hg.vc hD
      have := hv.1.l; have := hv.2
      rw [he]
      exact ⟨qInts_same (by simp only [takeC]; rw [up_len]; omega), qInts_same (by simp only [takeC]; rw [tab_len]; omega)⟩
  simp only [q1, q2, hp.1, hp.2, hq.1, hq.2, Option.bind_some, bne_self_eq_false, cond_false, Bool.not_true]
  refine tot_bind (Q := fun r => r = false) (tot_cond (fun h => ?_) fun _ => tot_some rfl) fun r hr => ?_
  · obtain ⟨S, D, hg, hD, he⟩ := q3 h
    have hv := pick_vc hg.vc hD
    have ht := takeC_good hg hD (VX_top S)
    rw [he, IsCube_true ht, Option.bind_some]
    simp only [Bool.not_true, cond_false]
    have hcp := cnt_pos (pick S D)
    have hcs := cnt_pos S
    have hv2 := hv.2
    have hg2 := hg.vc.2
    have hln : (takeC S (ce x.Cells) D S).Cells.length = cnt (pick S D) := ht.ln
    rw [show (goLen (takeC S (ce x.Cells) D S).Cells == 0) = false by simp [goLen, hln]; omega]
    simp only [cond_false, goLen, hln, hg.ln]
    rw [wid (n := ((cnt (pick S D) : Nat) : Int) - 1) (by omega) (by omega), wid (n := ((cnt S : Nat) : Int) - 1) (by omega) (by omega), show ((cnt (pick S D) : Nat) : Int) - 1 = ((cnt (pick S D) - 1 : Nat) : Int) by omega, show ((cnt S : Nat) : Int) - 1 = ((cnt S - 1 : Nat) : Int) by omega,
      ce_at (by rw [hln]; omega), ce_at (by rw [hg.ln]; omega), Option.bind_some, Option.bind_some, takeC_last hg.vc hD]
    exact tot_some (by simp)
  · subst hr
    simp only [cond_false]
    refine tot_cond (fun _ => tot_some rfl) fun h => ?_
    have h' : p.2 = true := by simpa using h
    obtain ⟨S, hS, hv, hl, hB, he, hg⟩ := p3 h'
    subst hS
    rw [BaseOf_ok hg, FirstBreak_ok hg, CubeCell_top hg, IsCube_true hg]
    simp only [Option.bind_some, cond_true]
    have hbv : bvals S (ce p.1.Cells) (cnt S) = base := by rw [he]; exact bvals_base hl
    have hcell : ce p.1.Cells (ix S S) = base.sum := by
      rw [he]
      simp only [cubeT]
      rw [ce_tab (ix_lt (VX_top S)), dig_ix (VX_top S), T_top hl]
    rw [hbv, hcell, qInts_same (by omega), qSum_eq hB (by omega)]
    simp only [Option.bind_some, cond_true, beq_self_eq_true]
    exact tot_some rfl

end Go.Gx.F
