/- Plain laws: the reference calls the same matrices flows; the next flow on both sides. -/
import Derived.Test.YtpjcfmpfiadkgaaFPFl16

namespace Go.Gx.F

open Go.Gx

set_option linter.all false

set_option maxRecDepth 10000

theorem runN {ρ : Type} {f : Int → Option (Stp Int ρ)} {N : Nat} {r : ρ} (hN : N ≤ 100000) (hs : ∀ k : Nat, k < N → f k = some (.next (w64 ((k : Int) + 1)))) (he : f (N : Int) = some (.done r)) : loopC f 0 = some r := by
  refine tot_eq (tot_loop (fun s => ∃ k : Nat, k ≤ N ∧ s = (k : Int)) (fun s => N - s.toNat) ⟨0, by omega, rfl⟩ ?_)
  rintro _ ⟨k, hk, rfl⟩
  by_cases hlt : k < N
  · rw [hs k hlt, wid (by omega) (by omega)]
    exact tot_some ⟨⟨k + 1, by omega, by omega⟩, by omega⟩
  · obtain rfl : k = N := by omega
    rw [he]
    exact tot_some rfl

section

variable {n m : Nat} {t : impl_Transport} {x : List (List Int)}

theorem tFits_ok (hT : Tr n m t) (hx : Shp n m x) (hF : IsF n m t (mt x)) : spec_tFits t x = some true := by
  have h1 := hT.rl; have h2 := hT.cl; have h3 := hT.n8; have h4 := hT.m8; have hxl := hx.len
  obtain ⟨b, e, hb⟩ := size_bis (t := t) (x := x) (by omega)
  obtain rfl := hb.2 ⟨by omega, fun r hr => by rw [hx.row r hr]; omega⟩
  have hbd : ∀ i j, i < n → j < m → -1000000 ≤ mt x i j ∧ mt x i j ≤ 1000000 := fun i j hi hj => by have := hT.fb hF hi hj; omega
  have L1 : loopC (spec_tFits_l1 t x) 0 = some (.inl ()) := by
    refine runN (N := n) (by omega) (fun i hi => ?_) ?_
    · obtain ⟨row, hrow, _, hrl, _, _⟩ := hx.get hi
      obtain ⟨lr, hlr, _, _, _, _⟩ := hT.lo.get hi
      obtain ⟨hr, hhr, _, _, _, _⟩ := hT.hi.get hi
      have L2 : loopC (spec_tFits_l2 t (i : Int) row) 0 = some (.inl ()) := by
        refine runN (N := m) (by omega) (fun j hj => ?_) ?_
        · have hy := hx.el hrow hj
          have hb1 := hF.lo i j hi hj; have hb2 := hF.hi i j hi hj
          simp only [spec_tFits_l2, lt_ok hy, cond_true, at_ok hy, at_ok hlr, at_ok (hT.lo.el hlr hj), at_ok hhr, at_ok (hT.hi.el hhr hj), Option.bind_some]
          rw [in_eq, decide_eq_true hb1, decide_eq_true hb2]
          rfl
        · have e3 : decide ((m : Int) < goLen row) = false := decide_eq_false (by simp only [goLen]; omega)
          simp only [spec_tFits_l2, e3, cond_false]
      simp only [spec_tFits_l1, lt_ok hrow, cond_true, at_ok hrow, Option.bind_some]
      rw [L2]
      simp only [Option.bind_some]
      rw [at_ok (vc_at (by omega)), Option.bind_some, rowSum_ok hx (by omega) hrow hi fun j hj => hbd i j hi hj, Option.bind_some, hF.row i hi, bne_self_eq_false, cond_false]
    · have e3 : decide ((n : Int) < goLen x) = false := decide_eq_false (by simp only [goLen]; omega)
      simp only [spec_tFits_l1, e3, cond_false]
  have L3 : loopC (spec_tFits_l3 t x) 0 = some (.inl ()) := by
    refine runN (N := m) (by omega) (fun j hj => ?_) ?_
    · have hcj := vc_at (l := t.Cols) (i := j) (by omega)
      obtain ⟨col, ecol, hcl, hcv⟩ := tColumn_ok hx (by omega) hj
      have ts := tSum_ok (l := col) (by omega) (fun i hi => by rw [hcv i (by omega)]; exact hbd i j (by omega) hj)
      simp only [spec_tFits_l3, lt_ok hcj, cond_true, at_ok hcj, Option.bind_some]
      rw [ecol, Option.bind_some, ts, Option.bind_some, hcl, sm_congr fun i hi => hcv i hi, hF.col j hj, bne_self_eq_false, cond_false]
    · have e3 : decide ((m : Int) < goLen t.Cols) = false := decide_eq_false (by simp only [goLen]; omega)
      simp only [spec_tFits_l3, e3, cond_false]
  unfold spec_tFits
  rw [e]
  simp only [Option.bind_some, Bool.not_true, cond_false]
  rw [L1]
  simp only [Option.bind_some]
  rw [L3]
  rfl

theorem at1_upd {b q : Nat} {v : Int} (hs : Shp n m x) (hb : b < n * m) (hq : q < n * m) : at1 m (mt (upd x (b / m) (b % m) v)) q = if q = b then v else at1 m (mt x) q := by
  obtain ⟨b1, b2, b3⟩ := pos_bd hb
  obtain ⟨q1, q2, q3⟩ := pos_bd hq
  unfold at1
  rw [mt_upd hs b1 b2]
  by_cases h : q = b
  · rw [if_pos h, if_pos (by rw [h]; exact ⟨rfl, rfl⟩)]
  · rw [if_neg h, if_neg]
    rintro ⟨e1, e2⟩
    rw [e1, e2] at q3
    omega

theorem fix_ok (hT : Tr n m t) (hx : Shp n m x) (hF : IsF n m t (mt x)) {p : Nat} (hp : p < n * m) (hne : mt x (p / m) (p % m) ≠ mt t.Hi (p / m) (p % m)) :
    ∃ u, loopC (spec_tNext_l2 t x (p : Int)) (0, wth t (p / m) (p % m) (mt x (p / m) (p % m) + 1) (mt t.Hi (p / m) (p % m))) = some u ∧ Tr n m u ∧
      ∀ z, IsF n m u z ↔ (IsF n m t z ∧ Agr m p (mt x) z ∧ at1 m (mt x) p + 1 ≤ at1 m z p) := by
  have h1 := hT.rl; have h2 := hT.cl; have h3 := hT.n8; have h4 := hT.m8; have hm1 := hT.m1
  have gC : goLen t.Cols = (m : Int) := by simp only [goLen]; rw [h2]
  have hnm : n * m ≤ 64 := Nat.mul_le_mul h3 h4
  obtain ⟨p1, p2, p3⟩ := pos_bd hp
  have h : Tot (loopC (spec_tNext_l2 t x (p : Int)) (0, wth t (p / m) (p % m) (mt x (p / m) (p % m) + 1) (mt t.Hi (p / m) (p % m)))) fun u => u.Rows = t.Rows ∧ u.Cols = t.Cols ∧ Shp n m u.Lo ∧ Shp n m u.Hi ∧
      (∀ q, q < n * m → at1 m (mt u.Lo) q = if q < p then at1 m (mt x) q else if q = p then at1 m (mt x) p + 1 else at1 m (mt t.Lo) q) ∧ (∀ q, q < n * m → at1 m (mt u.Hi) q = if q < p then at1 m (mt x) q else at1 m (mt t.Hi) q) := by
    refine tot_loop (fun s => ∃ b : Nat, b ≤ p ∧ s.1 = (b : Int) ∧ s.2.Rows = t.Rows ∧ s.2.Cols = t.Cols ∧ Shp n m s.2.Lo ∧ Shp n m s.2.Hi ∧
      (∀ q, q < n * m → at1 m (mt s.2.Lo) q = if q < b then at1 m (mt x) q else if q = p then at1 m (mt x) p + 1 else at1 m (mt t.Lo) q) ∧ (∀ q, q < n * m → at1 m (mt s.2.Hi) q = if q < b then at1 m (mt x) q else at1 m (mt t.Hi) q)) (fun s => p - s.1.toNat)
      ⟨0, by omega, rfl, rfl, rfl, hT.lo.upd p1, hT.hi.upd p1, fun q hq => ?_, fun q hq => ?_⟩ ?_
    · simp only [wth]
      rw [at1_upd hT.lo hp hq, if_neg (show ¬ q < 0 by omega)]
      rfl
    · simp only [wth]
      rw [at1_upd hT.hi hp hq, if_neg (show ¬ q < 0 by omega)]
      by_cases hc : q = p
      · rw [if_pos hc, hc]; rfl
      · rw [if_neg hc]
    · rintro ⟨_, u⟩ ⟨b, hb', rfl, hR, hC, hL, hH, gL, gH⟩
      simp only at hR hC hL hH gL gH
      by_cases hb : b < p
      · have hbn : b < n * m := by omega
        obtain ⟨b1, b2, b3⟩ := pos_bd hbn
        have e0 : decide ((b : Int) < (p : Int)) = true := decide_eq_true (by omega)
        obtain ⟨xr, hxr, _, _, _, _⟩ := hx.get b1
        obtain ⟨lr, hlr, _, _, _, _⟩ := hL.get b1
        obtain ⟨hr, hhr, _, _, _, _⟩ := hH.get b1
        simp only [spec_tNext_l2, e0, cond_true]
        rw [gC, quo_nat (by omega) (by omega), rem_nat (by omega)]
        simp only [Option.bind_some, at_ok hlr, at_ok hxr, at_ok hhr, at_ok (hx.el hxr b2), at_ok (hL.el hlr b2), at_ok (hH.el hhr b2), goSet, Int.toNat_natCast]
        rw [wid (by omega) (by omega), set_upd hlr, set_upd hhr]
        refine tot_some ⟨⟨b + 1, by omega, by simp only; omega, hR, hC, hL.upd b1, hH.upd b1, fun q hq => ?_, fun q hq => ?_⟩, by simp only; omega⟩
        · simp only
          rw [at1_upd hL hbn hq]
          by_cases hc : q = b
          · rw [if_pos hc, if_pos (by omega), hc]; rfl
          · rw [if_neg hc, gL q hq]
            by_cases hc2 : q < b
            · rw [if_pos hc2, if_pos (by omega)]
            · rw [if_neg hc2, if_neg (show ¬ q < b + 1 by omega)]
        · simp only
          rw [at1_upd hH hbn hq]
          by_cases hc : q = b
          · rw [if_pos hc, if_pos (by omega), hc]; rfl
          · rw [if_neg hc, gH q hq]
            by_cases hc2 : q < b
            · rw [if_pos hc2, if_pos (by omega)]
            · rw [if_neg hc2, if_neg (show ¬ q < b + 1 by omega)]
      · obtain rfl : b = p := by omega
        have e0 : decide ((b : Int) < (b : Int)) = false := decide_eq_false (by omega)
        simp only [spec_tNext_l2, e0, cond_false]
        exact tot_some ⟨hR, hC, hL, hH, gL, gH⟩
  obtain ⟨u, eu, hR, hC, hL, hH, gL, gH⟩ := h
  have xp : ∀ q, q < n * m → at1 m (mt t.Lo) q ≤ at1 m (mt x) q ∧ at1 m (mt x) q ≤ at1 m (mt t.Hi) q ∧ 0 ≤ at1 m (mt t.Lo) q ∧ at1 m (mt t.Hi) q ≤ 100000 := fun q hq => by
    obtain ⟨q1, q2, _⟩ := pos_bd hq
    have c1 := hF.lo _ _ q1 q2; have c2 := hF.hi _ _ q1 q2; have c3 := hT.bd _ _ q1 q2
    exact ⟨c1, c2, c3.1, c3.2.2⟩
  have xpp : at1 m (mt x) p ≠ at1 m (mt t.Hi) p := hne
  have gL' : ∀ a b, a < n → b < m → mt u.Lo a b = if a * m + b < p then mt x a b else if a * m + b = p then at1 m (mt x) p + 1 else mt t.Lo a b := fun a b ha hb => by
    have := gL _ (pos_lt ha hb)
    rw [at1_ij hb, at1_ij hb, at1_ij hb] at this
    exact this
  have gH' : ∀ a b, a < n → b < m → mt u.Hi a b = if a * m + b < p then mt x a b else mt t.Hi a b := fun a b ha hb => by
    have := gH _ (pos_lt ha hb)
    rw [at1_ij hb, at1_ij hb, at1_ij hb] at this
    exact this
  have xq : ∀ a b, a < n → b < m → a * m + b = p → mt x a b = at1 m (mt x) p ∧ mt t.Hi a b = at1 m (mt t.Hi) p := fun a b ha hb e => by
    rw [← e, at1_ij hb, at1_ij hb]; exact ⟨rfl, rfl⟩
  refine ⟨u, eu, ⟨by rw [hR]; exact h1, by rw [hC]; exact h2, hT.n1, h3, hT.m1, h4, hL, hH, by rw [hR]; exact hT.rb, by rw [hC]; exact hT.cb, fun a b ha hb => ?_⟩, fun z => ⟨fun hz => ?_, fun ⟨hz, hag, hge⟩ => ?_⟩⟩
  · rw [gL' a b ha hb, gH' a b ha hb]
    have c1 := hF.lo a b ha hb; have c2 := hF.hi a b ha hb; have c3 := hT.bd a b ha hb
    by_cases k1 : a * m + b < p
    · rw [if_pos k1, if_pos k1]; omega
    · rw [if_neg k1, if_neg k1]
      by_cases k2 : a * m + b = p
      · rw [if_pos k2]
        obtain ⟨y1, y2⟩ := xq a b ha hb k2
        omega
      · rw [if_neg k2]; exact c3
  · have zl := fun a b ha hb => hz.lo a b ha hb
    have zh := fun a b ha hb => hz.hi a b ha hb
    refine ⟨⟨fun a b ha hb => ?_, fun a b ha hb => ?_, fun a ha => by rw [hz.row a ha, hR], fun b hb => by rw [hz.col b hb, hC]⟩, fun q hq => ?_, ?_⟩
    · have c := zl a b ha hb
      rw [gL' a b ha hb] at c
      have c1 := hF.lo a b ha hb
      by_cases k1 : a * m + b < p
      · rw [if_pos k1] at c; omega
      · rw [if_neg k1] at c
        by_cases k2 : a * m + b = p
        · rw [if_pos k2] at c
          obtain ⟨y1, y2⟩ := xq a b ha hb k2
          omega
        · rw [if_neg k2] at c; exact c
    · have c := zh a b ha hb
      rw [gH' a b ha hb] at c
      have c1 := hF.hi a b ha hb
      by_cases k1 : a * m + b < p
      · rw [if_pos k1] at c; omega
      · rw [if_neg k1] at c; exact c
    · have hqn : q < n * m := by omega
      obtain ⟨q1, q2, _⟩ := pos_bd hqn
      have c1 := zl _ _ q1 q2
      have c2 := zh _ _ q1 q2
      have d1 := gL q hqn; have d2 := gH q hqn
      rw [if_pos hq] at d1 d2
      have d1' : mt u.Lo (q / m) (q % m) = at1 m (mt x) q := d1
      have d2' : mt u.Hi (q / m) (q % m) = at1 m (mt x) q := d2
      show z (q / m) (q % m) = _
      omega
    · have c1 := zl _ _ p1 p2
      have d1 := gL p hp
      rw [if_neg (by omega), if_pos rfl] at d1
      have d1' : mt u.Lo (p / m) (p % m) = at1 m (mt x) p + 1 := d1
      show _ ≤ z (p / m) (p % m)
      omega
  · have zl := fun a b ha hb => hz.lo a b ha hb
    have zh := fun a b ha hb => hz.hi a b ha hb
    refine ⟨fun a b ha hb => ?_, fun a b ha hb => ?_, fun a ha => by rw [hR]; exact hz.row a ha, fun b hb => by rw [hC]; exact hz.col b hb⟩
    · rw [gL' a b ha hb]
      by_cases k1 : a * m + b < p
      · rw [if_pos k1]
        have := hag _ k1
        rw [at1_ij hb, at1_ij hb] at this
        omega
      · rw [if_neg k1]
        by_cases k2 : a * m + b = p
        · rw [if_pos k2]
          rw [← k2, at1_ij hb, at1_ij hb] at hge
          rw [← k2, at1_ij hb]
          exact hge
        · rw [if_neg k2]; exact zl a b ha hb
    · rw [gH' a b ha hb]
      by_cases k1 : a * m + b < p
      · rw [if_pos k1]
        have := hag _ k1
        rw [at1_ij hb, at1_ij hb] at this
        omega
      · rw [if_neg k1]; exact zh a b ha hb

def Mor (n m : Nat) (t : impl_Transport) (x : List (List Int)) (p : Nat) (z : Nat → Nat → Int) : Prop := IsF n m t z ∧ Agr m p (mt x) z ∧ at1 m (mt x) p + 1 ≤ at1 m z p

theorem next_step (hT : Tr n m t) (hx : Shp n m x) (hF : IsF n m t (mt x)) {p : Nat} (hp : p < n * m) :
    ((∀ z, ¬ Mor n m t x p z) ∧ spec_tNext_l1 t x (p : Int) = some (.next (w64 ((p : Int) - 1)))) ∨
    (∃ y, Shp n m y ∧ Fst n m (Mor n m t x p) 0 (fun _ _ => 0) (mt y) ∧ spec_tNext_l1 t x (p : Int) = some (.done (.inr (y, true)))) := by
  have h1 := hT.rl; have h2 := hT.cl; have h3 := hT.n8; have h4 := hT.m8; have hm1 := hT.m1
  have gC : goLen t.Cols = (m : Int) := by simp only [goLen]; rw [h2]
  have hnm : n * m ≤ 64 := Nat.mul_le_mul h3 h4
  obtain ⟨p1, p2, p3⟩ := pos_bd hp
  obtain ⟨xr, hxr, _, _, _, _⟩ := hx.get p1
  obtain ⟨hr, hhr, _, _, _, _⟩ := hT.hi.get p1
  have b0 := hT.bd _ _ p1 p2
  have b1 := hF.lo _ _ p1 p2; have b2 := hF.hi _ _ p1 p2
  by_cases heq : mt x (p / m) (p % m) = mt t.Hi (p / m) (p % m)
  · refine .inl ⟨fun z hz => ?_, ?_⟩
    · have c1 := hz.1.hi _ _ p1 p2
      have c2 : mt x (p / m) (p % m) + 1 ≤ z (p / m) (p % m) := hz.2.2
      omega
    · simp only [spec_tNext_l1]
      rw [decide_eq_true (by omega), cond_true, gC, quo_nat (by omega) (by omega), rem_nat (by omega)]
      simp only [Option.bind_some, at_ok hxr, at_ok hhr, at_ok (hx.el hxr p2), at_ok (hT.hi.el hhr p2)]
      rw [show (mt x (p / m) (p % m) == mt t.Hi (p / m) (p % m)) = true by rw [beq_iff_eq]; exact heq, cond_true]
      rfl
  · obtain ⟨u, eu, hU, hiff⟩ := fix_ok hT hx hF hp heq
    obtain ⟨y, b, ey, g1, g2⟩ := tFirst_ok hU
    have body : spec_tNext_l1 t x (p : Int) = ((cond b (some (.inr (.done (.inr (y, true))))) (some (.inl ())) : Option (Unit ⊕ (Stp Int (Unit ⊕ (List (List Int) × Bool))))).bind fun | .inl () => some (.next (w64 ((p : Int) - 1))) | .inr o => some o) := by
      simp only [spec_tNext_l1]
      rw [decide_eq_true (by omega), cond_true, gC, quo_nat (by omega) (by omega), rem_nat (by omega)]
      simp only [Option.bind_some, at_ok hxr, at_ok hhr, at_ok (hx.el hxr p2), at_ok (hT.hi.el hhr p2)]
      rw [show (mt x (p / m) (p % m) == mt t.Hi (p / m) (p % m)) = false by rw [beq_eq_false_iff_ne]; exact heq, cond_false, wid (n := mt x (p / m) (p % m) + 1) (by omega) (by omega), with_ok hT p1 p2]
      simp only [Option.bind_some]
      rw [eu]
      simp only [Option.bind_some]
      rw [ey]
      rfl
    cases b with
    | true =>
      obtain ⟨hy, hf⟩ := g1 rfl
      exact .inr ⟨y, hy, ⟨(hiff _).1 hf.isF, hf.agr, fun q a b z hz => hf.least q a b z ((hiff z).2 hz)⟩, body⟩
    | false => exact .inl ⟨fun z hz => (g2 rfl).2 z ((hiff z).2 hz), body⟩

theorem nexts (hT : Tr n m t) (hx : Shp n m x) (hF : IsF n m t (mt x)) : ∃ y, impl_NextFlow t x = some (y, !y.isEmpty) ∧ spec_NextFlow t x = some (y, !y.isEmpty) ∧ (y = [] ∨ (Shp n m y ∧ ∃ k, Nxt n m t (mt x) (mt y) k)) := by
  have h1 := hT.rl; have h2 := hT.cl; have h3 := hT.n8; have h4 := hT.m8; have h5 := hT.m1; have h6 := hT.n1
  have gR : goLen t.Rows = (n : Int) := by simp only [goLen]; rw [h1]
  have gC : goLen t.Cols = (m : Int) := by simp only [goLen]; rw [h2]
  have hnm : n * m ≤ 64 := Nat.mul_le_mul h3 h4
  have hnm1 : 1 ≤ n * m := Nat.mul_le_mul h6 h5
  have eN : w64 ((n : Int) * m) = ((n * m : Nat) : Int) := by rw [← Int.natCast_mul, wid (by omega) (by omega)]
  obtain ⟨y, ey, hy⟩ := nextFlow_ok hT hx hF
  have hI : impl_NextFlow t x = some (y, !y.isEmpty) := by
    unfold impl_NextFlow
    rw [isFlow_ok hT hx hF]
    simp only [Option.bind_some, Bool.not_true, cond_false]
    rw [ey]; rfl
  have hS : ∀ o, loopC (spec_tNext_l1 t x) (((n * m : Nat) : Int) - 1) = some o → spec_NextFlow t x = some (match o with | .inl () => ([], false) | .inr r => r) := fun o e => by
    unfold spec_NextFlow spec_tNext
    rw [tGood_ok hT, tFits_ok hT hx hF, gR, gC, eN, wid (n := ((n * m : Nat) : Int) - 1) (by omega) (by omega), e]
    cases o <;> rfl
  refine ⟨y, hI, ?_, ?_⟩
  · rcases hy with ⟨rfl, hno⟩ | ⟨hys, k, hk⟩
    · have h : loopC (spec_tNext_l1 t x) (((n * m : Nat) : Int) - 1) = some (.inl ()) := by
        refine tot_eq (tot_loop (fun s => ∃ p : Nat, p ≤ n * m ∧ s = (p : Int) - 1) (fun s => (s + 1).toNat) ⟨n * m, Nat.le_refl _, rfl⟩ ?_)
        rintro _ ⟨p, hp, rfl⟩
        cases p with
        | zero =>
          simp only [spec_tNext_l1]
          rw [decide_eq_false (by omega), cond_false]
          exact tot_some rfl
        | succ p =>
          rw [show ((p + 1 : Nat) : Int) - 1 = (p : Int) by omega]
          rcases next_step hT hx hF (p := p) (by omega) with ⟨_, e⟩ | ⟨z, hz, hzf, _⟩
          · rw [e]
            exact tot_some ⟨⟨p, by omega, by rw [wid (by omega) (by omega)]⟩, by rw [wid (by omega) (by omega)]; omega⟩
          · have g1 := hno p (by omega) _ hzf.isF.1 hzf.isF.2.1
            have g2 := hzf.isF.2.2
            omega
      rw [hS _ h]; rfl
    · have hkl := hk.lt
      have hko := hk.one
      have hM : Mor n m t x k (mt y) := ⟨hk.isF, hk.agr, by omega⟩
      have h : loopC (spec_tNext_l1 t x) (((n * m : Nat) : Int) - 1) = some (.inr (y, true)) := by
        refine tot_eq (tot_loop (fun s => ∃ p : Nat, k < p ∧ p ≤ n * m ∧ s = (p : Int) - 1) (fun s => (s + 1).toNat) ⟨n * m, hk.lt, Nat.le_refl _, rfl⟩ ?_)
        rintro _ ⟨p, hkp, hp, rfl⟩
        cases p with
        | zero => omega
        | succ p =>
          rw [show ((p + 1 : Nat) : Int) - 1 = (p : Int) by omega]
          rcases next_step hT hx hF (p := p) (by omega) with ⟨hz, e⟩ | ⟨z, hz, hzf, e⟩
          · have hpk : p ≠ k := fun e => hz (mt y) (by rw [e]; exact hM)
            rw [e]
            exact tot_some ⟨⟨p, by omega, by omega, by rw [wid (by omega) (by omega)]⟩, by rw [wid (by omega) (by omega)]; omega⟩
          · have hpk : p = k := by
              by_cases hc : p = k
              · exact hc
              · have g1 := hk.none p (by omega) (by omega) _ hzf.isF.1 hzf.isF.2.1
                have g2 := hzf.isF.2.2
                omega
            subst hpk
            have hyF : Fst n m (Mor n m t x p) 0 (fun _ _ => 0) (mt y) := ⟨hM, fun q hq => by omega, fun q _ hq w hw ha => by
              by_cases q1 : q < p
              · have a1 := hw.2.1 q q1; have a2 := hk.agr q q1; omega
              · by_cases q2 : q = p
                · have a1 := hw.2.2
                  rw [q2]; omega
                · exact hk.least q (by omega) hq w hw.1 ha⟩
            obtain rfl : z = y := hz.ext hys fun i j hi hj => ((Fst.one hyF hzf).all hi hj)
            rw [e]
            exact tot_some rfl
      rw [hS _ h, (ne_ok hys hT.n1).2]; rfl
  · rcases hy with ⟨rfl, _⟩ | h
    · exact .inl rfl
    · exact .inr h

theorem before_ok (hn : n ≤ 8) (hm : m ≤ 8) {y : List (List Int)} (hx : Shp n m x) (hy : Shp n m y) {k : Nat} (hk : k < n * m) (ha : Agr m k (mt x) (mt y)) (ho : at1 m (mt y) k = at1 m (mt x) k + 1) : laws_pBefore x y = some true := by
  obtain ⟨k1, k2, k3⟩ := pos_bd hk
  have hxl := hx.len
  have key : loopC (laws_pBefore_l1 x y) 0 = some (.inr true) := by
    refine tot_eq (tot_loop (fun s => ∃ i : Nat, i ≤ k / m ∧ s = (i : Int)) (fun s => n - s.toNat) ⟨0, Nat.zero_le _, rfl⟩ ?_)
    rintro _ ⟨i, hi', rfl⟩
    have hi : i < n := by omega
    obtain ⟨xr, hxr, _, hxl2, _, _⟩ := hx.get hi
    obtain ⟨yr, hyr, _, _, _, _⟩ := hy.get hi
    simp only [laws_pBefore_l1, lt_ok hxr, cond_true, at_ok hxr, Option.bind_some]
    by_cases hik : i = k / m
    · have h2 : loopC (laws_pBefore_l2 x y (i : Int) xr) 0 = some (.inr (.done (.inr true))) := by
        refine tot_eq (tot_loop (fun s => ∃ j : Nat, j ≤ k % m ∧ s = (j : Int)) (fun s => m - s.toNat) ⟨0, Nat.zero_le _, rfl⟩ ?_)
        rintro _ ⟨j, hj', rfl⟩
        have hj : j < m := by omega
        simp only [laws_pBefore_l2, lt_ok (hx.el hxr hj), cond_true, at_ok hxr, at_ok hyr, at_ok (hx.el hxr hj), at_ok (hy.el hyr hj), Option.bind_some]
        by_cases hjk : j = k % m
        · have e : mt y i j = mt x i j + 1 := by
            have := ho
            unfold at1 at this
            rw [← hik, ← hjk] at this
            exact this
          rw [show (mt x i j != mt y i j) = true by rw [bne_iff_ne]; omega, cond_true, decide_eq_true (by omega)]
          exact tot_some rfl
        · have e : mt y i j = mt x i j := by
            have := ha (i * m + j) (by rw [hik]; omega)
            rw [at1_ij hj, at1_ij hj] at this
            exact this
          rw [e, bne_self_eq_false, cond_false, wid (by omega) (by omega)]
          exact tot_some ⟨⟨j + 1, by omega, by omega⟩, by omega⟩
      rw [h2]
      exact tot_some rfl
    · have h2 : loopC (laws_pBefore_l2 x y (i : Int) xr) 0 = some (.inl ()) := by
        refine runN (N := m) (by omega) (fun j hj => ?_) ?_
        · have e : mt y i j = mt x i j := by
            have hlt : i * m + j < k := by
              have : (i + 1) * m ≤ k / m * m := Nat.mul_le_mul_right m (by omega)
              rw [Nat.succ_mul] at this
              omega
            have := ha (i * m + j) hlt
            rw [at1_ij hj, at1_ij hj] at this
            exact this
          simp only [laws_pBefore_l2, lt_ok (hx.el hxr hj), cond_true, at_ok hxr, at_ok hyr, at_ok (hx.el hxr hj), at_ok (hy.el hyr hj), Option.bind_some]
          rw [e, bne_self_eq_false, cond_false]
        · have e3 : decide ((m : Int) < goLen xr) = false := decide_eq_false (by simp only [goLen]; omega)
          simp only [laws_pBefore_l2, e3, cond_false]
      rw [h2]
      simp only [Option.bind_some]
      rw [wid (by omega) (by omega)]
      exact tot_some ⟨⟨i + 1, by omega, by omega⟩, by omega⟩
  unfold laws_pBefore
  rw [key]; rfl

end

end Go.Gx.F
