/- Plain laws: FnAudits. -/
import Derived.Test.YtpjcfmpfiadkgaaAPAun
namespace Go.Gx.F
open Go.Gx
set_option linter.all false
set_option maxRecDepth 10000

section
variable {n m : Nat} {x p : List (List Int)} {t : impl_Transport}

theorem allRanges_ok (hT : Tr n m t) (hx : Shp n m x) (hF : IsF n m t (mt x)) : ∃ lo hh, impl_allRanges t x = some (lo, hh) ∧ Shp n m lo ∧ Shp n m hh ∧ ∀ i j, i < n → j < m → Lst (IsF n m t) i j (mt lo i j) ∧ Gst (IsF n m t) i j (mt hh i j) := by
  have h3 := hT.n8; have h4 := hT.m8; have h5 := hT.n1; have hxl := hx.len
  unfold impl_allRanges
  rw [copy_eq (hx.sz (by omega) (by omega)) (by omega), Option.bind_some, Option.bind_some]
  have h : Tot (loopC (impl_allRanges_l1 t x) (x, x, 0)) fun o => Shp n m o.1 ∧ Shp n m o.2 ∧ ∀ i j, i < n → j < m → Lst (IsF n m t) i j (mt o.1 i j) ∧ Gst (IsF n m t) i j (mt o.2 i j) := by
    refine tot_loop (fun s => ∃ i : Nat, i ≤ n ∧ s.2.2 = (i : Int) ∧ Shp n m s.1 ∧ Shp n m s.2.1 ∧ ∀ a b, a < i → b < m → Lst (IsF n m t) a b (mt s.1 a b) ∧ Gst (IsF n m t) a b (mt s.2.1 a b)) (fun s => n - s.2.2.toNat) ⟨0, by omega, rfl, hx, hx, fun a b ha => by omega⟩ ?_
    rintro ⟨lo, hh, _⟩ ⟨i, hi', rfl, g1, g2, g3⟩
    simp only at g1 g2 g3
    by_cases hi : i < n
    · obtain ⟨row, hrow, _, hrl, _, _⟩ := hx.get hi
      simp only [impl_allRanges_l1, lt_ok hrow, cond_true, at_ok hrow, Option.bind_some]
      have h2 : Tot (loopC (impl_allRanges_l2 t x (i : Int) row) (lo, hh, 0)) fun o => Shp n m o.1 ∧ Shp n m o.2 ∧ ∀ a b, a < i + 1 → b < m → Lst (IsF n m t) a b (mt o.1 a b) ∧ Gst (IsF n m t) a b (mt o.2 a b) := by
        refine tot_loop (fun s => ∃ j : Nat, j ≤ m ∧ s.2.2 = (j : Int) ∧ Shp n m s.1 ∧ Shp n m s.2.1 ∧ ∀ a b, (a < i ∨ a = i ∧ b < j) → b < m → Lst (IsF n m t) a b (mt s.1 a b) ∧ Gst (IsF n m t) a b (mt s.2.1 a b)) (fun s => m - s.2.2.toNat) ⟨0, by omega, rfl, g1, g2, fun a b ha hb => g3 a b (by omega) hb⟩ ?_
        rintro ⟨l2, h2, _⟩ ⟨j, hj', rfl, k1, k2, k3⟩
        simp only at k1 k2 k3
        by_cases hj : j < m
        · have e0 : decide ((j : Int) < goLen row) = true := decide_eq_true (by simp only [goLen]; omega)
          obtain ⟨lr, hlr, _, _, _, _⟩ := k1.get hi
          obtain ⟨hr, hhr, _, _, _, _⟩ := k2.get hi
          obtain ⟨a1, a2, ea, q1, q2⟩ := range_ok hT hx hF hi hj
          simp only [impl_allRanges_l2, e0, cond_true, at_ok hlr, at_ok hhr, ea, at_ok (k1.el hlr hj), at_ok (k2.el hhr hj), Option.bind_some, goSet, Int.toNat_natCast]
          rw [set_upd hlr, set_upd hhr, wid (by omega) (by omega)]
          refine tot_some ⟨⟨j + 1, by omega, by simp only; omega, k1.upd hi, k2.upd hi, fun a b hab hb => ?_⟩, by simp only; omega⟩
          simp only
          rw [mt_upd k1 hi hj, mt_upd k2 hi hj]
          by_cases hc : a = i ∧ b = j
          · rw [if_pos hc, if_pos hc, hc.1, hc.2]; exact ⟨q1, q2⟩
          · rw [if_neg hc, if_neg hc]; exact k3 a b (by omega) hb
        · obtain rfl : j = m := by omega
          have e3 : decide ((j : Int) < goLen row) = false := decide_eq_false (by simp only [goLen]; omega)
          simp only [impl_allRanges_l2, e3, cond_false]
          exact tot_some ⟨k1, k2, fun a b ha hb => k3 a b (by omega) hb⟩
      obtain ⟨⟨l2, h2⟩, e', q1, q2, q3⟩ := h2
      rw [e', Option.bind_some]
      simp only
      rw [wid (by omega) (by omega)]
      exact tot_some ⟨⟨i + 1, by omega, by simp only; omega, q1, q2, q3⟩, by simp only; omega⟩
    · obtain rfl : i = n := by omega
      have e3 : decide ((i : Int) < goLen x) = false := decide_eq_false (by simp only [goLen]; omega)
      simp only [impl_allRanges_l1, e3, cond_false]
      exact tot_some ⟨g1, g2, g3⟩
  obtain ⟨⟨lo, hh⟩, e, q1, q2, q3⟩ := h
  rw [e]
  exact ⟨lo, hh, rfl, q1, q2, q3⟩

theorem fixed_rng (hS : Sup n m x p) (hN : Net n m x p t) {i j : Nat} (hi : i < n) (hj : j < m) (hp : mt p i j ≠ 1) : Lst (IsF n m t) i j (mt x i j) ∧ Gst (IsF n m t) i j (mt x i j) := by
  have hF := hN.fl hS
  have key : ∀ y, IsF n m t y → y i j = mt x i j := fun y hy => by
    have h1 := hy.lo i j hi hj; have h2 := hy.hi i j hi hj
    rw [hN.lv i j hi hj] at h1; rw [hN.hv i j hi hj] at h2
    unfold nlo at h1; unfold nhi at h2
    rw [if_neg hp] at h1 h2
    omega
  exact ⟨⟨⟨mt x, hF, rfl⟩, fun y hy => by rw [key y hy]; exact Int.le_refl _⟩, ⟨⟨mt x, hF, rfl⟩, fun y hy => by rw [key y hy]; exact Int.le_refl _⟩⟩

theorem qBounds_ok (hS : Sup n m x p) (hN : Net n m x p t) (hq : spec_qNetwork x p = some t) : ∃ b, spec_qBounds x p = some b ∧ Shp n m b.Lo ∧ Shp n m b.Hi ∧ ∀ i j, i < n → j < m → Lst (IsF n m t) i j (mt b.Lo i j) ∧ Gst (IsF n m t) i j (mt b.Hi i j) := by
  have hT := hN.tr hS; have hF := hN.fl hS
  have h3 := hT.n8; have h4 := hT.m8; have h5 := hT.n1; have hxl := hS.xs.len
  unfold spec_qBounds
  rw [hq, Option.bind_some]
  have h : Tot (loopC (spec_qBounds_l1 x p t) (0, impl_Bounds.mk [] [])) fun b => Shp n m b.Lo ∧ Shp n m b.Hi ∧ ∀ i j, i < n → j < m → Lst (IsF n m t) i j (mt b.Lo i j) ∧ Gst (IsF n m t) i j (mt b.Hi i j) := by
    refine tot_loop (fun s => ∃ i : Nat, i ≤ n ∧ s.1 = (i : Int) ∧ Shp i m s.2.Lo ∧ Shp i m s.2.Hi ∧ ∀ a b, a < i → b < m → Lst (IsF n m t) a b (mt s.2.Lo a b) ∧ Gst (IsF n m t) a b (mt s.2.Hi a b)) (fun s => n - s.1.toNat) ⟨0, by omega, rfl, ⟨rfl, by simp⟩, ⟨rfl, by simp⟩, fun a b ha => by omega⟩ ?_
    rintro ⟨_, bb⟩ ⟨i, hi', rfl, g1, g2, g3⟩
    simp only at g1 g2 g3
    by_cases hi : i < n
    · obtain ⟨row, hrow, _, hrl, _, _⟩ := hS.xs.get hi
      obtain ⟨prow, hprow, _, hprl, _, _⟩ := hS.ps.get hi
      have hll := g1.len; have hhl := g2.len
      simp only [spec_qBounds_l1, lt_ok hrow, cond_true, at_ok hrow, Option.bind_some]
      have h2 : Tot (loopC (spec_qBounds_l2 p t (i : Int) row) ([], [], 0)) fun o => o.1.length = m ∧ o.2.length = m ∧ ∀ b, b < m → Lst (IsF n m t) i b (vc o.1 b) ∧ Gst (IsF n m t) i b (vc o.2 b) := by
        refine tot_loop (fun s => ∃ j : Nat, j ≤ m ∧ s.2.2 = (j : Int) ∧ s.1.length = j ∧ s.2.1.length = j ∧ ∀ b, b < j → Lst (IsF n m t) i b (vc s.1 b) ∧ Gst (IsF n m t) i b (vc s.2.1 b)) (fun s => m - s.2.2.toNat) ⟨0, by omega, rfl, rfl, rfl, fun b hb' => by omega⟩ ?_
        rintro ⟨l1, l2, _⟩ ⟨j, hj', rfl, k1, k2, k3⟩
        simp only at k1 k2 k3
        by_cases hj : j < m
        · have hy := hS.xs.el hrow hj
          simp only [spec_qBounds_l2, lt_ok hy, cond_true, at_ok hy, at_ok hprow, at_ok (hS.ps.el hprow hj), Option.bind_some]
          rw [wid (n := (j : Int) + 1) (by omega) (by omega)]
          have fin : ∀ u v : Int, Lst (IsF n m t) i j u → Gst (IsF n m t) i j v → ∀ b, b < j + 1 → Lst (IsF n m t) i b (vc (l1 ++ [u]) b) ∧ Gst (IsF n m t) i b (vc (l2 ++ [v]) b) := fun u v hu hv b hb' => by
            rw [vc_app, vc_app, k1, k2]
            by_cases hbj : b = j
            · rw [if_pos hbj, if_pos hbj, hbj]; exact ⟨hu, hv⟩
            · rw [if_neg hbj, if_neg hbj]; exact k3 b (by omega)
          by_cases h1 : mt p i j = 1
          · obtain ⟨lo, hh, er, q1, q2⟩ := tRange_ok hT hi hj ⟨_, hF⟩
            rw [show (mt p i j == 1) = true by rw [beq_iff_eq]; exact h1, cond_true, er, Option.bind_some, goApp_ok (by simp; omega), Option.bind_some, goApp_ok (by simp; omega), Option.bind_some, Option.bind_some]
            exact tot_some ⟨⟨j + 1, by omega, by simp only; omega, by simp [k1], by simp [k2], fin lo hh q1 q2⟩, by simp only; omega⟩
          · obtain ⟨q1, q2⟩ := fixed_rng hS hN hi hj h1
            rw [show (mt p i j == 1) = false by rw [beq_eq_false_iff_ne]; exact h1, cond_false, goApp_ok (by simp; omega), Option.bind_some, goApp_ok (by simp; omega), Option.bind_some, Option.bind_some]
            exact tot_some ⟨⟨j + 1, by omega, by simp only; omega, by simp [k1], by simp [k2], fin _ _ q1 q2⟩, by simp only; omega⟩
        · obtain rfl : j = m := by omega
          have e3 : decide ((j : Int) < goLen row) = false := decide_eq_false (by simp only [goLen]; omega)
          simp only [spec_qBounds_l2, e3, cond_false]
          exact tot_some ⟨k1, k2, k3⟩
      obtain ⟨⟨l1, l2⟩, e', q1, q2, q3⟩ := h2
      simp only at q1 q2 q3
      rw [e', Option.bind_some]
      simp only
      rw [goApp_ok (by simp; omega), Option.bind_some, goApp_ok (by simp; omega), Option.bind_some, wid (by omega) (by omega)]
      obtain ⟨s1, s2⟩ := shp_app g1 q1
      obtain ⟨s3, s4⟩ := shp_app g2 q2
      refine tot_some ⟨⟨i + 1, by omega, by simp only; omega, s1, s3, fun a b ha hb' => ?_⟩, by simp only; omega⟩
      simp only
      rw [s2, s4]
      by_cases hai : a = i
      · rw [if_pos hai, if_pos hai, hai]; exact q3 b hb'
      · rw [if_neg hai, if_neg hai]; exact g3 a b (by omega) hb'
    · obtain rfl : i = n := by omega
      have e3 : decide ((i : Int) < goLen x) = false := decide_eq_false (by simp only [goLen]; omega)
      simp only [spec_qBounds_l1, e3, cond_false]
      exact tot_some ⟨g1, g2, g3⟩
  obtain ⟨b, e, q⟩ := h
  rw [e]
  exact ⟨b, rfl, q⟩

/-- both give the same bounds -/
theorem bounds_ok (hS : Sup n m x p) : ∃ (t : impl_Transport) (b : impl_Bounds), impl_attackNetwork x p = some t ∧ Net n m x p t ∧ impl_allRanges t x = some (b.Lo, b.Hi) ∧ spec_qBounds x p = some b ∧ Shp n m b.Lo ∧ Shp n m b.Hi ∧ ∀ i j, i < n → j < m → Lst (IsF n m t) i j (mt b.Lo i j) ∧ Gst (IsF n m t) i j (mt b.Hi i j) := by
  obtain ⟨t, e1, e2, hN, hT, hF⟩ := nets hS
  obtain ⟨lo, hh, e3, g1, g2, g3⟩ := allRanges_ok hT hS.xs hF
  obtain ⟨b, e4, k1, k2, k3⟩ := qBounds_ok hS hN e2
  obtain rfl : lo = b.Lo := g1.ext k1 fun i j hi hj => (g3 i j hi hj).1.one (k3 i j hi hj).1
  obtain rfl : hh = b.Hi := g2.ext k2 fun i j hi hj => (g3 i j hi hj).2.one (k3 i j hi hj).2
  exact ⟨t, b, e1, hN, e3, e4, k1, k2, k3⟩

/-! lists of cells -/
def pRow (q : Nat → Bool) (i : Nat) : Nat → List (List Int)
  | 0 => []
  | j + 1 => pRow q i j ++ cond (q j) [[(i : Int), (j : Int)]] []
def pAll (m : Nat) (q : Nat → Nat → Bool) : Nat → List (List Int)
  | 0 => []
  | i + 1 => pAll m q i ++ pRow (q i) i m

theorem pRow_len (q : Nat → Bool) (i : Nat) : ∀ j, (pRow q i j).length ≤ j
  | 0 => by simp [pRow]
  | j + 1 => by
    have := pRow_len q i j
    simp only [pRow, List.length_append]
    cases q j <;> simp <;> omega
theorem pAll_len (m : Nat) (q : Nat → Nat → Bool) : ∀ i, (pAll m q i).length ≤ i * m
  | 0 => by simp [pAll]
  | i + 1 => by
    have h1 := pAll_len m q i
    have h2 := pRow_len (q i) i m
    simp only [pAll, List.length_append, Nat.succ_mul]
    omega
theorem pRow_filter (q : Nat → Bool) (g : List Int → Bool) (i : Nat) : ∀ j, (pRow q i j).filter g = pRow (fun b => q b && g [(i : Int), (b : Int)]) i j
  | 0 => rfl
  | j + 1 => by
    simp only [pRow, List.filter_append]
    rw [pRow_filter q g i j]
    congr 1
    cases q j <;> cases hg : g [(i : Int), (j : Int)] <;> simp [hg]
theorem pAll_filter (m : Nat) (q : Nat → Nat → Bool) (g : List Int → Bool) : ∀ i, (pAll m q i).filter g = pAll m (fun a b => q a b && g [(a : Int), (b : Int)]) i
  | 0 => rfl
  | i + 1 => by
    simp only [pAll, List.filter_append]
    rw [pAll_filter m q g i, pRow_filter]
theorem pRow_mem {q : Nat → Bool} {i : Nat} {e : List Int} : ∀ {j}, e ∈ pRow q i j → ∃ b, b < j ∧ q b = true ∧ e = [(i : Int), (b : Int)]
  | 0, h => by simp [pRow] at h
  | j + 1, h => by
    simp only [pRow, List.mem_append] at h
    rcases h with h | h
    · obtain ⟨b, h1, h2⟩ := pRow_mem h
      exact ⟨b, by omega, h2⟩
    · cases hq : q j with
      | false => rw [hq] at h; simp at h
      | true => rw [hq] at h; simp at h; exact ⟨j, by omega, hq, h⟩
theorem pAll_mem {m : Nat} {q : Nat → Nat → Bool} {e : List Int} : ∀ {i}, e ∈ pAll m q i → ∃ a b, a < i ∧ b < m ∧ q a b = true ∧ e = [(a : Int), (b : Int)]
  | 0, h => by simp [pAll] at h
  | i + 1, h => by
    simp only [pAll, List.mem_append] at h
    rcases h with h | h
    · obtain ⟨a, b, h1, h2⟩ := pAll_mem h
      exact ⟨a, b, by omega, h2⟩
    · obtain ⟨b, h1, h2, h3⟩ := pRow_mem h
      exact ⟨i, b, by omega, h1, h2, h3⟩
theorem pRow_congr {q q' : Nat → Bool} {i : Nat} : ∀ {j}, (∀ b, b < j → q b = q' b) → pRow q i j = pRow q' i j
  | 0, _ => rfl
  | j + 1, h => by simp only [pRow]; rw [pRow_congr fun b hb => h b (by omega), h j (by omega)]
theorem pAll_congr {m : Nat} {q q' : Nat → Nat → Bool} : ∀ {i}, (∀ a b, a < i → b < m → q a b = q' a b) → pAll m q i = pAll m q' i
  | 0, _ => rfl
  | i + 1, h => by simp only [pAll]; rw [pAll_congr fun a b ha hb => h a b (by omega) hb, pRow_congr fun b hb => h i b (by omega) hb]

def is1 (p : List (List Int)) : Nat → Nat → Bool := fun i j => mt p i j == 1

theorem positions_ok {p : List (List Int)} (hp : Shp n m p) (hn : n ≤ 8) (hm : m ≤ 8) : impl_positions p = some (pAll m (is1 p) n) := by
  have hpl := hp.len
  have hnm : n * m ≤ 64 := Nat.mul_le_mul hn hm
  unfold impl_positions
  have h : loopC (impl_positions_l1 p) (([] : List (List Int)), 0) = some (pAll m (is1 p) n) := by
    refine tot_eq (tot_loop (fun s => ∃ i : Nat, i ≤ n ∧ s = (pAll m (is1 p) i, (i : Int))) (fun s => n - s.2.toNat) ⟨0, by omega, rfl⟩ ?_)
    rintro _ ⟨i, hi', rfl⟩
    by_cases hi : i < n
    · obtain ⟨row, hrow, _, hrl, _, _⟩ := hp.get hi
      have hal := pAll_len m (is1 p) i
      have him : i * m ≤ n * m := Nat.mul_le_mul_right _ (by omega)
      simp only [impl_positions_l1, lt_ok hrow, cond_true, at_ok hrow, Option.bind_some]
      have h2 : loopC (impl_positions_l2 (i : Int) row) (pAll m (is1 p) i, 0) = some (pAll m (is1 p) i ++ pRow (is1 p i) i m) := by
        refine tot_eq (tot_loop (fun s => ∃ j : Nat, j ≤ m ∧ s = (pAll m (is1 p) i ++ pRow (is1 p i) i j, (j : Int))) (fun s => m - s.2.toNat) ⟨0, by omega, by simp [pRow]⟩ ?_)
        rintro _ ⟨j, hj', rfl⟩
        by_cases hj : j < m
        · have hy := hp.el hrow hj
          have hrl2 := pRow_len (is1 p i) i j
          simp only [impl_positions_l2, lt_ok hy, cond_true, at_ok hy, Option.bind_some]
          rw [wid (n := (j : Int) + 1) (by omega) (by omega)]
          cases hq : (mt p i j == 1) with
          | true =>
            rw [cond_true, goApp_ok (by simp only [List.length_append, List.length_cons, List.length_nil]; omega), Option.bind_some, Option.bind_some]
            refine tot_some ⟨⟨j + 1, by omega, ?_⟩, by simp only; omega⟩
            simp only [pRow]
            rw [show is1 p i j = true from hq, cond_true, List.append_assoc]; rfl
          | false =>
            rw [cond_false, Option.bind_some]
            refine tot_some ⟨⟨j + 1, by omega, ?_⟩, by simp only; omega⟩
            simp only [pRow]
            rw [show is1 p i j = false from hq, cond_false, List.append_nil]; rfl
        · obtain rfl : j = m := by omega
          have e3 : decide ((j : Int) < goLen row) = false := decide_eq_false (by simp only [goLen]; omega)
          simp only [impl_positions_l2, e3, cond_false]
          exact tot_some rfl
      rw [h2, Option.bind_some, wid (by omega) (by omega)]
      exact tot_some ⟨⟨i + 1, by omega, rfl⟩, by simp only; omega⟩
    · obtain rfl : i = n := by omega
      have e3 : decide ((i : Int) < goLen p) = false := decide_eq_false (by simp only [goLen]; omega)
      simp only [impl_positions_l1, e3, cond_false]
      exact tot_some rfl
  rw [h]; rfl

def exq (b : impl_Bounds) : List Int → Bool := fun e => mt b.Lo (e.getD 0 0).toNat (e.getD 1 0).toNat == mt b.Hi (e.getD 0 0).toNat (e.getD 1 0).toNat

theorem exI_ok {b : impl_Bounds} (hS : Sup n m x p) (hN : Net n m x p t) (hb : ∀ i j, i < n → j < m → Lst (IsF n m t) i j (mt b.Lo i j) ∧ Gst (IsF n m t) i j (mt b.Hi i j)) :
    loopC (impl_ExposedCells_l1 x t (pAll m (is1 p) n)) (([] : List (List Int)), 0) = some ((pAll m (is1 p) n).filter (exq b)) := by
  have hT := hN.tr hS; have hF := hN.fl hS
  have hal := pAll_len m (is1 p) n
  have hnm : n * m ≤ 64 := Nat.mul_le_mul hT.n8 hT.m8
  generalize hL : pAll m (is1 p) n = L at hal
  refine tot_eq (tot_loop (fun s => ∃ k : Nat, k ≤ L.length ∧ s = ((L.take k).filter (exq b), (k : Int))) (fun s => L.length - s.2.toNat) ⟨0, by omega, rfl⟩ ?_)
  rintro _ ⟨k, hk, rfl⟩
  by_cases hlt : k < L.length
  · have hx : L[k]? = some L[k] := by simp [hlt]
    have hmem : L[k] ∈ pAll m (is1 p) n := by rw [hL]; exact List.getElem_mem hlt
    obtain ⟨i, j, hi, hj, _, he⟩ := pAll_mem hmem
    generalize L[k] = e at hx he
    subst he
    obtain ⟨lo, hh, er, q1, q2⟩ := range_ok hT hS.xs hF hi hj
    obtain rfl := q1.one (hb i j hi hj).1
    obtain rfl := q2.one (hb i j hi hj).2
    have hfl : ((L.take k).filter (exq b)).length ≤ L.length := Nat.le_trans (List.length_filter_le _ _) (by rw [List.length_take]; omega)
    have g0 : goAt [(i : Int), (j : Int)] 0 = some (i : Int) := rfl
    have g1 : goAt [(i : Int), (j : Int)] 1 = some (j : Int) := rfl
    have hq : exq b [(i : Int), (j : Int)] = (mt b.Lo i j == mt b.Hi i j) := by simp [exq]
    simp only [impl_ExposedCells_l1]
    rw [lt_ok hx, cond_true, at_ok hx, Option.bind_some, g0, Option.bind_some, g1, Option.bind_some, er, Option.bind_some, wid (n := (k : Int) + 1) (by omega) (by omega), show ((mt b.Lo i j, mt b.Hi i j).1 == (mt b.Lo i j, mt b.Hi i j).2) = (mt b.Lo i j == mt b.Hi i j) from rfl]
    have htk : (L.take (k + 1)).filter (exq b) = (L.take k).filter (exq b) ++ cond (mt b.Lo i j == mt b.Hi i j) [[(i : Int), (j : Int)]] [] := by
      rw [List.take_succ, hx, List.filter_append, Option.toList_some, List.filter_cons, hq]
      cases (mt b.Lo i j == mt b.Hi i j) <;> rfl
    cases hc : (mt b.Lo i j == mt b.Hi i j) with
    | true =>
      rw [hc] at htk
      rw [cond_true, goApp_ok (by simp only [List.length_cons, List.length_nil]; omega), Option.bind_some, Option.bind_some]
      rw [cond_true] at htk
      exact tot_some ⟨⟨k + 1, by omega, Prod.ext htk.symm (by simp only; omega)⟩, by simp only; omega⟩
    | false =>
      rw [hc, cond_false, List.append_nil] at htk
      rw [cond_false, Option.bind_some]
      exact tot_some ⟨⟨k + 1, by omega, Prod.ext htk.symm (by simp only; omega)⟩, by simp only; omega⟩
  · obtain rfl : k = L.length := by omega
    simp only [impl_ExposedCells_l1, lt_end, cond_false]
    exact tot_some (by rw [List.take_length])

theorem exS_ok {b : impl_Bounds} (hS : Sup n m x p) (h1 : Shp n m b.Lo) (h2 : Shp n m b.Hi) : loopC (spec_ExposedCells_l1 p b) (([] : List (List Int)), 0) = some (pAll m (fun i j => is1 p i j && exq b [(i : Int), (j : Int)]) n) := by
  have hpl := hS.ps.len; have h3 := hS.n8; have h4 := hS.m8
  have hnm : n * m ≤ 64 := Nat.mul_le_mul h3 h4
  generalize hQ : (fun (i j : Nat) => is1 p i j && exq b [(i : Int), (j : Int)]) = Q
  have hq : ∀ i j, Q i j = (mt p i j == 1 && mt b.Lo i j == mt b.Hi i j) := fun i j => by rw [← hQ]; simp [exq, is1]
  refine tot_eq (tot_loop (fun s => ∃ i : Nat, i ≤ n ∧ s = (pAll m Q i, (i : Int))) (fun s => n - s.2.toNat) ⟨0, by omega, rfl⟩ ?_)
  rintro _ ⟨i, hi', rfl⟩
  by_cases hi : i < n
  · obtain ⟨row, hrow, _, hrl, _, _⟩ := hS.ps.get hi
    obtain ⟨lr, hlr, _, _, _, _⟩ := h1.get hi
    obtain ⟨hr, hhr, _, _, _, _⟩ := h2.get hi
    have hal := pAll_len m Q i
    have him : i * m ≤ n * m := Nat.mul_le_mul_right _ (by omega)
    simp only [spec_ExposedCells_l1, lt_ok hrow, cond_true, at_ok hrow, Option.bind_some]
    have h5 : loopC (spec_ExposedCells_l2 b (i : Int) row) (pAll m Q i, 0) = some (pAll m Q i ++ pRow (Q i) i m) := by
      refine tot_eq (tot_loop (fun s => ∃ j : Nat, j ≤ m ∧ s = (pAll m Q i ++ pRow (Q i) i j, (j : Int))) (fun s => m - s.2.toNat) ⟨0, by omega, by simp [pRow]⟩ ?_)
      rintro _ ⟨j, hj', rfl⟩
      by_cases hj : j < m
      · have hy := hS.ps.el hrow hj
        have hrl2 := pRow_len (Q i) i j
        have hqj := hq i j
        simp only [spec_ExposedCells_l2, lt_ok hy, cond_true, at_ok hy, at_ok hlr, at_ok hhr, at_ok (h1.el hlr hj), at_ok (h2.el hhr hj), Option.bind_some]
        have hz : ((cond (mt p i j == 1) (some (mt b.Lo i j == mt b.Hi i j)) (some false)) : Option Bool) = some (Q i j) := by rw [hqj]; cases (mt p i j == 1) <;> rfl
        rw [hz, wid (n := (j : Int) + 1) (by omega) (by omega)]
        simp only [Option.bind_some]
        cases hc : Q i j with
        | true =>
          rw [cond_true, goApp_ok (by simp only [List.length_append, List.length_cons, List.length_nil]; omega), Option.bind_some, Option.bind_some]
          refine tot_some ⟨⟨j + 1, by omega, ?_⟩, by simp only; omega⟩
          simp only [pRow]
          rw [hc, cond_true, List.append_assoc]; rfl
        | false =>
          rw [cond_false, Option.bind_some]
          refine tot_some ⟨⟨j + 1, by omega, ?_⟩, by simp only; omega⟩
          simp only [pRow]
          rw [hc, cond_false, List.append_nil]; rfl
      · obtain rfl : j = m := by omega
        have e3 : decide ((j : Int) < goLen row) = false := decide_eq_false (by simp only [goLen]; omega)
        simp only [spec_ExposedCells_l2, e3, cond_false]
        exact tot_some rfl
    rw [h5, Option.bind_some, wid (by omega) (by omega)]
    exact tot_some ⟨⟨i + 1, by omega, rfl⟩, by simp only; omega⟩
  · obtain rfl : i = n := by omega
    have e3 : decide ((i : Int) < goLen p) = false := decide_eq_false (by simp only [goLen]; omega)
    simp only [spec_ExposedCells_l1, e3, cond_false]
    exact tot_some rfl

theorem exposed {x p : List (List Int)} (hx : Sz x) (hp : Sz p) : ∃ (L : List (List Int)) (b : Bool), impl_ExposedCells x p = some (L, b) ∧ spec_ExposedCells x p = some (L, b) ∧ L.length ≤ 1000 ∧ ∀ r ∈ L, r.length ≤ 1000 := by
  obtain ⟨c, e1, e2, hc⟩ := sup_bis hx hp
  unfold impl_ExposedCells spec_ExposedCells
  rw [e1, e2]
  simp only [Option.bind_some]
  cases c with
  | false => exact ⟨[], false, rfl, rfl, by simp, by simp⟩
  | true =>
    obtain ⟨n, m, hS⟩ := hc rfl
    obtain ⟨t, b, k1, hN, k2, k3, k4, k5, k6⟩ := bounds_ok hS
    simp only [Bool.not_true, cond_false]
    rw [k1, Option.bind_some, positions_ok hS.ps hS.n8 hS.m8, Option.bind_some, exI_ok hS hN k6, k3]
    simp only [Option.bind_some]
    rw [exS_ok hS k4 k5, pAll_filter]
    have hal := pAll_len m (fun a b' => is1 p a b' && exq b [(a : Int), (b' : Int)]) n
    have hnm : n * m ≤ 64 := Nat.mul_le_mul hS.n8 hS.m8
    refine ⟨_, true, rfl, rfl, by omega, fun r hr => ?_⟩
    obtain ⟨_, _, _, _, _, rfl⟩ := pAll_mem hr
    simp

/-! what is published -/
def pub (x p : List (List Int)) : Nat → Nat → Int := fun i j => if mt p i j = 1 then -1 else mt x i j

theorem pubI (hS : Sup n m x p) : ∃ y, impl_PublishedTable x p = (impl_areSuppressed x p).bind (fun b => cond (!b) (some ([], false)) (some (y, true))) ∧ Shp n m y ∧ ∀ i j, i < n → j < m → mt y i j = pub x p i j := by
  have h3 := hS.n8; have h4 := hS.m8; have h5 := hS.n1; have hpl := hS.ps.len; have hxl := hS.xs.len
  have h : Tot (loopC (impl_PublishedTable_l1 p) (x, 0)) fun y => Shp n m y ∧ ∀ i j, i < n → j < m → mt y i j = pub x p i j := by
    refine tot_loop (fun s => ∃ i : Nat, i ≤ n ∧ s.2 = (i : Int) ∧ Shp n m s.1 ∧ ∀ a b, a < n → b < m → mt s.1 a b = if a < i then pub x p a b else mt x a b) (fun s => n - s.2.toNat) ⟨0, by omega, rfl, hS.xs, fun a b _ _ => by simp⟩ ?_
    rintro ⟨y, _⟩ ⟨i, hi', rfl, g1, g2⟩
    simp only at g1 g2
    by_cases hi : i < n
    · obtain ⟨prow, hprow, _, hprl, _, _⟩ := hS.ps.get hi
      simp only [impl_PublishedTable_l1, lt_ok hprow, cond_true, at_ok hprow, Option.bind_some]
      have h2 : Tot (loopC (impl_PublishedTable_l2 (i : Int) prow) (y, 0)) fun y' => Shp n m y' ∧ ∀ a b, a < n → b < m → mt y' a b = if a < i + 1 then pub x p a b else mt x a b := by
        refine tot_loop (fun s => ∃ j : Nat, j ≤ m ∧ s.2 = (j : Int) ∧ Shp n m s.1 ∧ ∀ a b, a < n → b < m → mt s.1 a b = if a < i ∨ a = i ∧ b < j then pub x p a b else mt x a b) (fun s => m - s.2.toNat) ⟨0, by omega, rfl, g1, fun a b ha hb' => ?_⟩ ?_
        · rw [g2 a b ha hb']
          by_cases hai : a < i
          · rw [if_pos hai, if_pos (.inl hai)]
          · rw [if_neg hai, if_neg (by omega)]
        rintro ⟨y2, _⟩ ⟨j, hj', rfl, k1, k2⟩
        simp only at k1 k2
        by_cases hj : j < m
        · have hy := hS.ps.el hprow hj
          simp only [impl_PublishedTable_l2, lt_ok hy, cond_true, at_ok hy, Option.bind_some]
          rw [wid (n := (j : Int) + 1) (by omega) (by omega)]
          by_cases h1 : mt p i j = 1
          · obtain ⟨yr, hyr, _, _, _, _⟩ := k1.get hi
            rw [show (mt p i j == 1) = true by rw [beq_iff_eq]; exact h1, cond_true]
            simp only [at_ok hyr, at_ok (k1.el hyr hj), Option.bind_some, goSet, Int.toNat_natCast]
            rw [set_upd hyr]
            refine tot_some ⟨⟨j + 1, by omega, by simp only; omega, k1.upd hi, fun a b ha hb' => ?_⟩, by simp only; omega⟩
            simp only
            rw [mt_upd k1 hi hj, k2 a b ha hb']
            by_cases hab : a = i ∧ b = j
            · rw [if_pos hab]
              obtain ⟨rfl, rfl⟩ := hab
              have hP : a < a ∨ a = a ∧ b < b + 1 := by omega
              rw [if_pos hP]
              unfold pub
              rw [if_pos h1]
            · rw [if_neg hab]
              by_cases hc : a < i ∨ a = i ∧ b < j
              · have hP : a < i ∨ a = i ∧ b < j + 1 := by omega
                rw [if_pos hc, if_pos hP]
              · have hP : ¬ (a < i ∨ a = i ∧ b < j + 1) := by omega
                rw [if_neg hc, if_neg hP]
          · rw [show (mt p i j == 1) = false by rw [beq_eq_false_iff_ne]; exact h1, cond_false, Option.bind_some]
            refine tot_some ⟨⟨j + 1, by omega, by simp only; omega, k1, fun a b ha hb' => ?_⟩, by simp only; omega⟩
            simp only
            rw [k2 a b ha hb']
            by_cases hab : a = i ∧ b = j
            · obtain ⟨rfl, rfl⟩ := hab
              have hN : ¬ (a < a ∨ a = a ∧ b < b) := by omega
              have hP : a < a ∨ a = a ∧ b < b + 1 := by omega
              rw [if_neg hN, if_pos hP]
              unfold pub
              rw [if_neg h1]
            · by_cases hc : a < i ∨ a = i ∧ b < j
              · have hP : a < i ∨ a = i ∧ b < j + 1 := by omega
                rw [if_pos hc, if_pos hP]
              · have hP : ¬ (a < i ∨ a = i ∧ b < j + 1) := by omega
                rw [if_neg hc, if_neg hP]
        · obtain rfl : j = m := by omega
          have e3 : decide ((j : Int) < goLen prow) = false := decide_eq_false (by simp only [goLen]; omega)
          simp only [impl_PublishedTable_l2, e3, cond_false]
          refine tot_some ⟨k1, fun a b ha hb' => ?_⟩
          rw [k2 a b ha hb']
          by_cases hc : a < i + 1
          · have hP : a < i ∨ a = i ∧ b < j := by omega
            rw [if_pos hP, if_pos hc]
          · have hP : ¬ (a < i ∨ a = i ∧ b < j) := by omega
            rw [if_neg hP, if_neg hc]
      obtain ⟨y', e', q1, q2⟩ := h2
      rw [e', Option.bind_some, wid (by omega) (by omega)]
      exact tot_some ⟨⟨i + 1, by omega, by simp only; omega, q1, q2⟩, by simp only; omega⟩
    · obtain rfl : i = n := by omega
      have e3 : decide ((i : Int) < goLen p) = false := decide_eq_false (by simp only [goLen]; omega)
      simp only [impl_PublishedTable_l1, e3, cond_false]
      exact tot_some ⟨g1, fun a b ha hb' => by rw [g2 a b ha hb', if_pos ha]⟩
  obtain ⟨y, e, g1, g2⟩ := h
  refine ⟨y, ?_, g1, g2⟩
  unfold impl_PublishedTable
  rw [copy_eq (hS.xs.sz (by omega) (by omega)) (by omega)]
  simp only [Option.bind_some]
  rw [e]
  rfl

theorem pubS (hS : Sup n m x p) : ∃ y, spec_PublishedTable x p = (spec_qPattern x p).bind (fun b => cond (!b) (some ([], false)) (some (y, true))) ∧ Shp n m y ∧ ∀ i j, i < n → j < m → mt y i j = pub x p i j := by
  have h3 := hS.n8; have h4 := hS.m8; have h5 := hS.n1; have hpl := hS.ps.len; have hxl := hS.xs.len
  have h : Tot (loopC (spec_PublishedTable_l1 x p) ([], 0)) fun y => Shp n m y ∧ ∀ i j, i < n → j < m → mt y i j = pub x p i j := by
    refine tot_loop (fun s => ∃ i : Nat, i ≤ n ∧ s.2 = (i : Int) ∧ Shp i m s.1 ∧ ∀ a b, a < i → b < m → mt s.1 a b = pub x p a b) (fun s => n - s.2.toNat) ⟨0, by omega, rfl, ⟨rfl, by simp⟩, fun a b ha => by omega⟩ ?_
    rintro ⟨y, _⟩ ⟨i, hi', rfl, g1, g2⟩
    simp only at g1 g2
    by_cases hi : i < n
    · obtain ⟨row, hrow, _, hrl, _, _⟩ := hS.xs.get hi
      obtain ⟨prow, hprow, _, hprl, _, _⟩ := hS.ps.get hi
      have hyl := g1.len
      simp only [spec_PublishedTable_l1, lt_ok hrow, cond_true, at_ok hrow, Option.bind_some]
      have h2 : Tot (loopC (spec_PublishedTable_l2 p (i : Int) row) ([], 0)) fun l => l.length = m ∧ ∀ b, b < m → vc l b = pub x p i b := by
        refine tot_loop (fun s => ∃ j : Nat, j ≤ m ∧ s.2 = (j : Int) ∧ s.1.length = j ∧ ∀ b, b < j → vc s.1 b = pub x p i b) (fun s => m - s.2.toNat) ⟨0, by omega, rfl, rfl, fun b hb' => by omega⟩ ?_
        rintro ⟨l, _⟩ ⟨j, hj', rfl, k1, k2⟩
        simp only at k1 k2
        by_cases hj : j < m
        · have hy := hS.xs.el hrow hj
          simp only [spec_PublishedTable_l2, lt_ok hy, cond_true, at_ok hy, at_ok hprow, at_ok (hS.ps.el hprow hj), Option.bind_some]
          have hz : ((cond (mt p i j == 1) (some (-1)) (some (mt x i j))) : Option Int) = some (pub x p i j) := by
            unfold pub
            by_cases h1 : mt p i j = 1
            · rw [show (mt p i j == 1) = true by rw [beq_iff_eq]; exact h1, if_pos h1]; rfl
            · rw [show (mt p i j == 1) = false by rw [beq_eq_false_iff_ne]; exact h1, if_neg h1]; rfl
          rw [hz, Option.bind_some, goApp_ok (by simp; omega), Option.bind_some, wid (by omega) (by omega)]
          refine tot_some ⟨⟨j + 1, by omega, by simp only; omega, by simp [k1], fun b hb' => ?_⟩, by simp only; omega⟩
          simp only
          rw [vc_app, k1]
          by_cases hbj : b = j
          · rw [if_pos hbj, hbj]
          · rw [if_neg hbj]; exact k2 b (by omega)
        · obtain rfl : j = m := by omega
          have e3 : decide ((j : Int) < goLen row) = false := decide_eq_false (by simp only [goLen]; omega)
          simp only [spec_PublishedTable_l2, e3, cond_false]
          exact tot_some ⟨k1, k2⟩
      obtain ⟨l, e', q1, q2⟩ := h2
      rw [e', Option.bind_some, goApp_ok (by simp; omega), Option.bind_some, wid (by omega) (by omega)]
      obtain ⟨s1, s2⟩ := shp_app g1 q1
      refine tot_some ⟨⟨i + 1, by omega, by simp only; omega, s1, fun a b ha hb' => ?_⟩, by simp only; omega⟩
      simp only
      rw [s2]
      by_cases hai : a = i
      · rw [if_pos hai, hai]; exact q2 b hb'
      · rw [if_neg hai]; exact g2 a b (by omega) hb'
    · obtain rfl : i = n := by omega
      have e3 : decide ((i : Int) < goLen x) = false := decide_eq_false (by simp only [goLen]; omega)
      simp only [spec_PublishedTable_l1, e3, cond_false]
      exact tot_some ⟨g1, g2⟩
  obtain ⟨y, e, g1, g2⟩ := h
  refine ⟨y, ?_, g1, g2⟩
  unfold spec_PublishedTable
  rw [e]
  rfl

theorem Shp.qs {y : List (List Int)} (h : Shp n m y) (hn : n ≤ 8) (hm : m ≤ 8) : laws_qLists y y = some true := by
  have hl := h.len
  exact qLists_same (by omega) fun r hr => by have := h.row r hr; omega

theorem check_ok {b : impl_Bounds} {c : Bool} (hS : Sup n m x p) (hN : Net n m x p t) (h1 : Shp n m b.Lo) (h2 : Shp n m b.Hi) (hb : ∀ i j, i < n → j < m → Lst (IsF n m t) i j (mt b.Lo i j) ∧ Gst (IsF n m t) i j (mt b.Hi i j)) : loopC (laws_FnAudits_l1 (x, p) (b, c)) 0 = some (.inl ()) := by
  have hF := hN.fl hS
  have h3 := hS.n8; have h4 := hS.m8; have hxl := hS.xs.len
  refine tot_eq (tot_loop (fun s => ∃ i : Nat, i ≤ n ∧ s = (i : Int)) (fun s => n - s.toNat) ⟨0, by omega, rfl⟩ ?_)
  rintro _ ⟨i, hi', rfl⟩
  by_cases hi : i < n
  · obtain ⟨row, hrow, _, hrl, _, _⟩ := hS.xs.get hi
    obtain ⟨prow, hprow, _, _, _, _⟩ := hS.ps.get hi
    obtain ⟨lr, hlr, _, _, _, _⟩ := h1.get hi
    obtain ⟨hr, hhr, _, _, _, _⟩ := h2.get hi
    simp only [laws_FnAudits_l1, lt_ok hrow, cond_true, at_ok hrow, Option.bind_some]
    have h5 : loopC (laws_FnAudits_l2 (x, p) (b, c) (i : Int) row) 0 = some (.inl ()) := by
      refine tot_eq (tot_loop (fun s => ∃ k : Nat, k ≤ m ∧ s = (k : Int)) (fun s => m - s.toNat) ⟨0, by omega, rfl⟩ ?_)
      rintro _ ⟨j, hj', rfl⟩
      by_cases hj : j < m
      · have hy := hS.xs.el hrow hj
        obtain ⟨q1, q2⟩ := hb i j hi hj
        have b1 := q1.2 _ hF; have b2 := q2.2 _ hF
        simp only [laws_FnAudits_l2, lt_ok hy, cond_true, at_ok hy, at_ok hlr, at_ok hhr, at_ok (h1.el hlr hj), at_ok (h2.el hhr hj), Option.bind_some]
        rw [decide_eq_false (show ¬ mt x i j < mt b.Lo i j by omega), cond_false, decide_eq_false (show ¬ mt b.Hi i j < mt x i j by omega), cond_false, at_ok hprow]
        simp only [Option.bind_some, at_ok (hS.ps.el hprow hj)]
        have hz : ((cond (mt p i j == 0) (some (mt b.Lo i j != mt b.Hi i j)) (some false)) : Option Bool) = some false := by
          by_cases h0 : mt p i j = 0
          · have hne : mt p i j ≠ 1 := by omega
            obtain ⟨f1, f2⟩ := fixed_rng hS hN hi hj hne
            rw [q1.one f1, q2.one f2, bne_self_eq_false]
            cases (mt p i j == 0) <;> rfl
          · rw [show (mt p i j == 0) = false by rw [beq_eq_false_iff_ne]; exact h0]; rfl
        rw [hz]
        simp only [Option.bind_some, cond_false]
        rw [wid (by omega) (by omega)]
        exact tot_some ⟨⟨j + 1, by omega, by omega⟩, by omega⟩
      · obtain rfl : j = m := by omega
        have e3 : decide ((j : Int) < goLen row) = false := decide_eq_false (by simp only [goLen]; omega)
        simp only [laws_FnAudits_l2, e3, cond_false]
        exact tot_some rfl
    rw [h5]
    simp only [Option.bind_some]
    rw [wid (by omega) (by omega)]
    exact tot_some ⟨⟨i + 1, by omega, by omega⟩, by omega⟩
  · obtain rfl : i = n := by omega
    have e3 : decide ((i : Int) < goLen x) = false := decide_eq_false (by simp only [goLen]; omega)
    simp only [laws_FnAudits_l1, e3, cond_false]
    exact tot_some rfl
end

theorem laws_FnAudits_true (a b : List (K .u8)) (o1 : Rng.ok a) (o2 : Rng.ok b) : laws_FnAudits a b = some true := by
  refine tot_eq ?_
  unfold laws_FnAudits
  refine tot_cond (fun _ => tot_some rfl) fun _ => ?_
  unfold spec_DrawImpliedBounds spec_DrawExposedCells
  obtain ⟨⟨x, p⟩, ed, hx, hp⟩ := tDrawIP o1.2
  simp only at hx hp
  rw [ed]
  simp only [Option.bind_some]
  obtain ⟨⟨y, q⟩, ed2, hy, hq⟩ := tDrawIP o2.2
  simp only at hy hq
  obtain ⟨L, eb, k1, k2, k3, k4⟩ := exposed hy hq
  have hqL := qLists_same (l := L) (by omega) fun r hr => by have := k4 r hr; omega
  obtain ⟨c, e1, e2, hc⟩ := sup_bis hx hp
  cases c with
  | false =>
    have i1 : impl_ImpliedBounds x p = some (⟨[], []⟩, false) := by unfold impl_ImpliedBounds; rw [e1]; rfl
    have i2 : spec_ImpliedBounds x p = some (⟨[], []⟩, false) := by unfold spec_ImpliedBounds; rw [e2]; rfl
    rw [i1, i2, ed2]
    simp only [Option.bind_some, k1, k2, bne_self_eq_false, cond_false, qLists_same (l := []) (by simp) (by simp), Bool.not_true, hqL]
    exact ⟨true, rfl, rfl⟩
  | true =>
    obtain ⟨n, m, hS⟩ := hc rfl
    obtain ⟨t, bb, f1, hN, f2, f3, f4, f5, f6⟩ := bounds_ok hS
    have hT := hN.tr hS; have hF := hN.fl hS
    have i1 : impl_ImpliedBounds x p = some (bb, true) := by
      unfold impl_ImpliedBounds
      rw [e1]
      simp only [Option.bind_some, Bool.not_true, cond_false]
      rw [f1, Option.bind_some, f2]; rfl
    have i2 : spec_ImpliedBounds x p = some (bb, true) := by
      unfold spec_ImpliedBounds
      rw [e2]
      simp only [Option.bind_some, Bool.not_true, cond_false]
      rw [f3]; rfl
    obtain ⟨kc, kb, ec, hk⟩ := count_ok hT
    have i3 : impl_CountFits x p = some (kc, kb) := by
      unfold impl_CountFits
      rw [e1]
      simp only [Option.bind_some, Bool.not_true, cond_false]
      rw [f1, Option.bind_some, ec]; rfl
    have i4 : impl_AttackNetwork x p = some (t, true) := by
      unfold impl_AttackNetwork
      rw [e1]
      simp only [Option.bind_some, Bool.not_true, cond_false]
      rw [f1]; rfl
    obtain ⟨y1, g1, g2, g3⟩ := pubI hS
    obtain ⟨y2, g4, g5, g6⟩ := pubS hS
    rw [e1] at g1; rw [e2] at g4
    obtain rfl : y1 = y2 := g2.ext g5 fun i j hi hj => by rw [g3 i j hi hj, g6 i j hi hj]
    have i5 : impl_PublishedTable x p = some (y1, true) := g1
    have i6 : spec_PublishedTable x p = some (y1, true) := g4
    have i7 := isFlow_ok hT hS.xs hF
    rw [i1, i2, ed2]
    simp only [Option.bind_some, k1, k2, bne_self_eq_false, cond_false, f4.qs hS.n8 hS.m8, f5.qs hS.n8 hS.m8, Bool.not_true, hqL]
    rw [check_ok hS hN f4 f5 f6]
    simp only [Option.bind_some, i3, i4, i5, i6, i7, cond_true, g2.qs hS.n8 hS.m8]
    cases kb with
    | false => exact ⟨true, rfl, rfl⟩
    | true =>
      have := hk rfl ⟨_, hF⟩
      rw [decide_eq_true this]
      exact ⟨true, rfl, rfl⟩

end Go.Gx.F
