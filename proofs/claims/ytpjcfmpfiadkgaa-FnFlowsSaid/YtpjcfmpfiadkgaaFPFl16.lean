/- Plain laws: the first cut on both sides. -/
import Derived.Test.YtpjcfmpfiadkgaaFPFl15

namespace Go.Gx.F

open Go.Gx

set_option linter.all false

set_option maxRecDepth 10000

theorem mask_ex (S : Nat → Bool) : ∀ n : Nat, ∃ k, k < 2 ^ n ∧ ∀ i, i < n → decide (k / 2 ^ i % 2 = 1) = S i
  | 0 => ⟨0, by simp, fun i hi => by omega⟩
  | n + 1 => by
    obtain ⟨k, hk, h⟩ := mask_ex S n
    have hp : 2 ^ (n + 1) = 2 * 2 ^ n := by rw [Nat.pow_succ, Nat.mul_comm]
    cases hs : S n with
    | false =>
      refine ⟨k, by omega, fun i hi => ?_⟩
      by_cases hin : i = n
      · subst hin
        rw [Nat.div_eq_of_lt hk, hs]; rfl
      · exact h i (by omega)
    | true =>
      refine ⟨k + 2 ^ n, by omega, fun i hi => ?_⟩
      by_cases hin : i = n
      · subst hin
        rw [Nat.add_div_right _ (Nat.pow_pos (by omega)), Nat.div_eq_of_lt hk, hs]; rfl
      · rw [← h i (by omega)]
        obtain ⟨d, rfl⟩ : ∃ d, n = i + 1 + d := ⟨n - i - 1, by omega⟩
        have e : k + 2 ^ (i + 1 + d) = k + 2 ^ i * (2 * 2 ^ d) := by rw [Nat.pow_add, Nat.pow_succ, Nat.mul_assoc]
        rw [e, Nat.add_mul_div_left _ _ (Nat.pow_pos (by omega)), Nat.add_mul_mod_self_left]

theorem shl_256 {n : Nat} (hn : n < 9) : goShl .i64 1 (n : Int) = some ((2 ^ n : Nat) : Int) := by
  have : ∀ (n : Fin 9), goShl .i64 1 (n.1 : Int) = some ((2 ^ n.1 : Nat) : Int) := by decide +kernel
  exact this ⟨n, hn⟩

/-! searches whose results differ -/

def fstF {γ : Type} (g : Nat → Bool) (v : Nat → γ) : Nat → Nat → Unit ⊕ γ
  | 0, _ => .inl ()
  | j + 1, k => cond (g k) (.inr (v k)) (fstF g v j (k + 1))

theorem scanF {γ : Type} {f : Int → Option (Stp Int (Unit ⊕ γ))} {g : Nat → Bool} {v : Nat → γ} {N : Nat} (hN : N ≤ 100000) (hs : ∀ k : Nat, k < N → f k = some (cond (g k) (.done (.inr (v k))) (.next (w64 ((k : Int) + 1))))) (he : f (N : Int) = some (.done (.inl ()))) :
    ∀ j k, k + j = N → loopC f (k : Int) = some (fstF g v j k)
  | 0, k, h => by
    obtain rfl : k = N := by omega
    rw [loopC_eq, he]; rfl
  | j + 1, k, h => by
    rw [loopC_eq, hs k (by omega)]
    unfold fstF
    cases g k with
    | true => rfl
    | false =>
      rw [cond_false, cond_false, wid (by omega) (by omega)]
      exact scanF hN hs he j (k + 1) (by omega)

theorem fstF_none {γ : Type} {g : Nat → Bool} {v : Nat → γ} : ∀ j k, (∀ i, k ≤ i → i < k + j → g i = false) → fstF g v j k = .inl ()
  | 0, _, _ => rfl
  | j + 1, k, h => by
    unfold fstF
    rw [h k (by omega) (by omega), cond_false]
    exact fstF_none j (k + 1) fun i h1 h2 => h i (by omega) (by omega)

theorem fstF_some {γ : Type} {g : Nat → Bool} {v : Nat → γ} : ∀ j k, (∃ i, k ≤ i ∧ i < k + j ∧ g i = true) → ∃ i, k ≤ i ∧ i < k + j ∧ g i = true ∧ fstF g v j k = .inr (v i)
  | 0, k, ⟨i, h1, h2, _⟩ => by omega
  | j + 1, k, ⟨i, h1, h2, h3⟩ => by
    cases hg : g k with
    | true => exact ⟨k, by omega, by omega, hg, by unfold fstF; rw [hg]; rfl⟩
    | false =>
      have hne : i ≠ k := fun e => by rw [e, hg] at h3; cases h3
      obtain ⟨i', a1, a2, a3, a4⟩ := fstF_some (v := v) j (k + 1) ⟨i, by omega, by omega, h3⟩
      exact ⟨i', by omega, by omega, a3, by unfold fstF; rw [hg, cond_false]; exact a4⟩

section

variable {n m : Nat} {C R : Nat → Int} {lo hi : Nat → Nat → Int} {S S' T T' : Nat → Bool}

theorem lft_congr (h : ∀ i, i < n → S i = S' i) : lft n R S = lft n R S' := by
  unfold lft
  exact sm_congr fun i hi => by rw [h i hi]

theorem rgt_congr (h : ∀ i, i < n → S i = S' i) (h' : ∀ j, j < m → T j = T' j) : rgt n m C lo hi S T = rgt n m C lo hi S' T' := by
  unfold rgt
  rw [sm_congr fun j hj => by rw [h' j hj], sm_congr (n := n) fun i hi => sm_congr (n := m) fun j hj => by rw [h i hi, h' j hj]]

theorem bst_congr (h : ∀ i, i < n → S i = S' i) (j : Nat) : bst n C lo hi S j = bst n C lo hi S' j := by
  unfold bst
  rw [sm_congr (n := n) (f := fun i => if S i = true then 0 else lo i j) fun i hi => by rw [h i hi], sm_congr (n := n) (f := fun i => if S i = true then hi i j else 0) fun i hi => by rw [h i hi]]

end

def bS (k : Nat) : Nat → Bool := fun i => decide (k / 2 ^ i % 2 = 1)

section

variable {n m : Nat} {t : impl_Transport}

def bT (n : Nat) (t : impl_Transport) (k : Nat) : Nat → Bool := bst n (vc t.Cols) (mt t.Lo) (mt t.Hi) (bS k)

def cutb (n m : Nat) (t : impl_Transport) (k : Nat) : Bool := decide (rgt n m (vc t.Cols) (mt t.Lo) (mt t.Hi) (bS k) (bT n t k) < lft n (vc t.Rows) (bS k))

def cutv (n m : Nat) (t : impl_Transport) (k : Nat) : List Int × List Int × Bool := (sel (bS k) n, sel (bT n t k) m, true)

theorem cutI (hT : Tr n m t) : loopC (impl_FindCut_l1 t ((2 ^ n : Nat) : Int)) 0 = some (fstF (cutb n m t) (cutv n m t) (2 ^ n) 0) := by
  have h1 := hT.rl; have h3 := hT.n8
  have h256 : 2 ^ n ≤ 2 ^ 8 := Nat.pow_le_pow_right (n := 2) (by omega) h3
  refine scanF (N := 2 ^ n) (by omega) (fun k hk => ?_) ?_ (2 ^ n) 0 (by omega)
  · have hl := sel_len (bS k) n
    have e0 : decide ((k : Int) < ((2 ^ n : Nat) : Int)) = true := decide_eq_true (by omega)
    simp only [impl_FindCut_l1, e0, cond_true]
    rw [members_ok h3 hk, Option.bind_some, bts_sel]
    show ((impl_colsFor t (sel (bS k) n)).bind _) = _
    rw [cols_eq (by omega), cols_sel hT, Option.bind_some, isCut_ok hT, Option.bind_some]
    show (cond (cutb n m t k) (some (Stp.done (Sum.inr (cutv n m t k)))) _) = _
    cases cutb n m t k <;> rfl
  · simp only [impl_FindCut_l1]
    rw [decide_eq_false (by omega), cond_false]

theorem cutS (hT : Tr n m t) : loopC (spec_FindCut_l1 t) 0 = some (fstF (cutb n m t) (cutv n m t) (2 ^ n) 0) := by
  have h1 := hT.rl; have h3 := hT.n8
  have gR : goLen t.Rows = (n : Int) := by simp only [goLen]; rw [h1]
  have h256 : 2 ^ n ≤ 2 ^ 8 := Nat.pow_le_pow_right (n := 2) (by omega) h3
  refine scanF (N := 2 ^ n) (by omega) (fun k hk => ?_) ?_ (2 ^ n) 0 (by omega)
  · have hl := sel_len (bS k) n
    have e0 : decide ((k : Int) < ((2 ^ n : Nat) : Int)) = true := decide_eq_true (by omega)
    simp only [spec_FindCut_l1]
    rw [gR, wrap_9 (by omega), shl_256 (by omega), Option.bind_some, e0, cond_true, rows_ok h1 h3 hk, Option.bind_some, bts_sel]
    show ((spec_tColumns t (sel (bS k) n)).bind _) = _
    rw [cols_sel hT, Option.bind_some, tCut_ok hT, Option.bind_some]
    show (cond (cutb n m t k) (some (Stp.done (Sum.inr (cutv n m t k)))) _) = _
    cases cutb n m t k <;> rfl
  · simp only [spec_FindCut_l1]
    rw [gR, wrap_9 (by omega), shl_256 (by omega), Option.bind_some, decide_eq_false (by omega), cond_false]

theorem tGood_ok (hT : Tr n m t) : spec_tGood t = some true := by
  have h1 := hT.rl; have h2 := hT.cl; have h3 := hT.n8; have h4 := hT.m8; have h5 := hT.lo.len; have h6 := hT.hi.len
  obtain ⟨b, e1, e2, _⟩ := good_ok (t := t) (by omega) (by omega) (by omega) (by omega)
  rw [isTr_ok hT] at e1
  rw [e2, ← Option.some.inj e1]

theorem findCut_ok (hT : Tr n m t) : ∃ (r c : List Int) (b : Bool), impl_FindCut t = some (r, c, b) ∧ spec_FindCut t = some (r, c, b) ∧ r.length ≤ 8 ∧ c.length ≤ 8 ∧
    (b = true → ∃ S T, r = sel S n ∧ c = sel T m ∧ rgt n m (vc t.Cols) (mt t.Lo) (mt t.Hi) S T < lft n (vc t.Rows) S) ∧ (b = false → (∃ y, IsF n m t y) ∨ sm n (vc t.Rows) ≠ sm m (vc t.Cols)) := by
  have h1 := hT.rl; have h2 := hT.cl; have h3 := hT.n8; have h4 := hT.m8
  have gR : goLen t.Rows = (n : Int) := by simp only [goLen]; rw [h1]
  have t1 := total_ok (l := t.Rows) (by omega) (fun i hi => by have := hT.rb i (by omega); omega)
  have t2 := total_ok (l := t.Cols) (by omega) (fun i hi => by have := hT.cb i (by omega); omega)
  have t3 := tSum_ok (l := t.Rows) (by omega) (fun i hi => by have := hT.rb i (by omega); omega)
  have t4 := tSum_ok (l := t.Cols) (by omega) (fun i hi => by have := hT.cb i (by omega); omega)
  rw [h1] at t1 t3; rw [h2] at t2 t4
  unfold impl_FindCut spec_FindCut
  rw [isTr_ok hT, tGood_ok hT, t1, t2, t3, t4]
  simp only [Option.bind_some, Bool.not_true, cond_false]
  by_cases htot : sm n (vc t.Rows) = sm m (vc t.Cols)
  · rw [show (sm n (vc t.Rows) != sm m (vc t.Cols)) = false by simp [htot], cond_false]
    obtain ⟨x, ex, hx⟩ := anyFlow_ok hT
    rw [ex]
    simp only [Option.bind_some]
    rw [cond_false, cutS hT]
    rcases hx with ⟨rfl, hno⟩ | ⟨hx, hF⟩
    · simp only [List.isEmpty_nil, Bool.not_true, cond_false]
      rw [gR, shl_256 (by omega), Option.bind_some, cutI hT]
      obtain ⟨S, T, hST⟩ := cut_ex (fun i j hi hj => (hT.bd i j hi hj).2.1) htot hno
      obtain ⟨k, hk, hkS⟩ := mask_ex S n
      have hb : cutb n m t k = true := by
        unfold cutb
        rw [decide_eq_true_iff]
        have g1 : lft n (vc t.Rows) (bS k) = lft n (vc t.Rows) S := lft_congr hkS
        have g2 : rgt n m (vc t.Cols) (mt t.Lo) (mt t.Hi) (bS k) (bT n t k) = rgt n m (vc t.Cols) (mt t.Lo) (mt t.Hi) S (bst n (vc t.Cols) (mt t.Lo) (mt t.Hi) S) := rgt_congr hkS fun j _ => bst_congr hkS j
        have g3 := rgt_best (n := n) (m := m) (C := vc t.Cols) (lo := mt t.Lo) (hi := mt t.Hi) S T
        omega
      obtain ⟨k', _, hk', hb', e⟩ := fstF_some (g := cutb n m t) (v := cutv n m t) (2 ^ n) 0 ⟨k, by omega, by omega, hb⟩
      rw [e]
      have l1 := sel_len (bS k') n
      have l2 := sel_len (bT n t k') m
      refine ⟨_, _, true, rfl, rfl, by omega, by omega, fun _ => ⟨bS k', bT n t k', rfl, rfl, ?_⟩, fun h => (by cases h)⟩
      unfold cutb at hb'
      exact of_decide_eq_true hb'
    · rw [show (!x.isEmpty) = true by rw [(ne_ok hx hT.n1).2]; rfl, cond_true]
      rw [fstF_none (2 ^ n) 0 fun i _ _ => by
        unfold cutb
        rw [decide_eq_false_iff_not]
        have := no_cut hF (bS i) (bT n t i)
        omega]
      exact ⟨[], [], false, rfl, rfl, by simp, by simp, fun h => (by cases h), fun _ => .inl ⟨_, hF⟩⟩
  · rw [show (sm n (vc t.Rows) != sm m (vc t.Cols)) = true by simp [htot]]
    exact ⟨[], [], false, rfl, rfl, by simp, by simp, fun h => (by cases h), fun _ => .inr htot⟩

theorem sel_sort (S : Nat → Bool) : ∀ n, (sel S n).Pairwise (· < ·)
  | 0 => List.Pairwise.nil
  | n + 1 => by
    simp only [sel]
    rw [List.pairwise_append]
    refine ⟨sel_sort S n, by cases S n <;> simp, fun a ha b hb => ?_⟩
    obtain ⟨k, hk, _, rfl⟩ := sel_in ha
    cases hs : S n with
    | false => rw [hs] at hb; simp at hb
    | true =>
      rw [hs] at hb
      simp only [cond_true, List.mem_singleton] at hb
      omega

theorem idx_ok (S : Nat → Bool) {n : Nat} (hn : n ≤ 100) : impl_areIndices (sel S n) (n : Int) = some true := by
  unfold impl_areIndices
  have hl := sel_len S n
  have hp := sel_sort S n
  have hin : ∀ x ∈ sel S n, 0 ≤ x ∧ x < n := fun x hx => by obtain ⟨k, hk, _, rfl⟩ := sel_in hx; omega
  generalize sel S n = l at hl hp hin
  have h : loopC (impl_areIndices_l1 l (n : Int)) (-1, 0) = some (.inl ()) := by
    refine tot_eq (tot_loop (fun s => ∃ k : Nat, k ≤ l.length ∧ s.2 = (k : Int) ∧ ∀ x ∈ l.drop k, s.1 < x) (fun s => l.length - s.2.toNat) ⟨0, by omega, rfl, fun x hx => by have := hin x (by simpa using hx); simp only; omega⟩ ?_)
    rintro ⟨last, _⟩ ⟨k, hk, rfl, hlast⟩
    simp only at hlast
    by_cases hlt : k < l.length
    · have hx : l[k]? = some l[k] := by simp [hlt]
      have hd : l.drop k = l[k] :: l.drop (k + 1) := List.drop_eq_getElem_cons hlt
      have g1 := hlast l[k] (by rw [hd]; exact List.mem_cons_self)
      have g2 := hin l[k] (List.getElem_mem hlt)
      simp only [impl_areIndices_l1, lt_ok hx, cond_true, at_ok hx, Option.bind_some]
      rw [decide_eq_false (by omega), cond_false, Option.bind_some, decide_eq_false (by omega), cond_false, wid (by omega) (by omega)]
      refine tot_some ⟨⟨k + 1, by omega, by simp only; omega, fun x hx => ?_⟩, by simp only; omega⟩
      have hp2 := hp.drop (i := k)
      rw [hd, List.pairwise_cons] at hp2
      exact hp2.1 x hx
    · obtain rfl : k = l.length := by omega
      simp only [impl_areIndices_l1, lt_end, cond_false]
      exact tot_some rfl
  rw [h]; rfl

theorem checkCut_ok (hT : Tr n m t) {S T : Nat → Bool} (h : rgt n m (vc t.Cols) (mt t.Lo) (mt t.Hi) S T < lft n (vc t.Rows) S) : impl_CheckCut t (sel S n) (sel T m) = some (true, true) := by
  have h1 := hT.rl; have h2 := hT.cl; have h3 := hT.n8; have h4 := hT.m8
  have gR : goLen t.Rows = (n : Int) := by simp only [goLen]; rw [h1]
  have gC : goLen t.Cols = (m : Int) := by simp only [goLen]; rw [h2]
  unfold impl_CheckCut
  rw [isTr_ok hT, gR, gC, idx_ok S (by omega), idx_ok T (by omega)]
  simp only [Option.bind_some, Bool.not_true, cond_false]
  rw [isCut_ok hT, decide_eq_true h]
  rfl

end

end Go.Gx.F
