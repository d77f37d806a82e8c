/- Plain laws: the cube of base cells. -/
import Derived.Test.YtmlegfogjdhhkaaGreatPCube

namespace Go.Gx.F

open Go.Gx

set_option linter.all false

/-! ## tables of values -/

def tab (n : Nat) (g : Nat → Int) : List Int := (List.range n).map g

theorem tab_len (n : Nat) (g : Nat → Int) : (tab n g).length = n := by simp [tab]

theorem ce_tab {n : Nat} {g : Nat → Int} {i : Nat} (h : i < n) : ce (tab n g) i = g i := by simp [ce, tab, List.getD_eq_getElem?_getD, h]

theorem tab_congr {n : Nat} {g h : Nat → Int} (e : ∀ i, i < n → g i = h i) : tab n g = tab n h := List.map_congr_left fun i hi => e i (List.mem_range.1 hi)

theorem tab_at {n : Nat} {g : Nat → Int} {i : Nat} (h : i < n) : goAt (tab n g) (i : Int) = some (g i) := by rw [ce_at (by rw [tab_len]; exact h), ce_tab h]

theorem tab_set {n : Nat} {g : Nat → Int} {i : Nat} {v : Int} : (tab n g).set i v = tab n fun j => if j = i then v else g j := by
  apply List.ext_getElem?
  intro j
  rw [List.getElem?_set]
  simp only [tab, List.length_map, List.length_range, List.getElem?_map]
  by_cases hj : i = j
  · subst hj
    by_cases hn : i < n <;> simp [hn]
  · rw [if_neg hj]
    by_cases hn : j < n
    · simp [hn, Ne.symm hj]
    · simp [hn]

theorem tab_ce {l : List Int} {n : Nat} (h : l.length = n) : l = tab n (ce l) := by
  subst h
  apply List.ext_getElem?
  intro j
  by_cases hn : j < l.length
  · simp [tab, hn, ce, List.getD_eq_getElem?_getD]
  · simp [tab, hn]

theorem tab_zero (n : Nat) : List.replicate n (0 : Int) = tab n fun _ => 0 := by
  apply List.ext_getElem?
  intro j
  by_cases h : j < n <;> simp [tab, h]

theorem tab_snoc (n : Nat) (g : Nat → Int) : tab n g ++ [g n] = tab (n + 1) g := by simp [tab, List.range_succ]

/-! ## base cells -/

def isB : List Nat → List Nat → Bool
  | s :: S, x :: X => decide (x < s) && isB S X
  | _, _ => true

theorem isB_iff : ∀ {S X : List Nat}, X.length = S.length → (isB S X = true ↔ ∀ (k s x : Nat), S[k]? = some s → X[k]? = some x → x < s)
  | [], [], _ => by simp [isB]
  | s :: S, x :: X, hl => by
    simp only [isB, Bool.and_eq_true, decide_eq_true_eq]
    rw [isB_iff (by simpa using hl)]
    constructor
    · rintro ⟨h1, h2⟩ k a b ha hb
      cases k with
      | zero => simp at ha hb; subst ha hb; exact h1
      | succ k => exact h2 k a b (by simpa using ha) (by simpa using hb)
    · intro h
      exact ⟨h 0 s x rfl rfl, fun k a b ha hb => h (k + 1) a b (by simpa using ha) (by simpa using hb)⟩
  | [], _ :: _, hl => by simp at hl
  | _ :: _, [], hl => by simp at hl

def bB (S : List Nat) (i : Nat) : Bool := isB S (dig S i)

def bs (S : List Nat) (n : Nat) : List Nat := (List.range n).filter (bB S)

def rk (S : List Nat) (n : Nat) : Nat := (bs S n).length

theorem bs_succ (S : List Nat) (n : Nat) : bs S (n + 1) = if bB S n then bs S n ++ [n] else bs S n := by
  unfold bs
  rw [List.range_succ, List.filter_append]
  cases h : bB S n <;> simp [h]

theorem rk_succ (S : List Nat) (n : Nat) : rk S (n + 1) = if bB S n then rk S n + 1 else rk S n := by
  unfold rk
  rw [bs_succ]
  cases bB S n <;> simp

theorem rk_le (S : List Nat) (n : Nat) : rk S n ≤ n := by
  unfold rk bs
  have := List.length_filter_le (bB S) (List.range n)
  simpa using this

theorem rk_mono (S : List Nat) {m n : Nat} (h : m ≤ n) : rk S m ≤ rk S n := by
  induction n with
  | zero => obtain rfl : m = 0 := by omega
            exact Nat.le_refl _
  | succ n ih =>
    by_cases hm : m = n + 1
    · subst hm; exact Nat.le_refl _
    · have := ih (by omega)
      rw [rk_succ]
      split <;> omega

theorem rk_lt {S : List Nat} {i n : Nat} (hi : i < n) (hb : bB S i = true) : rk S i < rk S n := by
  have := rk_mono S (show i + 1 ≤ n by omega)
  rw [rk_succ, if_pos hb] at this
  omega

theorem isBase_eq {S X : List Nat} (hX : VX S X) (hl : S.length ≤ 4) : impl_isBase (up S) (up X) = some (isB S X) := by
  have hlen := hX.len
  have hbis : Bis (impl_isBase (up S) (up X)) (isB S X = true) := by
    unfold impl_isBase
    refine bis_iff (bis_loop (l := up X) (fun k x => ∀ s : Nat, S[k]? = some s → x ≠ (s : Int)) (fun k x hx => ?_) (by simp only [impl_isBase_l1, lt_end, cond_false])) ?_
    · have hk : k < X.length := by
        have := (List.getElem?_eq_some_iff.1 hx).1
        rwa [up_len] at this
      have hs : S[k]? = some (S[k]'(by omega)) := by simp [show k < S.length by omega]
      generalize S[k]'(by omega) = s at hs
      simp only [impl_isBase_l1, lt_ok hx, at_ok hx, cond_true, Option.bind_some, up_at hs]
      refine ⟨x != (s : Int), ?_, ?_⟩
      · rw [bne_iff_ne]
        exact ⟨fun h s' hs' => by rw [hs] at hs'; obtain rfl := Option.some.inj hs'; exact h, fun h => h s hs⟩
      · by_cases hxs : x = (s : Int)
        · subst hxs; simp
        · rw [show (x == (s : Int)) = false by simpa using hxs, show (x != (s : Int)) = true by simpa using hxs]
          simp only [cond_false, cond_true, nx_ok hx (by rw [up_len]; omega)]
    · rw [isB_iff hlen]
      constructor
      · intro h k s x hs hx
        have h1 := h k x (up_get hx) s hs
        have h2 := hX.get hs hx
        omega
      · intro h k x hx s hs
        have hk : k < X.length := by
          have := (List.getElem?_eq_some_iff.1 hx).1
          rwa [up_len] at this
        have hx2 : X[k]? = some X[k] := by simp [hk]
        rw [up_get hx2] at hx
        obtain rfl := Option.some.inj hx
        have := h k s _ hs hx2
        omega
  obtain ⟨b, e, hb⟩ := hbis
  rw [e]
  congr 1
  rw [Bool.eq_iff_iff, hb]

theorem cbBase_l2_eq {S X : List Nat} (hX : VX S X) (hl : S.length ≤ 4) : loopC (spec_cbBase_l2 (up S) (up X)) (true, 0) = some (isB S X) := by
  have hlen := hX.len
  have key : ∀ (j k : Nat) (b : Bool), k + j = X.length → loopC (spec_cbBase_l2 (up S) (up X)) (b, (k : Int)) = some (b && isB (S.drop k) (X.drop k)) := by
    intro j
    induction j with
    | zero =>
      intro k b hk
      rw [loopC_eq]
      simp only [spec_cbBase_l2, up_end (show X.length = k by omega), cond_false]
      rw [List.drop_of_length_le (show S.length ≤ k by omega), List.drop_of_length_le (show X.length ≤ k by omega)]
      simp [isB]
    | succ j ih =>
      intro k b hk
      have hx : X[k]? = some (X[k]'(by omega)) := by simp [show k < X.length by omega]
      have hs : S[k]? = some (S[k]'(by omega)) := by simp [show k < S.length by omega]
      generalize X[k]'(by omega) = x at hx
      generalize S[k]'(by omega) = s at hs
      rw [loopC_eq]
      simp only [spec_cbBase_l2, up_lt hx, cond_true, up_at hx, up_at hs, Option.bind_some, cond_some]
      rw [wid (n := (k : Int) + 1) (by omega) (by omega), show ((k : Int) + 1) = ((k + 1 : Nat) : Int) by omega, ih (k + 1) _ (by omega), drop_cons hs, drop_cons hx]
      simp only [isB]
      have : decide ((x : Int) < (s : Int)) = decide (x < s) := by simp
      rw [this]
      cases b <;> simp
  have := key X.length 0 true (by omega)
  simpa using this

theorem cbBase_eq {S : List Nat} (h : VC S) : spec_cbBase (up S) = some (up (bs S (cnt S))) := by
  have hc := h.2
  obtain ⟨_, e2⟩ := counts_up h
  refine tot_eq ?_
  unfold spec_cbBase
  refine tot_bind (Q := fun r => r = up (bs S (cnt S))) ?_ fun r hr => tot_some hr
  refine tot_loop (fun s => ∃ k : Nat, s = (up (bs S k), (k : Int)) ∧ k ≤ cnt S) (fun s => 3000 - s.2.toNat) ⟨0, rfl, by omega⟩ ?_
  rintro s ⟨k, rfl, hk⟩
  simp only [spec_cbBase_l1]
  rw [e2, Option.bind_some]
  refine tot_cond (fun hc2 => ?_) fun hc2 => tot_some ?_
  · have hlt : k < cnt S := Int.ofNat_lt.1 (of_decide_eq_true hc2)
    rw [cbIndices_eq h.1 hlt, Option.bind_some, cbBase_l2_eq (dig_ok hlt) h.1.l, Option.bind_some]
    rw [wid (n := (k : Int) + 1) (by omega) (by omega)]
    refine tot_bind (Q := fun r => r = up (bs S (k + 1))) (tot_cond (fun hb => ?_) fun hb => tot_some ?_) fun r hr => tot_some ?_
    · have := rk_le S k
      unfold rk at this
      refine tot_bind (tot_app (Q := fun r => r = up (bs S (k + 1))) (by simp [up]; omega) ?_) fun r hr => tot_some hr
      rw [bs_succ, if_pos (show bB S k = true from hb)]; simp [up]
    · rw [bs_succ, if_neg (show ¬ bB S k = true by rw [show bB S k = false from hb]; simp)]
    · subst hr
      exact ⟨⟨k + 1, rfl, by omega⟩, by simp only; omega⟩
  · have hlt : ¬ k < cnt S := fun h => of_decide_eq_false hc2 (Int.ofNat_lt.2 h)
    obtain rfl : k = cnt S := by omega
    rfl

theorem cbBase_bad {l : List Int} (h : ¬ ∃ S, l = up S ∧ VC S) : spec_cbBase l = some [] := by
  obtain ⟨n, e1, e2, h1, h2, h3⟩ := counts l
  have hn : n = 0 := Classical.byContradiction fun hn => by
    obtain ⟨S, a, b, _⟩ := h2 hn
    exact h ⟨S, a, b⟩
  subst hn
  unfold spec_cbBase
  rw [loopC_eq]
  simp only [spec_cbBase_l1, e2, Option.bind_some]
  rfl

/-! ## the sum over all base cells below a cell -/

def comp : List Nat → List Nat → List Nat → Bool
  | s :: S, b :: B, x :: X => (x == s || b == x) && comp S B X
  | _, _, _ => true

def wt (S : List Nat) (base : List Int) (X : List Nat) (i : Nat) : Int := if bB S i = true ∧ comp S (dig S i) X = true then ce base (rk S i) else 0

def T (S : List Nat) (base : List Int) (X : List Nat) : Int := sg (wt S base X) (cnt S)

theorem comp_set : ∀ {S B X : List Nat} {d s b k : Nat}, B.length = S.length → X.length = S.length → S[d]? = some s → X[d]? = some s → B[d]? = some b → k < s → comp S B (X.set d k) = (decide (b = k) && comp S B X)
  | s' :: S, b' :: B, x' :: X, 0, s, b, k, _, _, h1, h2, h3, hk => by
    simp at h1 h2 h3
    subst h1 h2 h3
    simp only [List.set_cons_zero, comp]
    rw [show (k == x') = false by simp; omega]
    simp
    rfl
  | s' :: S, b' :: B, x' :: X, d + 1, s, b, k, hB, hX, h1, h2, h3, hk => by
    simp only [List.set_cons_succ, comp]
    rw [comp_set (S := S) (B := B) (X := X) (d := d) (by simpa using hB) (by simpa using hX) (by simpa using h1) (by simpa using h2) (by simpa using h3) hk]
    cases (x' == s' || b' == x') <;> simp
  | [], _, _, _, _, _, _, _, _, h1, _, _, _ => by simp at h1
  | _ :: _, [], _, _, _, _, _, hB, _, _, _, _, _ => by simp at hB
  | _ :: _, _ :: _, [], _, _, _, _, _, hX, _, _, _, _ => by simp at hX

theorem comp_base : ∀ {S B X : List Nat}, B.length = S.length → X.length = S.length → isB S X = true → (comp S B X = true ↔ B = X)
  | s :: S, b :: B, x :: X, hB, hX, h => by
    simp only [isB, Bool.and_eq_true, decide_eq_true_eq] at h
    simp only [comp, Bool.and_eq_true, Bool.or_eq_true, beq_iff_eq, List.cons.injEq]
    rw [comp_base (by simpa using hB) (by simpa using hX) h.2]
    constructor
    · rintro ⟨h1 | h1, h2⟩
      · omega
      · exact ⟨h1, h2⟩
    · rintro ⟨h1, h2⟩
      exact ⟨.inr h1, h2⟩
  | [], [], [], _, _, _ => by simp [comp]
  | [], _ :: _, _, hB, _, _ => by simp at hB
  | [], [], _ :: _, _, hX, _ => by simp at hX
  | _ :: _, [], _, hB, _, _ => by simp at hB
  | _ :: _, _ :: _, [], _, hX, _ => by simp at hX

theorem T_add {S : List Nat} {base : List Int} {X : List Nat} {d s : Nat} (hX : X.length = S.length) (hs : S[d]? = some s) (hx : X[d]? = some s) : sg (fun k => T S base (X.set d k)) s = T S base X := by
  unfold T
  rw [sg_swap]
  refine sg_congr fun i hi => ?_
  have hdl : d < (dig S i).length := by rw [dig_len]; exact (List.getElem?_eq_some_iff.1 hs).1
  have hd : (dig S i)[d]? = some (dig S i)[d] := by simp [hdl]
  by_cases hb : bB S i = true
  · have hlt : (dig S i)[d] < s := (isB_iff (dig_len S i)).1 hb d s _ hs hd
    have e : ∀ k, k < s → wt S base (X.set d k) i = if (dig S i)[d] = k ∧ comp S (dig S i) X = true then ce base (rk S i) else 0 := by
      intro k hk
      unfold wt
      rw [comp_set (dig_len S i) hX hs hx hd hk]
      simp [hb]
    rw [sg_congr e, sg_one hlt fun k _ hk => by rw [if_neg]; rintro ⟨h1, _⟩; exact hk h1.symm]
    unfold wt
    simp [hb]
  · rw [sg_congr (h := fun _ => 0) fun k _ => by unfold wt; rw [if_neg]; exact fun h => hb h.1, sg_zero]
    unfold wt
    rw [if_neg fun h => hb h.1]

theorem T_base {S : List Nat} {base : List Int} {i : Nat} (hi : i < cnt S) (hb : bB S i = true) : T S base (dig S i) = ce base (rk S i) := by
  unfold T
  rw [sg_one hi fun k hk hne => ?_]
  · unfold wt
    rw [if_pos ⟨hb, (comp_base (dig_len S i) (dig_len S i) hb).2 rfl⟩]
  · unfold wt
    rw [if_neg]
    rintro ⟨_, h2⟩
    have := (comp_base (dig_len S k) (dig_len S i) hb).1 h2
    have h3 := congrArg (ix S) this
    rw [ix_dig hk, ix_dig hi] at h3
    exact hne h3

theorem wt_bound {S : List Nat} {base : List Int} {X : List Nat} (hB : Bnd base) (hl : base.length = rk S (cnt S)) {i : Nat} (hi : i < cnt S) : -1000000 ≤ wt S base X i ∧ wt S base X i ≤ 1000000 := by
  unfold wt
  split
  · rename_i h
    exact hB _ (ce_mem (by rw [hl]; exact rk_lt hi h.1))
  · omega

theorem T_bound {S : List Nat} {base : List Int} (X : List Nat) (hB : Bnd base) (hl : base.length = rk S (cnt S)) (hc : cnt S ≤ 2000) : -2000000000 ≤ T S base X ∧ T S base X ≤ 2000000000 := by
  have := sg_bound (g := wt S base X) (n := cnt S) (B := 1000000) fun k hk => wt_bound hB hl hk
  unfold T
  omega

end Go.Gx.F
