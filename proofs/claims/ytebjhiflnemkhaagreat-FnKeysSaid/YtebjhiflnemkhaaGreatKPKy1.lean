/- Plain laws: keys of records, groups of equal keys. -/
import Derived.Test.YtebjhiflnemkhaaGreatKPGrd
namespace Go.Gx.F
open Go.Gx
set_option linter.all false

/-! ## loops, again -/
theorem loop_F {τ σ ρ : Type} (mk : Int → σ → τ) (n : Nat) (F : Nat → σ) {body : τ → Option (Stp τ ρ)} {r : ρ} (h1 : ∀ k, k < n → body (mk (k : Int) (F k)) = some (.next (mk ((k + 1 : Nat) : Int) (F (k + 1)))))
    (h2 : body (mk (n : Int) (F n)) = some (.done r)) : loopC body (mk 0 (F 0)) = some r := by
  suffices h : ∀ (j k : Nat), k + j = n → loopC body (mk (k : Int) (F k)) = some r from h n 0 (by omega)
  intro j
  induction j with
  | zero =>
    intro k hk
    obtain rfl : k = n := by omega
    rw [loopC_eq, h2]
  | succ j ih =>
    intro k hk
    rw [loopC_eq, h1 k (by omega)]
    exact ih (k + 1) (by omega)

theorem loop_R {τ σ ρ : Type} (mk : Int → σ → τ) (n : Nat) (I : Nat → σ → Prop) (Q : ρ → Prop) {body : τ → Option (Stp τ ρ)} (h1 : ∀ k s, k < n → I k s → ∃ s', body (mk (k : Int) s) = some (.next (mk ((k + 1 : Nat) : Int) s')) ∧ I (k + 1) s')
    (h2 : ∀ s, I n s → ∃ r, body (mk (n : Int) s) = some (.done r) ∧ Q r) {s : σ} (h0 : I 0 s) : ∃ r, loopC body (mk 0 s) = some r ∧ Q r := by
  suffices h : ∀ (j k : Nat) (s : σ), k + j = n → I k s → ∃ r, loopC body (mk (k : Int) s) = some r ∧ Q r from h n 0 s (by omega) h0
  intro j
  induction j with
  | zero =>
    intro k s hk hi
    obtain rfl : k = n := by omega
    obtain ⟨r, e, hr⟩ := h2 s hi
    exact ⟨r, by rw [loopC_eq, e], hr⟩
  | succ j ih =>
    intro k s hk hi
    obtain ⟨s', e, hi'⟩ := h1 k s (by omega) hi
    rw [loopC_eq, e]
    exact ih (k + 1) s' (by omega) hi'

/-- two loops that go hand in hand -/
theorem loop_two {τ σ ρ : Type} (mk : Int → σ → τ) (n : Nat) (I : Nat → σ → Prop) (Q : ρ → Prop) {b1 b2 : τ → Option (Stp τ ρ)} (h1 : ∀ k s, k < n → I k s → ∃ s', b1 (mk (k : Int) s) = some (.next (mk ((k + 1 : Nat) : Int) s')) ∧ b2 (mk (k : Int) s) = some (.next (mk ((k + 1 : Nat) : Int) s')) ∧ I (k + 1) s')
    (h2 : ∀ s, I n s → ∃ r, b1 (mk (n : Int) s) = some (.done r) ∧ b2 (mk (n : Int) s) = some (.done r) ∧ Q r) {k0 : Nat} {s : σ} (hk0 : k0 ≤ n) (h0 : I k0 s) : ∃ r, loopC b1 (mk (k0 : Int) s) = some r ∧ loopC b2 (mk (k0 : Int) s) = some r ∧ Q r := by
  suffices h : ∀ (j k : Nat) (s : σ), k + j = n → I k s → ∃ r, loopC b1 (mk (k : Int) s) = some r ∧ loopC b2 (mk (k : Int) s) = some r ∧ Q r from h (n - k0) k0 s (by omega) h0
  intro j
  induction j with
  | zero =>
    intro k s hk hi
    obtain rfl : k = n := by omega
    obtain ⟨r, e1, e2, hr⟩ := h2 s hi
    exact ⟨r, by rw [loopC_eq, e1], by rw [loopC_eq, e2], hr⟩
  | succ j ih =>
    intro k s hk hi
    obtain ⟨s', e1, e2, hi'⟩ := h1 k s (by omega) hi
    obtain ⟨r, f1, f2, hr⟩ := ih (k + 1) s' (by omega) hi'
    exact ⟨r, by rw [loopC_eq, e1]; exact f1, by rw [loopC_eq, e2]; exact f2, hr⟩

theorem get_of {α : Type} {l : List α} {k : Nat} (h : k < l.length) : ∃ x, l[k]? = some x := ⟨l[k], by simp [h]⟩

theorem goSub_drop {γ : Type} {l : List γ} {k : Nat} (h : k ≤ l.length) : goSub l (k : Int) (goLen l) = some (l.drop k) := by
  unfold goSub goLen
  rw [show (decide (0 ≤ (k : Int)) && decide ((k : Int) ≤ (l.length : Int)) && decide ((l.length : Int) ≤ (l.length : Int))) = true by simp; omega]
  simp
  exact List.take_of_length_le (by simp)

/-- strictly increasing -/
def Inc (l : List Int) : Prop := ∀ (i j : Nat) (x y : Int), i < j → l[i]? = some x → l[j]? = some y → x < y

theorem lPut_eq {l : List Int} {v : Int} (hl : l.length ≤ 1000000) (hi : Inc l) : ∃ r, spec_l1Put l v = some r ∧ Inc r ∧ (∀ x, x ∈ r ↔ x ∈ l ∨ x = v) ∧ r.length ≤ l.length + 1 := by
  unfold spec_l1Put
  have hk : Tot (loopC (spec_l1Put_l1 l v) 0) fun r => ∃ k : Nat, r = (k : Int) ∧ k ≤ l.length ∧ (∀ i x, i < k → l[i]? = some x → x < v) ∧ (∀ x, l[k]? = some x → v ≤ x) := by
    refine tot_loop (fun t => ∃ k : Nat, t = (k : Int) ∧ k ≤ l.length ∧ (∀ i x, i < k → l[i]? = some x → x < v)) (fun t => l.length - t.toNat) ⟨0, rfl, by omega, fun i x hi => by omega⟩ ?_
    rintro t ⟨k, rfl, hk, hlt⟩
    simp only [spec_l1Put_l1]
    by_cases hkl : k < l.length
    · have hx : l[k]? = some l[k] := by simp [hkl]
      generalize l[k] = x at hx
      simp only [lt_ok hx, at_ok hx, cond_true, Option.bind_some, nx_ok hx (show l.length ≤ 9223372036854775807 by omega)]
      refine tot_cond (fun hc => tot_some ⟨⟨k + 1, rfl, by omega, fun i y hi hy => ?_⟩, by omega⟩) fun hc => tot_some ⟨k, rfl, by omega, hlt, fun y hy => ?_⟩
      · by_cases hik : i = k
        · subst hik
          rw [hx] at hy
          obtain rfl := Option.some.inj hy
          simpa using hc
        · exact hlt i y (by omega) hy
      · rw [hx] at hy
        obtain rfl := Option.some.inj hy
        simpa using hc
    · obtain rfl : k = l.length := by omega
      rw [lt_end]
      simp only [cond_false, Option.bind_some]
      exact tot_some ⟨l.length, rfl, by omega, hlt, fun x hx => by simp at hx⟩
  obtain ⟨r, e, k, rfl, hkl, h1, h2⟩ := hk
  rw [e, Option.bind_some]
  have hins : ∀ hne : l[k]? ≠ some v, Inc (l.take k ++ [v] ++ l.drop k) ∧ ∀ x, x ∈ (l.take k ++ [v] ++ l.drop k) ↔ x ∈ l ∨ x = v := by
    intro hne
    have hget : ∀ i : Nat, (l.take k ++ [v] ++ l.drop k)[i]? = if i < k then l[i]? else if i = k then some v else l[i - 1]? := by
      intro i
      rw [List.append_assoc]
      by_cases h : i < k
      · rw [if_pos h, List.getElem?_append_left (by simp; omega), List.getElem?_take_of_lt h]
      · rw [if_neg h, List.getElem?_append_right (by simp; omega)]
        simp only [List.length_take, Nat.min_eq_left hkl]
        by_cases h3 : i = k
        · subst h3; simp
        · rw [if_neg h3]
          obtain ⟨m, hm⟩ : ∃ m, i = k + (m + 1) := ⟨i - k - 1, by omega⟩
          subst hm
          simp [List.getElem?_drop]
    constructor
    · intro i j x y hij hx hy
      rw [hget] at hx hy
      by_cases hi1 : i < k
      · rw [if_pos hi1] at hx
        by_cases hj1 : j < k
        · rw [if_pos hj1] at hy; exact hi i j x y hij hx hy
        · rw [if_neg hj1] at hy
          by_cases hj2 : j = k
          · rw [if_pos hj2] at hy
            obtain rfl := Option.some.inj hy
            exact h1 i x hi1 hx
          · rw [if_neg hj2] at hy
            exact hi i (j - 1) x y (by omega) hx hy
      · rw [if_neg hi1] at hx
        have hj1 : ¬ j < k := by omega
        have hj2 : ¬ j = k := by omega
        rw [if_neg hj1, if_neg hj2] at hy
        by_cases hi2 : i = k
        · rw [if_pos hi2] at hx
          obtain rfl := Option.some.inj hx
          have hjl := (List.getElem?_eq_some_iff.1 hy).1
          have hz : l[k]? = some (l[k]'(by omega)) := by simp [show k < l.length by omega]
          generalize l[k]'(by omega) = z at hz
          have h3 := h2 z hz
          have h4 : z ≠ v := fun hh => hne (by rw [hz, hh])
          by_cases hjk : j - 1 = k
          · rw [hjk, hz] at hy
            obtain rfl := Option.some.inj hy
            omega
          · have := hi k (j - 1) z y (by omega) hz hy
            omega
        · rw [if_neg hi2] at hx
          exact hi (i - 1) (j - 1) x y (by omega) hx hy
    · intro x
      rw [List.mem_append, List.mem_append]
      constructor
      · rintro ((h | h) | h)
        · exact .inl (List.mem_of_mem_take h)
        · simp at h; exact .inr h
        · exact .inl (List.mem_of_mem_drop h)
      · rintro (h | h)
        · rw [← List.take_append_drop k l, List.mem_append] at h
          exact h.elim (fun h => .inl (.inl h)) .inr
        · exact .inl (.inr (by simp [h]))
  by_cases hlt : k < l.length
  · have hx : l[k]? = some l[k] := by simp [hlt]
    generalize l[k] = z at hx
    simp only [lt_ok hx, at_ok hx, cond_true, Option.bind_some]
    by_cases hzv : z = v
    · subst hzv
      simp only [beq_self_eq_true, cond_true]
      refine ⟨l, rfl, hi, fun x => ⟨.inl, fun h => h.elim id fun h => by rw [h]; exact List.mem_of_getElem? hx⟩, by omega⟩
    · rw [show (z == v) = false by simpa using hzv]
      simp only [cond_false]
      obtain ⟨a1, a2⟩ := hins (by rw [hx]; exact fun h => hzv (Option.some.inj h))
      rw [goSub_take hx, Option.bind_some, goApp_ok (by simp; omega), Option.bind_some, goApp_ok (by simp; omega), Option.bind_some, goSub_drop (by omega), Option.bind_some, goApp_ok (by simp; omega)]
      exact ⟨_, rfl, by simpa using a1, by simpa using a2, by simp; omega⟩
  · obtain rfl : k = l.length := by omega
    rw [lt_end]
    simp only [cond_false, Option.bind_some]
    obtain ⟨a1, a2⟩ := hins (by simp)
    have hs : goSub l 0 (l.length : Int) = some l := by
      unfold goSub
      simp
    rw [hs, Option.bind_some, goApp_ok (by simp; omega), Option.bind_some, goApp_ok (by simp; omega), Option.bind_some, goSub_drop (by omega), Option.bind_some, goApp_ok (by simp; omega)]
    exact ⟨_, rfl, by simpa using a1, by simpa using a2, by simp⟩

/-! ## keys -/
/-- the key of a record -/
def kf (s : List impl_Variable) (vars : List Int) (r : impl_Record) : Nat := ix (tops (part s vars)) ((pickV r.Values vars).map Int.toNat)

section
variable {s : List impl_Variable} {vars : List Int} {r : impl_Record}

theorem kf_vx (hs : OkS s) (hr : OkR s r) (hv : RiseV s.length vars) (hl : vars.length ≤ 1000) : pickV r.Values vars = up ((pickV r.Values vars).map Int.toNat) ∧ VX (tops (part s vars)) ((pickV r.Values vars).map Int.toNat) := by
  obtain ⟨X, hX, hVX⟩ := (pickV_ok hv hr.2.2).vx (part_lv hs hv)
  rw [hX]
  have : (up X).map Int.toNat = X := by simp [up, Function.comp_def]
  rw [this]
  exact ⟨rfl, hVX⟩

theorem kf_lt (hs : OkS s) (hr : OkR s r) (hv : RiseV s.length vars) (hl : vars.length ≤ 1000) : kf s vars r < 262144 := by
  have h1 := ix_lt (kf_vx hs hr hv hl).2
  have h2 := (part_lv hs hv).cnt_le 0
  simp only [List.drop_zero] at h2
  unfold kf; omega

theorem swKey_eq (hs : OkS s) (hr : OkR s r) (hv : RiseV s.length vars) (hl : vars.length ≤ 1000) : spec_swKey s r.Values vars = some (kf s vars r : Int) := by
  obtain ⟨h1, h2⟩ := kf_vx hs hr hv hl
  unfold spec_swKey
  rw [sPart_eq hv hl, Option.bind_some, sPick_eq (by rw [hr.2.2.1]; exact hv) hl, Option.bind_some, h1, sIndex_eq (part_lv hs hv) h2]
  rfl

theorem keyOf_eq (hs : OkS s) (hr : OkR s r) (hv : RiseV s.length vars) (hl : vars.length ≤ 1000) : impl_keyOf s r vars = some (kf s vars r : Int) := by
  obtain ⟨h1, h2⟩ := kf_vx hs hr hv hl
  have hpl : (part s vars).length = vars.length := by simp [part]
  unfold impl_keyOf
  rw [index_loop (part_lv hs hv) h2 fun n k => ⟨fun hk v x hv' hx => ?_, fun hk => ?_⟩]
  · rfl
  · obtain ⟨w, hw⟩ := get_of (l := vars) (k := k) (by omega)
    obtain ⟨y, e1, e2⟩ := rise_at hv hw
    obtain ⟨z, e3, e4⟩ := rise_at (s := r.Values) (by rw [hr.2.2.1]; exact hv) hw
    have hv2 : v = y := by
      simp only [part, List.getElem?_map, hw, Option.map_some, e1, Option.getD_some, Option.some.injEq] at hv'
      exact hv'.symm
    have hx2 : (x : Int) = z := by
      have hu := up_get (l := (pickV r.Values vars).map Int.toNat) hx
      rw [← h1] at hu
      simp only [pickV, List.getElem?_map, hw, Option.map_some, e3, Option.getD_some, Option.some.injEq] at hu
      exact hu.symm
    simp only [impl_keyOf_l1, lt_ok hw, at_ok hw, cond_true, Option.bind_some, e2, e4, hv2, hx2]
  · rw [hpl] at hk
    subst hk
    simp only [impl_keyOf_l1, lt_end, cond_false]

theorem goI64_nat {n : Nat} (h : n ≤ 1000000) : goI64 (n : Int) = some () := by
  unfold goI64
  rw [decide_eq_true (by omega), decide_eq_true (by omega)]
  rfl

theorem goI64_in {n : Int} (h : -1000000 ≤ n ∧ n ≤ 1000000) : goI64 n = some () := by
  unfold goI64
  rw [decide_eq_true (by omega), decide_eq_true (by omega)]
  rfl
end

/-! ## groups -/
theorem gfind_put (G : List (Int × List Int)) (k k' : Int) (l : List Int) : gfind (gput G k l) k' = if k' = k then some l else gfind G k' := by
  induction G with
  | nil =>
    by_cases h : k = k'
    · subst h; simp [gput, gfind]
    · have h' : ¬ k' = k := fun e => h e.symm
      simp [gput, gfind, h, h']
  | cons p G ih =>
    obtain ⟨k2, l2⟩ := p
    unfold gput
    by_cases h : k2 = k
    · subst h
      rw [if_pos rfl]
      unfold gfind
      by_cases h3 : k2 = k'
      · subst h3; simp
      · rw [if_neg h3, if_neg h3, if_neg (fun e => h3 e.symm)]
    · rw [if_neg h]
      unfold gfind
      rw [ih]
      by_cases h3 : k2 = k'
      · subst h3
        rw [if_pos rfl, if_neg h, if_pos rfl]
      · rw [if_neg h3, if_neg h3]

/-- the first t numbers with the key k -/
def idx (K : Nat → Int) (t : Nat) (k : Int) : List Int := ((List.range t).filter (fun i => K i == k)).map Int.ofNat

theorem idx_len {K : Nat → Int} {t : Nat} {k : Int} : (idx K t k).length ≤ t := by
  unfold idx
  rw [List.length_map]
  have := List.length_filter_le (fun i => K i == k) (List.range t)
  simpa using this

theorem idx_succ {K : Nat → Int} {t : Nat} {k : Int} : idx K (t + 1) k = if K t = k then idx K t k ++ [(t : Int)] else idx K t k := by
  unfold idx
  rw [List.range_succ, List.filter_append, List.map_append]
  by_cases h : K t = k
  · simp [h]
  · have : (K t == k) = false := by simpa using h
    simp [h, this]

theorem idx_mem {K : Nat → Int} {t : Nat} {k x : Int} : x ∈ idx K t k ↔ ∃ i : Nat, x = (i : Int) ∧ i < t ∧ K i = k := by
  unfold idx
  simp only [List.mem_map, List.mem_filter, List.mem_range, beq_iff_eq]
  constructor
  · rintro ⟨i, ⟨h1, h2⟩, rfl⟩; exact ⟨i, rfl, h1, h2⟩
  · rintro ⟨i, rfl, h1, h2⟩; exact ⟨i, ⟨h1, h2⟩, rfl⟩

theorem idx_ne {K : Nat → Int} {t : Nat} {k : Int} : idx K t k ≠ [] ↔ ∃ i, i < t ∧ K i = k := by
  constructor
  · intro h
    obtain ⟨x, hx⟩ := List.exists_mem_of_ne_nil _ h
    obtain ⟨i, _, h1, h2⟩ := idx_mem.1 hx
    exact ⟨i, h1, h2⟩
  · rintro ⟨i, h1, h2⟩ h
    have := idx_mem.2 ⟨i, rfl, h1, h2⟩
    rw [h] at this
    cases this

theorem inc_pair {l : List Int} (h : l.Pairwise (· < ·)) : Inc l := fun i j x y hij hx hy => by
  obtain ⟨i1, i2⟩ := List.getElem?_eq_some_iff.1 hx
  obtain ⟨j1, j2⟩ := List.getElem?_eq_some_iff.1 hy
  have := List.pairwise_iff_getElem.1 h i j i1 j1 hij
  rw [i2, j2] at this
  exact this

theorem pair_inc {l : List Int} (h : Inc l) : l.Pairwise (· < ·) := List.pairwise_iff_getElem.2 fun i j hi hj hij => h i j _ _ hij (by simp) (by simp)

theorem inc_ext : ∀ {l l' : List Int}, l.Pairwise (· < ·) → l'.Pairwise (· < ·) → (∀ x, x ∈ l ↔ x ∈ l') → l = l'
  | [], [], _, _, _ => rfl
  | [], y :: l', _, _, h => by have := (h y).2 (by simp); cases this
  | x :: l, [], _, _, h => by have := (h x).1 (by simp); cases this
  | x :: l, y :: l', h1, h2, h => by
    obtain ⟨a1, a2⟩ := List.pairwise_cons.1 h1
    obtain ⟨b1, b2⟩ := List.pairwise_cons.1 h2
    have hxy : x = y := by
      have e1 := (h x).1 (by simp)
      have e2 := (h y).2 (by simp)
      rcases List.mem_cons.1 e1 with rfl | e1
      · rfl
      · rcases List.mem_cons.1 e2 with rfl | e2
        · rfl
        · have := b1 x e1; have := a1 y e2; omega
    subst hxy
    rw [inc_ext a2 b2 fun z => ?_]
    constructor
    · intro hz
      rcases List.mem_cons.1 ((h z).1 (List.mem_cons_of_mem _ hz)) with rfl | hz'
      · have := a1 z hz; omega
      · exact hz'
    · intro hz
      rcases List.mem_cons.1 ((h z).2 (List.mem_cons_of_mem _ hz)) with rfl | hz'
      · have := b1 z hz; omega
      · exact hz'

section
variable {s : List impl_Variable} {vars : List Int} {l : List impl_Record}

/-- the key of the record i -/
def kK (s : List impl_Variable) (vars : List Int) (l : List impl_Record) (i : Nat) : Int := match l[i]? with
  | some r => (kf s vars r : Int)
  | none => -1

theorem kK_at {i : Nat} {r : impl_Record} (h : l[i]? = some r) : kK s vars l i = (kf s vars r : Int) := by unfold kK; rw [h]

theorem kK_in (hs : OkS s) (hd : OkD s l) (hv : RiseV s.length vars) (hl : vars.length ≤ 1000) {i : Nat} (hi : i < l.length) : 0 ≤ kK s vars l i ∧ kK s vars l i < 262144 := by
  obtain ⟨r, hr⟩ := get_of hi
  rw [kK_at hr]
  have := kf_lt hs (hd.2 r (List.mem_of_getElem? hr)) hv hl
  omega

/-- all groups, over the keys ks -/
def grps (s : List impl_Variable) (vars : List Int) (l : List impl_Record) (ks : List Int) : List (List Int) := ks.map fun k => idx (kK s vars l) l.length k

/-- the keys that occur -/
def Keys (s : List impl_Variable) (vars : List Int) (l : List impl_Record) (t : Nat) (ks : List Int) : Prop := ∀ x, x ∈ ks ↔ ∃ i, i < t ∧ kK s vars l i = x

theorem groups_impl (hs : OkS s) (hd : OkD s l) (hv : RiseV s.length vars) (hl : vars.length ≤ 1000) : ∃ ks, impl_keyGroups s l vars = some (grps s vars l ks) ∧ ks.Pairwise (· < ·) ∧ Keys s vars l l.length ks ∧ ks.length ≤ l.length := by
  have hn := hd.1
  unfold impl_keyGroups
  obtain ⟨⟨keys, G⟩, e, h1, h2, h3, h4⟩ := loop_R (fun k (z : List Int × List (Int × List Int)) => (z.1, z.2, k)) l.length (fun t z => z.1.Nodup ∧ Keys s vars l t z.1 ∧ z.1.length ≤ t ∧ ∀ k, (gfind z.2 k).getD [] = idx (kK s vars l) t k ∧ ((gfind z.2 k).isNone = true ↔ idx (kK s vars l) t k = []))
    (fun z => z.1.Nodup ∧ Keys s vars l l.length z.1 ∧ z.1.length ≤ l.length ∧ ∀ k, (gfind z.2 k).getD [] = idx (kK s vars l) l.length k) (body := impl_keyGroups_l1 s l vars) (s := ([], [])) (fun t ⟨keys, G⟩ ht ⟨h1, h2, h3, h4⟩ => by
      obtain ⟨r, hr⟩ := get_of ht
      have hR := hd.2 r (List.mem_of_getElem? hr)
      have hK : kK s vars l t = (kf s vars r : Int) := kK_at hr
      have hkl := kf_lt hs hR hv hl
      simp only at h1 h2 h3 h4
      obtain ⟨f1, f2⟩ := h4 (kf s vars r : Int)
      have hil := idx_len (K := kK s vars l) (t := t) (k := (kf s vars r : Int))
      simp only [impl_keyGroups_l1, lt_ok hr, at_ok hr, cond_true, Option.bind_some, keyOf_eq hs hR hv hl, goI64_nat (n := kf s vars r) (by omega), nx_ok hr (show l.length ≤ 9223372036854775807 by omega)]
      rw [f1]
      have hg : ∀ k, (gfind (gput G (kf s vars r : Int) (idx (kK s vars l) t (kf s vars r : Int) ++ [(t : Int)])) k).getD [] = idx (kK s vars l) (t + 1) k ∧ ((gfind (gput G (kf s vars r : Int) (idx (kK s vars l) t (kf s vars r : Int) ++ [(t : Int)])) k).isNone = true ↔ idx (kK s vars l) (t + 1) k = []) := by
        intro k
        rw [gfind_put, idx_succ, hK]
        by_cases h : k = (kf s vars r : Int)
        · subst h
          rw [if_pos rfl, if_pos rfl]
          simp
        · rw [if_neg h, if_neg (fun e => h e.symm)]
          exact h4 k
      cases hc : (gfind G (kf s vars r : Int)).isNone with
      | true =>
        have hnew : ((kf s vars r : Nat) : Int) ∉ keys := fun hm => by
          obtain ⟨i, hi, hk⟩ := (h2 _).1 hm
          exact idx_ne.2 ⟨i, hi, hk⟩ (f2.1 hc)
        rw [cond_true, goApp_ok (by simp; omega), Option.bind_some, Option.bind_some, goApp_ok (by simp; omega), Option.bind_some]
        refine ⟨(keys ++ [(kf s vars r : Int)], _), rfl, ?_, ?_, by simp; omega, hg⟩
        · refine List.nodup_append.2 ⟨h1, by simp, fun a ha b hb => ?_⟩
          obtain rfl := List.mem_singleton.1 hb
          rintro rfl
          exact hnew ha
        · intro x
          simp only [List.mem_append, List.mem_singleton]
          constructor
          · rintro (hx | rfl)
            · obtain ⟨i, hi, hk⟩ := (h2 x).1 hx; exact ⟨i, by omega, hk⟩
            · exact ⟨t, by omega, hK⟩
          · rintro ⟨i, hi, hk⟩
            by_cases hit : i = t
            · subst hit; right; rw [← hk, hK]
            · left; exact (h2 x).2 ⟨i, by omega, hk⟩
      | false =>
        have hold : idx (kK s vars l) t (kf s vars r : Int) ≠ [] := fun h => by rw [f2.2 h] at hc; cases hc
        obtain ⟨j, hj, hjk⟩ := idx_ne.1 hold
        rw [cond_false, Option.bind_some, goApp_ok (by simp; omega), Option.bind_some]
        refine ⟨(keys, _), rfl, h1, fun x => ?_, by simp only; omega, hg⟩
        rw [h2 x]
        constructor
        · rintro ⟨i, hi, hk⟩; exact ⟨i, by omega, hk⟩
        · rintro ⟨i, hi, hk⟩
          by_cases hit : i = t
          · subst hit; exact ⟨j, hj, by rw [hjk, ← hk, hK]⟩
          · exact ⟨i, by omega, hk⟩) (fun z ⟨h1, h2, h3, h4⟩ => ⟨z, by simp only [impl_keyGroups_l1, lt_end, cond_false], h1, h2, h3, fun k => (h4 k).1⟩) ⟨by simp, fun x => by simp, by simp, fun k => by simp [gfind, idx]⟩
  simp only at h1 h2 h3 h4
  rw [show loopC (impl_keyGroups_l1 s l vars) (([] : List Int), ([] : List (Int × List Int)), 0) = _ from e, Option.bind_some]
  simp only
  unfold slices_Sort_int_int
  rw [decide_eq_true (by omega), cond_true, Option.bind_some]
  have hmem : ∀ x, x ∈ keys.mergeSort (fun x y => decide (x ≤ y)) ↔ x ∈ keys := fun x => List.mem_mergeSort
  have hlen : (keys.mergeSort (fun x y => decide (x ≤ y))).length = keys.length := List.length_mergeSort _
  have hsort : (keys.mergeSort (fun x y => decide (x ≤ y))).Pairwise (· < ·) := by
    have hp := List.pairwise_mergeSort (le := fun (x y : Int) => decide (x ≤ y)) (fun a b c h1 h2 => by simp at *; omega) (fun a b => by simp; omega) keys
    have hnd : (keys.mergeSort (fun x y => decide (x ≤ y))).Nodup := (List.mergeSort_perm keys _).nodup_iff.2 h1
    have hnp := List.nodup_iff_pairwise_ne.1 hnd
    refine List.pairwise_iff_getElem.2 fun i j hi hj hij => ?_
    have a1 := List.pairwise_iff_getElem.1 hp i j hi hj hij
    have a2 := List.pairwise_iff_getElem.1 hnp i j hi hj hij
    simp at a1
    omega
  generalize keys.mergeSort (fun x y => decide (x ≤ y)) = ks at hmem hlen hsort
  refine ⟨ks, ?_, hsort, fun x => by rw [hmem]; exact h2 x, by omega⟩
  have h := loop_F (fun k (o : List (List Int)) => (o, k)) ks.length (fun t => (ks.take t).map fun k => idx (kK s vars l) l.length k) (body := impl_keyGroups_l2 G ks) (r := grps s vars l ks) (fun t ht => by
    obtain ⟨k, hk⟩ := get_of ht
    have hin : 0 ≤ k ∧ k < 262144 := by
      obtain ⟨i, hi, rfl⟩ := (h2 k).1 ((hmem k).1 (List.mem_of_getElem? hk))
      exact kK_in hs hd hv hl hi
    simp only [impl_keyGroups_l2, lt_ok hk, at_ok hk, cond_true, Option.bind_some, goI64_in (n := k) (by omega), nx_ok hk (show ks.length ≤ 9223372036854775807 by omega)]
    rw [goApp_ok (by simp; omega), Option.bind_some, h4, List.take_add_one, hk, List.map_append]
    rfl) (by simp only [impl_keyGroups_l2, lt_end, cond_false, List.take_length]; rfl)
  simp only [List.take_zero, List.map_nil] at h
  rw [show loopC (impl_keyGroups_l2 G ks) (([] : List (List Int)), 0) = _ from h]
  rfl

theorem groups_spec (hs : OkS s) (hd : OkD s l) (hv : RiseV s.length vars) (hl : vars.length ≤ 1000) : ∃ ks, spec_swGroups s l vars = some (grps s vars l ks) ∧ ks.Pairwise (· < ·) ∧ Keys s vars l l.length ks ∧ ks.length ≤ l.length := by
  have hn := hd.1
  unfold spec_swGroups
  obtain ⟨ks, e, h1, h2, h3⟩ := loop_R (fun k (z : List Int) => (z, k)) l.length (fun t z => Inc z ∧ Keys s vars l t z ∧ z.length ≤ t) (fun z => Inc z ∧ Keys s vars l l.length z ∧ z.length ≤ l.length) (body := spec_swGroups_l1 s l vars) (s := ([] : List Int)) (fun t z ht ⟨h1, h2, h3⟩ => by
    obtain ⟨r, hr⟩ := get_of ht
    have hR := hd.2 r (List.mem_of_getElem? hr)
    have hK : kK s vars l t = (kf s vars r : Int) := kK_at hr
    obtain ⟨z', e', a1, a2, a3⟩ := lPut_eq (l := z) (v := (kf s vars r : Int)) (by omega) h1
    simp only [spec_swGroups_l1, lt_ok hr, at_ok hr, cond_true, Option.bind_some, swKey_eq hs hR hv hl, nx_ok hr (show l.length ≤ 9223372036854775807 by omega), e']
    refine ⟨z', rfl, a1, fun x => ?_, by omega⟩
    rw [a2, h2]
    constructor
    · rintro (⟨i, hi, hk⟩ | rfl)
      · exact ⟨i, by omega, hk⟩
      · exact ⟨t, by omega, hK⟩
    · rintro ⟨i, hi, hk⟩
      by_cases hit : i = t
      · subst hit; right; rw [← hk, hK]
      · left; exact ⟨i, by omega, hk⟩) (fun z hz => ⟨z, by simp only [spec_swGroups_l1, lt_end, cond_false], hz⟩) ⟨fun i j x y _ hx => by simp at hx, fun x => by simp, by simp⟩
  rw [show loopC (spec_swGroups_l1 s l vars) (([] : List Int), 0) = _ from e, Option.bind_some]
  refine ⟨ks, ?_, pair_inc h1, h2, h3⟩
  have h := loop_F (fun k (o : List (List Int)) => (o, k)) ks.length (fun t => (ks.take t).map fun k => idx (kK s vars l) l.length k) (body := spec_swGroups_l2 s l vars ks) (r := grps s vars l ks) (fun t ht => by
    obtain ⟨k, hk⟩ := get_of ht
    have hin := loop_F (fun k (o : List Int) => (o, k)) l.length (fun t => idx (kK s vars l) t k) (body := spec_swGroups_l3 s l vars k) (r := idx (kK s vars l) l.length k) (fun t ht => by
      obtain ⟨r, hr⟩ := get_of ht
      have hR := hd.2 r (List.mem_of_getElem? hr)
      have hK : kK s vars l t = (kf s vars r : Int) := kK_at hr
      have hil := idx_len (K := kK s vars l) (t := t) (k := k)
      simp only [spec_swGroups_l3, lt_ok hr, at_ok hr, cond_true, Option.bind_some, swKey_eq hs hR hv hl, nx_ok hr (show l.length ≤ 9223372036854775807 by omega)]
      rw [idx_succ, hK]
      by_cases h : ((kf s vars r : Nat) : Int) = k
      · rw [if_pos h, show (((kf s vars r : Nat) : Int) == k) = true by simpa using h, cond_true, goApp_ok (by simp; omega), Option.bind_some, Option.bind_some]
      · rw [if_neg h, show (((kf s vars r : Nat) : Int) == k) = false by simpa using h, cond_false, Option.bind_some]) (by simp only [spec_swGroups_l3, lt_end, cond_false])
    simp only [spec_swGroups_l2, lt_ok hk, at_ok hk, cond_true, Option.bind_some, nx_ok hk (show ks.length ≤ 9223372036854775807 by omega)]
    rw [show loopC (spec_swGroups_l3 s l vars k) (([] : List Int), 0) = _ from hin, Option.bind_some, goApp_ok (by simp; omega), Option.bind_some, List.take_add_one, hk, List.map_append]
    rfl) (by simp only [spec_swGroups_l2, lt_end, cond_false, List.take_length]; rfl)
  simp only [List.take_zero, List.map_nil] at h
  rw [show loopC (spec_swGroups_l2 s l vars ks) (([] : List (List Int)), 0) = _ from h]
  rfl

theorem keyGroups_same (hs : OkS s) (hd : OkD s l) (hv : RiseV s.length vars) (hl : vars.length ≤ 1000) : ∃ ks, impl_keyGroups s l vars = some (grps s vars l ks) ∧ spec_swGroups s l vars = some (grps s vars l ks) ∧ ks.Pairwise (· < ·) ∧ Keys s vars l l.length ks ∧ ks.length ≤ l.length := by
  obtain ⟨k1, e1, a1, a2, a3⟩ := groups_impl hs hd hv hl
  obtain ⟨k2, e2, b1, b2, b3⟩ := groups_spec hs hd hv hl
  have : k1 = k2 := inc_ext a1 b1 fun x => by rw [a2 x, b2 x]
  subst this
  exact ⟨k1, e1, e2, a1, a2, a3⟩
end

end Go.Gx.F
