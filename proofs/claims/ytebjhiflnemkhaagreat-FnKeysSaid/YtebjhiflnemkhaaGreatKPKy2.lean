/- Plain laws: pairs that can be swapped, counts that are kept. -/
import Derived.Test.YtebjhiflnemkhaaGreatKPKy1
namespace Go.Gx.F
open Go.Gx
set_option linter.all false

section
variable {s : List impl_Variable} {vars : List Int} {l : List impl_Record}

theorem keyedIn (ht : TameS s) (hl : TameD l) (hv : vars.length ≤ 1000) : ∃ b : Bool, impl_areKeyed s l vars = some b ∧ spec_swInput s l vars = some b ∧ (b = true ↔ OkS s ∧ OkD s l ∧ RiseV s.length vars) := by
  obtain ⟨b, e1, e2, hb⟩ := schemas ht
  obtain ⟨c, e3, hc⟩ := isData_bis (s := s) hl
  obtain ⟨d, e4, hd⟩ := areVars_bis (s := s) (l := vars) (by omega)
  obtain ⟨d', e5, hd'⟩ := risingV_bis (n := s.length) (l := vars) (by have := ht.1; omega) (by omega)
  have hdd : d' = d := by rw [Bool.eq_iff_iff, hd, hd']
  subst hdd
  unfold impl_areKeyed spec_swInput spec_swVars
  rw [e1, e2, e3, e4]
  simp only [goLen]
  rw [e5]
  cases b with
  | false => exact ⟨false, rfl, rfl, by simp only [Bool.false_eq_true, false_iff]; intro h; have := hb.2 h.1; cases this⟩
  | true =>
    have hS := hb.1 rfl
    obtain ⟨c', e6, hc'⟩ := dGood_bis hS hl
    have hcc : c' = c := by rw [Bool.eq_iff_iff, hc, hc']
    subst hcc
    rw [e6]
    cases hcv : c' with
    | false =>
      refine ⟨false, rfl, by cases d' <;> rfl, ?_⟩
      simp only [Bool.false_eq_true, false_iff]
      intro h
      have := hc.2 h.2.1
      rw [hcv] at this; cases this
    | true =>
      cases hdv : d' with
      | false =>
        refine ⟨false, rfl, rfl, ?_⟩
        simp only [Bool.false_eq_true, false_iff]
        intro h
        have := hd.2 h.2.2
        rw [hdv] at this; cases this
      | true => exact ⟨true, rfl, rfl, by simp only [true_iff]; exact ⟨hS, hc.1 hcv, hd.1 hdv⟩⟩

theorem KeyGroups_same (ht : TameS s) (hl : TameD l) (hv : vars.length ≤ 1000) : (impl_KeyGroups s l vars = some ([], false) ∧ spec_KeyGroups s l vars = some ([], false)) ∨
    ∃ ks, OkS s ∧ OkD s l ∧ RiseV s.length vars ∧ impl_KeyGroups s l vars = some (grps s vars l ks, true) ∧ spec_KeyGroups s l vars = some (grps s vars l ks, true) ∧ ks.Pairwise (· < ·) ∧ Keys s vars l l.length ks ∧ ks.length ≤ l.length := by
  obtain ⟨b, e1, e2, hb⟩ := keyedIn ht hl hv
  unfold impl_KeyGroups spec_KeyGroups
  rw [e1, e2]
  cases b with
  | false => exact .inl ⟨rfl, rfl⟩
  | true =>
    obtain ⟨hS, hD, hV⟩ := hb.1 rfl
    obtain ⟨ks, f1, f2, h1, h2, h3⟩ := keyGroups_same hS hD hV hv
    simp only [Option.bind_some, Bool.not_true, cond_false]
    rw [f1, f2]
    exact .inr ⟨ks, hS, hD, hV, rfl, rfl, h1, h2, h3⟩

/-! ## pairs -/
def csB (s : List impl_Variable) (vars : List Int) (a b : impl_Record) : Bool := (a.Area != b.Area) && ((kf s vars a : Int) == (kf s vars b : Int))

/-- pairs of numbers below n, the smaller one first -/
def PairsOk (n : Nat) (out : List (List Int)) : Prop := ∀ p ∈ out, ∃ a b : Nat, p = [(a : Int), (b : Int)] ∧ a < b ∧ b < n

theorem cand_two (hs : OkS s) (hd : OkD s l) (hv : RiseV s.length vars) (hl : vars.length ≤ 1000) : ∃ out, impl_swapCandidates s l vars = some out ∧ spec_swCandidates s l vars = some out ∧ out.length ≤ 2000 ∧ PairsOk l.length out := by
  have hn := hd.1
  have key := loop_two (fun k (o : List (List Int)) => (o, k)) l.length (fun i out => out.length ≤ 50 * i ∧ PairsOk l.length out) (fun out => out.length ≤ 2000 ∧ PairsOk l.length out)
    (b1 := impl_swapCandidates_l1 s l vars) (b2 := spec_swCandidates_l1 s l vars) (fun i out hi ⟨h1, h2⟩ => by
      obtain ⟨a, ha⟩ := get_of hi
      have hA := hd.2 a (List.mem_of_getElem? ha)
      obtain ⟨out', e1, e2, h3, h4⟩ := loop_two (fun k (o : List (List Int)) => (o, k)) l.length (fun k out => out.length ≤ 50 * i + k ∧ i < k ∧ PairsOk l.length out) (fun out => out.length ≤ 50 * i + l.length ∧ PairsOk l.length out)
        (b1 := impl_swapCandidates_l2 s l vars (i : Int)) (b2 := spec_swCandidates_l2 s l vars (i : Int)) (fun k out hk ⟨g1, g2, g3⟩ => by
          obtain ⟨b, hb⟩ := get_of hk
          have hB := hd.2 b (List.mem_of_getElem? hb)
          have c1 : impl_canSwap s a b vars = some (csB s vars a b) := by
            unfold impl_canSwap csB
            rw [keyOf_eq hs hA hv hl, keyOf_eq hs hB hv hl]
            cases (a.Area != b.Area) <;> rfl
          have c2 : spec_swCan s l vars (i : Int) (k : Int) = some (csB s vars a b) := by
            unfold spec_swCan csB
            rw [at_ok ha, at_ok hb]
            simp only [Option.bind_some]
            rw [swKey_eq hs hA hv hl, swKey_eq hs hB hv hl]
            cases (a.Area != b.Area) <;> rfl
          simp only [impl_swapCandidates_l2, spec_swCandidates_l2, lt_ok hb, at_ok ha, at_ok hb, cond_true, Option.bind_some, c1, c2, nx_ok hb (show l.length ≤ 9223372036854775807 by omega)]
          cases csB s vars a b with
          | false => exact ⟨out, rfl, rfl, by omega, by omega, g3⟩
          | true =>
            rw [cond_true, goApp_ok (by simp; omega), Option.bind_some, Option.bind_some]
            refine ⟨_, rfl, rfl, by simp; omega, by omega, fun p hp => ?_⟩
            rcases List.mem_append.1 hp with hp | hp
            · exact g3 p hp
            · obtain rfl := List.mem_singleton.1 hp
              exact ⟨i, k, rfl, by omega, hk⟩) (fun out ⟨g1, g2, g3⟩ => ⟨out, by simp only [impl_swapCandidates_l2, lt_end, cond_false], by simp only [spec_swCandidates_l2, lt_end, cond_false], g1, g3⟩) (k0 := i + 1) (by omega) ⟨by omega, by omega, h2⟩
      simp only [impl_swapCandidates_l1, spec_swCandidates_l1, lt_ok ha, cond_true, nx_ok ha (show l.length ≤ 9223372036854775807 by omega)]
      rw [e1, e2]
      simp only [Option.bind_some]
      exact ⟨out', rfl, rfl, by omega, h4⟩) (fun out ⟨h1, h2⟩ => ⟨out, by simp only [impl_swapCandidates_l1, lt_end, cond_false], by simp only [spec_swCandidates_l1, lt_end, cond_false], by omega, h2⟩) (k0 := 0) (s := ([] : List (List Int))) (by omega) ⟨by simp, fun p hp => by cases hp⟩
  obtain ⟨out, e1, e2, h1, h2⟩ := key
  refine ⟨out, ?_, ?_, h1, h2⟩
  · unfold impl_swapCandidates
    rw [show loopC (impl_swapCandidates_l1 s l vars) (([] : List (List Int)), 0) = _ from e1]
    rfl
  · unfold spec_swCandidates
    rw [show loopC (spec_swCandidates_l1 s l vars) (([] : List (List Int)), 0) = _ from e2]
    rfl

theorem Candidates_same (ht : TameS s) (hl : TameD l) (hv : vars.length ≤ 1000) : ∃ (y : List (List Int)) (b : Bool), impl_SwapCandidates s l vars = some (y, b) ∧ spec_SwapCandidates s l vars = some (y, b) ∧ y.length ≤ 2000 ∧ ∀ p ∈ y, p.length ≤ 2 := by
  obtain ⟨b, e1, e2, hb⟩ := keyedIn ht hl hv
  unfold impl_SwapCandidates spec_SwapCandidates
  rw [e1, e2]
  cases b with
  | false => exact ⟨[], false, rfl, rfl, by simp, by simp⟩
  | true =>
    obtain ⟨hS, hD, hV⟩ := hb.1 rfl
    obtain ⟨out, f1, f2, h1, h2⟩ := cand_two hS hD hV hv
    simp only [Option.bind_some, Bool.not_true, cond_false]
    rw [f1, f2]
    simp only [Option.bind_some]
    cases decide (400 < goLen out) with
    | true => exact ⟨[], false, rfl, rfl, by simp, by simp⟩
    | false => exact ⟨out, true, rfl, rfl, h1, fun p hp => by obtain ⟨a, b, rfl, _⟩ := h2 p hp; simp⟩

/-! ## counts -/
def bget : List ((Int × Int) × Int) → Int × Int → Int
  | [], _ => 0
  | (k', n) :: C, k => if k' = k then n else bget C k

theorem bget_bump (C : List ((Int × Int) × Int)) (k k' : Int × Int) (d : Int) : bget (bump C k d) k' = if k' = k then w64 (bget C k + d) else bget C k' := by
  induction C with
  | nil =>
    by_cases h : k = k'
    · subst h; simp [bump, bget]
    · have h' : ¬ k' = k := fun e => h e.symm
      simp [bump, bget, h, h']
  | cons p C ih =>
    obtain ⟨k2, n⟩ := p
    unfold bump
    by_cases h : k2 = k
    · subst h
      rw [if_pos rfl]
      by_cases h3 : k2 = k'
      · subst h3; simp [bget]
      · have h4 : ¬ k' = k2 := fun e => h3 e.symm
        simp [bget, h3, h4]
    · rw [if_neg h]
      by_cases h3 : k2 = k'
      · subst h3
        simp [bget, h]
      · simp only [bget, if_neg h3, if_neg h]
        rw [ih]

theorem bump_keys (C : List ((Int × Int) × Int)) (k : Int × Int) (d : Int) : ∀ k', k' ∈ (bump C k d).map (·.1) ↔ k' ∈ C.map (·.1) ∨ k' = k := by
  intro k'
  induction C with
  | nil => simp [bump]
  | cons p C ih =>
    obtain ⟨k2, n⟩ := p
    unfold bump
    by_cases h : k2 = k
    · subst h
      rw [if_pos rfl]
      simp only [List.map_cons, List.mem_cons]
      constructor
      · rintro (h | h)
        · exact .inr h
        · exact .inl (.inr h)
      · rintro ((h | h) | h)
        · exact .inl h
        · exact .inr h
        · exact .inl h
    · rw [if_neg h]
      simp only [List.map_cons, List.mem_cons]
      rw [ih]
      constructor
      · rintro (h | h | h)
        · exact .inl (.inl h)
        · exact .inl (.inr h)
        · exact .inr h
      · rintro ((h | h) | h)
        · exact .inl h
        · exact .inr (.inl h)
        · exact .inr (.inr h)

theorem bump_nod {C : List ((Int × Int) × Int)} (k : Int × Int) (d : Int) (h : (C.map (·.1)).Nodup) : ((bump C k d).map (·.1)).Nodup := by
  induction C with
  | nil => simp [bump]
  | cons p C ih =>
    obtain ⟨k2, n⟩ := p
    simp only [List.map_cons, List.nodup_cons] at h
    unfold bump
    by_cases h2 : k2 = k
    · subst h2
      rw [if_pos rfl]
      simp only [List.map_cons, List.nodup_cons]
      exact h
    · rw [if_neg h2]
      simp only [List.map_cons, List.nodup_cons]
      refine ⟨fun hm => ?_, ih h.2⟩
      rcases (bump_keys C k d k2).1 hm with h3 | h3
      · exact h.1 h3
      · exact h2 h3

theorem bget_mem {C : List ((Int × Int) × Int)} (h : (C.map (·.1)).Nodup) {p : (Int × Int) × Int} (hp : p ∈ C) : bget C p.1 = p.2 := by
  induction C with
  | nil => cases hp
  | cons q C ih =>
    obtain ⟨k2, n⟩ := q
    simp only [List.map_cons, List.nodup_cons] at h
    unfold bget
    rcases List.mem_cons.1 hp with rfl | hp'
    · rw [if_pos rfl]
    · rw [if_neg (by rintro rfl; exact h.1 (List.mem_map.2 ⟨p, hp', rfl⟩)), ih h.2 hp']

/-- how many have an area and a key -/
def cn (s : List impl_Variable) (vars : List Int) (l : List impl_Record) (k : Int × Int) : Nat := (l.filter fun r => r.Area == k.1 && (kf s vars r : Int) == k.2).length

theorem cn_snoc {r : impl_Record} {k : Int × Int} : cn s vars (l ++ [r]) k = cn s vars l k + (if (r.Area, (kf s vars r : Int)) = k then 1 else 0) := by
  unfold cn
  rw [List.filter_append, List.length_append]
  congr 1
  obtain ⟨k1, k2⟩ := k
  by_cases h : (r.Area, (kf s vars r : Int)) = (k1, k2)
  · rw [if_pos h]
    obtain ⟨rfl, rfl⟩ := Prod.mk.inj h
    simp
  · rw [if_neg h]
    have : (r.Area == k1 && (kf s vars r : Int) == k2) = false := by
      rw [Bool.and_eq_false_iff]
      by_cases h1 : r.Area = k1
      · right
        simp only [beq_eq_false_iff_ne, ne_eq]
        exact fun h2 => h (Prod.ext h1 h2)
      · left
        simpa using h1
    simp [this]

theorem cn_le {k : Int × Int} : cn s vars l k ≤ l.length := List.length_filter_le _ _

theorem swCount_eq (hs : OkS s) (hd : OkD s l) (hv : RiseV s.length vars) (hl : vars.length ≤ 1000) (area key : Int) : spec_swCount s l vars area key = some (cn s vars l (area, key) : Int) := by
  have hn := hd.1
  unfold spec_swCount
  have h := loop_F (fun k (n : Int) => (n, k)) l.length (fun t => (cn s vars (l.take t) (area, key) : Int)) (body := spec_swCount_l1 s l vars area key) (r := (cn s vars l (area, key) : Int)) (fun t ht => by
    obtain ⟨r, hr⟩ := get_of ht
    have hR := hd.2 r (List.mem_of_getElem? hr)
    have hle := cn_le (s := s) (vars := vars) (l := l.take t) (k := (area, key))
    rw [List.length_take] at hle
    simp only [spec_swCount_l1, lt_ok hr, at_ok hr, cond_true, Option.bind_some, swKey_eq hs hR hv hl, nx_ok hr (show l.length ≤ 9223372036854775807 by omega)]
    have e : l.take (t + 1) = l.take t ++ [r] := by rw [List.take_add_one, hr]; rfl
    rw [e, cn_snoc]
    by_cases h1 : r.Area = area
    · rw [show (r.Area == area) = true by simpa using h1, cond_true, Option.bind_some]
      by_cases h2 : (kf s vars r : Int) = key
      · rw [show ((kf s vars r : Int) == key) = true by simpa using h2, cond_true, Option.bind_some, if_pos (Prod.ext h1 h2), wid (by omega) (by omega)]
        rfl
      · rw [show ((kf s vars r : Int) == key) = false by simpa using h2, cond_false, Option.bind_some, if_neg (fun h => h2 (Prod.mk.inj h).2)]
        rfl
    · rw [show (r.Area == area) = false by simpa using h1, cond_false, Option.bind_some, cond_false, Option.bind_some, if_neg (fun h => h1 (Prod.mk.inj h).1)]
      rfl) (by simp only [spec_swCount_l1, lt_end, cond_false, List.take_length])
  simp only [List.take_zero] at h
  rw [show loopC (spec_swCount_l1 s l vars area key) (0, 0) = _ from h]
  rfl

theorem count_loop2 (hs : OkS s) (hd : OkD s l) (hv : RiseV s.length vars) (hl : vars.length ≤ 1000) {d : Int} (hdd : d = 1 ∨ d = -1) {C0 : List ((Int × Int) × Int)} (h0 : (C0.map (·.1)).Nodup) (hb : ∀ k, -100 ≤ bget C0 k ∧ bget C0 k ≤ 100) :
    ∃ C, loopC (impl_KeepsCounts_l1 s l vars d) (C0, 0) = some C ∧ (C.map (·.1)).Nodup ∧ (∀ k, bget C k = bget C0 k + d * (cn s vars l k : Int)) ∧ ∀ k, k ∈ C.map (·.1) ↔ k ∈ C0.map (·.1) ∨ ∃ r ∈ l, (r.Area, (kf s vars r : Int)) = k := by
  have hn := hd.1
  refine loop_R (fun k (z : List ((Int × Int) × Int)) => (z, k)) l.length (fun t C => (C.map (·.1)).Nodup ∧ (∀ k, bget C k = bget C0 k + d * (cn s vars (l.take t) k : Int)) ∧ ∀ k, k ∈ C.map (·.1) ↔ k ∈ C0.map (·.1) ∨ ∃ r ∈ l.take t, (r.Area, (kf s vars r : Int)) = k) _ (fun t C ht ⟨h1, h2, h3⟩ => ?_) (fun C ⟨h1, h2, h3⟩ => ⟨C, by simp only [impl_KeepsCounts_l1, lt_end, cond_false], h1, ?_, ?_⟩) ⟨h0, fun k => by simp [cn], fun k => by simp⟩
  · obtain ⟨r, hr⟩ := get_of ht
    have hR := hd.2 r (List.mem_of_getElem? hr)
    have hkl := kf_lt hs hR hv hl
    have hA := hR.1
    have e : l.take (t + 1) = l.take t ++ [r] := by rw [List.take_add_one, hr]; rfl
    simp only [impl_KeepsCounts_l1, lt_ok hr, at_ok hr, cond_true, Option.bind_some, keyOf_eq hs hR hv hl, goI64_nat (n := kf s vars r) (by omega), goI64_in (n := r.Area) (by omega), nx_ok hr (show l.length ≤ 9223372036854775807 by omega)]
    refine ⟨_, rfl, bump_nod _ _ h1, fun k => ?_, fun k => ?_⟩
    · rw [bget_bump, e, cn_snoc]
      by_cases hk : (r.Area, (kf s vars r : Int)) = k
      · subst hk
        have hle := cn_le (s := s) (vars := vars) (l := l.take t) (k := (r.Area, (kf s vars r : Int)))
        rw [List.length_take] at hle
        have hb0 := hb (r.Area, (kf s vars r : Int))
        rw [if_pos rfl, if_pos rfl, h2]
        rcases hdd with rfl | rfl
        · rw [wid (by omega) (by omega)]; omega
        · rw [wid (by omega) (by omega)]; omega
      · rw [if_neg (fun h => hk h.symm), if_neg hk, h2]
        simp
    · rw [bump_keys, h3, e]
      constructor
      · rintro ((h | ⟨x, hx, h⟩) | h)
        · exact .inl h
        · exact .inr ⟨x, List.mem_append.2 (.inl hx), h⟩
        · exact .inr ⟨r, List.mem_append.2 (.inr (by simp)), h.symm⟩
      · rintro (h | ⟨x, hx, h⟩)
        · exact .inl (.inl h)
        · rcases List.mem_append.1 hx with hx | hx
          · exact .inl (.inr ⟨x, hx, h⟩)
          · obtain rfl := List.mem_singleton.1 hx
            exact .inr h.symm
  · intro k; rw [h2, List.take_length]
  · intro k; rw [h3, List.take_length]

theorem Keeps_same {a b : List impl_Record} (ht : TameS s) (ha : TameD a) (hb : TameD b) (hv : vars.length ≤ 1000) : ∃ y : Bool × Bool, impl_KeepsCounts s a b vars = some y ∧ spec_KeepsCounts s a b vars = some y := by
  obtain ⟨x, e1, e2, hx⟩ := keyedIn ht ha hv
  unfold impl_KeepsCounts spec_KeepsCounts
  rw [e1, e2]
  cases x with
  | false => exact ⟨(false, false), rfl, rfl⟩
  | true =>
    obtain ⟨hS, hA, hV⟩ := hx.1 rfl
    obtain ⟨c, e3, hc⟩ := isData_bis (s := s) hb
    obtain ⟨c', e4, hc'⟩ := dGood_bis hS hb
    have hcc : c' = c := by rw [Bool.eq_iff_iff, hc, hc']
    subst hcc
    rw [e3, e4]
    cases hcv : c' with
    | false => exact ⟨(false, false), rfl, rfl⟩
    | true =>
      have hB := hc.1 hcv
      have hna := hA.1; have hnb := hB.1
      simp only [Option.bind_some, Bool.not_true, cond_false]
      obtain ⟨C1, f1, g1, g2, g3⟩ := count_loop2 hS hA hV hv (d := 1) (.inl rfl) (C0 := []) (by simp) (fun k => by simp [bget])
      obtain ⟨C2, f2, g4, g5, g6⟩ := count_loop2 hS hB hV hv (d := -1) (.inr rfl) (C0 := C1) g1 (fun k => by
        rw [g2]
        have := cn_le (s := s) (vars := vars) (l := a) (k := k)
        simp only [bget]
        omega)
      rw [f1, Option.bind_some, f2, Option.bind_some, goApp_ok (by simp; omega), Option.bind_some, List.nil_append, goApp_ok (by omega), Option.bind_some]
      obtain ⟨z, hz, e5⟩ := loop_find (l := a ++ b) (body := spec_KeepsCounts_l1 s a b vars (a ++ b)) (fun _ r => cn s vars a (r.Area, (kf s vars r : Int)) ≠ cn s vars b (r.Area, (kf s vars r : Int))) (false, true) (fun k r hr => by
        have hR : OkR s r := by
          rcases List.mem_append.1 (List.mem_of_getElem? hr) with h | h
          · exact hA.2 r h
          · exact hB.2 r h
        refine ⟨((cn s vars a (r.Area, (kf s vars r : Int)) : Int) != (cn s vars b (r.Area, (kf s vars r : Int)) : Int)), by simp; omega, ?_⟩
        simp only [spec_KeepsCounts_l1, lt_ok hr, at_ok hr, cond_true, Option.bind_some, swKey_eq hS hR hV hv, swCount_eq hS hA hV hv, swCount_eq hS hB hV hv, nx_ok hr (show (a ++ b).length ≤ 9223372036854775807 by simp; omega)]
        cases ((cn s vars a (r.Area, (kf s vars r : Int)) : Int) != (cn s vars b (r.Area, (kf s vars r : Int)) : Int)) <;> rfl) (by simp only [spec_KeepsCounts_l1, lt_end, cond_false])
      rw [e5]
      have hiff : C2.all (fun p => p.2 == 0) = !z := by
        rw [Bool.eq_iff_iff, List.all_eq_true, Bool.not_eq_true', ← Bool.not_eq_true, hz]
        have hval : ∀ k, bget C2 k = (cn s vars a k : Int) - (cn s vars b k : Int) := fun k => by
          rw [g5, g2]; simp only [bget]; omega
        constructor
        · rintro hall ⟨k, r, hr, hne⟩
          have hk : (r.Area, (kf s vars r : Int)) ∈ C2.map (·.1) := by
            rw [g6, g3]
            rcases List.mem_append.1 (List.mem_of_getElem? hr) with h | h
            · exact .inl (.inr ⟨r, h, rfl⟩)
            · exact .inr ⟨r, h, rfl⟩
          obtain ⟨p, hp, hpe⟩ := List.mem_map.1 hk
          have h0 := hall p hp
          have h1 := bget_mem g4 hp
          rw [hpe, hval] at h1
          simp at h0
          rw [h0] at h1
          exact hne (by omega)
        · intro hno p hp
          have h1 := bget_mem g4 hp
          have hk : p.1 ∈ C2.map (·.1) := List.mem_map.2 ⟨p, hp, rfl⟩
          rw [g6, g3] at hk
          have hr : ∃ r ∈ a ++ b, (r.Area, (kf s vars r : Int)) = p.1 := by
            rcases hk with (hk | ⟨r, hr, h⟩) | ⟨r, hr, h⟩
            · cases hk
            · exact ⟨r, List.mem_append.2 (.inl hr), h⟩
            · exact ⟨r, List.mem_append.2 (.inr hr), h⟩
          obtain ⟨r, hr, he⟩ := hr
          obtain ⟨i, hi⟩ := List.getElem?_of_mem hr
          have : cn s vars a (r.Area, (kf s vars r : Int)) = cn s vars b (r.Area, (kf s vars r : Int)) := Classical.byContradiction fun hc => hno ⟨i, r, hi, hc⟩
          rw [he] at this
          rw [hval, this] at h1
          simp
          omega
      rw [hiff]
      cases z with
      | false => exact ⟨(true, true), rfl, rfl⟩
      | true => exact ⟨(false, true), rfl, rfl⟩

/-! ## groups have equal keys and all records -/
theorem sum_zero (ks : List Int) : (ks.map fun _ => 0).sum = 0 := by
  induction ks with
  | nil => rfl
  | cons _ _ ih => simp only [List.map_cons, List.sum_cons, ih]

theorem sum_ind {ks : List Int} (hn : ks.Nodup) {a : Int} (ha : a ∈ ks) : (ks.map fun k => if a = k then 1 else 0).sum = 1 := by
  induction ks with
  | nil => cases ha
  | cons k ks ih =>
    obtain ⟨h1, h2⟩ := List.nodup_cons.1 hn
    simp only [List.map_cons, List.sum_cons]
    by_cases h : a = k
    · subst h
      have : (ks.map fun k => if a = k then 1 else 0).sum = 0 := by
        have e : (ks.map fun k => if a = k then 1 else 0) = ks.map fun _ => 0 := List.map_congr_left fun x hx => by
          rw [if_neg (by rintro rfl; exact h1 hx)]
        rw [e]
        exact sum_zero ks
      rw [if_pos rfl, this]
    · rw [if_neg h]
      rcases List.mem_cons.1 ha with h3 | h3
      · exact absurd h3 h
      · have := ih h2 h3; omega

theorem sum_add (ks : List Int) (f g : Int → Nat) : (ks.map fun k => f k + g k).sum = (ks.map f).sum + (ks.map g).sum := by
  induction ks with
  | nil => rfl
  | cons k ks ih => simp only [List.map_cons, List.sum_cons, ih]; omega

theorem idx_total {K : Nat → Int} {ks : List Int} (hn : ks.Nodup) : ∀ n : Nat, (∀ i, i < n → K i ∈ ks) → (ks.map fun k => (idx K n k).length).sum = n
  | 0, _ => by
    have e : (ks.map fun k => (idx K 0 k).length) = ks.map fun _ => 0 := List.map_congr_left fun x _ => by simp [idx]
    rw [e]
    exact sum_zero ks
  | n + 1, h => by
    have e : (ks.map fun k => (idx K (n + 1) k).length) = ks.map fun k => (idx K n k).length + (if K n = k then 1 else 0) := List.map_congr_left fun x _ => by
      rw [idx_succ]
      by_cases hx : K n = x
      · rw [if_pos hx, if_pos hx]; simp
      · rw [if_neg hx, if_neg hx]; rfl
    rw [e, sum_add, idx_total hn n fun i hi => h i (by omega), sum_ind hn (h n (by omega))]

theorem sum_take (f : Int → Nat) {ks : List Int} {t : Nat} {k : Int} (hk : ks[t]? = some k) : ((ks.take (t + 1)).map f).sum = ((ks.take t).map f).sum + f k := by
  rw [List.take_add_one, hk, List.map_append, List.sum_append]
  simp

theorem KeyOf_eq {r : impl_Record} (hS : OkS s) (hts : TameS s) (hr : OkR s r) (hrt : TameR r) (hV : RiseV s.length vars) (hv : vars.length ≤ 1000) : impl_KeyOf s r vars = some ((kf s vars r : Int), true) := by
  obtain ⟨b, e1, _, hb⟩ := schemas hts
  obtain ⟨c, e3, hc⟩ := isRecord_bis (s := s) hrt
  obtain ⟨d, e4, hd⟩ := areVars_bis (s := s) (l := vars) (by omega)
  unfold impl_KeyOf
  rw [e1, hb.2 hS, e3, hc.2 hr, e4, hd.2 hV]
  simp only [Option.bind_some, Bool.not_true, cond_false]
  rw [keyOf_eq hS hr hV hv]
  rfl

theorem law_groups (hS : OkS s) (hts : TameS s) (hD : OkD s l) (htd : TameD l) (hV : RiseV s.length vars) (hv : vars.length ≤ 1000) {ks : List Int} (hp : ks.Pairwise (· < ·)) (hk : Keys s vars l l.length ks) (hkl : ks.length ≤ l.length) :
    loopC (laws_FnKeys_l1 (s, l, vars) (grps s vars l ks, true)) (0, 0) = some (.inl (l.length : Int)) := by
  have hn := hD.1
  have hnod : ks.Nodup := List.nodup_iff_pairwise_ne.2 (hp.imp fun h => by omega)
  have htot := idx_total (K := kK s vars l) hnod l.length fun i hi => (hk _).2 ⟨i, hi, rfl⟩
  have hpart : ∀ t, ((ks.take t).map fun k => (idx (kK s vars l) l.length k).length).sum ≤ l.length := fun t => by
    conv => rhs; rw [← htot]
    conv => rhs; rw [← List.take_append_drop t ks, List.map_append, List.sum_append]
    omega
  have hgl : (grps s vars l ks).length = ks.length := by simp [grps]
  have h := loop_F (fun k (n : Int) => (n, k)) (grps s vars l ks).length (fun t => ((((ks.take t).map fun k => (idx (kK s vars l) l.length k).length).sum : Nat) : Int)) (body := laws_FnKeys_l1 (s, l, vars) (grps s vars l ks, true)) (r := .inl (l.length : Int)) (fun t ht => by
    rw [hgl] at ht
    obtain ⟨k, hkt⟩ := get_of ht
    have hg : (grps s vars l ks)[t]? = some (idx (kK s vars l) l.length k) := by
      unfold grps; rw [List.getElem?_map, hkt]; rfl
    obtain ⟨i, hi, hik⟩ := (hk k).1 (List.mem_of_getElem? hkt)
    have hne := idx_ne.2 ⟨i, hi, hik⟩
    have hil := idx_len (K := kK s vars l) (t := l.length) (k := k)
    obtain ⟨x0, hx0⟩ := get_of (l := idx (kK s vars l) l.length k) (k := 0) (List.length_pos_iff.2 hne)
    have hx : ∀ (j : Nat) (x : Int), (idx (kK s vars l) l.length k)[j]? = some x → ∃ r, goAt l x = some r ∧ impl_KeyOf s r vars = some (k, true) := by
      intro j x hj
      obtain ⟨i', rfl, hi', hk'⟩ := idx_mem.1 (List.mem_of_getElem? hj)
      obtain ⟨r, hr⟩ := get_of hi'
      refine ⟨r, at_ok hr, ?_⟩
      rw [KeyOf_eq hS hts (hD.2 r (List.mem_of_getElem? hr)) (htd.2 r (List.mem_of_getElem? hr)) hV hv, ← hk', kK_at hr]
    obtain ⟨r0, hr0, hk0⟩ := hx 0 x0 hx0
    have hb0 := hpart t
    have hin := loop_F (fun j (n : Int) => (n, j)) (idx (kK s vars l) l.length k).length (fun j => ((((ks.take t).map fun k => (idx (kK s vars l) l.length k).length).sum + j : Nat) : Int)) (body := laws_FnKeys_l2 (s, l, vars) (idx (kK s vars l) l.length k) (k, true)) (r := .inl ((((ks.take t).map fun k => (idx (kK s vars l) l.length k).length).sum + (idx (kK s vars l) l.length k).length : Nat) : Int)) (fun j hj => by
      obtain ⟨x, hxj⟩ := get_of hj
      obtain ⟨r, hr, hkr⟩ := hx j x hxj
      simp only [laws_FnKeys_l2, lt_ok hxj, at_ok hxj, cond_true, Option.bind_some, hr, hkr, Bool.not_true, cond_false, bne_self_eq_false, nx_ok hxj (show (idx (kK s vars l) l.length k).length ≤ 9223372036854775807 by omega)]
      rw [wid (by omega) (by omega)]
      rfl) (by simp only [laws_FnKeys_l2, lt_end, cond_false])
    rw [sum_take (fun k => (idx (kK s vars l) l.length k).length) hkt]
    simp only [laws_FnKeys_l1, lt_ok hg, at_ok hg, cond_true, Option.bind_some, nx_ok hg (show (grps s vars l ks).length ≤ 9223372036854775807 by omega)]
    rw [show goAt (idx (kK s vars l) l.length k) 0 = some x0 from at_ok (k := 0) hx0, Option.bind_some, hr0, Option.bind_some, hk0, Option.bind_some]
    simp only [Nat.add_zero] at hin
    rw [hin, Option.bind_some]) (by
      have e := lt_end (l := grps s vars l ks)
      simp only [laws_FnKeys_l1, e, cond_false]
      rw [hgl, List.take_length, htot])
  simpa using h
end

end Go.Gx.F
