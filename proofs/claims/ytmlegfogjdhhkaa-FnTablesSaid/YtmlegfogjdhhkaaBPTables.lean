/- Plain laws: FnTables. -/
import Derived.Test.YtmlegfogjdhhkaaBPDt
namespace Go.Gx.F
open Go.Gx
set_option linter.all false

theorem quo_nat {a b : Nat} (hb : 0 < b) (ha : a ≤ 1000000) : goQuo .i64 (a : Int) (b : Int) = some ((a / b : Nat) : Int) := by
  have hle : a / b ≤ a := Nat.div_le_self _ _
  unfold goQuo
  rw [show ((b : Int) == 0) = false by simp; omega, cond_false]
  congr 1
  rw [Int.tdiv_eq_ediv_of_nonneg (by omega), ← Int.natCast_ediv]
  exact wnat (by omega)

theorem rem_nat {a b : Nat} (hb : 0 < b) : goRem (a : Int) (b : Int) = some ((a % b : Nat) : Int) := by
  unfold goRem
  rw [show ((b : Int) == 0) = false by simp; omega, cond_false]
  rfl

/-- the sizes of the part -/
def ps (s : List impl_Variable) (t : impl_Table) : List Nat := tops (part s t.Vars)

theorem CellAt_same {g : impl_Geo} {s : List impl_Variable} {t : impl_Table} {i : Int} (hs : TameS s) (hV : t.Vars.length ≤ 1000000) :
    (impl_CellAt g s t i = some (0, [], false) ∧ spec_CellAt g s t i = some (0, [], false)) ∨
    (OkT g s t ∧ ∃ (n : Nat) (a : Int), i = (n : Int) ∧ n < num g s t ∧ (lev g.Parents t.Level)[n / cnt (ps s t)]? = some a ∧ impl_CellAt g s t i = some (a, up (dig (ps s t) (n % cnt (ps s t))), true) ∧ spec_CellAt g s t i = some (a, up (dig (ps s t) (n % cnt (ps s t))), true)) := by
  obtain ⟨b1, f1, f1', g1⟩ := tables (g := g) (s := s) (t := t) hs hV
  unfold impl_CellAt spec_CellAt
  rw [f1, f1']
  cases b1 with
  | false => exact .inl ⟨rfl, rfl⟩
  | true =>
    have hT := g1.1 rfl
    have hn := hT.top
    simp only [Option.bind_some, Bool.not_true, cond_false]
    rw [hT.count, hT.count', Option.bind_some, Option.bind_some, lIn_eq, wid (by omega) (by omega)]
    by_cases h0 : 0 ≤ i ∧ i ≤ (num g s t : Int) - 1
    · rw [decide_eq_true h0, decide_eq_false (show ¬ i < 0 by omega), decide_eq_false (show ¬ (num g s t : Int) ≤ i by omega)]
      simp only [Option.bind_some, Bool.not_true, cond_false]
      obtain ⟨n, rfl⟩ := Int.eq_ofNat_of_zero_le h0.1
      have hc := cnt_pos (ps s t)
      have hlt : n / cnt (ps s t) < (lev g.Parents t.Level).length := by
        rw [Nat.div_lt_iff_lt_mul hc]
        have : num g s t = (lev g.Parents t.Level).length * cnt (ps s t) := rfl
        omega
      have ha : (lev g.Parents t.Level)[n / cnt (ps s t)]? = some (lev g.Parents t.Level)[n / cnt (ps s t)] := by simp [hlt]
      generalize (lev g.Parents t.Level)[n / cnt (ps s t)] = a at ha
      have hm : n % cnt (ps s t) < cnt (ps s t) := Nat.mod_lt _ hc
      refine .inr ⟨hT, n, a, rfl, by omega, ha, ?_, ?_⟩
      · unfold impl_cellAt
        rw [hT.cross, Option.bind_some, combinations_eq hT.lv, Option.bind_some, show tops (part s t.Vars) = ps s t from rfl, quo_nat hc (by omega), Option.bind_some, rem_nat hc, Option.bind_some, areasAt_eq hT.go, Option.bind_some, at_ok ha, Option.bind_some, valuesAt_eq hT.lv hm]
        rfl
      · rw [hT.cross', Option.bind_some, sCount_eq hT.lv, Option.bind_some, show tops (part s t.Vars) = ps s t from rfl, quo_nat hc (by omega), Option.bind_some, rem_nat hc, Option.bind_some, gLevel_eq hT.go, Option.bind_some, at_ok ha, Option.bind_some, sAt_eq hT.lv hm]
        rfl
    · rw [decide_eq_false h0]
      by_cases h3 : i < 0
      · rw [decide_eq_true h3]; exact .inl ⟨rfl, rfl⟩
      · rw [decide_eq_false h3, decide_eq_true (show (num g s t : Int) ≤ i by omega)]; exact .inl ⟨rfl, rfl⟩

theorem CellIndex_ok {g : impl_Geo} {s : List impl_Variable} {t : impl_Table} {n : Nat} {a : Int} (hs : TameS s) (hT : OkT g s t) (hn : n < num g s t) (ha : (lev g.Parents t.Level)[n / cnt (ps s t)]? = some a) : impl_CellIndex g s t a (up (dig (ps s t) (n % cnt (ps s t)))) = some ((n : Int), true) := by
  obtain ⟨b1, f1, g1⟩ := areTabled_bis (g := g) (s := s) (t := t) hs (by have := hT.vlen; omega)
  have hc := cnt_pos (ps s t)
  have hm : n % cnt (ps s t) < cnt (ps s t) := Nat.mod_lt _ hc
  have hX := dig_ok hm
  have hv := OkV.of_vx hT.lv hX
  have hlv := hT.lv.l
  obtain ⟨b2, f2, g2⟩ := areValues_bis (s := part s t.Vars) (l := up (dig (ps s t) (n % cnt (ps s t)))) (by rw [hv.1]; omega)
  unfold impl_CellIndex
  rw [f1, g1.2 hT, Option.bind_some, Bool.not_true, cond_false, hT.cross, Option.bind_some, f2, g2.2 hv, Option.bind_some, Bool.not_true, Option.bind_some, cond_false, cellIndex_eq hT ha hX, Option.bind_some]
  have e : n / cnt (ps s t) * cnt (tops (part s t.Vars)) + ix (tops (part s t.Vars)) (dig (ps s t) (n % cnt (ps s t))) = n := by
    rw [show tops (part s t.Vars) = ps s t from rfl, ix_dig hm, Nat.mul_comm]
    exact Nat.div_add_mod _ _
  rw [e, decide_eq_false (by omega)]
  rfl

/-! ## the greatest amount -/
noncomputable def lenOk (v : Nat) : Bool := match math_bits_Len ⟨(v : Int)⟩ with
  | some L => decide (0 ≤ L) && decide (L ≤ 64) && (v == 0 || decide (1 ≤ L)) && (List.range 9).all fun x => !bit (v : Int) (x : Int) || decide ((x : Int) + 1 ≤ L)
  | none => false

theorem lens : (List.range 256).all lenOk = true := by decide +kernel

theorem fulls : (List.range 9).all (fun L => (List.range L).all fun x => bit (((2 ^ L : Nat) : Int) - 1) (x : Int)) = true := by decide +kernel

theorem len_ok {v : Nat} (h : v < 256) (h0 : 0 < v) : ∃ L : Int, math_bits_Len ⟨(v : Int)⟩ = some L ∧ 1 ≤ L ∧ L ≤ 64 ∧ ∀ x : Nat, x < 9 → bit (v : Int) (x : Int) = true → (x : Int) + 1 ≤ L := by
  have := List.all_eq_true.1 lens v (List.mem_range.2 h)
  unfold lenOk at this
  cases e : math_bits_Len ⟨(v : Int)⟩ with
  | none => rw [e] at this; simp at this
  | some L =>
    rw [e] at this
    simp only [Bool.and_eq_true, decide_eq_true_eq, Bool.or_eq_true, beq_iff_eq, List.all_eq_true, List.mem_range, Bool.not_eq_true'] at this
    obtain ⟨⟨⟨h1, h2⟩, h3⟩, h4⟩ := this
    refine ⟨L, rfl, by omega, h2, fun x hx hb => ?_⟩
    rcases h4 x hx with h | h
    · rw [hb] at h; cases h
    · exact h

theorem full_bit {v : impl_Variable} (h : 2 ≤ v.Levels ∧ v.Levels ≤ 8) {x : Nat} (hx : (x : Int) < v.Levels) : bit (full v) (x : Int) = true := by
  have h1 := List.all_eq_true.1 fulls v.Levels.toNat (List.mem_range.2 (by omega))
  have h2 := List.all_eq_true.1 h1 x (List.mem_range.2 (by omega))
  exact h2

theorem full_le {v : impl_Variable} (h : 2 ≤ v.Levels ∧ v.Levels ≤ 8) : 3 ≤ full v ∧ full v ≤ 255 := by
  have h1 : 2 ^ v.Levels.toNat ≤ 2 ^ 8 := Nat.pow_le_pow_right (by omega) (by omega)
  have h2 : 2 ^ 2 ≤ 2 ^ v.Levels.toNat := Nat.pow_le_pow_right (by omega) (by omega)
  unfold full
  omega

theorem SensitivityOf_ok {g : impl_Geo} {s : List impl_Variable} {t : impl_Table} (hs : TameS s) (hT : OkT g s t) : ∃ top : Int, impl_SensitivityOf g s t = some (top, true) ∧ ∀ r c, OkR s r → CellOk g s t r c → c.2 ≤ top := by
  obtain ⟨b1, f1, g1⟩ := areTabled_bis (g := g) (s := s) (t := t) hs (by have := hT.vlen; omega)
  unfold impl_SensitivityOf impl_sensitivityOf
  rw [f1, g1.2 hT, Option.bind_some, Bool.not_true, cond_false]
  by_cases h0 : t.Sum < 0
  · rw [decide_eq_true h0]
    refine ⟨1, rfl, fun r c hr hc => ?_⟩
    rcases hc with rfl | ⟨_, _, h⟩
    · decide
    · rcases h with ⟨_, h⟩ | ⟨k, hk, _⟩
      · omega
      · omega
  · rw [decide_eq_false h0, cond_false]
    obtain ⟨k, hk⟩ := Int.eq_ofNat_of_zero_le (show 0 ≤ t.Sum by omega)
    have hsum := hT.sum
    have hkl : k < s.length := by omega
    have hv : s[k]? = some s[k] := by simp [hkl]
    have hWl := hT.whr.1
    have he : t.Where[k]? = some (t.Where[k]'(by omega)) := by simp [show k < t.Where.length by omega]
    generalize s[k] = v at hv
    generalize t.Where[k]'(by omega) = e at he
    have hb := hT.sch.lv.get hv
    have hw := hT.whr.2 k v e hv he
    have hf := full_le hb
    -- the set
    obtain ⟨V, hV, hV1, hV2, hbit⟩ : ∃ V : Nat, impl_conditionOf s t (k : Int) = some (V : Int) ∧ 0 < V ∧ V < 256 ∧ ∀ r, OkR s r → meets t.Where r.Values → ∀ x : Int, r.Values[k]? = some x → 0 ≤ x ∧ x < v.Levels ∧ bit (V : Int) x = true := by
      unfold impl_conditionOf
      rw [at_ok he, Option.bind_some]
      by_cases h1 : e = 0
      · subst h1
        obtain ⟨V, hV⟩ := Int.eq_ofNat_of_zero_le (show 0 ≤ full v by omega)
        refine ⟨V, ?_, by omega, by omega, fun r hr _ x hx => ?_⟩
        · rw [show ((0 : Int) == 0) = true from rfl, cond_true, at_ok hv, Option.bind_some, fullSet_eq (by omega), hV]; rfl
        · have h3 := hr.2.2.2 k v x hv hx
          obtain ⟨y, rfl⟩ := Int.eq_ofNat_of_zero_le h3.1
          exact ⟨h3.1, h3.2, by rw [← hV]; exact full_bit hb h3.2⟩
      · obtain ⟨V, hV⟩ := Int.eq_ofNat_of_zero_le hw.1
        refine ⟨V, ?_, by omega, by omega, fun r hr hm x hx => ?_⟩
        · rw [show (e == 0) = false by simpa using h1, cond_false, hV]; rfl
        · have h3 := hr.2.2.2 k v x hv hx
          exact ⟨h3.1, h3.2, by rw [← hV]; exact hm k e he h1 x hx⟩
    obtain ⟨L, hL, hL1, hL2, hL3⟩ := len_ok hV2 hV1
    rw [hk, hV, Option.bind_some, Go.IntWalk.u64_in _ ⟨by omega, by omega⟩, hL, Option.bind_some, wid (by omega) (by omega)]
    refine ⟨L - 1, rfl, fun r c hr hc => ?_⟩
    rcases hc with rfl | ⟨_, hm, h⟩
    · simp only; omega
    · rcases h with ⟨h, _⟩ | ⟨k', hk', hx⟩
      · omega
      · obtain rfl : k = k' := by omega
        obtain ⟨h3, h4, h5⟩ := hbit r hr hm _ hx
        obtain ⟨y, hy⟩ := Int.eq_ofNat_of_zero_le h3
        rw [hy] at h4 h5 ⊢
        have := hL3 y (by omega) h5
        omega

theorem MeetsWhere_ok {g : impl_Geo} {s : List impl_Variable} {t : impl_Table} {r : impl_Record} (hs : TameS s) (hT : OkT g s t) (hr : OkR s r) (ht : TameR r) : ∃ b : Bool, impl_MeetsWhere s t r = some (b, true) ∧ (b = true ↔ meets t.Where r.Values) := by
  obtain ⟨b1, f1, g1⟩ := IsSchema_bis hs
  obtain ⟨b2, f2, g2⟩ := isWhere_bis (W := t.Where) hT.sch
  obtain ⟨b3, f3, g3⟩ := isRecord_bis (s := s) ht
  obtain ⟨b4, f4, g4⟩ := meetsWhere_bis (r := r) hT.sch hT.whr hr.2.2
  unfold impl_MeetsWhere
  rw [f1, g1.2 hT.sch, Option.bind_some, Bool.not_true, cond_false, f2, g2.2 hT.whr, Option.bind_some, Bool.not_true, cond_false, f3, g3.2 hr, Option.bind_some, f4]
  exact ⟨b4, rfl, g4⟩

theorem CellCount_ok {g : impl_Geo} {s : List impl_Variable} {t : impl_Table} (hs : TameS s) (hT : OkT g s t) : impl_CellCount g s t = some ((num g s t : Int), true) := by
  obtain ⟨b1, f1, g1⟩ := areTabled_bis (g := g) (s := s) (t := t) hs (by have := hT.vlen; omega)
  unfold impl_CellCount
  rw [f1, g1.2 hT, Option.bind_some, Bool.not_true, cond_false, hT.count]
  rfl

theorem laws_FnTables_true (a b : List (K .u8)) (o1 : Rng.ok a) (o2 : Rng.ok b) : laws_FnTables a b = some true := by
  refine tot_eq ?_
  unfold laws_FnTables
  refine tot_cond (fun _ => tot_some rfl) fun _ => ?_
  refine tot_bind (tDrawTableOf o1.2) fun ⟨g, s, t, l⟩ ⟨hs, ht, hl⟩ => ?_
  simp only at hs ht hl
  have hVl := ht.1
  simp only
  have hd := tDrawCellAt o2.2
  -- the cell
  have hcell : ∀ {R : Bool → Prop} {k : (Unit ⊕ Bool) → Option Bool} {x : Option Bool} (h z u i), SmallS 8 z → SmallT 9 u →
      (∀ v : Int × List Int × Bool, v.2.1.length ≤ 1000 → impl_CellAt h z u i = some v → spec_CellAt h z u i = some v → (v.2.2 = true → impl_CellIndex h z u v.1 v.2.1 = some (i, true)) → Tot x R) → Tot x R := by
    intro R k x h z u i hz hu hk
    rcases CellAt_same (g := h) (s := z) (t := u) (i := i) hz.tame (by have := hu.1; omega) with ⟨e1, e2⟩ | ⟨hT, n, a, rfl, hn, ha, e1, e2⟩
    · exact hk _ (by simp) e1 e2 (fun h => by simp at h)
    · have := hT.lv.l
      exact hk _ (by simp only [up_len, dig_len, ps, tops_len]; omega) e1 e2 (fun _ => CellIndex_ok hz.tame hT hn ha)
  rcases TableOf_same (g := g) (s := s) (t := t) (l := l) hs.tame (by omega) hl.tame with ⟨x, e1, e2, rfl, _⟩ | ⟨hT, hU, e1, e2⟩
  · rw [e1, e2, Option.bind_some, Option.bind_some]
    refine tot_bind hd fun ⟨h, z, u, i⟩ ⟨hz, hu⟩ => ?_
    simp only at hz hu
    refine hcell (k := fun _ => none) h z u i hz hu fun v hv c1 c2 c3 => ?_
    simp only
    rw [c1, c2, Option.bind_some, Option.bind_some, bne_self_eq_false, cond_false, qInts_same (by simp), Option.bind_some, bne_self_eq_false, bne_self_eq_false, qInts_same (by omega)]
    simp only [Bool.not_true, cond_false, Option.bind_some]
    cases hv2 : v.2.2 with
    | false => exact tot_some rfl
    | true =>
      rw [c3 hv2]
      simp only [cond_true, Option.bind_some, Bool.not_true, cond_false, bne_self_eq_false, Bool.not_false]
      exact tot_some rfl
  · rw [e1, e2, Option.bind_some, Option.bind_some]
    refine tot_bind hd fun ⟨h, z, u, i⟩ ⟨hz, hu⟩ => ?_
    simp only at hz hu
    have hll := hU.1.1
    have hI := tabF_inv hT (show l.length ≤ 1000 by omega) hU.cnt
    have hIl := hI.l
    have hn := hT.top
    obtain ⟨top, hst, htop⟩ := SensitivityOf_ok hs.tame hT
    refine hcell (k := fun _ => none) h z u i hz hu fun v hv c1 c2 c3 => ?_
    simp only
    rw [c1, c2, Option.bind_some, Option.bind_some, bne_self_eq_false, cond_false, qInts_same (by omega), Option.bind_some, bne_self_eq_false, bne_self_eq_false, qInts_same (by omega)]
    simp only [Bool.not_true, cond_false, Option.bind_some]
    refine tot_bind (Q := fun r => r = .inl ()) ?_ fun r hr => ?_
    · cases hv2 : v.2.2 with
      | false => exact tot_some rfl
      | true =>
        rw [c3 hv2]
        simp only [cond_true, Option.bind_some, Bool.not_true, cond_false, bne_self_eq_false]
        exact tot_some rfl
    · subst hr
      simp only
      rw [CellCount_ok hs.tame hT, hst]
      simp only [Option.bind_some, Bool.not_true, cond_false, goLen, hIl, bne_self_eq_false]
      rw [goMake_ok (by omega) (by omega), Option.bind_some]
      obtain ⟨hloop, _⟩ := tabF_loop (ρ := List Int ⊕ Bool) hT (show l.length ≤ 1000 by omega) hU.cnt (fun out => .inl out) (body := laws_FnTables_l1 (g, s, t, l) (tabF g s t l, true) (top, true)) (fun out k r hr ho ha e => by
        have htr := hl.tame.2 r (List.mem_of_getElem? hr)
        obtain ⟨_, _, hc⟩ := cellF_ok hT ho ha
        obtain ⟨bm, em, hm⟩ := MeetsWhere_ok hs.tame hT ho htr
        have ham := htop r _ ho hc
        simp only [laws_FnTables_l1, lt_ok hr, at_ok hr, cond_true, Option.bind_some, ContributionOf_eq hs.tame hT ho htr ha, em, Bool.not_true, cond_false, goLen, hIl]
        rw [decide_eq_false (show ¬ (num g s t : Int) ≤ (cellF g s t r).1 by
          by_cases h0 : 0 ≤ (cellF g s t r).1
          · obtain ⟨i, hi, hi2⟩ := hc.cell h0; omega
          · omega), decide_eq_false (show ¬ top < (cellF g s t r).2 by omega)]
        have h3 : (cond (decide (0 ≤ (cellF g s t r).1)) (some (!bm)) (some false) : Option Bool) = some false := by
          by_cases h0 : 0 ≤ (cellF g s t r).1
          · have hmm : bm = true := by
              rcases hc with hc | ⟨_, hc, _⟩
              · rw [hc] at h0; simp at h0
              · exact hm.2 hc
            rw [decide_eq_true h0, hmm]; rfl
          · rw [decide_eq_false h0]; rfl
        rw [cond_false, cond_false, h3]
        simp only [Option.bind_some, cond_false]
        rw [e, Option.bind_some, nx_ok hr (show l.length ≤ 9223372036854775807 by omega)]) (fun out => by simp only [laws_FnTables_l1, lt_end, cond_false])
      rw [hloop]
      simp only [Option.bind_some]
      rw [qInts_same (by omega)]
      exact tot_some rfl

end Go.Gx.F
