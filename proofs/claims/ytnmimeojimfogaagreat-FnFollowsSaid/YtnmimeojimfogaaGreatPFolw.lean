/- Plain laws: derived cells are the counted ones; the law of tables that follow. -/
import Derived.Test.YtnmimeojimfogaaGreatPDer
namespace Go.Gx.F
open Go.Gx
set_option linter.all false

/-! ## a record's cell, once more -/
def amtP (t : impl_Table) (V : List Int) : Int := if t.Sum < 0 then 1 else V.getD t.Sum.toNat 0

theorem cellF_desc {g : impl_Geo} {s : List impl_Variable} {t : impl_Table} {r : impl_Record} (hT : OkT g s t) (hr : OkR s r) {n : Nat} (hn : n < g.Parents.length) (ea : r.Area = (n : Int)) :
    (cellF g s t r = (-1, 0) ∧ (anc g.Parents n t.Level = -1 ∨ ¬ meets t.Where r.Values)) ∨
    (∃ (m : Nat) (X : List Nat), anc g.Parents n t.Level = (m : Int) ∧ m < g.Parents.length ∧ atL g.Parents t.Level m = true ∧ meets t.Where r.Values ∧ pickV r.Values t.Vars = up X ∧ VX (ps s t) X ∧ cellF g s t r = (((pos (atL g.Parents t.Level) m * cnt (ps s t) + ix (ps s t) X : Nat) : Int), amtP t r.Values)) := by
  obtain ⟨b2, e2, h2⟩ := uMeets_bis hT.sch hT.whr hr.2.2
  have hVl := hT.vlen
  have hcf : cellF g s t r = (spec_uCell g s t r).getD (-1, 0) := rfl
  rw [hcf]
  unfold spec_uCell
  rw [ea, gUp_eq hT.go hn]
  simp only [Option.bind_some]
  rcases anc_cases hT.go hn t.Level with e | ⟨m, k, hL, e, hm, _, hat⟩
  · rw [e]
    exact .inl ⟨rfl, .inl rfl⟩
  · have hml : m < g.Parents.length := by omega
    have hlv := lev_at hat hml
    rw [e, decide_eq_false (show ¬ (m : Int) < 0 by omega), cond_false, e2]
    cases hb : b2 with
    | false => exact .inl ⟨rfl, .inr fun hm => by have := h2.2 hm; rw [hb] at this; cases this⟩
    | true =>
      simp only [Option.bind_some, Bool.not_true, cond_false]
      have hV := hr.2.2
      have hRl : RiseV r.Values.length t.Vars := by rw [hV.1]; exact hT.vars
      obtain ⟨X, hX, hVX⟩ := (pickV_ok hT.vars hV).vx hT.lv
      have hi := (List.getElem?_eq_some_iff.1 hlv).1
      have hsum := hT.sum
      rw [hT.cross', Option.bind_some, gLevel_eq hT.go, Option.bind_some, lFind_lev hT.go.l2 hlv, Option.bind_some, sCount_eq hT.lv, Option.bind_some, sPick_eq hRl (by omega), Option.bind_some, hX, sIndex_eq hT.lv hVX, Option.bind_some, cell_w hT hi hVX]
      refine .inr ⟨m, X, rfl, hml, hat, h2.1 hb, rfl, hVX, ?_⟩
      unfold amtP
      rw [show tops (part s t.Vars) = ps s t from rfl]
      by_cases h0 : t.Sum < 0
      · rw [decide_eq_true h0, if_pos h0]; rfl
      · rw [decide_eq_false h0, if_neg h0]
        obtain ⟨k, hk⟩ := Int.eq_ofNat_of_zero_le (show 0 ≤ t.Sum by omega)
        have hx : r.Values[k]? = some (r.Values[k]'(by rw [hV.1]; omega)) := by simp
        rw [hk, at_ok hx, List.getD_eq_getElem?_getD, show (k : Int).toNat = k by omega, hx]
        rfl

/-- higher up -/
theorem anc_up {p : List Int} (h : GeoOk p) {n m : Nat} (hn : n < p.length) {L M : Int} (hL : 0 ≤ L) (hLM : L ≤ M) (hm : anc p n M = (m : Int)) : anc p m L = anc p n L := by
  unfold anc at hm
  rw [if_pos (by omega)] at hm
  cases e : (gpath p n)[M.toNat]? with
  | none => rw [e] at hm; simp only [Option.getD_none] at hm; omega
  | some a =>
    rw [e, Option.getD_some] at hm
    obtain ⟨q, _, h2, h3, _⟩ := gpath_at h n hn _ _ e
    obtain rfl : q = m := by omega
    unfold anc
    rw [if_pos hL, if_pos hL, h3, List.getElem?_take_of_lt (by omega)]

theorem pick_at {l V : List Int} {k : Nat} {v x : Int} (hv : V[k]? = some v) (hx : l[v.toNat]? = some x) : (pickV l V)[k]? = some x := by
  unfold pickV
  rw [List.getElem?_map, hv, Option.map_some, hx]
  rfl

/-- what the derived cell of a record's cell is -/
theorem rec_der {g : impl_Geo} {s : List impl_Variable} {t u : impl_Table} (ht : OkT g s t) (hu : OkT g s u) (hF : Fol g s t u) {r : impl_Record} (hr : OkR s r) (ha : r.Area ∈ leaves g.Parents) :
    (cellF g s u r = (-1, 0) ∧ cellF g s t r = (-1, 0)) ∨
    ∃ i : Nat, i < num g s u ∧ (cellF g s u r).1 = (i : Int) ∧ ((derF g s t u i = (-1, 0) ∧ cellF g s t r = (-1, 0)) ∨ cellF g s t r = ((derF g s t u i).1, (cellF g s u r).2 * (derF g s t u i).2)) := by
  obtain ⟨n, hn, hlf, ea⟩ := mem_leaves.1 ha
  have hV := hr.2.2
  have h0 := ht.lvl0; have h1 := hu.lvl0
  have hle : t.Level ≤ u.Level := by rcases hF.lvl with h | h <;> omega
  have hsets : ∀ (k : Nat) (x : Int), r.Values[k]? = some x → Nat.testBit (cset s t k) x.toNat = true → Nat.testBit (cset s u k) x.toNat = true := by
    intro k x hx hb
    have hk := (List.getElem?_eq_some_iff.1 hx).1
    rw [hV.1] at hk
    by_cases hm : (k : Int) ∈ u.Vars
    · have := congrArg (fun z => Nat.testBit z x.toNat) ((hF.sets k hk).1 hm)
      simp only [Nat.testBit_and, hb, Bool.true_and] at this
      exact this
    · rw [← (hF.sets k hk).2 hm]; exact hb
  have hmeet : meets t.Where r.Values → meets u.Where r.Values := fun h => (meets_iff hu.sch hu.whr hV).2 fun k x hx => hsets k x hx ((meets_iff ht.sch ht.whr hV).1 h k x hx)
  have hanc : 0 ≤ anc g.Parents n t.Level → 0 ≤ anc g.Parents n u.Level := by
    intro h
    rcases hF.lvl with h2 | ⟨_, h2⟩
    · rw [← h2]; exact h
    · exact (anc_dep hu.go hn h1).2 (h2 n hn hlf ((anc_dep ht.go hn h0).1 h))
  rcases cellF_desc hu hr hn ea with ⟨e1, h2⟩ | ⟨m, X, e1, hm, hat, hme, hX, hVX, e2⟩
  · refine .inl ⟨e1, ?_⟩
    rcases cellF_desc ht hr hn ea with ⟨e3, _⟩ | ⟨m', X', e3, _, _, hme', _⟩
    · exact e3
    · exfalso
      rcases h2 with h2 | h2
      · have := hanc (by omega); omega
      · exact h2 (hmeet hme')
  · right
    have hlv := lev_at hat hm
    have hi := (List.getElem?_eq_some_iff.1 hlv).1
    have hcl := cell_lt (g := g) (s := s) (t := u) hi hVX
    rw [show tops (part s u.Vars) = ps s u from rfl] at hcl
    have hc := cnt_pos (ps s u)
    have hxl := ix_lt hVX
    refine ⟨_, hcl, by rw [e2], ?_⟩
    have hdiv : (pos (atL g.Parents u.Level) m * cnt (ps s u) + ix (ps s u) X) / cnt (ps s u) = pos (atL g.Parents u.Level) m := by
      rw [Nat.mul_comm, Nat.mul_add_div hc, Nat.div_eq_of_lt hxl, Nat.add_zero]
    have hmod : (pos (atL g.Parents u.Level) m * cnt (ps s u) + ix (ps s u) X) % cnt (ps s u) = ix (ps s u) X := by
      rw [Nat.mul_comm, Nat.mul_add_mod, Nat.mod_eq_of_lt hxl]
    obtain ⟨n', m', hB⟩ := base ht hu hF hcl
    have hdg := hB.dg
    have hba := hB.at_
    rw [hdiv, hlv] at hba
    obtain rfl : m = n' := by have := Option.some.inj hba; omega
    rw [hmod, dig_ix hVX] at hB
    have hup : anc g.Parents m t.Level = anc g.Parents n t.Level := anc_up ht.go hn h0 hle e1
    -- the values of the cell are those of the record
    have hval : ∀ (k : Nat) (v : Int) (x : Nat), u.Vars[k]? = some v → X[k]? = some x → r.Values[v.toNat]? = some (x : Int) := by
      intro k v x hv hx
      obtain ⟨_, _, _, hv0, hvs⟩ := x_at hu hVX hv
      have hy : r.Values[v.toNat]? = some (r.Values[v.toNat]'(by rw [hV.1]; exact hvs)) := by simp
      have h3 := pick_at hv hy
      rw [hX, up_get hx] at h3
      rw [hy, ← Option.some.inj h3]
    have hIn : InT s t u X u.Vars.length ↔ meets t.Where r.Values := by
      rw [meets_iff ht.sch ht.whr hV]
      constructor
      · intro h k x hx
        have hk := (List.getElem?_eq_some_iff.1 hx).1
        rw [hV.1] at hk
        by_cases hmem : (k : Int) ∈ u.Vars
        · obtain ⟨k', hk'⟩ := List.getElem?_of_mem hmem
          obtain ⟨y, hy, _, _, _⟩ := x_at hu hVX hk'
          have h3 := hval k' _ y hk' hy
          rw [show ((k : Nat) : Int).toNat = k by omega, hx] at h3
          obtain rfl := Option.some.inj h3
          have := h k' _ y (List.getElem?_eq_some_iff.1 hk').1 hk' hy
          simpa using this
        · rw [(hF.sets k hk).2 hmem]
          exact (meets_iff hu.sch hu.whr hV).1 hme k x hx
      · intro h k v x hk hv hx
        have := h v.toNat (x : Int) (hval k v x hv hx)
        simpa using this
    by_cases hin : InT s t u X u.Vars.length
    · right
      rw [derF_in hB hin, e2]
      have hmt := hIn.1 hin
      rcases cellF_desc ht hr hn ea with ⟨_, h3⟩ | ⟨m2, X2, e3, _, _, _, hX2, hVX2, e4⟩
      · exfalso
        rcases h3 with h3 | h3
        · have := hB.ua; omega
        · exact h3 hmt
      · rw [e4]
        obtain rfl : m' = m2 := by have := hB.ua; omega
        have hXY : X2 = YF t u X := by
          apply up_inj
          rw [← hX2]
          have hXl := hVX.len
          rw [ps_len] at hXl
          exact all_pick hu.vars hXl hF.vars fun k x v hv hx => hval k v x hv hx
        subst hXY
        congr 1
        simp only
        unfold timesF amtP
        by_cases c1 : t.Sum = u.Sum
        · rw [if_neg (c := t.Sum ≠ u.Sum ∧ _) (fun h => h.1 c1), c1, Int.mul_one]
        · rcases hF.sum with h | ⟨hus, htm⟩
          · exact absurd h c1
          · obtain ⟨k, hk⟩ := List.getElem?_of_mem htm
            obtain ⟨x, hx, _, hv0, _⟩ := x_at hu hVX hk
            have hkl := (List.getElem?_eq_some_iff.1 hk).1
            rw [if_neg (show ¬ t.Sum < 0 by omega), if_pos (show u.Sum < 0 by omega), if_pos ⟨c1, by rw [hu.vars.idx hk]; exact hkl⟩, hu.vars.idx hk, List.getD_eq_getElem?_getD, List.getD_eq_getElem?_getD, hx, hval k _ x hk hx]
            simp
    · left
      refine ⟨derF_out hB hin, ?_⟩
      rcases cellF_desc ht hr hn ea with ⟨e3, _⟩ | ⟨_, _, _, _, _, hmt, _⟩
      · exact e3
      · exact absurd (hIn.2 hmt) hin

/-! ## sums -/
theorem fold_sg {N : Nat} {j : Nat} (d : Nat → Int × Int) (c : Nat → Int) (hj : j < N) (hd : ∀ i, 0 ≤ (d i).1 → (d i).1.toNat < N) : ∀ n : Nat, ((List.range n).foldl (fun out i => addC out ((d i).1, c i * (d i).2)) (List.replicate N 0)).length = N ∧ ((List.range n).foldl (fun out i => addC out ((d i).1, c i * (d i).2)) (List.replicate N 0)).getD j 0 = sg (fun i => if (d i).1 = (j : Int) then c i * (d i).2 else 0) n
  | 0 => by
    refine ⟨by simp, ?_⟩
    show (List.replicate N (0 : Int)).getD j 0 = 0
    simp [List.getD_eq_getElem?_getD, List.getElem?_replicate, hj]
  | n + 1 => by
    obtain ⟨h1, h2⟩ := fold_sg d c hj hd n
    rw [List.range_succ, List.foldl_append, List.foldl_cons, List.foldl_nil, addC_len, sg]
    refine ⟨h1, ?_⟩
    rw [addC_get (fun h0 => by rw [h1]; exact hd n h0) (by omega), h2]

theorem sg_rec {g : impl_Geo} {s : List impl_Variable} {t u : impl_Table} (ht : OkT g s t) (hu : OkT g s u) (hF : Fol g s t u) {j : Nat} (hj : j < num g s t) : ∀ l : List impl_Record, Cnt g s l → sg (fun i => if (derF g s t u i).1 = (j : Int) then (l.map (wtR g s u i)).sum * (derF g s t u i).2 else 0) (num g s u) = (l.map (wtR g s t j)).sum
  | [], _ => by
    rw [sg_congr (h := fun _ => 0) fun k _ => by simp, sg_zero]; rfl
  | r :: l, hU => by
    obtain ⟨hr, ha⟩ := hU r (by simp)
    rw [sg_congr (h := fun i => (if (derF g s t u i).1 = (j : Int) then wtR g s u i r * (derF g s t u i).2 else 0) + (if (derF g s t u i).1 = (j : Int) then (l.map (wtR g s u i)).sum * (derF g s t u i).2 else 0)) fun k _ => by
      simp only [List.map_cons, List.sum_cons]
      split
      · rw [Int.add_mul]
      · rfl, sg_add, sg_rec ht hu hF hj l fun x hx => hU x (by simp [hx]), List.map_cons, List.sum_cons]
    congr 1
    rcases rec_der ht hu hF hr ha with ⟨e1, e2⟩ | ⟨i, hi, e1, h⟩
    · rw [sg_congr (h := fun _ => 0) fun k _ => by unfold wtR; rw [e1, if_neg (show ¬ (-1 : Int) = (k : Int) by omega)]; simp, sg_zero]
      unfold wtR
      rw [e2, if_neg (by simp only; omega)]
    · rw [sg_one hi fun k _ hk => by unfold wtR; rw [e1, if_neg (show ¬ (i : Int) = (k : Int) by omega)]; simp]
      have hw : wtR g s u i r = (cellF g s u r).2 := by unfold wtR; rw [if_pos e1]
      rw [hw]
      unfold wtR
      rcases h with ⟨h1, h2⟩ | h
      · rw [h1, h2, if_neg (by simp only; omega), if_neg (by simp only; omega)]
      · rw [h]

theorem derive_tab {g : impl_Geo} {s : List impl_Variable} {t u : impl_Table} (ht : OkT g s t) (hu : OkT g s u) (hF : Fol g s t u) {l : List impl_Record} (hl : l.length ≤ 1000) (hU : Cnt g s l) : deriveF g s t u (tabF g s u l) = tabF g s t l := by
  have hIu := tabF_inv hu hl hU; have hIt := tabF_inv ht hl hU
  have hd : ∀ i, 0 ≤ (derF g s t u (i : Nat)).1 → i < num g s u → (derF g s t u i).1.toNat < num g s t := by
    intro i h0 hi
    obtain ⟨n, m, hB⟩ := base ht hu hF hi
    rcases (derF_ok ht hu hF hB).1 with h | ⟨j, h1, h2⟩
    · rw [h] at h0; simp at h0
    · omega
  let d : Nat → Int × Int := fun i => if i < num g s u then derF g s t u i else (-1, 0)
  have hd2 : ∀ i, 0 ≤ (d i).1 → (d i).1.toNat < num g s t := by
    intro i h0
    simp only [d] at h0 ⊢
    split at h0
    · rename_i hi; rw [if_pos hi]; exact hd i h0 hi
    · simp at h0
  have hfold : ∀ n, n ≤ num g s u → (List.range n).foldl (fun out i => addC out ((derF g s t u i).1, (tabF g s u l).getD i 0 * (derF g s t u i).2)) (List.replicate (num g s t) 0) = (List.range n).foldl (fun out i => addC out ((d i).1, (tabF g s u l).getD i 0 * (d i).2)) (List.replicate (num g s t) 0) := by
    intro n
    induction n with
    | zero => intro _; rfl
    | succ n ih =>
      intro hn
      rw [List.range_succ, List.foldl_append, List.foldl_append, ih (by omega)]
      simp only [List.foldl_cons, List.foldl_nil, d, if_pos (show n < num g s u by omega)]
  unfold deriveF
  rw [hIu.l, hfold _ (Nat.le_refl _)]
  have hlen := (fold_sg d (fun i => (tabF g s u l).getD i 0) ht.pos hd2 (num g s u)).1
  apply List.ext_getElem?
  intro j
  by_cases hj : j < num g s t
  · have h1 := (fold_sg d (fun i => (tabF g s u l).getD i 0) hj hd2 (num g s u)).2
    have h2 := tabF_get ht hU hj
    rw [sg_congr (h := fun i => if (derF g s t u i).1 = (j : Int) then (l.map (wtR g s u i)).sum * (derF g s t u i).2 else 0) fun k hk => by
      simp only [d, if_pos hk, tabF_get hu hU hk], sg_rec ht hu hF hj l hU, ← h2] at h1
    rw [List.getD_eq_getElem?_getD, List.getD_eq_getElem?_getD] at h1
    have e1 : j < ((List.range (num g s u)).foldl (fun out i => addC out ((d i).1, (tabF g s u l).getD i 0 * (d i).2)) (List.replicate (num g s t) 0)).length := by rw [hlen]; exact hj
    have e2 : j < (tabF g s t l).length := by rw [hIt.l]; exact hj
    rw [List.getElem?_eq_getElem e1, List.getElem?_eq_getElem e2] at h1 ⊢
    simp only [Option.getD_some] at h1
    rw [h1]
  · rw [List.getElem?_eq_none (by omega), List.getElem?_eq_none (by rw [hIt.l]; omega)]

/-! ## what is drawn -/
theorem tpick' {B : Nat} {c : spec_l1Cur} {k : Int} (h : Cur B c) (hB : B ≤ 4000000000000000000 := by omega) : Tot (spec_l1Cur_pick c k) fun r => 0 ≤ r.1 ∧ (1 ≤ k → r.1 < k) ∧ Cur (B + 2) r.2 := by
  unfold spec_l1Cur_pick
  refine tot_cond (fun h1 => tot_some ⟨by simp, fun h => by simp only; omega, h.le (by omega)⟩) fun h1 => ?_
  have h1' : ¬ k ≤ 1 := by simpa using h1
  refine tot_bind (tnext h) fun ⟨x, c1⟩ ⟨x0, x1, k1⟩ => ?_
  refine tot_bind (Q := fun r => 0 ≤ r.1 ∧ r.1 ≤ 65535 ∧ Cur (B + 2) r.2) (tot_cond (fun h2 => ?_) fun _ => tot_some ⟨x0, by simp only at x1 ⊢; omega, k1.le (by omega)⟩) fun ⟨y, c2⟩ ⟨y0, y1, k2⟩ => ?_
  · refine tot_bind (tnext k1) fun ⟨y, c2⟩ ⟨y0, y1, k2⟩ => tot_some ?_
    simp only at x0 x1 y0 y1 ⊢
    rw [wid (n := x * 256) (by omega) (by omega), wid (by omega) (by omega)]
    exact ⟨by omega, by omega, k2⟩
  · refine tot_bind (tot_rem (Q := fun z => 0 ≤ z ∧ z < k) (by omega) ⟨Int.tmod_nonneg _ y0, Int.tmod_lt_of_pos _ (by omega)⟩) fun z hz => tot_some ⟨hz.1, fun _ => hz.2, k2⟩

theorem tot_shl {x : Int} {R : Int → Prop} (h0 : 0 ≤ x) (hR : ∀ y, R y) : Tot (goShl .i64 1 x) R := by
  unfold goShl
  rw [decide_eq_false (show ¬ x < 0 by omega), cond_false]
  exact tot_some (hR _)

theorem wrap_nn (x : Int) : 0 ≤ IntKind.wrap .u64 x := by
  have : 0 ≤ IntKind.wrap .u64 x ∧ True := ⟨by unfold IntKind.wrap; simp [IntKind.signed, IntKind.bits]; omega, trivial⟩
  exact this.1

theorem tbelow {B : Nat} {c : spec_l1Cur} {g : impl_Geo} {s : List impl_Variable} {u : impl_Table} (h : Cur B c) (hs : SmallS 8 s) (hu : SmallT 9 u) (hB : B ≤ 100000 := by omega) : Tot (spec_l1Cur_below c g s u) fun r => SmallT 9 r.1 ∧ Cur (B + 80) r.2 := by
  have hV := hu.1; have hW := hu.2; have hsl := hs.l
  unfold spec_l1Cur_below spec_nOwn
  rw [own_eq (by omega), Option.bind_some, own_eq (by omega), Option.bind_some, Option.bind_some]
  refine tot_bind (tone h) fun ⟨y, c1⟩ k1 => ?_
  simp only at k1
  refine tot_bind (Q := fun r => SmallT 9 r.2 ∧ Cur (B + 4) r.1) (tot_cond (fun _ => tot_bind (tpick' k1) fun ⟨z, c2⟩ ⟨_, _, k2⟩ => tot_some ⟨⟨hV, hW⟩, k2.le (by omega)⟩) fun _ => tot_some ⟨⟨hV, hW⟩, k1.le (by omega)⟩) fun ⟨c2, t2⟩ ⟨ht2, k2⟩ => ?_
  simp only at ht2 k2
  dsimp only
  have hV2 := ht2.1; have hW2 := ht2.2
  refine tot_bind (Q := fun r => r.1.length ≤ 9 ∧ SmallT 9 r.2.2 ∧ Cur (B + 4 + 6 * 9) r.2.1) (tot_loop (fun z => ∃ k : Nat, z.2.1 = (k : Int) ∧ k ≤ t2.Vars.length ∧ z.1.length ≤ k ∧ SmallT 9 z.2.2.2 ∧ Cur (B + 4 + 6 * k) z.2.2.1) (fun z => t2.Vars.length - z.2.1.toNat) ⟨0, rfl, by omega, by simp, ht2, k2.le (by omega)⟩ ?_) fun ⟨vars, c3, t3⟩ ⟨hv3, ht3, k3⟩ => ?_
  · rintro ⟨vars, _, c3, t3⟩ ⟨k, rfl, hk, hvl, ht3, k3⟩
    simp only at hvl ht3 k3
    have hV3 := ht3.1; have hW3 := ht3.2
    simp only [spec_l1Cur_below_l1]
    refine tot_cond (fun hc => ?_) fun hc => tot_some ⟨by simp only; omega, ht3, k3.le (by omega)⟩
    have hkl : k < t2.Vars.length := by have : (k : Int) < (t2.Vars.length : Int) := by simpa [goLen] using hc
                                        omega
    have hv : t2.Vars[k]? = some t2.Vars[k] := by simp [hkl]
    generalize t2.Vars[k] = v at hv
    rw [at_ok hv, Option.bind_some]
    refine tot_bind (tone k3) fun ⟨y, c4⟩ k4 => ?_
    simp only at k4
    have hT : Tot ((cond (!y) ((goApp 8 vars ([v] : List Int)).bind fun l_61 => some (l_61, c4, t3)) ((((spec_l1Cur_one c4 2).bind fun t_39 => (cond t_39.1 ((spec_l1In v 0 (w64 ((goLen t3.Where) - 1))).bind fun t_41 => (cond t_41 ((spec_l1In v 0 (w64 ((goLen s) - 1))).bind fun t_42 => some (t_42, t_39.2)) (some (false, t_39.2)))) (some (false, t_39.2)))) : Option (Bool × spec_l1Cur)).bind fun (t_43, p_c_44) => (((cond t_43 ((goAt s v).bind fun e_46 => ((spec_l1Cur_pick p_c_44 e_46.Levels).bind fun t_49 => ((goShl .i64 1 (IntKind.wrap .u64 t_49.1)).bind fun t_51 => ((goAt t3.Where v).bind fun e_52 => some (t_49.2, (impl_Table.mk t3.Level t3.Vars (goSet t3.Where v t_51) t3.Sum)))))) (some (p_c_44, t3))) : Option (spec_l1Cur × impl_Table)).bind fun (p_c_55, t_57) => some (vars, p_c_55, t_57)))) : Option ((List Int) × spec_l1Cur × impl_Table)) fun r => r.1.length ≤ k + 1 ∧ SmallT 9 r.2.2 ∧ Cur (B + 4 + 6 * (k + 1)) r.2.1 := by
      refine tot_cond (fun _ => ?_) fun _ => ?_
      · rw [goApp_ok (by simp; omega), Option.bind_some]
        exact tot_some ⟨by simp; omega, ht3, k4.le (by omega)⟩
      · refine tot_bind (Q := fun r => (r.1 = true → (0 ≤ v ∧ v < s.length) ∧ v < t3.Where.length) ∧ Cur (B + 4 + 6 * k + 4) r.2) ?_ fun ⟨y5, c5⟩ ⟨h5, k5⟩ => ?_
        · refine tot_bind (tone k4) fun ⟨y5, c5⟩ k5 => ?_
          simp only at k5
          refine tot_cond (fun _ => ?_) fun _ => tot_some ⟨fun h => by simp at h, k5⟩
          simp only [goLen]
          rw [lIn_eq, wid (by omega) (by omega), Option.bind_some]
          refine tot_cond (fun h6 => ?_) fun _ => tot_some ⟨fun h => by simp at h, k5⟩
          have h6' := of_decide_eq_true h6
          rw [lIn_eq, wid (by omega) (by omega), Option.bind_some]
          exact tot_some ⟨fun h => by have := of_decide_eq_true h; omega, k5⟩
        · simp only at h5 k5
          refine tot_bind (Q := fun r => SmallT 9 r.2 ∧ Cur (B + 4 + 6 * (k + 1)) r.1) (tot_cond (fun hy5 => ?_) fun _ => tot_some ⟨ht3, k5.le (by omega)⟩) fun ⟨c6, t6⟩ ⟨h6, k6⟩ => tot_some ⟨by simp only; omega, h6, k6⟩
          obtain ⟨hv1, hv2⟩ := h5 hy5
          refine tot_bind (tot_at (Q := fun _ => True) hv1.1 hv1.2 fun _ _ _ => trivial) fun w _ => ?_
          refine tot_bind (tpick' k5) fun ⟨z, c6⟩ ⟨z0, _, k6⟩ => ?_
          refine tot_bind (tot_shl (R := fun _ => True) (wrap_nn _) fun _ => trivial) fun q _ => ?_
          refine tot_bind (tot_at (Q := fun _ => True) hv1.1 hv2 fun _ _ _ => trivial) fun _ _ => tot_some ⟨⟨hV3, ?_⟩, k6.le (by omega)⟩
          show (t3.Where.set _ _).length ≤ 9
          rw [List.length_set]; exact hW3
    refine tot_bind hT fun ⟨vars4, c4, t4⟩ ⟨h1, h2, h3⟩ => tot_some ⟨⟨k + 1, by simp only; rw [wid (by omega) (by omega)]; omega, by omega, h1, h2, h3⟩, by simp only; rw [wid (by omega) (by omega)]; omega⟩
  · simp only at hv3 ht3 k3
    dsimp only
    have hV3 := ht3.1; have hW3 := ht3.2
    refine tot_bind (Q := fun r => (r.1 = true → 0 < t3.Vars.length) ∧ Cur (B + 4 + 6 * 9 + 2) r.2) (tot_cond (fun h1 => tot_cond (fun _ => tot_bind (tone k3) fun ⟨y, c4⟩ k4 => tot_some ⟨fun _ => by simpa [goLen] using h1, k4⟩) fun _ => tot_some ⟨fun h => by simp at h, k3.le (by omega)⟩) fun _ => tot_some ⟨fun h => by simp at h, k3.le (by omega)⟩) fun ⟨y, c4⟩ ⟨h4, k4⟩ => ?_
    simp only at h4 k4
    refine tot_bind (Q := fun r => r.Where.length ≤ 9) (tot_cond (fun hy => tot_bind (tot_at (Q := fun _ => True) (by omega) (by have := h4 hy; omega) fun _ _ _ => trivial) fun _ _ => tot_some hW3) fun _ => tot_some hW3) fun t5 h5 => tot_some ⟨⟨hv3, h5⟩, k4.le (by omega)⟩

theorem tDrawFollowsFrom {code : List (K .u8)} (ho : ∀ x ∈ code, Rng.ok x) : ∃ (g : impl_Geo) (s : List impl_Variable) (l : List impl_Record) (t u : impl_Table) (c : spec_l1Cur), spec_l1Cur_anySurvey ⟨code, 0, ⟨0⟩⟩ = some (g, s, l, c) ∧ spec_DrawFollowsFrom code = some (g, s, t, u) ∧ SmallS 8 s ∧ SmallD l ∧ SmallT 9 t ∧ SmallT 9 u := by
  unfold spec_DrawFollowsFrom
  obtain ⟨⟨g, s, l, c1⟩, e1, hs, hl, k1⟩ := tanySurvey (cur0 ho)
  rw [e1, Option.bind_some]
  simp only at hs hl k1
  have : Tot ((spec_l1Cur_anyTable c1 g s).bind fun t_14 => ((spec_l1Cur_one t_14.2 3).bind fun t_20 => (cond t_20.1 ((spec_l1Cur_anyTable t_20.2 g s).bind fun t_38 => some (g, s, t_38.1, t_14.1)) ((spec_l1Cur_below t_20.2 g s t_14.1).bind fun t_28 => some (g, s, t_28.1, t_14.1))))) fun r => r.1 = g ∧ r.2.1 = s ∧ SmallT 9 r.2.2.1 ∧ SmallT 9 r.2.2.2 := by
    refine tot_bind (tanyTable k1 hs) fun ⟨u, c2⟩ ⟨hu, k2⟩ => ?_
    simp only at hu k2
    refine tot_bind (tone k2) fun ⟨y, c3⟩ k3 => ?_
    simp only at k3
    refine tot_cond (fun _ => tot_bind (tanyTable k3 hs) fun ⟨t, c4⟩ ⟨ht, _⟩ => tot_some ⟨rfl, rfl, ht, hu⟩) fun _ => tot_bind (tbelow k3 hs hu) fun ⟨t, c4⟩ ⟨ht, _⟩ => tot_some ⟨rfl, rfl, ht, hu⟩
  obtain ⟨⟨g', s', t, u⟩, e2, rfl, rfl, ht, hu⟩ := this
  exact ⟨g', s', l, t, u, c1, rfl, e2, hs, hl, ht, hu⟩

theorem tDrawReportText {code : List (K .u8)} (ho : ∀ x ∈ code, Rng.ok x) : Tot (spec_DrawReportText code) fun r => SmallS 8 r.2.1 ∧ SmallT 9 r.2.2.1 ∧ r.2.2.2.length ≤ 700 := by
  unfold spec_DrawReportText
  refine tot_bind (tanySurvey (cur0 ho)) fun ⟨g, s, l, c1⟩ ⟨hs, hl, k1⟩ => ?_
  simp only at hs hl k1
  refine tot_bind (tanyTable k1 hs) fun ⟨t, c2⟩ ⟨ht, k2⟩ => ?_
  simp only at ht k2
  have hV := ht.1
  obtain ⟨b1, e1, h1⟩ := uGood_bis (g := g) (s := s) (t := t) hs.tame (by omega)
  rw [e1, Option.bind_some]
  cases hb : b1 with
  | false => exact tot_some ⟨hs, ht, by simp⟩
  | true =>
    have hT := h1.1 hb
    obtain ⟨b2, e2, h2⟩ := uSurvey_bis (l := l) hT.geo hT.sch hs.tame hl.tame
    rw [Bool.not_true, cond_false, e2, Option.bind_some]
    cases hb2 : b2 with
    | false => exact tot_some ⟨hs, ht, by simp⟩
    | true =>
      have hU := h2.1 hb2
      have hn := hT.top
      have hI := (tabF_inv hT (by have := hU.1.1; omega) hU.cnt).l
      simp only [Bool.not_true, Option.bind_some, cond_false]
      rw [uTable_eq hT (by have := hU.1.1; omega) hU.cnt, Option.bind_some]
      refine tot_bind (tpick k2) fun ⟨x, c3⟩ ⟨_, _, _, k3⟩ => ?_
      simp only at k3
      refine tot_bind (Q := fun r => r.length ≤ 700) (tot_cond (fun _ => ?_) fun _ => tot_bind (Q := fun r => r.length ≤ 700) (tot_cond (fun _ => ?_) fun _ => tot_some (by omega)) fun _ h => tot_some h) fun cells hc => tot_some ⟨hs, ht, hc⟩
      · rw [goApp_ok (by simp; omega), Option.bind_some]
        exact tot_some (by simp; omega)
      · have hp := hT.pos
        refine tot_bind (tpick k3 (hk := by simp only [goLen]; omega)) fun ⟨y, c4⟩ ⟨y0, y1, _, k4⟩ => ?_
        have hy := y1 (by simp only [goLen]; omega)
        simp only [goLen] at y0 hy k4
        refine tot_bind (tamong k4) fun ⟨z, c5⟩ _ => ?_
        refine tot_bind (tot_at (Q := fun _ => True) y0 hy fun _ _ _ => trivial) fun _ _ => tot_some ?_
        show ((tabF g s t l).set _ _).length ≤ 700
        rw [List.length_set]; omega

theorem tDrawDeriveCells {code : List (K .u8)} (ho : ∀ x ∈ code, Rng.ok x) : Tot (spec_DrawDeriveCells code) fun r => SmallS 8 r.2.1 ∧ SmallT 9 r.2.2.1 ∧ SmallT 9 r.2.2.2.1 ∧ r.2.2.2.2.length ≤ 700 := by
  unfold spec_DrawDeriveCells
  refine tot_bind (tDrawReportText ho) fun ⟨g, s, u, cells⟩ ⟨hs, hu, hc⟩ => ?_
  simp only at hs hu hc
  exact tot_bind (tbelow (cur0 ho) hs hu) fun ⟨t, c⟩ ⟨ht, _⟩ => tot_some ⟨hs, ht, hu, hc⟩

/-! ## the law -/
theorem isTable_eq {g : impl_Geo} {s : List impl_Variable} {t u : impl_Table} (hs : TameS s) (ht : OkT g s t) : impl_isTable g s u = impl_areTabled g s u := by
  unfold impl_areTabled
  obtain ⟨b, e, h⟩ := IsSchema_bis hs
  rw [impl_IsGeo_eq, ht.geo, Option.bind_some, cond_true, e, h.2 ht.sch, Option.bind_some, cond_true]
  cases impl_isTable g s u <;> rfl

theorem Follows_same {g : impl_Geo} {s : List impl_Variable} {t u : impl_Table} (hs : TameS s) (hVt : t.Vars.length ≤ 1000000) (hVu : u.Vars.length ≤ 1000000) :
    (impl_FollowsFrom g s t u = some (false, false) ∧ spec_FollowsFrom g s t u = some (false, false)) ∨
    (OkT g s t ∧ OkT g s u ∧ ∃ b : Bool, impl_FollowsFrom g s t u = some (b, true) ∧ spec_FollowsFrom g s t u = some (b, true) ∧ (b = true ↔ Fol g s t u)) := by
  obtain ⟨b1, f1, f1', g1⟩ := tables (g := g) (s := s) (t := t) hs hVt
  obtain ⟨b2, f2, f2', g2⟩ := tables (g := g) (s := s) (t := u) hs hVu
  unfold impl_FollowsFrom spec_FollowsFrom
  rw [f1, f1', f2']
  cases b1 with
  | false => exact .inl ⟨rfl, rfl⟩
  | true =>
    have hT := g1.1 rfl
    rw [isTable_eq (u := u) hs hT, f2]
    cases b2 with
    | false => exact .inl ⟨rfl, rfl⟩
    | true =>
      have hU := g2.1 rfl
      obtain ⟨b, e1, e2, hb⟩ := follows hT hU
      refine .inr ⟨hT, hU, b, ?_, ?_, hb⟩
      · simp only [Option.bind_some, Bool.not_true, cond_false]; rw [e1]; rfl
      · simp only [Option.bind_some, Bool.not_true, cond_false]; rw [e2]; rfl

theorem small_bis {l : List Int} {n : Int} (hl : l.length ≤ 1000000) : Bis (impl_areSmallIntegers l n) ((l.length : Int) = n ∧ ∀ v ∈ l, -1000000 ≤ v ∧ v ≤ 1000000) := by
  unfold impl_areSmallIntegers
  simp only [goLen]
  by_cases h : (l.length : Int) = n
  · rw [show ((l.length : Int) != n) = false by simpa using h, cond_false]
    refine bis_iff (bis_loop (l := l) (fun _ v => -1000000 ≤ v ∧ v ≤ 1000000) (fun k v hv => ⟨decide (-1000000 ≤ v ∧ v ≤ 1000000), by simp, ?_⟩) (by simp only [impl_areSmallIntegers_l1, lt_end, cond_false])) (by rw [all_mem_iff]; simp [h])
    simp only [impl_areSmallIntegers_l1, lt_ok hv, at_ok hv, cond_true, Option.bind_some, nx_ok hv (show l.length ≤ 9223372036854775807 by omega)]
    by_cases h1 : v < -1000000
    · rw [decide_eq_true h1, decide_eq_false (show ¬ (-1000000 ≤ v ∧ v ≤ 1000000) by omega)]; rfl
    · rw [decide_eq_false h1]
      by_cases h2 : 1000000 < v
      · rw [decide_eq_true h2, decide_eq_false (show ¬ (-1000000 ≤ v ∧ v ≤ 1000000) by omega)]; rfl
      · rw [decide_eq_false h2, decide_eq_true (show -1000000 ≤ v ∧ v ≤ 1000000 by omega)]; rfl
  · rw [show ((l.length : Int) != n) = true by simpa using h]
    exact ⟨false, rfl, by simp [h]⟩

theorem Derive_same {g : impl_Geo} {s : List impl_Variable} {t u : impl_Table} {cells : List Int} (hs : TameS s) (hVt : t.Vars.length ≤ 1000000) (hVu : u.Vars.length ≤ 1000000) (hc : cells.length ≤ 1000000) :
    (impl_DeriveCells g s t u cells = some ([], false) ∧ spec_DeriveCells g s t u cells = some ([], false) ∧ ¬ (OkT g s t ∧ OkT g s u ∧ Fol g s t u ∧ (cells.length = num g s u ∧ ∀ v ∈ cells, -1000000 ≤ v ∧ v ≤ 1000000))) ∨
    ((deriveF g s t u cells).length ≤ 600 ∧ impl_DeriveCells g s t u cells = some (deriveF g s t u cells, true) ∧ spec_DeriveCells g s t u cells = some (deriveF g s t u cells, true)) := by
  obtain ⟨b1, f1, f1', g1⟩ := tables (g := g) (s := s) (t := t) hs hVt
  obtain ⟨b2, f2, f2', g2⟩ := tables (g := g) (s := s) (t := u) hs hVu
  unfold impl_DeriveCells spec_DeriveCells spec_nCells
  rw [f1, f1', f2']
  cases b1 with
  | false => exact .inl ⟨rfl, rfl, fun h => by have := g1.2 h.1; cases this⟩
  | true =>
    have hT := g1.1 rfl
    rw [isTable_eq (u := u) hs hT, f2]
    cases b2 with
    | false => exact .inl ⟨rfl, rfl, fun h => by have := g2.2 h.2.1; cases this⟩
    | true =>
      have hU := g2.1 rfl
      have hn := hT.top
      obtain ⟨b3, e3, h3⟩ := small_bis (l := cells) (n := (num g s u : Int)) hc
      have e4 : ((cond ((cells.length : Int) == (num g s u : Int)) ((spec_l1All cells (-1000000) 1000000).bind fun t_10 => some t_10) (some false)) : Option Bool) = some b3 := by
        obtain ⟨b4, e4, h4⟩ := lAll_bis (l := cells) (lo := -1000000) (hi := 1000000) (by omega)
        rw [e4]
        by_cases hl : (cells.length : Int) = (num g s u : Int)
        · rw [show ((cells.length : Int) == (num g s u : Int)) = true by simpa using hl]
          simp only [cond_true, Option.bind_some]
          congr 1
          rw [Bool.eq_iff_iff, h4, h3]
          simp [hl]
        · rw [show ((cells.length : Int) == (num g s u : Int)) = false by simpa using hl]
          cases b3 with
          | false => rfl
          | true => exact absurd (h3.1 rfl).1 hl
      simp only [Option.bind_some, Bool.not_true, cond_false, cond_true, hU.count, hU.count', goLen]
      rw [e3, e4]
      cases b3 with
      | false => exact .inl ⟨rfl, rfl, fun h => by have := h3.2 ⟨by omega, h.2.2.2.2⟩; cases this⟩
      | true =>
        obtain ⟨hl, hcc⟩ := h3.1 rfl
        obtain ⟨b5, e5, e6, h5⟩ := follows hT hU
        simp only [Option.bind_some, Bool.not_true, cond_false, cond_true]
        rw [e5, e6]
        cases b5 with
        | false => exact .inl ⟨rfl, rfl, fun h => by have := h5.2 h.2.2.1; cases this⟩
        | true =>
          have hF := h5.1 rfl
          have hd := deriveCells_eq hT hU hF (cells := cells) (by omega) hcc
          have hd2 := specDerive_eq hs hT hU hF (cells := cells) (by omega) hcc
          refine .inr ⟨by rw [hd.2]; exact hn, ?_, ?_⟩
          · simp only [Option.bind_some, Bool.not_true, cond_false]
            rw [hT.count, Option.bind_some, goMake_ok (by omega) (by omega), Option.bind_some, hd.1]
            rfl
          · simp only [Option.bind_some, Bool.not_true, cond_false]
            rw [hT.count', Option.bind_some, goMake_ok (by omega) (by omega), Option.bind_some, gLevel_eq hT.go, Option.bind_some, hT.cross', Option.bind_some, hd2]
            rfl

theorem sameInts_same {l : List Int} (h : l.length ≤ 1048576) : laws_sameInts l l = some true := by
  unfold laws_sameInts
  rw [bne_self_eq_false, cond_false]
  have h := loop_all (l := l) (fun _ => true) (laws_sameInts_l1 l l) (fun k x hx => by
    simp only [laws_sameInts_l1, lt_ok hx, cond_true, at_ok hx, Option.bind_some, bne_self_eq_false, cond_false, nx_ok hx (by omega), if_true]) (fun _ => by simp only [laws_sameInts_l1, lt_end, cond_false])
  rw [h]; simp

theorem IsSurvey_same {g : impl_Geo} {s : List impl_Variable} {l : List impl_Record} (hs : TameS s) (hl : TameD l) : ∃ r : Bool × Bool, impl_IsSurvey g s l = some r ∧ spec_IsSurvey g s l = some r := by
  unfold impl_IsSurvey spec_IsSurvey
  rw [impl_IsGeo_eq, spec_gGood_eq]
  obtain ⟨b1, f1, f1', g1⟩ := schemas hs
  rw [f1, f1']
  cases hg : gok g.Parents with
  | false => exact ⟨_, rfl, rfl⟩
  | true =>
    cases b1 with
    | false => exact ⟨_, rfl, rfl⟩
    | true =>
      have hsch := g1.1 rfl
      simp only [Option.bind_some, Bool.not_true, cond_false]
      obtain ⟨b2, f2, f2', _⟩ := bis_same (isSurvey_bis (g := g) (s := s) (l := l) (by have := (gok_ok hg).l2; omega) hl) (uSurvey_bis hg hsch hs hl)
      rw [f2, f2']
      exact ⟨_, rfl, rfl⟩

theorem laws_FnFollows_true (a b : List (K .u8)) (o1 : Rng.ok a) (o2 : Rng.ok b) : laws_FnFollows a b = some true := by
  refine tot_eq ?_
  unfold laws_FnFollows
  have hbig : ∃ z : Bool, laws_big a b = some z := by
    unfold laws_big
    by_cases h : 1048576 < goLen a
    · exact ⟨true, by rw [decide_eq_true h]; rfl⟩
    · exact ⟨_, by rw [decide_eq_false h]; rfl⟩
  obtain ⟨z, ez⟩ := hbig
  rw [ez, Option.bind_some]
  refine tot_cond (fun _ => tot_some rfl) fun _ => ?_
  obtain ⟨g, s, l, t, u, c, e1, e2, hs, hl, ht, hu⟩ := tDrawFollowsFrom o1.2
  have hVt := ht.1; have hVu := hu.1
  rw [e2, Option.bind_some]
  simp only
  have htail : ∀ {R : Bool → Prop}, R true → Tot ((impl_IsSurvey g s l).bind fun t_42 => ((spec_IsSurvey g s l).bind fun t_44 => (((cond (t_42.2 != t_44.2) (some true) (some (t_42.1 != t_44.1))) : Option (Bool)).bind fun t_46 => (cond t_46 (some false) ((spec_DrawDeriveCells b).bind fun t_47 => ((impl_DeriveCells t_47.1 t_47.2.1 t_47.2.2.1 t_47.2.2.2.1 t_47.2.2.2.2).bind fun t_59 => ((spec_DeriveCells t_47.1 t_47.2.1 t_47.2.2.1 t_47.2.2.2.1 t_47.2.2.2.2).bind fun t_63 => (((cond (t_59.2 == t_63.2) ((laws_sameInts t_59.1 t_63.1).bind fun t_67 => some t_67) (some false)) : Option (Bool)).bind fun t_69 => some t_69)))))))) R := by
    intro R hR
    obtain ⟨r, f1, f2⟩ := IsSurvey_same (g := g) hs.tame hl.tame
    rw [f1, f2, Option.bind_some, Option.bind_some, bne_self_eq_false, bne_self_eq_false]
    simp only [cond_false, Option.bind_some]
    refine tot_bind (tDrawDeriveCells o2.2) fun ⟨g2, s2, t2, u2, cells⟩ ⟨hs2, ht2, hu2, hc2⟩ => ?_
    simp only at hs2 ht2 hu2 hc2
    have hV2 := ht2.1; have hV3 := hu2.1
    simp only
    rcases Derive_same (g := g2) (cells := cells) hs2.tame (show t2.Vars.length ≤ 1000000 by omega) (show u2.Vars.length ≤ 1000000 by omega) (by omega) with ⟨q1, q2, _⟩ | ⟨q0, q1, q2⟩
    · rw [q1, q2, Option.bind_some, Option.bind_some, beq_self_eq_true, cond_true, sameInts_same (by simp)]
      exact tot_some hR
    · rw [q1, q2, Option.bind_some, Option.bind_some, beq_self_eq_true, cond_true]
      simp only
      rw [sameInts_same (by omega)]
      exact tot_some hR
  have hds : spec_DrawIsSurvey a = some (g, s, l) := by
    unfold spec_DrawIsSurvey
    rw [e1]; rfl
  rcases Follows_same (g := g) (s := s) (t := t) (u := u) hs.tame (by omega) (by omega) with ⟨q1, q2⟩ | ⟨hT, hU, bf, q1, q2, hbf⟩
  · rw [q1, q2, Option.bind_some, Option.bind_some]
    simp only [bne_self_eq_false, cond_false, Option.bind_some]
    rw [hds, Option.bind_some]
    simp only
    rcases specTable (g := g) (s := s) (t := u) (l := l) hs.tame (by omega) hl.tame with ⟨p1, _⟩ | ⟨_, _, p1⟩ <;> rcases specTable (g := g) (s := s) (t := t) (l := l) hs.tame (by omega) hl.tame with ⟨p2, _⟩ | ⟨_, _, p2⟩ <;> (rw [p1, p2, Option.bind_some, Option.bind_some]; exact htail rfl)
  · rw [q1, q2, Option.bind_some, Option.bind_some]
    simp only [bne_self_eq_false, cond_false, Option.bind_some, cond_true]
    rw [hds, Option.bind_some]
    simp only
    have hskip : ∀ (x y : List Int × Bool), (cond bf (cond x.2 (some y.2) (some false)) (some false) : Option Bool) = some false → spec_TableOf g s u l = some x → spec_TableOf g s t l = some y → True := fun _ _ _ _ _ => trivial
    rcases specTable (g := g) (s := s) (t := u) (l := l) hs.tame (by omega) hl.tame with ⟨p1, _⟩ | ⟨_, hsv, p1⟩
    · rcases specTable (g := g) (s := s) (t := t) (l := l) hs.tame (by omega) hl.tame with ⟨p2, _⟩ | ⟨_, _, p2⟩ <;> (rw [p1, p2, Option.bind_some, Option.bind_some]; simp only [cond_false]; cases bf <;> (simp only [cond_false, cond_true, Option.bind_some]; exact htail rfl))
    · rcases specTable (g := g) (s := s) (t := t) (l := l) hs.tame (by omega) hl.tame with ⟨p2, _⟩ | ⟨_, _, p2⟩
      · rw [p1, p2, Option.bind_some, Option.bind_some]
        cases bf <;> (simp only [cond_false, cond_true, Option.bind_some]; exact htail rfl)
      · rw [p1, p2, Option.bind_some, Option.bind_some]
        cases hb : bf with
        | false => simp only [cond_false, cond_true, Option.bind_some]; exact htail rfl
        | true =>
          have hF := hbf.1 hb
          simp only [cond_true, Option.bind_some]
          have hll := hsv.1.1
          have hIu := tabF_inv hU (show l.length ≤ 1000 by omega) hsv.cnt
          have hIt := tabF_inv hT (show l.length ≤ 1000 by omega) hsv.cnt
          have hIl := hIu.l; have hIlt := hIt.l
          have hn := hU.top; have hn2 := hT.top
          rcases Derive_same (g := g) (s := s) (t := t) (u := u) (cells := tabF g s u l) hs.tame (by omega) (by omega) (by omega) with ⟨_, _, h⟩ | ⟨_, w1, _⟩
          · exact absurd ⟨hT, hU, hF, hIl, fun v hv => by have := hIu.b v hv; omega⟩ h
          · rw [w1, Option.bind_some, derive_tab hT hU hF (by omega) hsv.cnt]
            simp only [Bool.not_true, cond_false]
            rw [sameInts_same (by omega)]
            simp only [Option.bind_some, Bool.not_true, cond_false]
            exact htail rfl

end Go.Gx.F
