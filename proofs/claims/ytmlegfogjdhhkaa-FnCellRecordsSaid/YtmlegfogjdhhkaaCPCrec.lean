/- Plain laws: FnCellRecords. -/
import Derived.Test.YtmlegfogjdhhkaaCPDt
namespace Go.Gx.F
open Go.Gx
set_option linter.all false

def SmallL (l : List Int) : Prop := ∀ v ∈ l, -1000000 ≤ v ∧ v ≤ 1000000
def addL (a b : List Int) : List Int := List.zipWith (fun x y => x + y) a b

theorem addL_len {a b : List Int} (h : a.length = b.length) : (addL a b).length = a.length := by simp [addL, h]
theorem addL_get {a b : List Int} {k : Nat} {x y : Int} (hx : a[k]? = some x) (hy : b[k]? = some y) : (addL a b)[k]? = some (x + y) := by simp [addL, List.getElem?_zipWith, hx, hy]

theorem add_loop {a b : List Int} (h : a.length = b.length) (hl : a.length ≤ 1000000) (ha : SmallL a) (hb : SmallL b) {body : List Int × Int → Option (Stp (List Int × Int) (List Int))}
    (hbody : ∀ out t, body (out, t) = (cond (decide (t < (goLen b))) ((goAt b t).bind fun e_12 => ((goAt out t).bind fun e_14 => ((goAt out t).bind fun e_16 => some (.next (goSet out t (w64 (e_14 + e_12)), (w64 (t + 1))))))) (some (.done out)))) : loopC body (a, 0) = some (addL a b) := by
  suffices hh : ∀ (j k : Nat), k + j = b.length → loopC body ((addL a b).take k ++ a.drop k, (k : Int)) = some (addL a b) by
    have := hh b.length 0 (by omega)
    simpa using this
  intro j
  induction j with
  | zero =>
    intro k hk
    obtain rfl : k = b.length := by omega
    rw [loopC_eq, hbody]
    simp only [lt_end, cond_false]
    rw [List.take_of_length_le (by rw [addL_len h]; omega), List.drop_of_length_le (by omega), List.append_nil]
  | succ j ih =>
    intro k hk
    have hy : b[k]? = some (b[k]'(by omega)) := by simp [show k < b.length by omega]
    have hx : a[k]? = some (a[k]'(by omega)) := by simp [show k < a.length by omega]
    generalize b[k]'(by omega) = y at hy
    generalize a[k]'(by omega) = x at hx
    have h1 := ha x (List.mem_of_getElem? hx)
    have h2 := hb y (List.mem_of_getElem? hy)
    have htl : ((addL a b).take k).length = k := by rw [List.length_take, addL_len h]; omega
    have hz : ((addL a b).take k ++ a.drop k)[k]? = some x := by
      rw [List.getElem?_append_right (by omega), htl, Nat.sub_self, List.getElem?_drop, Nat.add_zero, hx]
    rw [loopC_eq, hbody]
    simp only [lt_ok hy, at_ok hy, at_ok hz, cond_true, Option.bind_some, nx_ok hy (show b.length ≤ 9223372036854775807 by omega)]
    rw [wid (by omega) (by omega)]
    have e : goSet ((addL a b).take k ++ a.drop k) (k : Int) (x + y) = (addL a b).take (k + 1) ++ a.drop (k + 1) := by
      show ((addL a b).take k ++ a.drop k).set k (x + y) = _
      rw [List.set_append_right _ _ (by omega), htl, Nat.sub_self, drop_cons hx, List.take_add_one, addL_get hx hy]
      simp
    rw [e]
    exact ih (k + 1) (by omega)

theorem areSmall_bis {l : List Int} {n : Int} (hl : l.length ≤ 1000000) : Bis (impl_areSmallIntegers l n) ((l.length : Int) = n ∧ SmallL l) := by
  unfold impl_areSmallIntegers
  by_cases h : (l.length : Int) = n
  · rw [show (goLen l != n) = false by simp [goLen, h], cond_false]
    refine bis_iff (bis_loop (l := l) (fun _ v => -1000000 ≤ v ∧ v ≤ 1000000) (fun k x hx => ⟨decide (-1000000 ≤ x ∧ x ≤ 1000000), by simp, ?_⟩) (by simp only [impl_areSmallIntegers_l1, lt_end, cond_false])) (by rw [all_mem_iff]; simp [h, SmallL])
    simp only [impl_areSmallIntegers_l1, lt_ok hx, at_ok hx, cond_true, Option.bind_some, nx_ok hx (show l.length ≤ 9223372036854775807 by omega)]
    by_cases h1 : x < -1000000
    · rw [decide_eq_true h1, decide_eq_false (show ¬ (-1000000 ≤ x ∧ x ≤ 1000000) by omega)]; rfl
    · by_cases h2 : 1000000 < x
      · rw [decide_eq_false h1, decide_eq_true h2, decide_eq_false (show ¬ (-1000000 ≤ x ∧ x ≤ 1000000) by omega)]; rfl
      · rw [decide_eq_false h1, decide_eq_false h2, decide_eq_true (show (-1000000 ≤ x ∧ x ≤ 1000000) by omega)]; rfl
  · rw [show (goLen l != n) = true by simp [goLen, h]]
    exact ⟨false, rfl, by simp [h]⟩

structure OkA (a b : List Int) : Prop where
  l : a.length = b.length
  n : a.length ≤ 600
  a : SmallL a
  b : SmallL b

theorem AddCells_same {a b : List Int} (ha : a.length ≤ 1000000) (hb : b.length ≤ 1000000) :
    (¬ OkA a b ∧ impl_AddCells a b = some ([], false) ∧ spec_AddCells a b = some ([], false)) ∨ (OkA a b ∧ impl_AddCells a b = some (addL a b, true) ∧ spec_AddCells a b = some (addL a b, true)) := by
  obtain ⟨b1, e1, h1⟩ := areSmall_bis (l := a) (n := goLen a) ha
  obtain ⟨b2, e2, h2⟩ := areSmall_bis (l := b) (n := goLen a) hb
  obtain ⟨b3, e3, h3⟩ := lAll_bis (l := a) (lo := -1000000) (hi := 1000000) (by omega)
  obtain ⟨b4, e4, h4⟩ := lAll_bis (l := b) (lo := -1000000) (hi := 1000000) (by omega)
  unfold impl_AddCells spec_AddCells
  rw [e1, e2, e3, e4]
  simp only [goLen] at h1 h2 ⊢
  by_cases hC : OkA a b
  · obtain ⟨c1, c2, c3, c4⟩ := hC
    rw [h1.2 ⟨trivial, c3⟩, h2.2 ⟨by omega, c4⟩, h3.2 c3, h4.2 c4, decide_eq_false (show ¬ (600 : Int) < a.length by omega), show ((a.length : Int) != (b.length : Int)) = false by simp; omega]
    simp only [cond_false, Option.bind_some, Bool.not_true]
    rw [clone_eq ha, own_eq ha, Option.bind_some, Option.bind_some, add_loop c1 ha c3 c4 fun _ _ => rfl, add_loop c1 ha c3 c4 fun _ _ => rfl]
    exact .inr ⟨⟨c1, c2, c3, c4⟩, rfl, rfl⟩
  · refine .inl ⟨hC, ?_, ?_⟩
    · by_cases g1 : (600 : Int) < a.length
      · rw [decide_eq_true g1]; rfl
      · rw [decide_eq_false g1]
        cases b1 with
        | false => rfl
        | true =>
          cases b2 with
          | false => rfl
          | true => exact absurd ⟨by have := (h2.1 rfl).1; omega, by omega, (h1.1 rfl).2, (h2.1 rfl).2⟩ hC
    · by_cases g0 : (a.length : Int) = b.length
      · rw [show ((a.length : Int) != (b.length : Int)) = false by simpa using g0]
        by_cases g1 : (600 : Int) < a.length
        · rw [decide_eq_true g1]; rfl
        · rw [decide_eq_false g1]
          cases b3 with
          | false => rfl
          | true =>
            cases b4 with
            | false => rfl
            | true => exact absurd ⟨by omega, by omega, h3.1 rfl, h4.1 rfl⟩ hC
      · rw [show ((a.length : Int) != (b.length : Int)) = true by simpa using g0]; rfl

theorem tDrawAddCells {code : List (K .u8)} (ho : ∀ x ∈ code, Rng.ok x) : Tot (spec_DrawAddCells code) fun r => r.1.length ≤ 1000 ∧ r.2.length ≤ 1000 := by
  unfold spec_DrawAddCells
  refine tot_bind (tpick (cur0 ho)) fun ⟨x, c1⟩ ⟨x0, x1, _, k1⟩ => ?_
  have hx := x1 (by omega)
  simp only at x0 hx k1
  obtain ⟨i, hi⟩ := Int.eq_ofNat_of_zero_le x0
  refine tot_bind (Q := fun r => r.1.length ≤ 10 ∧ r.2.1.length ≤ 10 ∧ Cur 30 r.2.2) (tot_loop (fun t => ∃ k j : Nat, t.2.2.1 = (k : Int) ∧ k + j = 5 ∧ t.1.length ≤ j ∧ t.2.1.length ≤ j ∧ Cur (2 + 4 * j) t.2.2.2) (fun t => t.2.2.1.toNat) ⟨i, 5 - i, hi, by omega, by simp, by simp, k1.le (by omega)⟩ ?_) fun ⟨a, b, c2⟩ ⟨ha, hb, k2⟩ => ?_
  · rintro ⟨a, b, _, c3⟩ ⟨k, j, rfl, hk, ha, hb, kc⟩
    simp only at ha hb kc
    simp only [spec_DrawAddCells_l1]
    refine tot_cond (fun hc => ?_) fun hc => tot_some ⟨by simp only; omega, by simp only; omega, kc.le (by omega)⟩
    have hc' : 0 < (k : Int) := by simpa using hc
    refine tot_bind (tpick kc) fun ⟨y, c4⟩ ⟨_, _, _, k4⟩ => ?_
    rw [goApp_ok (by simp; omega), Option.bind_some]
    refine tot_bind (tpick k4) fun ⟨z, c5⟩ ⟨_, _, _, k5⟩ => ?_
    rw [goApp_ok (by simp; omega), Option.bind_some]
    exact tot_some ⟨⟨k - 1, j + 1, by simp only; rw [wid (by omega) (by omega)]; omega, by omega, by simp; omega, by simp; omega, k5.le (by omega)⟩, by simp only; rw [wid (by omega) (by omega)]; omega⟩
  · simp only at ha hb k2
    dsimp only
    have ret : ∀ {x : Option (List Int × List Int)}, Tot x (fun r => r.1.length ≤ 1000 ∧ r.2.length ≤ 1000) → Tot (x.bind fun (p, t) => some (p, t)) (fun r => r.1.length ≤ 1000 ∧ r.2.length ≤ 1000) := fun hx => tot_bind hx fun z hz => tot_some hz
    refine tot_bind (tpick k2) fun ⟨y, c3⟩ ⟨_, _, _, k3⟩ => ret (tot_cond (fun _ => ?_) fun _ => ret (tot_cond (fun _ => ?_) fun _ => ret (tot_cond (fun _ => ?_) fun _ => tot_some ⟨by simp only; omega, by simp only; omega⟩)))
    · refine tot_bind (tamong k3) fun ⟨z, c4⟩ _ => ?_
      rw [goApp_ok (by simp; omega), Option.bind_some, goApp_ok (by simp; omega), Option.bind_some]
      exact tot_some ⟨by simp; omega, by simp; omega⟩
    · rw [goApp_ok (by simp; omega), Option.bind_some]
      exact tot_some ⟨by simp only; omega, by simp; omega⟩
    · refine tot_bind (tpick k3) fun ⟨z, c4⟩ ⟨z0, z1, _, _⟩ => ?_
      have hz := z1 (by omega)
      simp only at z0 hz
      obtain ⟨n, rfl⟩ := Int.eq_ofNat_of_zero_le z0
      simp only
      rw [show w64 (600 + (n : Int)) = ((600 + n : Nat) : Int) from (wid (by omega) (by omega)).trans (by omega), goMake_ok (by omega) (by omega), Option.bind_some]
      simp only [goLen, List.length_replicate]
      rw [goMake_ok (by omega) (by omega), Option.bind_some]
      exact tot_some ⟨by simp; omega, by simp; omega⟩

theorem halves {g : impl_Geo} {s : List impl_Variable} {t : impl_Table} {l : List impl_Record} (hT : OkT g s t) (hU : OkU g s l) (h : Nat) : OkA (tabF g s t (l.take h)) (tabF g s t (l.drop h)) ∧ addL (tabF g s t (l.take h)) (tabF g s t (l.drop h)) = tabF g s t l := by
  have hn := hT.top
  have hl := hU.1.1
  have hc := hU.cnt
  have hc1 : Cnt g s (l.take h) := fun r hr => hc r (List.mem_of_mem_take hr)
  have hc2 : Cnt g s (l.drop h) := fun r hr => hc r (List.mem_of_mem_drop hr)
  have l1 : (l.take h).length ≤ 40 := by simp; omega
  have l2 : (l.drop h).length ≤ 40 := by simp; omega
  have i1 := tabF_inv hT (show (l.take h).length ≤ 1000 by omega) hc1
  have i2 := tabF_inv hT (show (l.drop h).length ≤ 1000 by omega) hc2
  have i3 := tabF_inv hT (show l.length ≤ 1000 by omega) hc
  have n1 := i1.l; have n2 := i2.l; have n3 := i3.l
  refine ⟨⟨by omega, by omega, fun v hv => by have := i1.b v hv; omega, fun v hv => by have := i2.b v hv; omega⟩, ?_⟩
  refine List.ext_getElem? fun j => ?_
  by_cases hj : j < num g s t
  · have g1 := tabF_get hT hc1 hj
    have g2 := tabF_get hT hc2 hj
    have g3 := tabF_get hT hc hj
    have x1 : (tabF g s t (l.take h))[j]? = some ((tabF g s t (l.take h)).getD j 0) := by simp [List.getD_eq_getElem?_getD, n1, hj]
    have x2 : (tabF g s t (l.drop h))[j]? = some ((tabF g s t (l.drop h)).getD j 0) := by simp [List.getD_eq_getElem?_getD, n2, hj]
    have x3 : (tabF g s t l)[j]? = some ((tabF g s t l).getD j 0) := by simp [List.getD_eq_getElem?_getD, n3, hj]
    rw [addL_get x1 x2, x3, g1, g2, g3]
    congr 1
    conv => rhs; rw [← List.take_append_drop h l]
    rw [List.map_append, List.sum_append]
  · rw [List.getElem?_eq_none (by rw [addL_len (by omega)]; omega), List.getElem?_eq_none (by omega)]

theorem laws_FnCellRecords_true (a b : List (K .u8)) (o1 : Rng.ok a) (o2 : Rng.ok b) : laws_FnCellRecords a b = some true := by
  refine tot_eq ?_
  unfold laws_FnCellRecords
  refine tot_cond (fun _ => tot_some rfl) fun _ => ?_
  refine tot_bind (tDrawRecordsIn o1.2) fun ⟨g, s, t, l, i⟩ ⟨hs, ht, hl⟩ => ?_
  simp only at hs ht hl
  have hVl := ht.1
  simp only
  have hadd : ∀ x y, x.length ≤ 1000 → y.length ≤ 1000 → ∃ r : List Int × Bool, r.1.length ≤ 1000 ∧ impl_AddCells x y = some r ∧ spec_AddCells x y = some r := fun x y hx hy => by
    rcases AddCells_same (a := x) (b := y) (by omega) (by omega) with ⟨_, e1, e2⟩ | ⟨hC, e1, e2⟩
    · exact ⟨_, by simp, e1, e2⟩
    · exact ⟨_, by simp only [addL_len hC.l]; omega, e1, e2⟩
  rcases RecordsIn_same (g := g) (s := s) (t := t) (l := l) (i := i) hs.tame (by omega) hl.tame with ⟨e1, e2⟩ | ⟨hT, hU, e1, e2⟩
  · rw [e1, e2, Option.bind_some, Option.bind_some]
    refine tot_bind (tDrawAddCells o2.2) fun ⟨x, y⟩ ⟨hx, hy⟩ => ?_
    obtain ⟨r, hr, c1, c2⟩ := hadd x y hx hy
    simp only
    rw [c1, c2, Option.bind_some, Option.bind_some, bne_self_eq_false, bne_self_eq_false, cond_false, cond_false, qInts_same (by simp), qInts_same (by omega)]
    simp only [Bool.not_true, cond_false, Option.bind_some, Bool.not_false, cond_true]
    exact tot_some rfl
  · rw [e1, e2, Option.bind_some, Option.bind_some]
    refine tot_bind (tDrawAddCells o2.2) fun ⟨x, y⟩ ⟨hx, hy⟩ => ?_
    obtain ⟨r, hr, c1, c2⟩ := hadd x y hx hy
    have hll := hU.1.1
    have hrl : (recF g s t l i).length ≤ 40 := by
      have := picks_len (sel := inCell g s t l i) (f := fun k : Nat => (k : Int)) l.length
      unfold recF; omega
    simp only
    rw [c1, c2, Option.bind_some, Option.bind_some, bne_self_eq_false, bne_self_eq_false, cond_false, cond_false, qInts_same (by omega), qInts_same (by omega)]
    simp only [Bool.not_true, cond_false, Option.bind_some]
    have hloop := loop_all (l := recF g s t l i) (fun _ => true) (laws_FnCellRecords_l1 (g, s, t, l, i) (recF g s t l i, true)) (fun k x hx => by
      obtain ⟨j, hj, hin, ex⟩ := mem_picks.1 (List.mem_of_getElem? hx)
      have hr : l[j]? = some l[j] := by simp [hj]
      generalize l[j] = r at hr
      rw [inCell_at hr] at hin
      obtain ⟨ho, ha⟩ := hU.cnt r (List.mem_of_getElem? hr)
      have htr := hl.tame.2 r (List.mem_of_getElem? hr)
      simp only [laws_FnCellRecords_l1, lt_ok hx, at_ok hx, cond_true, Option.bind_some]
      rw [← ex]
      simp only [at_ok hr, Option.bind_some, ContributionOf_eq hs.tame hT ho htr ha, Bool.not_true, cond_false, nx_ok hx (show (recF g s t l i).length ≤ 9223372036854775807 by omega), if_true]
      rw [show ((cellF g s t r).1 != i) = false by simpa using hin]
      rfl) (fun _ => by simp only [laws_FnCellRecords_l1, lt_end, cond_false])
    have hall : (recF g s t l i).all (fun _ => true) = true := by simp
    rw [hloop, hall]
    simp only [Option.bind_some, if_true]
    have hq : goQuo .i64 (goLen l) 2 = some ((l.length / 2 : Nat) : Int) := by
      unfold goQuo goLen
      rw [show ((2 : Int) == 0) = false from rfl, cond_false]
      congr 1
      rw [Int.tdiv_eq_ediv_of_nonneg (by omega), show ((l.length : Int) / 2) = ((l.length / 2 : Nat) : Int) by simp]
      exact wnat (by omega)
    obtain ⟨hA, he⟩ := halves hT hU (l.length / 2)
    generalize hh : l.length / 2 = h at *
    have hhl : h ≤ l.length := by omega
    have hs1 : goSub l 0 (h : Int) = some (l.take h) := by
      unfold goSub
      rw [show (decide ((0 : Int) ≤ 0) && decide (0 ≤ (h : Int)) && decide ((h : Int) ≤ (l.length : Int))) = true by simp; omega]
      simp
    have hs2 : goSub l (h : Int) (goLen l) = some (l.drop h) := by
      unfold goSub goLen
      rw [show (decide ((0 : Int) ≤ (h : Int)) && decide ((h : Int) ≤ (l.length : Int)) && decide ((l.length : Int) ≤ (l.length : Int))) = true by simp; omega]
      simp
      exact List.take_of_length_le (by simp)
    have hU1 : OkU g s (l.take h) := ⟨⟨by simp; omega, fun r hr => hU.1.2 r (List.mem_of_mem_take hr)⟩, fun r hr => hU.2 r (List.mem_of_mem_take hr)⟩
    have hU2 : OkU g s (l.drop h) := ⟨⟨by simp; omega, fun r hr => hU.1.2 r (List.mem_of_mem_drop hr)⟩, fun r hr => hU.2 r (List.mem_of_mem_drop hr)⟩
    have hl1 := hl.tame
    have ht1 : TameD (l.take h) := ⟨by simp; omega, fun r hr => hl1.2 r (List.mem_of_mem_take hr)⟩
    have ht2 : TameD (l.drop h) := ⟨by simp; omega, fun r hr => hl1.2 r (List.mem_of_mem_drop hr)⟩
    rw [hq]
    simp only [Option.bind_some]
    rw [hs1]
    simp only [Option.bind_some]
    rw [TableOf_ok hs.tame ht1 hT hU1]
    simp only [Option.bind_some]
    rw [hs2]
    simp only [Option.bind_some]
    rw [TableOf_ok hs.tame ht2 hT hU2]
    simp only [Option.bind_some]
    rcases AddCells_same (a := tabF g s t (l.take h)) (b := tabF g s t (l.drop h)) (by have := hA.n; omega) (by have := hA.n; have := hA.l; omega) with ⟨hn, _, _⟩ | ⟨_, e5, _⟩
    · exact absurd hA hn
    · rw [e5, TableOf_ok hs.tame hl1 hT hU, he]
      simp only [Option.bind_some, cond_true]
      have hI := tabF_inv hT (show l.length ≤ 1000 by omega) hU.cnt
      have hIl := hI.l
      have hn := hT.top
      rw [qInts_same (by omega)]
      exact tot_some rfl

end Go.Gx.F
