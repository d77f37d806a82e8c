/- Plain laws: derived cells are the counted ones; the law of tables that follow. -/
import Derived.Test.YtnmimeojimfogaaBPDer

namespace Go.Gx.F

open Go.Gx

set_option linter.all false

/-! ## a record's cell, once more -/

def amtP (t : impl_Table) (V : List Int) : Int := if t.Sum < 0 then 1 else V.getD t.Sum.toNat 0

/-! ## sums -/

/-! ## what is drawn -/

theorem tpick' {B : Nat} {c : spec_l1Cur} {k : Int} (h : Cur B c) (hB : B ≤ 4000000000000000000 := by omega) : Tot (spec_l1Cur_pick c k) fun r => 0 ≤ r.1 ∧ (1 ≤ k → r.1 < k) ∧ Cur (B + 2) r.2 := by
  unfold spec_l1Cur_pick
  refine tot_cond (fun h1 => tot_some ⟨by simp, fun h => by simp only; omega, h.le (by omega)⟩) fun h1 => ?_
  have h1' : ¬ k ≤ 1 := by simpa using h1
  refine tot_bind (tnext h) fun ⟨x, c1⟩ ⟨x0, x1, k1⟩ => ?_
  refine tot_bind (Q := fun r => 0 ≤ r.1 ∧ r.1 ≤ 65535 ∧ Cur (B + 2) r.2) (tot_cond (fun h2 => ?_) fun _ => tot_some ⟨x0, by simp only at x1 ⊢; omega, k1.le (by omega)⟩) fun ⟨y, c2⟩ ⟨y0, y1, k2⟩ => ?_
  · refine tot_bind (tnext k1) fun ⟨y, c2⟩ ⟨y0, y1, k2⟩ => tot_some ?_
    simp only at x0 x1 y0 y1 ⊢
    rw [wid (n := x * 256) (by omega) (by omega), wid (by omega) (by omega)]
    exact ⟨by omega, by omega, k2⟩
  · refine tot_bind (tot_rem (Q := fun z => 0 ≤ z ∧ z < k) (by omega) ⟨Int.tmod_nonneg _ y0, Int.tmod_lt_of_pos _ (by omega)⟩) fun z hz => tot_some ⟨hz.1, fun _ => hz.2, k2⟩

theorem tot_shl {x : Int} {R : Int → Prop} (h0 : 0 ≤ x) (hR : ∀ y, R y) : Tot (goShl .i64 1 x) R := by
  unfold goShl
  rw [decide_eq_false (show ¬ x < 0 by omega), cond_false]
  exact tot_some (hR _)

theorem wrap_nn (x : Int) : 0 ≤ IntKind.wrap .u64 x := by
  have : 0 ≤ IntKind.wrap .u64 x ∧ True := ⟨by unfold IntKind.wrap; simp [IntKind.signed, IntKind.bits]; omega, trivial⟩
  exact this.1

theorem tbelow {B : Nat} {c : spec_l1Cur} {g : impl_Geo} {s : List impl_Variable} {u : impl_Table} (h : Cur B c) (hs : SmallS 8 s) (hu : SmallT 9 u) (hB : B ≤ 100000 := by omega) : Tot (spec_l1Cur_below c g s u) fun r => SmallT 9 r.1 ∧ Cur (B + 80) r.2 := by
  have hV := hu.1; have hW := hu.2; have hsl := hs.l
  unfold spec_l1Cur_below spec_nOwn
  rw [own_eq (by omega), Option.bind_some, own_eq (by omega), Option.bind_some, Option.bind_some]
  refine tot_bind (tone h) fun ⟨y, c1⟩ k1 => ?_
  simp only at k1
  refine tot_bind (Q := fun r => SmallT 9 r.2 ∧ Cur (B + 4) r.1) (tot_cond (fun _ => tot_bind (tpick' k1) fun ⟨z, c2⟩ ⟨_, _, k2⟩ => tot_some ⟨⟨hV, hW⟩, k2.le (by omega)⟩) fun _ => tot_some ⟨⟨hV, hW⟩, k1.le (by omega)⟩) fun ⟨c2, t2⟩ ⟨ht2, k2⟩ => ?_
  simp only at ht2 k2
  dsimp only
  have hV2 := ht2.1; have hW2 := ht2.2
  refine tot_bind (Q := fun r => r.1.length ≤ 9 ∧ SmallT 9 r.2.2 ∧ Cur (B + 4 + 6 * 9) r.2.1) (tot_loop (fun z => ∃ k : Nat, z.2.1 = (k : Int) ∧ k ≤ t2.Vars.length ∧ z.1.length ≤ k ∧ SmallT 9 z.2.2.2 ∧ Cur (B + 4 + 6 * k) z.2.2.1) (fun z => t2.Vars.length - z.2.1.toNat) ⟨0, rfl, by omega, by simp, ht2, k2.le (by omega)⟩ ?_) fun ⟨vars, c3, t3⟩ ⟨hv3, ht3, k3⟩ => ?_
  · rintro ⟨vars, _, c3, t3⟩ ⟨k, rfl, hk, hvl, ht3, k3⟩
    simp only at hvl ht3 k3
    have hV3 := ht3.1; have hW3 := ht3.2
    simp only [spec_l1Cur_below_l1]
    refine tot_cond (fun hc => ?_) fun hc => tot_some ⟨by simp only; omega, ht3, k3.le (by omega)⟩
    have hkl : k < t2.Vars.length := by have : (k : Int) < (t2.Vars.length : Int) := by simpa [goLen] using hc
                                        omega
    have hv : t2.Vars[k]? = some t2.Vars[k] := by simp [hkl]
    generalize t2.Vars[k] = v at hv
    rw [at_ok hv, Option.bind_some]
    refine tot_bind (tone k3) fun ⟨y, c4⟩ k4 => ?_
    simp only at k4
    have hT : Tot ((cond (!y) ((goApp 8 vars ([v] : List Int)).bind fun l_61 => some (c4, t3, l_61)) ((((spec_l1Cur_one c4 2).bind fun t_39 => (cond t_39.1 ((spec_l1In v 0 (w64 ((goLen t3.Where) - 1))).bind fun t_41 => (cond t_41 ((spec_l1In v 0 (w64 ((goLen s) - 1))).bind fun t_42 => some (t_39.2, t_42)) (some (t_39.2, false)))) (some (t_39.2, false)))) : Option (spec_l1Cur × Bool)).bind fun (p_c_44, t_43) => (((cond t_43 ((goAt s v).bind fun e_46 => ((spec_l1Cur_pick p_c_44 e_46.Levels).bind fun t_49 => ((goShl .i64 1 (IntKind.wrap .u64 t_49.1)).bind fun t_51 => ((goAt t3.Where v).bind fun e_52 => some (t_49.2, (impl_Table.mk t3.Level t3.Vars (goSet t3.Where v t_51) t3.Sum)))))) (some (p_c_44, t3))) : Option (spec_l1Cur × impl_Table)).bind fun (p_c_55, t_57) => some (p_c_55, t_57, vars)))) : Option (spec_l1Cur × impl_Table × (List Int))) fun r => r.2.2.length ≤ k + 1 ∧ SmallT 9 r.2.1 ∧ Cur (B + 4 + 6 * (k + 1)) r.1 := by
      refine tot_cond (fun _ => ?_) fun _ => ?_
      · rw [goApp_ok (by simp; omega), Option.bind_some]
        exact tot_some ⟨by simp; omega, ht3, k4.le (by omega)⟩
      · refine tot_bind (Q := fun r => (r.2 = true → (0 ≤ v ∧ v < s.length) ∧ v < t3.Where.length) ∧ Cur (B + 4 + 6 * k + 4) r.1) ?_ fun ⟨c5, y5⟩ ⟨h5, k5⟩ => ?_
        · refine tot_bind (tone k4) fun ⟨y5, c5⟩ k5 => ?_
          simp only at k5
          refine tot_cond (fun _ => ?_) fun _ => tot_some ⟨fun h => by simp at h, k5⟩
          simp only [goLen]
          rw [lIn_eq, wid (by omega) (by omega), Option.bind_some]
          refine tot_cond (fun h6 => ?_) fun _ => tot_some ⟨fun h => by simp at h, k5⟩
          have h6' := of_decide_eq_true h6
          rw [lIn_eq, wid (by omega) (by omega), Option.bind_some]
          exact tot_some ⟨fun h => by have := of_decide_eq_true h; omega, k5⟩
        · simp only at h5 k5
          refine tot_bind (Q := fun r => SmallT 9 r.2 ∧ Cur (B + 4 + 6 * (k + 1)) r.1) (tot_cond (fun hy5 => ?_) fun _ => tot_some ⟨ht3, k5.le (by omega)⟩) fun ⟨c6, t6⟩ ⟨h6, k6⟩ => tot_some ⟨by simp only; omega, h6, k6⟩
          obtain ⟨hv1, hv2⟩ := h5 hy5
          refine tot_bind (tot_at (Q := fun _ => True) hv1.1 hv1.2 fun _ _ _ => trivial) fun w _ => ?_
          refine tot_bind (tpick' k5) fun ⟨z, c6⟩ ⟨z0, _, k6⟩ => ?_
          refine tot_bind (tot_shl (R := fun _ => True) (wrap_nn _) fun _ => trivial) fun q _ => ?_
          refine tot_bind (tot_at (Q := fun _ => True) hv1.1 hv2 fun _ _ _ => trivial) fun _ _ => tot_some ⟨⟨hV3, ?_⟩, k6.le (by omega)⟩
          show (t3.Where.set _ _).length ≤ 9
          rw [List.length_set]; exact hW3
    refine tot_bind hT fun ⟨c4, t4, vars4⟩ ⟨h1, h2, h3⟩ => tot_some ⟨⟨k + 1, by simp only; rw [wid (by omega) (by omega)]; omega, by omega, h1, h2, h3⟩, by simp only; rw [wid (by omega) (by omega)]; omega⟩
  · simp only at hv3 ht3 k3
    dsimp only
    have hV3 := ht3.1; have hW3 := ht3.2
    refine tot_bind (Q := fun r => (r.1 = true → 0 < t3.Vars.length) ∧ Cur (B + 4 + 6 * 9 + 2) r.2) (tot_cond (fun h1 => tot_cond (fun _ => tot_bind (tone k3) fun ⟨y, c4⟩ k4 => tot_some ⟨fun _ => by simpa [goLen] using h1, k4⟩) fun _ => tot_some ⟨fun h => by simp at h, k3.le (by omega)⟩) fun _ => tot_some ⟨fun h => by simp at h, k3.le (by omega)⟩) fun ⟨y, c4⟩ ⟨h4, k4⟩ => ?_
    simp only at h4 k4
    refine tot_bind (Q := fun r => r.Where.length ≤ 9) (tot_cond (fun hy => tot_bind (tot_at (Q := fun _ => True) (by omega) (by have := h4 hy; omega) fun _ _ _ => trivial) fun _ _ => tot_some hW3) fun _ => tot_some hW3) fun t5 h5 => tot_some ⟨⟨hv3, h5⟩, k4.le (by omega)⟩

/-! ## the law -/

theorem isTable_eq {g : impl_Geo} {s : List impl_Variable} {t u : impl_Table} (hs : TameS s) (ht : OkT g s t) : impl_isTable g s u = impl_areTabled g s u := by
  unfold impl_areTabled
  obtain ⟨b, e, h⟩ := IsSchema_bis hs
  rw [impl_IsGeo_eq, ht.geo, Option.bind_some, cond_true, e, h.2 ht.sch, Option.bind_some, cond_true]
  cases impl_isTable g s u <;> rfl

theorem sameInts_same {l : List Int} (h : l.length ≤ 1048576) : laws_sameInts l l = some true := by
  unfold laws_sameInts
  rw [bne_self_eq_false, cond_false]
  have h := loop_all (l := l) (fun _ => true) (laws_sameInts_l1 l l) (fun k x hx => by
    simp only [laws_sameInts_l1, lt_ok hx, cond_true, at_ok hx, Option.bind_some, bne_self_eq_false, cond_false, nx_ok hx (by omega), if_true]) (fun _ => by simp only [laws_sameInts_l1, lt_end, cond_false])
  rw [h]; simp

end Go.Gx.F
