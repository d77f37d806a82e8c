/- Plain laws: tables that are drawn. -/
import Derived.Test.YtnmimeojimfogaaBPDrs

namespace Go.Gx.F

open Go.Gx

set_option linter.all false

theorem twhere {B : Nat} {c : spec_l1Cur} {s : List impl_Variable} (h : Cur B c) (hs : SmallS 8 s) (hB : B ≤ 100000 := by omega) : Tot (spec_l1Cur_where c s) fun r => r.1.length = s.length ∧ Cur (B + 32) r.2 := by
  unfold spec_l1Cur_where
  have hl := hs.l
  refine tot_bind (Q := fun r => r.1.length = s.length ∧ Cur (B + 32) r.2) (tot_loop (fun t => ∃ k : Nat, t.2.1 = (k : Int) ∧ k ≤ s.length ∧ t.1.length = k ∧ Cur (B + 4 * k) t.2.2) (fun t => s.length - t.2.1.toNat) ⟨0, rfl, by omega, rfl, h.le (by omega)⟩ ?_) fun ⟨s3, c3⟩ ⟨h1, h2⟩ => tot_some ⟨h1, h2⟩
  rintro ⟨o, _, c3⟩ ⟨k, rfl, hk, ho, kc⟩
  simp only at ho kc
  simp only [spec_l1Cur_where_l1]
  refine tot_cond (fun hc => ?_) fun hc => tot_some ⟨?_, kc.le (by omega)⟩
  · have hc' : (k : Int) < s.length := by simpa [goLen] using hc
    refine tot_bind (tot_at (Q := fun v => 1 ≤ v.Levels ∧ v.Levels ≤ 9) (by omega) hc' fun e _ he => (hs.b e he).2) fun v hv => ?_
    refine tot_bind (tone kc) fun ⟨y, c5⟩ k5 => ?_
    simp only at k5
    refine tot_bind (Q := fun r => Cur (B + 4 * (k + 1)) r.2) (tot_cond (fun _ => ?_) fun _ => tot_some (k5.le (by omega))) fun ⟨z, c6⟩ k6 => ?_
    · rw [Go.IntWalk.u64_in _ ⟨by omega, by omega⟩, shl_eq (by omega) (by omega), Option.bind_some]
      have hp : 2 ^ v.Levels.toNat ≤ 2 ^ 9 := Nat.pow_le_pow_right (by omega) (by omega)
      have h1 : 1 ≤ 2 ^ v.Levels.toNat := Nat.one_le_two_pow
      rw [wid (by omega) (by omega)]
      exact tot_bind (tpick k5) fun ⟨x, c6⟩ ⟨_, _, _, k6⟩ => tot_some (k6.le (by omega))
    · rw [goApp_ok (by simp; omega), Option.bind_some]
      exact tot_some ⟨⟨k + 1, by simp only; rw [wid (by omega) (by omega)]; omega, by omega, by simp; omega, k6⟩, by simp only; rw [wid (by omega) (by omega)]; omega⟩
  · have hc' : ¬ (k : Int) < s.length := by simpa [goLen] using hc
    simp only; omega

def SmallT (n : Nat) (t : impl_Table) : Prop := t.Vars.length ≤ n ∧ t.Where.length ≤ n

theorem ttable {B : Nat} {c : spec_l1Cur} {g : impl_Geo} {s : List impl_Variable} (h : Cur B c) (hs : SmallS 8 s) (hB : B ≤ 100000 := by omega) : Tot (spec_l1Cur_table c g s) fun r => SmallT 8 r.1 ∧ Cur (B + 60) r.2 := by
  unfold spec_l1Cur_table
  have hl := hs.l
  refine tot_bind (twhere h hs) fun ⟨W, c1⟩ ⟨hW, k1⟩ => ?_
  simp only at hW k1
  refine tot_bind (Q := fun r => SmallT 8 r.1 ∧ Cur (B + 48) r.2) (tot_loop (fun t => ∃ k : Nat, t.1 = (k : Int) ∧ k ≤ s.length ∧ t.2.1.Vars.length ≤ k ∧ t.2.1.Where.length ≤ 8 ∧ Cur (B + 32 + 2 * k) t.2.2) (fun t => s.length - t.1.toNat) ⟨0, rfl, by omega, by simp, by simp only; omega, k1.le (by omega)⟩ ?_) fun ⟨t, c2⟩ ⟨h1, h2⟩ => ?_
  · rintro ⟨_, t, c3⟩ ⟨k, rfl, hk, hV, hW, kc⟩
    simp only at hV hW kc
    simp only [spec_l1Cur_table_l1]
    refine tot_cond (fun hc => ?_) fun hc => tot_some ⟨⟨by simp only; omega, hW⟩, kc.le (by omega)⟩
    have hc' : (k : Int) < s.length := by simpa [goLen] using hc
    refine tot_bind (tone kc) fun ⟨y, c5⟩ k5 => ?_
    simp only at k5
    refine tot_bind (Q := fun u => u.Vars.length ≤ k + 1 ∧ u.Where.length ≤ 8) (tot_cond (fun _ => ?_) fun _ => tot_some ⟨by omega, hW⟩) fun u hu => tot_some ⟨⟨k + 1, by simp only; rw [wid (by omega) (by omega)]; omega, by omega, hu.1, hu.2, k5.le (by omega)⟩, by simp only; rw [wid (by omega) (by omega)]; omega⟩
    rw [goApp_ok (by simp; omega), Option.bind_some]
    exact tot_some ⟨by simp; omega, hW⟩
  · simp only at h1 h2
    dsimp only
    rw [spec_gGood_eq, Option.bind_some]
    refine tot_bind (Q := fun r => SmallT 8 r.1 ∧ Cur (B + 50) r.2) (tot_cond (fun hg => ?_) fun _ => tot_some ⟨h1, h2.le (by omega)⟩) fun ⟨t3, c3⟩ ⟨h3, k3⟩ => ?_
    · refine tot_bind (tpick h2) fun ⟨x, c4⟩ ⟨_, _, _, k4⟩ => ?_
      rw [gLevel_eq (gok_ok hg), Option.bind_some]
      refine tot_bind (Q := fun u => SmallT 8 u) (tot_cond (fun _ => tot_some h1) fun _ => tot_some h1) fun u hu => tot_some ⟨hu, k4.le (by omega)⟩
    · simp only at h3 k3
      refine tot_bind (Q := fun r => Cur (B + 52) r.2) (tot_bind (tone k3) fun ⟨y, c5⟩ k5 => tot_cond (fun _ => tot_some (k5.le (by omega))) fun _ => tot_some (k5.le (by omega))) fun ⟨y, c5⟩ k5 => ?_
      simp only at k5
      refine tot_bind (Q := fun r => SmallT 8 r.2 ∧ Cur (B + 54) r.1) (tot_cond (fun _ => ?_) fun _ => tot_some ⟨h3, k5.le (by omega)⟩) fun ⟨c6, t6⟩ ⟨h6, k6⟩ => tot_some ⟨h6, k6.le (by omega)⟩
      exact tot_bind (tpick k5 (hk := by simp only [goLen]; omega)) fun ⟨x, c6⟩ ⟨_, _, _, k6⟩ => tot_some ⟨h3, k6.le (by omega)⟩

theorem tanyTable {B : Nat} {c : spec_l1Cur} {g : impl_Geo} {s : List impl_Variable} (h : Cur B c) (hs : SmallS 8 s) (hB : B ≤ 100000 := by omega) : Tot (spec_l1Cur_anyTable c g s) fun r => SmallT 9 r.1 ∧ Cur (B + 70) r.2 := by
  unfold spec_l1Cur_anyTable
  refine tot_bind (ttable h hs) fun ⟨t, c1⟩ ⟨ht, k1⟩ => ?_
  simp only at ht k1
  have ht1 := ht.1; have ht2 := ht.2
  have ht9 : SmallT 9 t := ⟨by omega, by omega⟩
  refine tot_bind (tpick k1) fun ⟨x, c2⟩ ⟨_, _, _, k2⟩ => ?_
  simp only at k2
  have ret : ∀ {x : Option (spec_l1Cur × impl_Table)}, Tot x (fun r => SmallT 9 r.2 ∧ Cur (B + 70) r.1) → Tot (x.bind fun (p, t) => some (p, t)) (fun r => SmallT 9 r.2 ∧ Cur (B + 70) r.1) := fun hx => tot_bind hx fun z hz => tot_some hz
  refine tot_bind (Q := fun r => SmallT 9 r.2 ∧ Cur (B + 70) r.1) (tot_cond (fun _ => ?_) fun _ => ret (tot_cond (fun _ => ret ?_) fun _ => ret (tot_cond (fun _ => ?_) fun _ => ret (tot_cond (fun _ => ?_) fun _ => ret (tot_cond (fun _ => ret (tot_cond (fun hc => ?_) fun _ => tot_some ⟨ht9, k2.le (by omega)⟩)) fun _ => tot_some ⟨ht9, k2.le (by omega)⟩))))) fun z hz => tot_some ⟨hz.1, hz.2⟩
  · exact tot_bind (tamong k2) fun ⟨y, c3⟩ ⟨_, k3⟩ => tot_some ⟨ht9, k3.le (by omega)⟩
  · refine tot_bind (tamong k2) fun ⟨y, c3⟩ ⟨_, k3⟩ => ?_
    rw [goApp_ok (by simp; omega), Option.bind_some]
    exact tot_some ⟨⟨by simp; omega, by simp only; omega⟩, k3.le (by omega)⟩
  · rw [goApp_ok (by simp; omega), Option.bind_some]
    exact tot_some ⟨⟨by simp only; omega, by simp; omega⟩, k2.le (by omega)⟩
  · exact tot_bind (tamong k2) fun ⟨y, c3⟩ ⟨_, k3⟩ => tot_some ⟨ht9, k3.le (by omega)⟩
  · have hc' : 0 < (t.Where.length : Int) := by simpa [goLen] using hc
    refine tot_bind (tamong k2) fun ⟨y, c3⟩ ⟨_, k3⟩ => ?_
    refine tot_bind (tot_at (Q := fun _ => True) (by omega) hc' fun _ _ _ => trivial) fun _ _ => tot_some ⟨⟨ht9.1, ?_⟩, k3.le (by omega)⟩
    show (t.Where.set _ _).length ≤ 9
    rw [List.length_set]; omega

end Go.Gx.F
