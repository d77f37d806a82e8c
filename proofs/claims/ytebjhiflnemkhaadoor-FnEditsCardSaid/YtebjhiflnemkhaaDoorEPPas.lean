/- Plain laws: edits, the values that pass them, failures of records. -/
import Derived.Test.YtebjhiflnemkhaaDoorEPDrs
import Derived.Test.YtebjhiflnemkhaaDoorEPBit
namespace Go.Gx.F
open Go.Gx
set_option linter.all false

theorem full_le2 {v : impl_Variable} (h : 2 ≤ v.Levels ∧ v.Levels ≤ 8) : 3 ≤ full v ∧ full v ≤ 255 := by
  have h1 : 2 ^ v.Levels.toNat ≤ 2 ^ 8 := Nat.pow_le_pow_right (by omega) (by omega)
  have h2 : 2 ^ 2 ≤ 2 ^ v.Levels.toNat := Nat.pow_le_pow_right (by omega) (by omega)
  unfold full
  omega

theorem eFull_eq {s : List impl_Variable} (hs : OkS s) {k : Nat} {v : impl_Variable} (hv : s[k]? = some v) : spec_eFull s (k : Int) = some (full v) := by
  have hb := hs.lv.get hv
  rw [← fullSet_eq (v := v) (by omega)]
  unfold spec_eFull impl_fullSet
  rw [at_ok hv, Option.bind_some, Go.IntWalk.u64_in _ ⟨by omega, by omega⟩]

/-! ## edits -/
def OkE (s : List impl_Variable) (e : impl_Edit) : Prop := e.Sets.length = s.length ∧ ∀ (k : Nat) (v : impl_Variable) (x : Int), s[k]? = some v → e.Sets[k]? = some x → 1 ≤ x ∧ x ≤ full v

def TameE (e : impl_Edit) : Prop := e.Sets.length ≤ 1000000

theorem isEdit_bis {s : List impl_Variable} {e : impl_Edit} (hs : OkS s) : Bis (impl_isEdit s e) (OkE s e) := by
  unfold impl_isEdit OkE
  simp only [goLen]
  by_cases h : e.Sets.length = s.length
  · rw [show ((e.Sets.length : Int) != (s.length : Int)) = false by simp [h], cond_false]
    have hsl := hs.2.1
    refine bis_iff (bis_loop (l := e.Sets) (fun k x => ∀ v, s[k]? = some v → 1 ≤ x ∧ x ≤ full v) (fun k x hx => ?_) (by simp only [impl_isEdit_l1, lt_end, cond_false])) ⟨fun h1 => ⟨h, fun k v x hv hx => h1 k x hx v hv⟩, fun h1 k x hx v hv => h1.2 k v x hv hx⟩
    have hk := (List.getElem?_eq_some_iff.1 hx).1
    have hv : s[k]? = some (s[k]'(by omega)) := by simp [show k < s.length by omega]
    generalize s[k]'(by omega) = v at hv
    have hb := hs.lv.get hv
    refine ⟨decide (1 ≤ x ∧ x ≤ full v), ?_, ?_⟩
    · rw [decide_eq_true_eq]
      constructor
      · intro h1 w hw; rw [hv] at hw; obtain rfl := Option.some.inj hw; exact h1
      · intro h1; exact h1 v hv
    · simp only [impl_isEdit_l1, lt_ok hx, at_ok hx, at_ok hv, cond_true, Option.bind_some, fullSet_eq (v := v) (by omega), nx_ok hx (show e.Sets.length ≤ 9223372036854775807 by omega)]
      by_cases h1 : x < 1
      · rw [decide_eq_true h1, decide_eq_false (show ¬ (1 ≤ x ∧ x ≤ full v) by omega)]; rfl
      · rw [decide_eq_false h1]
        by_cases h2 : full v < x
        · rw [decide_eq_true h2, decide_eq_false (show ¬ (1 ≤ x ∧ x ≤ full v) by omega)]; rfl
        · rw [decide_eq_false h2, decide_eq_true (show 1 ≤ x ∧ x ≤ full v by omega)]; rfl
  · rw [show ((e.Sets.length : Int) != (s.length : Int)) = true by simp; omega]
    exact ⟨false, rfl, by simp [h]⟩

theorem eGood_bis {s : List impl_Variable} {e : impl_Edit} (hs : OkS s) : Bis (spec_eGood s e) (OkE s e) := by
  unfold spec_eGood OkE
  simp only [goLen]
  by_cases h : e.Sets.length = s.length
  · rw [show ((e.Sets.length : Int) != (s.length : Int)) = false by simp [h], cond_false]
    have hsl := hs.2.1
    refine bis_iff (bis_loop (l := e.Sets) (fun k x => ∀ v, s[k]? = some v → 1 ≤ x ∧ x ≤ full v) (fun k x hx => ?_) (by simp only [spec_eGood_l1, lt_end, cond_false])) ⟨fun h1 => ⟨h, fun k v x hv hx => h1 k x hx v hv⟩, fun h1 k x hx v hv => h1.2 k v x hv hx⟩
    have hk := (List.getElem?_eq_some_iff.1 hx).1
    have hv : s[k]? = some (s[k]'(by omega)) := by simp [show k < s.length by omega]
    generalize s[k]'(by omega) = v at hv
    refine ⟨decide (1 ≤ x ∧ x ≤ full v), ?_, ?_⟩
    · rw [decide_eq_true_eq]
      constructor
      · intro h1 w hw; rw [hv] at hw; obtain rfl := Option.some.inj hw; exact h1
      · intro h1; exact h1 v hv
    · simp only [spec_eGood_l1, lt_ok hx, at_ok hx, cond_true, Option.bind_some, eFull_eq hs hv, lIn_eq, nx_ok hx (show e.Sets.length ≤ 9223372036854775807 by omega)]
      cases decide (1 ≤ x ∧ x ≤ full v) <;> rfl
  · rw [show ((e.Sets.length : Int) != (s.length : Int)) = true by simp; omega]
    exact ⟨false, rfl, by simp [h]⟩

def OkEs (s : List impl_Variable) (l : List impl_Edit) : Prop := l.length ≤ 40 ∧ ∀ e ∈ l, OkE s e

theorem eList_bis {s : List impl_Variable} {l : List impl_Edit} (ht : TameS s) : Bis (spec_eList s l) (OkS s ∧ OkEs s l) := by
  unfold spec_eList OkEs
  obtain ⟨b1, e1, h1⟩ := sGood_bis ht
  rw [e1]
  cases b1 with
  | false => exact ⟨false, rfl, by simp only [Bool.false_eq_true, false_iff]; intro h; have := h1.2 h.1; cases this⟩
  | true =>
    have hs := h1.1 rfl
    simp only [Option.bind_some, Bool.not_true, cond_false, goLen]
    by_cases h : 40 < (l.length : Int)
    · rw [decide_eq_true h]
      exact ⟨false, rfl, by simp only [Bool.false_eq_true, false_iff]; intro h'; omega⟩
    · rw [decide_eq_false h]
      simp only [cond_false]
      refine bis_iff (bis_loop (l := l) (fun _ e => OkE s e) (fun k e he => ?_) (by simp only [spec_eList_l1, lt_end, cond_false])) (by rw [all_mem_iff]; exact ⟨fun h1 => ⟨hs, by omega, h1⟩, fun h1 => h1.2.2⟩)
      obtain ⟨b, eb, hb⟩ := eGood_bis (e := e) hs
      refine ⟨b, hb, ?_⟩
      simp only [spec_eList_l1, lt_ok he, at_ok he, cond_true, Option.bind_some, eb, nx_ok he (show l.length ≤ 9223372036854775807 by omega)]
      cases b <;> rfl

/-! ## failing -/
def FailP (e : impl_Edit) (V : List Int) : Prop := ∀ (k : Nat) (x : Int), V[k]? = some x → ∀ y, e.Sets[k]? = some y → bit y x = true

open Classical in
noncomputable def fl (e : impl_Edit) (V : List Int) : Bool := decide (FailP e V)

theorem bis_fl {x : Option Bool} {e : impl_Edit} {V : List Int} (h : Bis x (FailP e V)) : x = some (fl e V) := by
  obtain ⟨b, rfl, hb⟩ := h
  congr 1
  unfold fl
  rw [Bool.eq_iff_iff, hb]
  exact ⟨fun h => @decide_eq_true (FailP e V) (Classical.propDecidable _) h, fun h => @of_decide_eq_true (FailP e V) (Classical.propDecidable _) h⟩

theorem fails_eq {s : List impl_Variable} {e : impl_Edit} {V : List Int} (hs : OkS s) (he : OkE s e) (hV : OkV s V) : impl_fails e V = some (fl e V) := by
  have hsl := hs.2.1; have hel := he.1; have hVl := hV.1
  refine bis_fl ?_
  unfold impl_fails
  refine bis_loop (l := V) (fun k x => ∀ y, e.Sets[k]? = some y → bit y x = true) (fun k x hx => ?_) (by simp only [impl_fails_l1, lt_end, cond_false])
  have hk := (List.getElem?_eq_some_iff.1 hx).1
  have hy : e.Sets[k]? = some (e.Sets[k]'(by omega)) := by simp [show k < e.Sets.length by omega]
  have hv : s[k]? = some (s[k]'(by omega)) := by simp [show k < s.length by omega]
  generalize e.Sets[k]'(by omega) = y at hy
  have hb := hV.2 k _ x hv hx
  refine ⟨bit y x, ⟨fun h z hz => by rw [hy] at hz; obtain rfl := Option.some.inj hz; exact h, fun h => h y hy⟩, ?_⟩
  simp only [impl_fails_l1, lt_ok hx, at_ok hx, at_ok hy, cond_true, Option.bind_some, shr_eq hb.1, nx_ok hx (show V.length ≤ 9223372036854775807 by omega)]
  unfold bit
  cases goBits .and .i64 (y.fdiv (2 ^ min x.toNat (IntKind.bits .i64))) 1 == 0 <;> rfl

/-- the edits that fail -/
noncomputable def selE (l : List impl_Edit) (V : List Int) (k : Nat) : Bool := match l[k]? with
  | some e => fl e V
  | none => false

noncomputable def fld (l : List impl_Edit) (V : List Int) : List Int := picks (selE l V) (fun k => (k : Int)) l.length

theorem selE_at {l : List impl_Edit} {V : List Int} {k : Nat} {e : impl_Edit} (h : l[k]? = some e) : selE l V k = fl e V := by unfold selE; rw [h]

/-- the values pass -/
noncomputable def psd (l : List impl_Edit) (V : List Int) : Bool := (goLen (fld l V)) == 0

theorem psd_iff {l : List impl_Edit} {V : List Int} : psd l V = true ↔ ∀ k, k < l.length → selE l V k = false := by
  unfold psd goLen fld
  rw [beq_iff_eq]
  constructor
  · intro h k hk
    cases hs : selE l V k with
    | false => rfl
    | true =>
      have hm : (k : Int) ∈ picks (selE l V) (fun k => (k : Int)) l.length := mem_picks.2 ⟨k, hk, hs, rfl⟩
      have := List.length_pos_of_mem hm
      omega
  · intro h
    cases hp : picks (selE l V) (fun k => (k : Int)) l.length with
    | nil => rfl
    | cons a r =>
      obtain ⟨k, hk, hs, _⟩ := mem_picks.1 (show a ∈ picks (selE l V) (fun k => (k : Int)) l.length by rw [hp]; simp)
      rw [h k hk] at hs; cases hs

/-! ## the values that pass -/
noncomputable def pk (s : List impl_Variable) (l : List impl_Edit) (n : Nat) : List Nat := picks (fun i => psd l (up (dig (tops s) i))) (fun i => i) n

noncomputable def frs (s : List impl_Variable) (L : List Nat) : List Int := match L.head? with
  | some i => up (dig (tops s) i)
  | none => []

theorem pk_step (s : List impl_Variable) (l : List impl_Edit) (n : Nat) : pk s l (n + 1) = cond (psd l (up (dig (tops s) n))) (pk s l n ++ [n]) (pk s l n) := rfl

theorem vals_ok {s : List impl_Variable} (hs : OkS s) {i : Nat} (hi : i < cnt (tops s)) : OkV s (up (dig (tops s) i)) := OkV.of_vx hs.lv (dig_ok hi)

theorem ne_up {s : List impl_Variable} (hs : OkS s) (i : Nat) : goNE (up (dig (tops s) i)) = some () := by
  unfold goNE
  have h1 := hs.1
  have : (up (dig (tops s) i)).length = s.length := by rw [up_len, dig_len, tops_len]
  cases h : up (dig (tops s) i) with
  | nil => rw [h] at this; simp at this; omega
  | cons a r => rfl

theorem take_snoc {α : Type} {l : List α} {k : Nat} {x : α} (h : l[k]? = some x) : l.take (k + 1) = l.take k ++ [x] := by
  rw [List.take_add_one, h]; rfl

/-! ## both sums are the same -/
theorem fld_sg (l : List impl_Edit) (V : List Int) : ((fld l V).length : Int) = sg (fun i => if selE l V i then 1 else 0) l.length := by
  unfold fld
  generalize l.length = n
  induction n with
  | zero => rfl
  | succ n ih =>
    rw [picks, sg, ← ih]
    cases selE l V n <;> simp

theorem sum_sg (f : Nat → Int) : ∀ n, ((List.range n).map f).sum = sg f n
  | 0 => rfl
  | n + 1 => by rw [List.range_succ, List.map_append, List.sum_append, sum_sg f n, sg]; simp

/-! ## what is drawn -/
def SmallE (e : impl_Edit) : Prop := e.Sets.length ≤ 10

theorem tedit {B : Nat} {c : spec_l1Cur} {s : List impl_Variable} (h : Cur B c) (hs : OkS s) (hB : B ≤ 100000 := by omega) : Tot (spec_l1Cur_edit c s) fun r => r.1.Sets.length = s.length ∧ Cur (B + 30) r.2 := by
  have hsl := hs.2.1
  unfold spec_l1Cur_edit
  refine tot_bind (Q := fun r => r.1.Sets.length = s.length ∧ Cur (B + 30) r.2) (tot_loop (fun t => ∃ k : Nat, t.1 = (k : Int) ∧ k ≤ s.length ∧ t.2.1.Sets.length = k ∧ Cur (B + 4 * k) t.2.2) (fun t => s.length - t.1.toNat) ⟨0, rfl, by omega, rfl, h.le (by omega)⟩ ?_) fun ⟨e, c3⟩ ⟨h1, h2⟩ => tot_some ⟨h1, h2⟩
  rintro ⟨_, e, c3⟩ ⟨k, rfl, hk, he, kc⟩
  simp only at he kc
  simp only [spec_l1Cur_edit_l1]
  refine tot_cond (fun hc => ?_) fun hc => tot_some ⟨?_, kc.le (by omega)⟩
  · have hkl : k < s.length := by have : (k : Int) < (s.length : Int) := by simpa [goLen] using hc
                                  omega
    have hv : s[k]? = some s[k] := by simp [hkl]
    generalize s[k] = v at hv
    have hf := full_le2 (hs.lv.get hv)
    rw [eFull_eq hs hv, Option.bind_some]
    refine tot_bind (tone kc) fun ⟨y, c4⟩ k4 => ?_
    simp only at k4
    refine tot_bind (Q := fun r => Cur (B + 4 * (k + 1)) r.2) (tot_cond (fun _ => tot_bind (tpick k4) fun ⟨x, c5⟩ ⟨_, _, _, k5⟩ => tot_some (k5.le (by omega))) fun _ => tot_some (k4.le (by omega))) fun ⟨x, c5⟩ k5 => ?_
    simp only at k5
    rw [goApp_ok (by simp; omega), Option.bind_some]
    exact tot_some ⟨⟨k + 1, by simp only; rw [wid (by omega) (by omega)]; omega, by omega, by simp; omega, k5⟩, by simp only; rw [wid (by omega) (by omega)]; omega⟩
  · have hc' : ¬ (k : Int) < (s.length : Int) := by simpa [goLen] using hc
    simp only; omega

theorem tanyEdit {B : Nat} {c : spec_l1Cur} {s : List impl_Variable} (h : Cur B c) (ht : TameS s) (hB : B ≤ 100000 := by omega) : Tot (spec_l1Cur_anyEdit c s) fun r => SmallE r.1 ∧ Cur (B + 40) r.2 := by
  unfold spec_l1Cur_anyEdit SmallE
  obtain ⟨b, e, hb⟩ := sGood_bis ht
  rw [e, Option.bind_some]
  cases b with
  | false => exact tot_some ⟨by simp, h.le (by omega)⟩
  | true =>
    have hs := hb.1 rfl
    have hsl := hs.2.1; have hsl0 := hs.1
    rw [Bool.not_true, cond_false]
    refine tot_bind (tedit h hs) fun ⟨e, c1⟩ ⟨he, k1⟩ => ?_
    simp only at he k1
    refine tot_bind (tpick k1) fun ⟨x, c2⟩ ⟨_, _, _, k2⟩ => ?_
    simp only at k2
    have ret : ∀ {x : Option (spec_l1Cur × impl_Edit)}, Tot x (fun r => r.2.Sets.length ≤ 10 ∧ Cur (B + 40) r.1) → Tot (x.bind fun (p, t) => some (p, t)) (fun r => r.2.Sets.length ≤ 10 ∧ Cur (B + 40) r.1) := fun hx => tot_bind hx fun z hz => tot_some hz
    refine tot_bind (Q := fun r => r.2.Sets.length ≤ 10 ∧ Cur (B + 40) r.1) (tot_cond (fun _ => ret ?_) fun _ => tot_bind (Q := fun r => r.Sets.length ≤ 10) (tot_cond (fun _ => ?_) fun _ => tot_some (by omega)) fun e2 h2 => tot_some ⟨h2, k2.le (by omega)⟩) fun z hz => tot_some ⟨hz.1, hz.2⟩
    · refine tot_bind (tpick k2 (hk := by simp only [goLen]; omega)) fun ⟨y, c3⟩ ⟨y0, y1, _, k3⟩ => ?_
      have hy := y1 (by simp only [goLen]; omega)
      simp only [goLen] at y0 hy k3
      refine tot_bind (tamong k3) fun ⟨z, c4⟩ ⟨_, k4⟩ => ?_
      refine tot_bind (tot_at (Q := fun _ => True) y0 hy fun _ _ _ => trivial) fun _ _ => tot_some ⟨?_, k4.le (by omega)⟩
      show (e.Sets.set _ _).length ≤ 10
      rw [List.length_set]; omega
    · rw [goApp_ok (by simp; omega), Option.bind_some]
      exact tot_some (by simp; omega)

theorem tanyValues {B : Nat} {c : spec_l1Cur} {s : List impl_Variable} (h : Cur B c) (hs : SmallS 8 s) (hB : B ≤ 100000 := by omega) : Tot (spec_l1Cur_anyValues c s) fun r => r.1.length ≤ 9 ∧ Cur (B + 40) r.2 := by
  unfold spec_l1Cur_anyValues
  have hsl := hs.l
  refine tot_bind (tvalues h hs) fun ⟨V, c1⟩ ⟨hV, k1⟩ => ?_
  simp only at hV k1
  refine tot_bind (Q := fun r => (r.1 = true → 0 < V.length) ∧ Cur (B + 20) r.2) (tot_cond (fun h1 => tot_bind (tone k1) fun ⟨y, c4⟩ k4 => tot_some ⟨fun _ => by simpa [goLen] using h1, k4.le (by omega)⟩) fun _ => tot_some ⟨fun h => by simp at h, k1.le (by omega)⟩) fun ⟨y, c2⟩ ⟨hy, k2⟩ => ?_
  simp only at hy k2
  dsimp only
  refine tot_bind (Q := fun o => match o with | .inl r => r.1.length ≤ 9 ∧ Cur (B + 40) r.2 | .inr r => r.1.length ≤ 9 ∧ Cur (B + 40) r.2) (tot_cond (fun h1 => ?_) fun _ => ?_) fun o ho => ?_
  · have h0 := hy h1
    refine tot_bind (tpick k2 (hk := by simp only [goLen]; omega)) fun ⟨x, c3⟩ ⟨x0, x1, _, k3⟩ => ?_
    have hx := x1 (by simp only [goLen]; omega)
    simp only [goLen] at x0 hx k3
    refine tot_bind (tamong k3) fun ⟨z, c4⟩ ⟨_, k4⟩ => ?_
    refine tot_bind (tot_at (Q := fun _ => True) x0 hx fun _ _ _ => trivial) fun _ _ => tot_some ⟨?_, k4.le (by omega)⟩
    show (V.set _ _).length ≤ 9
    rw [List.length_set]; omega
  · refine tot_bind (tone k2) fun ⟨z, c3⟩ k3 => ?_
    simp only at k3
    refine tot_cond (fun _ => ?_) fun _ => tot_some ⟨by simp only; omega, k3.le (by omega)⟩
    rw [goApp_ok (by simp; omega), Option.bind_some]
    exact tot_some ⟨by simp; omega, k3.le (by omega)⟩
  · rcases o with r | r
    · exact tot_some ho
    · exact tot_some ho

/-! ## the law -/
theorem sameInts_same {l : List Int} (h : l.length ≤ 1048576) : laws_sameInts l l = some true := by
  unfold laws_sameInts
  rw [bne_self_eq_false, cond_false]
  have h := loop_all (l := l) (fun _ => true) (laws_sameInts_l1 l l) (fun k x hx => by
    simp only [laws_sameInts_l1, lt_ok hx, cond_true, at_ok hx, Option.bind_some, bne_self_eq_false, cond_false, nx_ok hx (by omega), if_true]) (fun _ => by simp only [laws_sameInts_l1, lt_end, cond_false])
  rw [h]; simp

end Go.Gx.F
