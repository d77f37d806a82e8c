/- Plain laws: FnData. -/
import Derived.Test.YtebjhiflnemkhaaGreatDoorDPDat5
namespace Go.Gx.F
open Go.Gx
set_option linter.all false

/-! what is drawn -/
theorem tvalues2 {B n : Nat} {c : spec_l1Cur} {s : List impl_Variable} (h : Cur B c) (hs : SmallS n s) (hn : n ≤ 100 := by omega) (hB : B ≤ 1000000 := by omega) : Tot (spec_l1Cur_values c s) fun r => r.1.length = s.length ∧ (∀ v ∈ r.1, 0 ≤ v ∧ v ≤ 9) ∧ Cur (B + 2 * n) r.2 := by
  unfold spec_l1Cur_values
  have hl := hs.l
  refine tot_bind (Q := fun r => r.1.length = s.length ∧ (∀ v ∈ r.1, 0 ≤ v ∧ v ≤ 9) ∧ Cur (B + 2 * n) r.2) (tot_loop (fun t => ∃ k : Nat, t.2.1 = (k : Int) ∧ k ≤ s.length ∧ t.1.length = k ∧ (∀ v ∈ t.1, 0 ≤ v ∧ v ≤ 9) ∧ Cur (B + 2 * k) t.2.2) (fun t => s.length - t.2.1.toNat) ⟨0, rfl, by omega, rfl, by simp, h.le (by omega)⟩ ?_) fun ⟨s3, c3⟩ ⟨h1, h2⟩ => tot_some ⟨h1, h2⟩
  rintro ⟨o, _, c3⟩ ⟨k, rfl, hk, ho, hov, kc⟩
  simp only at ho hov kc
  simp only [spec_l1Cur_values_l1]
  refine tot_cond (fun hc => ?_) fun hc => tot_some ⟨?_, hov, kc.le (by omega)⟩
  · have hc' : (k : Int) < s.length := by simpa [goLen] using hc
    refine tot_bind (tot_at (Q := fun v => 1 ≤ v.Levels ∧ v.Levels ≤ 9) (by omega) hc' fun e _ he => (hs.b e he).2) fun e he => ?_
    refine tot_bind (tpick kc) fun ⟨y, c5⟩ ⟨y0, y1, _, k5⟩ => ?_
    have hy := y1 (by omega)
    rw [goApp_ok (by simp; omega), Option.bind_some]
    refine tot_some ⟨⟨k + 1, by simp only; rw [wid (by omega) (by omega)]; omega, by omega, by simp; omega, fun v hv => ?_, k5.le (by omega)⟩, by simp only; rw [wid (by omega) (by omega)]; omega⟩
    rcases List.mem_append.1 hv with hv | hv
    · exact hov v hv
    · rw [List.mem_singleton.1 hv]
      exact ⟨y0, by have : y < e.Levels := hy; omega⟩
  · have hc' : ¬ (k : Int) < s.length := by simpa [goLen] using hc
    simp only; omega

def GoodR (n : Nat) (r : impl_Record) : Prop := (0 ≤ r.Area ∧ r.Area ≤ 999) ∧ (0 ≤ r.House ∧ r.House ≤ 999) ∧ r.Values.length ≤ n ∧ ∀ v ∈ r.Values, 0 ≤ v ∧ v ≤ 9

theorem trecord2 {B n : Nat} {c : spec_l1Cur} {s : List impl_Variable} {areas : List Int} (h : Cur B c) (hs : SmallS n s) (ha : 1 ≤ areas.length ∧ areas.length ≤ 1000) (ha2 : ∀ a ∈ areas, 0 ≤ a ∧ a ≤ 999) (hn : n ≤ 100 := by omega) (hB : B ≤ 900000 := by omega) : Tot (spec_l1Cur_record c s areas) fun r => GoodR n r.1 ∧ Cur (B + 4 + 2 * n) r.2 := by
  unfold spec_l1Cur_record
  have hl := hs.l
  refine tot_bind (tamong h (h1 := ha.1) (h2 := by omega)) fun ⟨a, c1⟩ ⟨ha3, k1⟩ => ?_
  refine tot_bind (tpick k1) fun ⟨y, c2⟩ ⟨y0, y1, _, k2⟩ => ?_
  have y1 := y1 (by omega)
  simp only at ha3 y0 y1
  refine tot_bind (tvalues2 k2 hs) fun ⟨v, c3⟩ ⟨hv, hvv, k3⟩ => tot_some ⟨⟨ha2 a ha3, by simp only; omega, by simp only at hv ⊢; omega, hvv⟩, k3.le (by omega)⟩

theorem tdata2 {B n : Nat} {c : spec_l1Cur} {s : List impl_Variable} {areas : List Int} (h : Cur B c) (hs : SmallS n s) (ha : 1 ≤ areas.length ∧ areas.length ≤ 1000) (ha2 : ∀ a ∈ areas, 0 ≤ a ∧ a ≤ 999) (hn : n ≤ 100 := by omega) (hB : B ≤ 100000 := by omega) :
    Tot (spec_l1Cur_data c s areas) fun r => r.1.length ≤ 22 ∧ (∀ x ∈ r.1, GoodR n x) ∧ Cur (B + 2 + 11 * (6 + 2 * n)) r.2 := by
  unfold spec_l1Cur_data
  refine tot_bind (tpick h) fun ⟨x, c1⟩ ⟨x0, x1, _, k1⟩ => ?_
  have hx := x1 (by omega)
  simp only at x0 hx
  obtain ⟨i, hi⟩ := Int.eq_ofNat_of_zero_le x0
  refine tot_bind (Q := fun r => r.1.length ≤ 22 ∧ (∀ x ∈ r.1, GoodR n x) ∧ Cur (B + 2 + 11 * (6 + 2 * n)) r.2) (tot_loop (fun t => ∃ k j : Nat, t.2.1 = (k : Int) ∧ k + j = 11 ∧ t.1.length ≤ 2 * j ∧ (∀ x ∈ t.1, GoodR n x) ∧ Cur (B + 2 + j * (6 + 2 * n)) t.2.2) (fun t => t.2.1.toNat) ⟨i, 11 - i, hi, by omega, by simp, by simp, k1.le (by omega)⟩ ?_) fun ⟨s3, c3⟩ h1 => tot_some h1
  rintro ⟨o, _, c3⟩ ⟨k, j, rfl, hk, ho, hv, kc⟩
  simp only at ho kc hv
  have hj : j * (6 + 2 * n) ≤ 11 * (6 + 2 * n) := Nat.mul_le_mul_right _ (by omega)
  simp only [spec_l1Cur_data_l1]
  refine tot_cond (fun hc => ?_) fun hc => tot_some ⟨by simp only; omega, hv, kc.le (by omega)⟩
  have hc' : 0 < (k : Int) := by simpa using hc
  have hj2 : (j + 1) * (6 + 2 * n) = j * (6 + 2 * n) + 6 + 2 * n := by rw [Nat.add_mul]; omega
  refine tot_bind (trecord2 kc hs ha ha2) fun ⟨r, c4⟩ ⟨hr, k4⟩ => ?_
  simp only at hr k4
  have hrl : r.Values.length ≤ n := hr.2.2.1
  rw [goApp_ok (by simp; omega), Option.bind_some]
  refine tot_bind (tone k4) fun ⟨b, c5⟩ k5 => ?_
  have hv2 : ∀ x ∈ o ++ [r], GoodR n x := fun x hx => by
    rcases List.mem_append.1 hx with hx | hx
    · exact hv x hx
    · rw [List.mem_singleton.1 hx]; exact hr
  refine tot_bind (Q := fun z => z.length ≤ 2 * (j + 1) ∧ ∀ x ∈ z, GoodR n x) (tot_cond (fun _ => ?_) fun _ => tot_some ⟨by simp; omega, hv2⟩) fun z hz => tot_some ⟨⟨k - 1, j + 1, by simp only; rw [wid (by omega) (by omega)]; omega, by omega, hz.1, hz.2, k5.le (by omega)⟩, by simp only; rw [wid (by omega) (by omega)]; omega⟩
  rw [rOwn_eq2 (r := r) (by omega), Option.bind_some, goApp_ok (by simp; omega), Option.bind_some]
  exact tot_some ⟨by simp; omega, fun x hx => by
    rcases List.mem_append.1 hx with hx | hx
    · exact hv2 x hx
    · rw [List.mem_singleton.1 hx]; exact hr⟩

theorem num_tot {v : Int} (h : 0 ≤ v ∧ v ≤ 999) : ∃ t, spec_l1Num v = some t ∧ t.length ≤ 3 := by
  have := l1Num_ok (u := v.toNat) (by omega)
  rw [show ((v.toNat : Nat) : Int) = v by omega] at this
  exact ⟨_, this, (dd_len (by omega)).2⟩

theorem tdText {l : List impl_Record} (hl : l.length ≤ 22) (h : ∀ r ∈ l, GoodR 3 r) : Tot (spec_dText l) fun t => t.length ≤ 1000 := by
  unfold spec_dText
  refine tot_bind (Q := fun t : List UInt8 => t.length ≤ 1000) (tot_loop (fun s => ∃ k : Nat, k ≤ l.length ∧ s.2 = (k : Int) ∧ s.1.length ≤ 40 * k) (fun s => l.length - s.2.toNat) ⟨0, by omega, rfl, by simp⟩ ?_) fun t ht => tot_some ht
  rintro ⟨out, _⟩ ⟨k, hk, rfl, ho⟩
  simp only at ho
  by_cases hlt : k < l.length
  · have hx : l[k]? = some l[k] := by simp [hlt]
    obtain ⟨hA, hH, hVl, hV⟩ := h _ (List.getElem_mem hlt)
    generalize l[k] = r at hx hA hH hVl hV
    obtain ⟨ta, ea, hta⟩ := num_tot hA
    obtain ⟨th, eh, hth⟩ := num_tot hH
    simp only [spec_dText_l1, lt_ok hx, cond_true, at_ok hx, Option.bind_some, ea, eh]
    rw [cat_ok (by simp; omega), Option.bind_some, cat_ok (by simp; omega), Option.bind_some, cat_ok (by simp; omega), Option.bind_some, cat_ok (by simp; omega), Option.bind_some]
    refine tot_bind (Q := fun t : List UInt8 => t.length ≤ out.length + 8 + 3 * 4) (tot_loop (fun s => ∃ j : Nat, j ≤ r.Values.length ∧ s.2 = (j : Int) ∧ s.1.length ≤ out.length + 8 + 3 * j) (fun s => r.Values.length - s.2.toNat) ⟨0, by omega, rfl, by simp; omega⟩ ?_) fun t ht => ?_
    · rintro ⟨o2, _⟩ ⟨j, hj, rfl, ho2⟩
      simp only at ho2
      by_cases hjl : j < r.Values.length
      · have hy : r.Values[j]? = some r.Values[j] := by simp [hjl]
        have hb := hV _ (List.getElem_mem hjl)
        generalize r.Values[j] = v at hy hb
        obtain ⟨tv, ev, htv⟩ := num_tot (v := v) (by omega)
        simp only [spec_dText_l2, lt_ok hy, cond_true, at_ok hy, Option.bind_some, ev]
        rw [cat_ok (by omega), Option.bind_some, wid (by omega) (by omega)]
        exact tot_some ⟨⟨j + 1, by omega, by simp only; omega, by simp; omega⟩, by simp only; omega⟩
      · obtain rfl : j = r.Values.length := by omega
        simp only [spec_dText_l2, lt_end, cond_false]
        exact tot_some (by simp only; omega)
    · rw [cat_ok (by simp; omega), Option.bind_some, wid (by omega) (by omega)]
      exact tot_some ⟨⟨k + 1, by omega, by simp only; omega, by simp; omega⟩, by simp only; omega⟩
  · obtain rfl : k = l.length := by omega
    simp only [spec_dText_l1, lt_end, cond_false]
    exact tot_some (by simp only; omega)

theorem tspoilt {B : Nat} {c : spec_l1Cur} {x w : List UInt8} (h : Cur B c) (hx : x.length ≤ 100000) (hw : 1 ≤ w.length ∧ w.length ≤ 1000) (hB : B ≤ 100000 := by omega) : Tot (spec_l1Cur_spoilt c x w) fun r => r.1.length ≤ x.length + 2 ∧ Cur (B + 20) r.2 := by
  unfold spec_l1Cur_spoilt
  refine tot_bind (tpick h) fun ⟨n, c1⟩ ⟨n0, n1, _, k1⟩ => ?_
  have n1 := n1 (by omega)
  simp only at n0 n1 k1 ⊢
  rw [wid (by omega) (by omega)]
  refine tot_bind (Q := fun r => r.1.length ≤ x.length + 2 ∧ Cur (B + 20) r.2) (tot_loop (fun q => ∃ m : Nat, q.2.1 = (m : Int) ∧ m ≤ 2 ∧ q.1.length + m ≤ x.length + 2 ∧ Cur (B + 2 + 6 * (2 - m)) q.2.2) (fun q => q.2.1.toNat) ⟨(1 + n).toNat, by simp only; omega, by omega, by simp only; omega, k1.le (by omega)⟩ ?_) fun r hr => tot_some hr
  rintro ⟨y, _, c3⟩ ⟨m, rfl, hm, hy, kc⟩
  simp only at hy kc
  simp only [spec_l1Cur_spoilt_l1]
  have hz : ((cond (decide (0 < (m : Int))) (some (decide (0 < goLen y))) (some false)) : Option Bool) = some (decide (0 < m ∧ 0 < y.length)) := by
    by_cases h1 : 0 < m
    · rw [decide_eq_true (by omega), cond_true]
      by_cases h2 : 0 < y.length
      · rw [decide_eq_true (by simp only [goLen]; omega), decide_eq_true ⟨h1, h2⟩]
      · rw [decide_eq_false (by simp only [goLen]; omega), decide_eq_false (show ¬ (0 < m ∧ 0 < y.length) from fun h => h2 h.2)]
    · rw [decide_eq_false (show ¬ (0 < (m : Int)) by omega), decide_eq_false (show ¬ (0 < m ∧ 0 < y.length) from fun h => h1 h.1)]; rfl
  rw [hz, Option.bind_some]
  refine tot_cond (fun hc => ?_) fun _ => tot_some ⟨by simp only; omega, kc.le (by omega)⟩
  have hc' : 0 < m ∧ 0 < y.length := by simpa using hc
  refine tot_bind (tpick kc (hk := by simp only [goLen]; omega)) fun ⟨i, c4⟩ ⟨i0, i1, _, k4⟩ => ?_
  have i1 := i1 (by simp only [goLen]; omega)
  simp only [goLen] at i0 i1 k4 ⊢
  refine tot_bind (tpick k4 (hk := by omega)) fun ⟨j, c5⟩ ⟨j0, j1, _, k5⟩ => ?_
  have j1 := j1 (by omega)
  simp only at j0 j1 k5 ⊢
  obtain ⟨jn, rfl⟩ := Int.eq_ofNat_of_zero_le j0
  have hwj : w[jn]? = some (w[jn]'(by omega)) := by simp [show jn < w.length by omega]
  rw [strAt_k hwj, Option.bind_some]
  refine tot_bind (tpick k5) fun ⟨z, c6⟩ ⟨_, _, _, k6⟩ => ?_
  simp only at k6 ⊢
  have hg1 : ∀ v : Int, (goBytes ([(⟨v⟩ : K .u8)] : List (K .u8))).length = 1 := fun v => rfl
  have s1 : ∀ {a b : Int}, 0 ≤ a → a ≤ b → b ≤ y.length → ∃ l, goSub y a b = some l ∧ l.length = (b - a).toNat := by
    intro a b h1 h2 h3
    obtain ⟨l, e, hl⟩ := tot_sub (l := y) (Q := fun l => l.length = (b - a).toNat) h1 h2 h3 (by simp; omega)
    exact ⟨l, e, hl⟩
  obtain ⟨l1, e1, q1⟩ := s1 (a := 0) (b := i) (by omega) (by omega) (by omega)
  obtain ⟨l2, e2, q2⟩ := s1 (a := i) (b := (y.length : Int)) (by omega) (by omega) (by omega)
  obtain ⟨l3, e3, q3⟩ := s1 (a := i + 1) (b := (y.length : Int)) (by omega) (by omega) (by omega)
  have hw1 : w64 (i + 1) = i + 1 := wid (by omega) (by omega)
  refine tot_bind (Q := fun r => r.length ≤ y.length + 1) ?_ fun r hr => ?_
  · refine tot_cond (fun _ => ?_) fun _ => tot_bind (Q := fun r => r.length ≤ y.length + 1) (tot_cond (fun _ => ?_) fun _ => ?_) fun r hr => tot_some hr
    · rw [e1, Option.bind_some, cat_ok (by rw [hg1]; omega), Option.bind_some, e2, Option.bind_some, cat_ok (by rw [List.length_append, hg1]; omega), Option.bind_some]
      exact tot_some (by simp only [List.length_append, hg1]; omega)
    · rw [e1, Option.bind_some, cat_ok (by rw [hg1]; omega), Option.bind_some, hw1, e3, Option.bind_some, cat_ok (by rw [List.length_append, hg1]; omega), Option.bind_some]
      exact tot_some (by simp only [List.length_append, hg1]; omega)
    · rw [e1, Option.bind_some, hw1, e3, Option.bind_some, cat_ok (by omega), Option.bind_some]
      exact tot_some (by simp only [List.length_append]; omega)
  · refine tot_some ⟨⟨m - 1, ?_, by omega, by simp only; omega, k6.le (by omega)⟩, ?_⟩
    · simp only; rw [wid (by omega) (by omega)]; omega
    · simp only; rw [wid (by omega) (by omega)]; omega

theorem tDrawPD {code : List (K .u8)} (ho : ∀ x ∈ code, Rng.ok x) : Tot (spec_DrawParseData code) fun r => SmallS 3 r.1 ∧ r.2.length ≤ 100000 := by
  unfold spec_DrawParseData
  refine tot_bind (tschema (cur0 ho)) fun ⟨s, c1⟩ ⟨hs, _, k1⟩ => ?_
  simp only at hs k1
  refine tot_bind (tdata2 k1 hs (by simp) (by simp)) fun ⟨l, c2⟩ ⟨hl, hv, k2⟩ => ?_
  simp only at hl hv k2
  refine tot_bind (tdText hl hv) fun t ht => ?_
  refine tot_bind (tone k2) fun ⟨b, c3⟩ k3 => ?_
  simp only at k3 ⊢
  refine tot_cond (fun _ => ?_) fun _ => tot_some ⟨hs, by simp only; omega⟩
  exact tot_bind (tspoilt k3 (by omega) (by simp)) fun ⟨t2, c4⟩ ⟨ht2, _⟩ => tot_some ⟨hs, by simp only at ht2 ⊢; omega⟩

theorem tDrawSD {code : List (K .u8)} (ho : ∀ x ∈ code, Rng.ok x) : Tot (spec_DrawSortData code) fun r => SmallS 8 r.1 ∧ r.2.length ≤ 50 ∧ ∀ x ∈ r.2, x.Values.length ≤ 100 := by
  unfold spec_DrawSortData spec_DrawIsData
  refine tot_bind (Q := fun r => SmallS 8 r.1 ∧ r.2.length ≤ 50 ∧ ∀ x ∈ r.2, x.Values.length ≤ 100) ?_ fun ⟨s, l⟩ h => tot_some h
  refine tot_bind (tanySchema (cur0 ho)) fun ⟨s, c1⟩ ⟨hs, k1⟩ => ?_
  simp only at hs k1
  exact tot_bind (tanyData k1 hs) fun ⟨l, c2⟩ ⟨h1, h2⟩ => tot_some ⟨hs, h1, h2⟩

/-! households -/
theorem hks {K : List HKey} {e : impl_Record} (hK : K.length ≤ 1000) : ∃ (p : Nat) (b : Bool), hkSearch K e = some ((p : Int), b) ∧ p ≤ K.length ∧ (b = true → ∃ h, K[p]? = some h ∧ h.Area = e.Area ∧ h.House = e.House) := by
  have hcmp : ∀ h : HKey, ∃ t, hkCmp h e = some t ∧ (t = 0 → h.Area = e.Area ∧ h.House = e.House) := fun h => by
    unfold hkCmp
    rw [cmp_some, cmp_some]
    simp only [Option.bind_some]
    by_cases h1 : h.Area < e.Area
    · rw [if_pos h1]; exact ⟨-1, rfl, fun h => by omega⟩
    · by_cases h2 : e.Area < h.Area
      · rw [if_neg h1, if_pos h2]; exact ⟨1, rfl, fun h => by omega⟩
      · rw [if_neg h1, if_neg h2]
        by_cases h3 : h.House < e.House
        · rw [if_pos h3]; exact ⟨-1, rfl, fun h => by omega⟩
        · by_cases h4 : e.House < h.House
          · rw [if_neg h3, if_pos h4]; exact ⟨1, rfl, fun h => by omega⟩
          · rw [if_neg h3, if_neg h4]; exact ⟨0, rfl, fun _ => by omega⟩
  unfold hkSearch
  have hl : Tot (loopC (hkSearch_l1 K e) (0, goLen K)) fun z => ∃ p : Nat, z = (p : Int) ∧ p ≤ K.length := by
    refine tot_loop (fun s => ∃ i j : Nat, s = ((i : Int), (j : Int)) ∧ i ≤ j ∧ j ≤ K.length) (fun s => s.2.toNat - s.1.toNat) ⟨0, K.length, rfl, by omega, by omega⟩ ?_
    rintro _ ⟨i, j, rfl, hij, hj⟩
    simp only [hkSearch_l1]
    refine tot_cond (fun hc => ?_) fun _ => tot_some ⟨i, rfl, by omega⟩
    have hc' : i < j := by have := of_decide_eq_true hc; omega
    have hm : (i + j) / 2 < K.length := by omega
    rw [wid (n := (i : Int) + j) (by omega) (by omega), show (i : Int) + j = ((i + j : Nat) : Int) by omega, shr1 (by omega), Option.bind_some, wid (by omega) (by omega), at_ok (x := K[(i + j) / 2]) (by simp [hm]), Option.bind_some]
    obtain ⟨t, et, _⟩ := hcmp (K[(i + j) / 2])
    rw [et, Option.bind_some, wid (n := (((i + j) / 2 : Nat) : Int) + 1) (by omega) (by omega)]
    cases decide (t < 0) with
    | true => exact tot_some ⟨⟨(i + j) / 2 + 1, j, by simp, by omega, hj⟩, by simp only; omega⟩
    | false => exact tot_some ⟨⟨i, (i + j) / 2, by simp, by omega, by omega⟩, by simp only; omega⟩
  obtain ⟨_, el, p, rfl, hp⟩ := hl
  rw [el, Option.bind_some]
  by_cases hlt : p < K.length
  · rw [decide_eq_true (by simp only [goLen]; omega), cond_true, at_ok (x := K[p]) (by simp [hlt]), Option.bind_some]
    obtain ⟨t, et, ht⟩ := hcmp (K[p])
    rw [et]
    refine ⟨p, t == 0, rfl, hp, fun hb => ⟨K[p], by simp [hlt], ht (by simpa using hb)⟩⟩
  · rw [decide_eq_false (by simp only [goLen]; omega)]
    exact ⟨p, false, rfl, hp, fun h => by cases h⟩

def msum : List impl_Household → Nat
  | [] => 0
  | h :: r => h.Members.length + msum r

theorem msum_app : ∀ a b, msum (a ++ b) = msum a + msum b
  | [], b => by simp [msum]
  | x :: a, b => by simp only [List.cons_append, msum]; rw [msum_app a b]; omega

theorem msum_set : ∀ {l : List impl_Household} {p : Nat} {h x : impl_Household}, l[p]? = some h → msum (l.set p x) + h.Members.length = msum l + x.Members.length
  | [], p, h, x, e => by simp at e
  | y :: l, 0, h, x, e => by
    simp at e; subst e
    simp only [List.set_cons_zero, msum]; omega
  | y :: l, p + 1, h, x, e => by
    simp at e
    simp only [List.set_cons_succ, msum]
    have := msum_set (x := x) e
    omega

/-- the members' records have the household's area and number -/
def HouseOk (l : List impl_Record) (h : impl_Household) : Prop := ∀ v ∈ h.Members, ∃ (k : Nat) (r : impl_Record), v = (k : Int) ∧ l[k]? = some r ∧ r.Area = h.Area ∧ r.House = h.House

theorem houses {l : List impl_Record} (hl : l.length ≤ 1000) : Tot (impl_householdsOf l) fun hs => hs.length ≤ 1000 ∧ (∀ h ∈ hs, HouseOk l h ∧ h.Members.length ≤ 1000) ∧ msum hs = l.length := by
  unfold impl_householdsOf
  refine tot_bind (Q := fun hs => hs.length ≤ 1000 ∧ (∀ h ∈ hs, HouseOk l h ∧ h.Members.length ≤ 1000) ∧ msum hs = l.length) (tot_loop (fun s => ∃ k : Nat, s.2 = (k : Int) ∧ k ≤ l.length ∧ s.1.length ≤ k ∧ (∀ h ∈ s.1, HouseOk l h ∧ h.Members.length ≤ k) ∧ msum s.1 = k) (fun s => l.length - s.2.toNat) ⟨0, rfl, by omega, by simp, by simp, rfl⟩ ?_) fun hs h => tot_some h
  rintro ⟨hs, _⟩ ⟨k, rfl, hk, hsl, hso, hsm⟩
  simp only at hsl hso hsm
  by_cases hlt : k < l.length
  · have hx : l[k]? = some l[k] := by simp [hlt]
    generalize l[k] = e at hx
    simp only [impl_householdsOf_l1, lt_ok hx, cond_true, at_ok hx, Option.bind_some]
    obtain ⟨p, b, ep, hp, hpb⟩ := hks (K := hs.map hkey) (e := e) (by simp; omega)
    rw [List.length_map] at hp
    rw [ep, Option.bind_some]
    obtain ⟨hs2, e2, g1, g2, g3, h, g4, g5⟩ : ∃ hs2, ((cond (!b) (goIns 40 hs (p : Int) ⟨e.Area, e.House, []⟩) (some hs)) : Option (List impl_Household)) = some hs2 ∧ hs2.length ≤ k + 1 ∧ (∀ h ∈ hs2, HouseOk l h ∧ h.Members.length ≤ k) ∧ msum hs2 = k ∧ ∃ h, hs2[p]? = some h ∧ h.Area = e.Area ∧ h.House = e.House := by
      cases b with
      | true =>
        obtain ⟨q, hq, hq2⟩ := hpb rfl
        rw [List.getElem?_map] at hq
        cases hh : hs[p]? with
        | none => rw [hh] at hq; cases hq
        | some h =>
          rw [hh] at hq
          obtain rfl := Option.some.inj hq
          exact ⟨hs, rfl, by omega, hso, hsm, h, hh, hq2⟩
      | false =>
        refine ⟨hs.take p ++ [⟨e.Area, e.House, []⟩] ++ hs.drop p, ?_, ?_, ?_, ?_, ⟨e.Area, e.House, []⟩, ?_, rfl, rfl⟩
        · unfold goIns
          rw [decide_eq_true ⟨by omega, by omega, by omega⟩, Int.toNat_natCast]; rfl
        · simp; omega
        · intro h hh
          simp only [List.mem_append, List.mem_singleton] at hh
          rcases hh with (hh | rfl) | hh
          · exact hso h (List.mem_of_mem_take hh)
          · exact ⟨fun v hv => by simp at hv, by simp⟩
          · exact hso h (List.mem_of_mem_drop hh)
        · rw [msum_app, msum_app]
          have := msum_app (hs.take p) (hs.drop p)
          rw [List.take_append_drop] at this
          simp only [msum, List.length_nil]
          omega
        · rw [List.append_assoc, List.getElem?_append_right (by rw [List.length_take]; omega), List.length_take, Nat.min_eq_left hp, Nat.sub_self]
          rfl
    simp only
    rw [e2, Option.bind_some, at_ok g4, Option.bind_some]
    obtain ⟨gh1, gh2⟩ := g2 h (List.mem_of_getElem? g4)
    rw [goApp_ok (by simp; omega), Option.bind_some, wid (by omega) (by omega)]
    simp only [goSet, Int.toNat_natCast]
    refine tot_some ⟨⟨k + 1, by simp only; omega, by omega, by simp only [List.length_set]; omega, fun h' hh' => ?_, ?_⟩, by simp only; omega⟩
    · rcases List.mem_or_eq_of_mem_set hh' with hh' | rfl
      · obtain ⟨a1, a2⟩ := g2 h' hh'
        exact ⟨a1, by omega⟩
      · refine ⟨fun v hv => ?_, by simp; omega⟩
        rcases List.mem_append.1 hv with hv | hv
        · exact gh1 v hv
        · obtain rfl := List.mem_singleton.1 hv
          exact ⟨k, e, rfl, hx, g5.1.symm, g5.2.symm⟩
    · have := msum_set (x := ⟨h.Area, h.House, h.Members ++ [(k : Int)]⟩) g4
      simp only [List.length_append, List.length_singleton] at this
      simp only
      omega
  · obtain rfl : k = l.length := by omega
    simp only [impl_householdsOf_l1, lt_end, cond_false]
    exact tot_some ⟨by omega, fun h hh => ⟨(hso h hh).1, by have := (hso h hh).2; omega⟩, hsm⟩

theorem count_in {s : List impl_Variable} {l : List impl_Record} {h : impl_Household} (ho : HouseOk l h) (hl : l.length ≤ 1000) (hm : h.Members.length ≤ 1000) {n : Nat} (hn : n ≤ 1000000) : loopC (laws_FnData_l2 (s, l) h) ((n : Int), 0) = some (.inl ((n + h.Members.length : Nat) : Int)) := by
  refine tot_eq (tot_loop (fun t => ∃ k : Nat, k ≤ h.Members.length ∧ t = (((n + k : Nat) : Int), (k : Int))) (fun t => h.Members.length - t.2.toNat) ⟨0, by omega, rfl⟩ ?_)
  rintro _ ⟨k, hk, rfl⟩
  by_cases hlt : k < h.Members.length
  · have hx : h.Members[k]? = some h.Members[k] := by simp [hlt]
    obtain ⟨i, r, hv, hr, h1, h2⟩ := ho _ (List.getElem_mem hlt)
    rw [hv] at hx
    have hil := (List.getElem?_eq_some_iff.1 hr).1
    simp only [laws_FnData_l2, lt_ok hx, cond_true, at_ok hx, Option.bind_some]
    rw [decide_eq_false (by omega), cond_false, decide_eq_false (by simp only [goLen]; omega), cond_false, at_ok hr]
    simp only [Option.bind_some]
    rw [h1, h2, bne_self_eq_false, cond_false, bne_self_eq_false]
    simp only [Option.bind_some, cond_false]
    rw [wid (by omega) (by omega), wid (by omega) (by omega)]
    exact tot_some ⟨⟨k + 1, by omega, by congr 1⟩, by simp only; omega⟩
  · obtain rfl : k = h.Members.length := by omega
    simp only [laws_FnData_l2, lt_end, cond_false]
    exact tot_some rfl

theorem count_all {s : List impl_Variable} {l : List impl_Record} {hs : List impl_Household} {b : Bool} (ho : ∀ h ∈ hs, HouseOk l h ∧ h.Members.length ≤ 1000) (hl : l.length ≤ 1000) (hm : hs.length ≤ 1000) (hs2 : msum hs ≤ 100000) : loopC (laws_FnData_l1 (s, l) (hs, b)) (0, 0) = some (.inl ((msum hs : Nat) : Int)) := by
  refine tot_eq (tot_loop (fun t => ∃ k : Nat, k ≤ hs.length ∧ t = (((msum (hs.take k) : Nat) : Int), (k : Int))) (fun t => hs.length - t.2.toNat) ⟨0, by omega, rfl⟩ ?_)
  rintro _ ⟨k, hk, rfl⟩
  by_cases hlt : k < hs.length
  · have hx : hs[k]? = some hs[k] := by simp [hlt]
    obtain ⟨h1, h2⟩ := ho _ (List.getElem_mem hlt)
    generalize hs[k] = h at hx h1 h2
    have hsm : msum (hs.take k) ≤ 100000 := by
      have := msum_app (hs.take k) (hs.drop k)
      rw [List.take_append_drop] at this
      omega
    simp only [laws_FnData_l1, lt_ok hx, cond_true, at_ok hx, Option.bind_some]
    rw [count_in h1 hl h2 (by omega), Option.bind_some]
    simp only
    rw [wid (by omega) (by omega)]
    refine tot_some ⟨⟨k + 1, by omega, ?_⟩, by simp only; omega⟩
    rw [List.take_succ, hx, msum_app]
    simp [msum]
  · obtain rfl : k = hs.length := by omega
    simp only [laws_FnData_l1, lt_end, cond_false]
    exact tot_some (by rw [List.take_length])

theorem ordered {l : List impl_Record} {b : Bool} (hl : l.length ≤ 1000) (hv : ∀ r ∈ l, r.Values.length ≤ 1000) : loopC (laws_FnData_l3 (srt l, b)) 1 = some (.inl ()) := by
  refine tot_eq (tot_loop (fun t => ∃ k : Nat, t = ((k + 1 : Nat) : Int) ∧ k ≤ l.length) (fun t => l.length + 1 - t.toNat) ⟨0, rfl, by omega⟩ ?_)
  rintro _ ⟨k, rfl, hk⟩
  have hsl := srt_len l
  simp only [laws_FnData_l3]
  by_cases hlt : k + 1 < l.length
  · have hx : (srt l)[k]? = some ((srt l)[k]'(by omega)) := by simp <;> omega
    have hy : (srt l)[k + 1]? = some ((srt l)[k + 1]'(by omega)) := by simp <;> omega
    have hc := pw_cmp k hx hy
    have hxv := hv _ (srt_mem (List.getElem_mem (show k < (srt l).length by omega)))
    rw [decide_eq_true (by simp only [goLen]; omega), cond_true, wid (by omega) (by omega), show ((k + 1 : Nat) : Int) - 1 = (k : Int) by omega, at_ok hx, Option.bind_some, at_ok hy, Option.bind_some, compareRecords_eq _ _ (by omega), Option.bind_some, decide_eq_false (by omega), cond_false, wid (by omega) (by omega)]
    exact tot_some ⟨⟨k + 1, by omega, by omega⟩, by omega⟩
  · rw [decide_eq_false (by simp only [goLen]; omega)]
    exact tot_some rfl

theorem eqf_same {l : List impl_Record} (hl : l.length ≤ 1000) (hv : ∀ r ∈ l, r.Values.length ≤ 1000) : slices_EqualFunc_impl_Record_impl_Record_impl_Record_impl_Record_of_impl_SameData_1 l l = some true := by
  unfold slices_EqualFunc_impl_Record_impl_Record_impl_Record_impl_Record_of_impl_SameData_1
  rw [bne_self_eq_false, cond_false]
  have h := loop_all (l := l) (fun _ => true) (slices_EqualFunc_impl_Record_impl_Record_impl_Record_impl_Record_of_impl_SameData_1_l1 l l) (fun k x hx => by
    have e : impl_SameData_1 x x = some true := by
      unfold impl_SameData_1
      have : cmpRecords x x = 0 := cmpL_self _
      rw [compareRecords_eq _ _ (by have := hv x (List.mem_of_getElem? hx); omega), Option.bind_some, this]; rfl
    simp only [slices_EqualFunc_impl_Record_impl_Record_impl_Record_impl_Record_of_impl_SameData_1_l1, lt_ok hx, cond_true, at_ok hx, Option.bind_some, e, Bool.not_true, cond_false, nx_ok hx (show l.length ≤ 9223372036854775807 by omega), if_true]) (fun _ => by simp only [slices_EqualFunc_impl_Record_impl_Record_impl_Record_impl_Record_of_impl_SameData_1_l1, lt_end, cond_false])
  rw [h]; simp

theorem laws_FnData_true (a b : List (K .u8)) (o1 : Rng.ok a) (o2 : Rng.ok b) : laws_FnData a b = some true := by
  refine tot_eq ?_
  unfold laws_FnData
  refine tot_cond (fun _ => tot_some rfl) fun _ => ?_
  refine tot_bind (tDrawSD o1.2) fun ⟨s, l⟩ ⟨hs, hl, hlv⟩ => ?_
  simp only at hs hl hlv ⊢
  have hT : ∀ r ∈ l, r.Values.length ≤ 1000 := fun r hr => by have := hlv r hr; omega
  have hTD : TameD l := ⟨by omega, fun r hr => by have := hlv r hr; unfold TameR; omega⟩
  obtain ⟨c, d, e1, e2, hc, e3, hd, e4⟩ := inputs hs.tame hTD
  -- what follows, whatever the sorting says
  have hrest : ∀ (x : List impl_Record) (ok : Bool) (T : Option Bool), x.length ≤ 1000 → (∀ r ∈ x, r.Values.length ≤ 1000) → T = some true → Tot ((spec_DrawParseData b).bind fun t_14 => ((impl_ParseData t_14.1 t_14.2).bind fun t_17 => ((spec_ParseData t_14.1 t_14.2).bind fun t_20 => (((cond (ok != ok) (some true) ((laws_qData x x).bind fun t_23 => (cond (!t_23) (some true) (cond (t_17.2 != t_20.2) (some true) ((laws_qData t_17.1 t_20.1).bind fun t_25 => some (!t_25)))))) : Option (Bool)).bind fun t_27 => (cond t_27 (some false) (((cond t_17.2 ((impl_DataText t_14.1 t_17.1).bind fun t_28 => (((cond (!t_28.2) (some true) (some (t_28.1 != t_14.2))) : Option (Bool)).bind fun t_30 => (cond t_30 (some (.inr false)) (some (.inl ()))))) (some (.inl ()))) : Option ((Unit) ⊕ (Bool))).bind fun | .inl () => T | .inr o => some o)))))) (fun z => z = true) := by
    intro x ok T hx hxT hTt
    refine tot_bind (tDrawPD o2.2) fun ⟨h, t⟩ ⟨hh, ht⟩ => ?_
    simp only at hh ht ⊢
    obtain ⟨L, g, p1, p2, p3, p4⟩ := parse_same hh.tame ht
    rw [p1, p2, Option.bind_some, Option.bind_some]
    simp only [bne_self_eq_false, cond_false, qData_same hx hxT, Option.bind_some, Bool.not_true]
    cases g with
    | false =>
      obtain rfl := p4 rfl
      rw [qData_same (l := []) (by simp) (by simp)]
      exact ⟨true, hTt, rfl⟩
    | true =>
      obtain ⟨hS, rfl, hD⟩ := p3 rfl
      have hLl := hD.1
      rw [qData_same (by omega) (fun r hr => by have := (OkV.bd hS (hD.2 r hr).2.2).1; omega), DataText_ok hS hh.tame hD]
      simp only [Option.bind_some, cond_true, Bool.not_true, cond_false, bne_self_eq_false]
      exact ⟨true, hTt, rfl⟩
  have hno : (c && d) = false → impl_SortData s l = some ([], false) ∧ spec_SortData s l = some ([], false) := fun hcd => by
    unfold impl_SortData spec_SortData
    rw [e1, e3, e4, hcd]
    cases c <;> cases d <;> first | (cases hcd; done) | exact ⟨rfl, rfl⟩
  cases hcd : (c && d) with
  | false =>
    obtain ⟨q1, q2⟩ := hno hcd
    rw [q1, q2, Option.bind_some, Option.bind_some]
    exact hrest [] false _ (by simp) (by simp) rfl
  | true =>
    obtain ⟨rfl, rfl⟩ : c = true ∧ d = true := by simpa using hcd
    have hS := hc.1 rfl
    have hD := hd.1 rfl
    have q1 : impl_SortData s l = some (srt l, true) := by
      unfold impl_SortData
      rw [e1, e3]
      simp only [Option.bind_some, Bool.not_true, cond_false]
      rw [sorted_eq (by omega) hT]; rfl
    have q2 : spec_SortData s l = some (srt l, true) := by
      unfold spec_SortData
      rw [e4]
      simp only [Option.bind_some, Bool.and_self, Bool.not_true, cond_false]
      rw [dSrt_eq (by omega) hT]; rfl
    have hsl := srt_len l
    have hsT : ∀ r ∈ srt l, r.Values.length ≤ 1000 := fun r hr => hT r (srt_mem hr)
    have hD2 : OkD s (srt l) := ⟨by have := hD.1; omega, fun r hr => hD.2 r (srt_mem hr)⟩
    have hTD2 : TameD (srt l) := ⟨by omega, fun r hr => hTD.2 r (srt_mem hr)⟩
    obtain ⟨d2, e5, hd2⟩ := isData_bis (s := s) hTD2
    obtain rfl := hd2.2 hD2
    have q3 : impl_SameData s l (srt l) = some (true, true) := by
      unfold impl_SameData
      rw [e1, e3, e5]
      simp only [Option.bind_some, Bool.not_true, cond_false]
      rw [sorted_eq (by omega) hT, sorted_eq (by omega) hsT, srt_srt]
      simp only [Option.bind_some]
      rw [eqf_same (by omega) hsT]; rfl
    obtain ⟨hs', h1, h2, h3, h4⟩ := houses (l := l) (by omega)
    have q4 : impl_HouseholdsOf s l = some (hs', true) := by
      unfold impl_HouseholdsOf
      rw [e1, e3]
      simp only [Option.bind_some, Bool.not_true, cond_false]
      rw [h1]; rfl
    rw [q1, q2, Option.bind_some, Option.bind_some]
    refine hrest (srt l) true _ (by omega) hsT ?_
    simp only [Bool.not_true, cond_false]
    rw [q3, q4]
    simp only [Option.bind_some]
    rw [count_all h3 (by omega) h2 (by omega)]
    simp only [Option.bind_some]
    rw [ordered (by omega) hT]
    simp only [Option.bind_some, cond_true]
    rw [h4, show ((l.length : Int) == goLen l) = true by simp [goLen]]

end Go.Gx.F
