/- Plain laws: sorted data. -/
import Derived.Test.YtebjhiflnemkhaaGreatDoorDPGrd
namespace Go.Gx.F
open Go.Gx
set_option linter.all false

theorem cmpR_neg2 (x y : impl_Record) : cmpRecords y x = -cmpRecords x y := cmpL_neg _ _
theorem cmpR_eq {x y : impl_Record} (h : cmpRecords x y = 0) : x = y := keyR_inj (cmpL_eq h)

/-- the order -/
def leR (x y : impl_Record) : Bool := decide (cmpRecords x y ≤ 0)
def srt (l : List impl_Record) : List impl_Record := l.mergeSort leR

theorem leR_trans {a b c : impl_Record} (h1 : leR a b = true) (h2 : leR b c = true) : leR a c = true := by
  simp only [leR, decide_eq_true_eq] at *
  exact cmpL_trans h1 h2
theorem leR_total (a b : impl_Record) : (leR a b || leR b a) = true := by
  simp only [leR, Bool.or_eq_true, decide_eq_true_eq]
  rw [cmpR_neg2 a b]
  omega
theorem leR_anti {a b : impl_Record} (h1 : leR a b = true) (h2 : leR b a = true) : a = b := by
  simp only [leR, decide_eq_true_eq] at h1 h2
  rw [cmpR_neg2 a b] at h2
  exact cmpR_eq (by omega)

theorem srt_pw (l : List impl_Record) : (srt l).Pairwise (fun a b => leR a b = true) := List.pairwise_mergeSort (le := leR) (fun _ _ _ => leR_trans) leR_total l
theorem srt_perm (l : List impl_Record) : (srt l).Perm l := List.mergeSort_perm _ _
theorem srt_len (l : List impl_Record) : (srt l).length = l.length := (srt_perm l).length_eq
theorem srt_one {l r : List impl_Record} (hp : r.Perm l) (hs : r.Pairwise (fun a b => leR a b = true)) : r = srt l :=
  List.Perm.eq_of_pairwise (le := fun a b => leR a b = true) (fun a b _ _ h1 h2 => leR_anti h1 h2) hs (srt_pw l) (hp.trans (srt_perm l).symm)
theorem srt_srt (l : List impl_Record) : srt (srt l) = srt l := (srt_one (srt_perm l |>.trans (List.Perm.refl _)) (srt_pw l) ▸ (srt_one (List.Perm.refl _) (srt_pw l)).symm)
theorem srt_mem {l : List impl_Record} {r : impl_Record} (h : r ∈ srt l) : r ∈ l := (srt_perm l).subset h

theorem sorted_eq {l : List impl_Record} (hl : l.length ≤ 1000) (h : ∀ r ∈ l, r.Values.length ≤ 1000) : impl_sortedRecords l = some (srt l) := by
  unfold impl_sortedRecords
  rw [copyRecs_eq hl h, Option.bind_some, decide_eq_true (by omega), cond_true]
  rfl

/-! the reference -/
theorem less_at (a b : List Int) (hb : b.length ≤ 1000000) (ha : a.length ≤ 1000000) : ∀ (n j : Nat), a.length - j = n → j ≤ a.length → j ≤ b.length →
    ((loopC (spec_l1Less_l1 a b) (j : Int)).bind fun | .inl () => ((spec_l1Sign (w64 ((goLen a) - (goLen b)))).bind fun t_13 => some t_13) | .inr o => some o) = some (cmpL (a.drop j) (b.drop j)) := by
  intro n
  induction n with
  | zero =>
    intro j h1 h2 h3
    have hj : j = a.length := by omega
    rw [loopC_eq]
    have e : spec_l1Less_l1 a b (j : Int) = some (.done (.inl ())) := by
      simp only [spec_l1Less_l1]
      rw [decide_eq_false (by unfold goLen; omega)]
      rfl
    rw [e]
    have ea : a.drop j = [] := by rw [List.drop_eq_nil_iff]; omega
    rw [ea]
    simp only [Option.bind_some]
    rw [wid (by simp only [goLen]; omega) (by simp only [goLen]; omega)]
    unfold spec_l1Sign
    cases hd : b.drop j with
    | nil =>
      have : b.length ≤ j := by rw [← List.drop_eq_nil_iff]; exact hd
      rw [decide_eq_false (by simp only [goLen]; omega), decide_eq_false (by simp only [goLen]; omega)]
      rfl
    | cons y r =>
      have : ¬ b.length ≤ j := by rw [← List.drop_eq_nil_iff, hd]; simp
      rw [decide_eq_true (by simp only [goLen]; omega)]
      rfl
  | succ n ih =>
    intro j h1 h2 h3
    have hj : j < a.length := by omega
    rw [loopC_eq]
    have ga : goAt a (j : Int) = some a[j] := at_ok (by simp [hj])
    rw [List.drop_eq_getElem_cons hj]
    by_cases hb2 : j < b.length
    · have gb : goAt b (j : Int) = some b[j] := at_ok (by simp [hb2])
      rw [List.drop_eq_getElem_cons hb2]
      generalize a[j] = x at ga
      generalize b[j] = y at gb
      have e : spec_l1Less_l1 a b (j : Int) = some (if x < y then .done (.inr (-1)) else if y < x then .done (.inr 1) else .next ((j + 1 : Nat) : Int)) := by
        simp only [spec_l1Less_l1]
        rw [decide_eq_true (by unfold goLen; omega), decide_eq_true (by unfold goLen; omega), ga, gb]
        simp only [cond_true, Option.bind_some]
        by_cases h4 : x < y
        · rw [show (x != y) = true by simp; omega, decide_eq_true h4, if_pos h4]; rfl
        · by_cases h5 : y < x
          · rw [show (x != y) = true by simp; omega, decide_eq_false h4, if_neg h4, if_pos h5]; rfl
          · rw [show (x != y) = false by simp; omega, if_neg h4, if_neg h5, wid (by omega) (by omega)]; rfl
      rw [e]
      simp only [cmpL]
      by_cases h4 : x < y
      · simp [h4]
      · by_cases h5 : y < x
        · simp [h4, h5]
        · simp only [h4, h5, if_false]
          exact ih (j + 1) (by omega) (by omega) (by omega)
    · have e : spec_l1Less_l1 a b (j : Int) = some (.done (.inl ())) := by
        simp only [spec_l1Less_l1]
        rw [decide_eq_true (by unfold goLen; omega), decide_eq_false (by unfold goLen; omega)]
        rfl
      have eb : b.drop j = [] := by rw [List.drop_eq_nil_iff]; omega
      rw [e, eb]
      simp only [Option.bind_some]
      rw [wid (by simp only [goLen]; omega) (by simp only [goLen]; omega)]
      unfold spec_l1Sign
      rw [decide_eq_false (by simp only [goLen]; omega), decide_eq_true (by simp only [goLen]; omega)]
      rfl

theorem lessL_eq {a b : List Int} (ha : a.length ≤ 1000000) (hb : b.length ≤ 1000000) : spec_l1Less a b = some (cmpL a b) := by
  unfold spec_l1Less
  exact less_at a b hb ha _ 0 rfl (Nat.zero_le _) (Nat.zero_le _)

theorem rCmpr_eq {x y : impl_Record} (hx : x.Values.length ≤ 1000000) (hy : y.Values.length ≤ 1000000) : spec_rCompare x y = some (cmpRecords x y) := by
  unfold spec_rCompare cmpRecords keyR
  rw [lessL_eq (by simp) (by simp), lessL_eq hx hy]
  simp only [Option.bind_some, cmpL]
  by_cases h1 : x.Area < y.Area
  · simp [h1]
  · by_cases h2 : y.Area < x.Area
    · simp [h1, h2]
    · by_cases h3 : x.House < y.House
      · simp [h1, h2, h3]
      · by_cases h4 : y.House < x.House <;> simp [h1, h2, h3, h4]

/-- one more record finds its placeR -/
theorem placeR {out : List impl_Record} {r : impl_Record} (hl : out.length ≤ 1000) (hv : ∀ x ∈ out, x.Values.length ≤ 1000) (hr : r.Values.length ≤ 1000) (hs : out.Pairwise (fun a b => leR a b = true)) :
    ∀ (k : Nat) (h : impl_Record), k ≤ out.length → (∀ x ∈ out.drop k, leR x r = false) →
      ∃ (j : Nat) (h' : impl_Record), loopC (spec_dSorted_l2 r) (out.take k ++ h :: out.drop k, (k : Int)) = some (out.take j ++ h' :: out.drop j, (j : Int)) ∧ j ≤ out.length ∧ (out.take j ++ r :: out.drop j).Pairwise (fun a b => leR a b = true) := by
  intro k
  induction k with
  | zero =>
    intro h _ hd
    refine ⟨0, h, ?_, by omega, ?_⟩
    · rw [loopC_eq]
      simp only [spec_dSorted_l2]
      rw [decide_eq_false (by omega)]
      rfl
    · simp only [List.take_zero, List.drop_zero, List.nil_append, List.pairwise_cons] at hd ⊢
      refine ⟨fun x hx => ?_, hs⟩
      have h1 := hd x hx
      have h2 := leR_total r x
      rw [h1, Bool.or_false] at h2
      exact h2
  | succ k ih =>
    intro h hk hd
    have hlt : k < out.length := by omega
    have ht : out.take (k + 1) = out.take k ++ [out[k]] := by rw [List.take_succ, List.getElem?_eq_getElem hlt]; rfl
    have hdr : out.drop k = out[k] :: out.drop (k + 1) := List.drop_eq_getElem_cons hlt
    have htl : (out.take k).length = k := by rw [List.length_take]; omega
    have g1 : goAt (out.take (k + 1) ++ h :: out.drop (k + 1)) (k : Int) = some out[k] := at_ok (by
      rw [List.getElem?_append_left (by rw [List.length_take]; omega), List.getElem?_take_of_lt (by omega)]
      simp [hlt])
    have g2 : goAt (out.take (k + 1) ++ h :: out.drop (k + 1)) ((k + 1 : Nat) : Int) = some h := at_ok (by
      have : (out.take (k + 1)).length = k + 1 := by rw [List.length_take]; omega
      rw [List.getElem?_append_right (by omega), this]
      simp)
    rw [loopC_eq]
    have e0 : w64 (((k + 1 : Nat) : Int) - 1) = (k : Int) := by rw [wid (by omega) (by omega)]; omega
    have hvk : out[k].Values.length ≤ 1000 := hv _ (List.getElem_mem hlt)
    have e : spec_dSorted_l2 r (out.take (k + 1) ++ h :: out.drop (k + 1), ((k + 1 : Nat) : Int)) = some (if leR out[k] r then .done (out.take (k + 1) ++ h :: out.drop (k + 1), ((k + 1 : Nat) : Int)) else .next (out.take k ++ out[k] :: out.drop k, (k : Int))) := by
      simp only [spec_dSorted_l2]
      rw [decide_eq_true (by omega), cond_true, e0, g1]
      simp only [Option.bind_some]
      rw [rCmpr_eq (by omega) (by omega)]
      simp only [Option.bind_some]
      cases hc : leR out[k] r with
      | true =>
        have : ¬ 0 < cmpRecords out[k] r := by simp only [leR, decide_eq_true_eq] at hc; omega
        rw [decide_eq_false this]
        rfl
      | false =>
        have : 0 < cmpRecords out[k] r := by simp only [leR, decide_eq_false_iff_not] at hc; omega
        rw [decide_eq_true this, cond_true, g2]
        simp only [Option.bind_some, goSet, Int.toNat_natCast]
        rw [ht]
        simp only [List.append_assoc, List.singleton_append]
        rw [List.set_append_right _ _ (by omega), htl, show k + 1 - k = 1 by omega, hdr]
        rfl
    rw [e]
    cases hc : leR out[k] r with
    | true =>
      refine ⟨k + 1, h, rfl, hk, ?_⟩
      have hs2 : (out.take (k + 1) ++ out.drop (k + 1)).Pairwise (fun a b => leR a b = true) := by rw [List.take_append_drop]; exact hs
      obtain ⟨p1, p2, p3⟩ := List.pairwise_append.1 hs2
      refine List.pairwise_append.2 ⟨p1, List.pairwise_cons.2 ⟨fun x hx => ?_, p2⟩, fun x hx y hy => ?_⟩
      · have h1 := hd x hx
        have h2 := leR_total r x
        rw [h1, Bool.or_false] at h2
        exact h2
      · rcases List.mem_cons.1 hy with rfl | hy
        · rw [ht] at hx
          rcases List.mem_append.1 hx with hx | hx
          · have hs3 : (out.take k ++ out.drop k).Pairwise (fun a b => leR a b = true) := by rw [List.take_append_drop]; exact hs
            have hin : out[k] ∈ out.drop k := by rw [hdr]; exact List.mem_cons_self
            have := (List.pairwise_append.1 hs3).2.2 x hx out[k] hin
            exact leR_trans this hc
          · obtain rfl := List.mem_singleton.1 hx
            exact hc
        · exact p3 x hx y hy
    | false =>
      simp only [if_false, Bool.false_eq_true]
      refine ih out[k] (by omega) fun x hx => ?_
      rw [hdr] at hx
      rcases List.mem_cons.1 hx with rfl | hx
      · exact hc
      · exact hd x hx

theorem dSrt_eq {l : List impl_Record} (hl : l.length ≤ 900) (hv : ∀ x ∈ l, x.Values.length ≤ 1000) : spec_dSorted l = some (srt l) := by
  unfold spec_dSorted
  have h : Tot (loopC (spec_dSorted_l1 l) (([] : List impl_Record), 0)) fun out => out.Perm l ∧ out.Pairwise (fun a b => leR a b = true) := by
    refine tot_loop (fun s => ∃ k : Nat, k ≤ l.length ∧ s.2 = (k : Int) ∧ s.1.Perm (l.take k) ∧ s.1.Pairwise (fun a b => leR a b = true)) (fun s => l.length - s.2.toNat) ⟨0, by omega, rfl, by simp, by simp⟩ ?_
    rintro ⟨out, t⟩ ⟨k, hk, rfl, hp, hs⟩
    simp only at hp hs
    by_cases hlt : k < l.length
    · have hx : l[k]? = some l[k] := by simp [hlt]
      have hxm : l[k] ∈ l := List.getElem_mem hlt
      generalize l[k] = r at hx hxm
      have hol : out.length = k := by rw [hp.length_eq, List.length_take]; omega
      have hov : ∀ x ∈ out, x.Values.length ≤ 1000 := fun x hx => hv x (List.mem_of_mem_take (hp.subset hx))
      obtain ⟨j, h', e, hj, hs2⟩ := placeR (by omega) hov (hv r hxm) hs out.length r (Nat.le_refl _) (by simp)
      rw [List.take_length, List.drop_length] at e
      simp only [spec_dSorted_l1, lt_ok hx, cond_true, at_ok hx, Option.bind_some, rOwn_eq2 (hv r hxm)]
      rw [goApp_ok (by simp; omega), Option.bind_some, show goLen out = ((out.length : Nat) : Int) from rfl, e]
      simp only [Option.bind_some]
      have hjl : (out.take j).length = j := by rw [List.length_take]; omega
      have g : goAt (out.take j ++ h' :: out.drop j) (j : Int) = some h' := at_ok (by rw [List.getElem?_append_right (by omega), hjl]; simp)
      rw [g]
      simp only [Option.bind_some, goSet, Int.toNat_natCast]
      rw [List.set_append_right _ _ (by omega), hjl, Nat.sub_self, wid (by omega) (by omega)]
      refine tot_some ⟨⟨k + 1, by omega, by simp only; omega, ?_, hs2⟩, by simp only; omega⟩
      simp only [List.set_cons_zero]
      rw [List.take_succ, hx]
      refine List.perm_middle.trans ?_
      rw [List.take_append_drop]
      exact (List.Perm.cons r hp).trans (List.perm_append_singleton r (l.take k)).symm
    · obtain rfl : k = l.length := by omega
      simp only [spec_dSorted_l1, lt_end, cond_false]
      exact tot_some ⟨by rw [List.take_length] at hp; exact hp, hs⟩
  obtain ⟨out, e, hp, hs⟩ := h
  rw [e, Option.bind_some, srt_one hp hs]

theorem pw_cmp {l : List impl_Record} (k : Nat) {x y : impl_Record} (hx : (srt l)[k]? = some x) (hy : (srt l)[k + 1]? = some y) : cmpRecords x y ≤ 0 := by
  have h := srt_pw l
  rw [List.pairwise_iff_getElem] at h
  obtain ⟨h1, rfl⟩ := List.getElem?_eq_some_iff.1 hx
  obtain ⟨h2, rfl⟩ := List.getElem?_eq_some_iff.1 hy
  have := h k (k + 1) h1 h2 (by omega)
  simpa [leR] using this

end Go.Gx.F
