/- Plain laws: slices and differences of cubes. -/
import Derived.Test.YtiikfhfnkppeeaaEPCub4
namespace Go.Gx.F
open Go.Gx
set_option linter.all false

/-- all dimensions but one -/
def oth (n d : Nat) : List Nat := (List.range n).filter fun k => decide (k ≠ d)

theorem oth_succ (n d : Nat) : oth (n + 1) d = if n ≠ d then oth n d ++ [n] else oth n d := by
  unfold oth
  rw [List.range_succ, List.filter_append]
  by_cases h : n = d <;> simp [h]

theorem oth_rd (n d : Nat) : RD n (oth n d) := by
  refine ⟨fun k hk => ?_, ?_⟩
  · unfold oth at hk
    exact List.mem_range.1 (List.mem_filter.1 hk).1
  · unfold oth
    exact List.Pairwise.filter _ List.pairwise_lt_range

theorem oth_not (n d : Nat) : d ∉ oth n d := by
  unfold oth
  rw [List.mem_filter]
  simp

theorem dims_impl {S : List Nat} {c : impl_Cube} (hS : c.Sizes = up S) (h4 : S.length ≤ 4) {d : Nat} : loopC (impl_SliceOf_l1 c (d : Int)) ([], 0) = some (up (oth S.length d)) := by
  refine tot_eq ?_
  refine tot_loop (fun s => ∃ k : Nat, s = (up (oth k d), (k : Int)) ∧ k ≤ S.length) (fun s => 10 - s.2.toNat) ⟨0, rfl, by omega⟩ ?_
  rintro s ⟨k, rfl, hk⟩
  simp only [impl_SliceOf_l1]
  have hl : (oth k d).length ≤ k := by
    unfold oth
    have := List.length_filter_le (fun j => decide (j ≠ d)) (List.range k)
    simpa using this
  refine tot_cond (fun hc => ?_) fun hc => tot_some ?_
  · have hlt : k < S.length := by
      have := of_decide_eq_true hc
      rw [hS] at this
      simp only [goLen, up_len] at this; omega
    rw [wid (n := (k : Int) + 1) (by omega) (by omega)]
    refine tot_bind (Q := fun r => r = up (oth (k + 1) d)) (tot_cond (fun hb => ?_) fun hb => tot_some ?_) fun r hr => tot_some (by subst hr; exact ⟨⟨k + 1, rfl, by omega⟩, by simp only; omega⟩)
    · have hne : k ≠ d := by
        have : (k : Int) ≠ (d : Int) := by simpa using hb
        omega
      exact tot_bind (tot_app (Q := fun r => r = up (oth (k + 1) d)) (by rw [up_len]; simp; omega) (by rw [oth_succ, if_pos hne]; simp [up])) fun r hr => tot_some hr
    · have he : k = d := by
        have : (k : Int) = (d : Int) := by simpa using hb
        omega
      rw [oth_succ, if_neg (by simpa using he)]
  · have hlt : ¬ k < S.length := by
      have := of_decide_eq_false hc
      rw [hS] at this
      simp only [goLen, up_len] at this; omega
    obtain rfl : k = S.length := by omega
    rfl

theorem dims_spec {S : List Nat} {c : impl_Cube} (hS : c.Sizes = up S) (h4 : S.length ≤ 4) {d : Nat} : loopC (spec_SliceOf_l1 c (d : Int)) ([], 0) = some (up (oth S.length d)) := by
  have : spec_SliceOf_l1 c (d : Int) = impl_SliceOf_l1 c (d : Int) := by funext ⟨a, b⟩; rfl
  rw [this]
  exact dims_impl hS h4

def sliceC (S : List Nat) (f : Nat → Int) (d i : Nat) : impl_Cube := takeC S f (oth S.length d) (S.set d i)

theorem SliceOf_ok {S : List Nat} {c : impl_Cube} (h : GoodC S c) {d s i : Nat} (hs : S[d]? = some s) (hi : i ≤ s) : impl_SliceOf c (d : Int) (i : Int) = some (sliceC S (ce c.Cells) d i, true) ∧ spec_SliceOf c (d : Int) (i : Int) = some (sliceC S (ce c.Cells) d i, true) := by
  obtain ⟨b, e1, e2, hb⟩ := goods c
  obtain rfl := hb.2 ⟨S, h⟩
  have hdl := (List.getElem?_eq_some_iff.1 hs).1
  have h4 := h.vc.1.l
  have hF : VX S (S.set d i) := (VX_top S).set hs hi
  have hus : goAt (up S) (d : Int) = some (s : Int) := up_at hs
  have hset : goSet (up S) (d : Int) (i : Int) = up (S.set d i) := by simp only [goSet, Int.toNat_natCast]; exact up_set S d i
  constructor
  · unfold impl_SliceOf
    rw [e1, dims_impl h.sz h4, h.sz]
    simp only [Option.bind_some, Bool.not_true, cond_false, hus]
    rw [show decide ((d : Int) < 0) = false by simp, show decide (goLen (up S) ≤ (d : Int)) = false by simp [goLen, up]; omega, show decide ((i : Int) < 0) = false by simp, show decide ((s : Int) < (i : Int)) = false by simp; omega]
    simp only [cond_false, Option.bind_some]
    rw [clone_eq (by rw [up_len]; omega), Option.bind_some, hus, Option.bind_some, hset, taken_eq h.toFormC (oth_rd _ _) hF]
    rfl
  · unfold spec_SliceOf
    rw [e2, dims_spec h.sz h4, h.sz]
    simp only [Option.bind_some, Bool.not_true, cond_false, lIn_eq, hus, goLen, up_len]
    rw [wid (n := (S.length : Int) - 1) (by omega) (by omega), show decide (0 ≤ (d : Int) ∧ (d : Int) ≤ (S.length : Int) - 1) = true by simp; omega, show decide (0 ≤ (i : Int) ∧ (i : Int) ≤ (s : Int)) = true by simp; omega]
    simp only [Bool.not_true, cond_false, Option.bind_some]
    rw [own_eq (by rw [up_len]; omega), Option.bind_some, hus, Option.bind_some, hset, cbFrom_eq h.toFormC (oth_rd _ _) hF]
    rfl

theorem SliceOf_same (c : impl_Cube) (dim i : Int) (hn : c.Sizes.length ≤ 1000000) : ∃ p : impl_Cube × Bool, impl_SliceOf c dim i = some p ∧ spec_SliceOf c dim i = some p ∧
    (p.2 = true → ∃ S d s k, GoodC S c ∧ dim = ((d : Nat) : Int) ∧ S[d]? = some s ∧ i = ((k : Nat) : Int) ∧ k ≤ s ∧ p.1 = sliceC S (ce c.Cells) d k) ∧ (p.2 = false → p.1 = noCube) := by
  obtain ⟨b, e1, e2, hb⟩ := goods c
  by_cases hg : ∃ S d s k, GoodC S c ∧ dim = ((d : Nat) : Int) ∧ S[d]? = some s ∧ i = ((k : Nat) : Int) ∧ k ≤ s
  · obtain ⟨S, d, s, k, hS, rfl, hs, rfl, hk⟩ := hg
    obtain ⟨a1, a2⟩ := SliceOf_ok hS hs hk
    exact ⟨_, a1, a2, fun _ => ⟨S, d, s, k, hS, rfl, hs, rfl, hk, rfl⟩, nofun⟩
  · refine ⟨(noCube, false), ?_, ?_, nofun, fun _ => rfl⟩
    · unfold impl_SliceOf
      rw [e1]
      cases b with
      | false => rfl
      | true =>
        obtain ⟨S, hS⟩ := hb.1 rfl
        simp only [Option.bind_some, Bool.not_true, cond_false]
        have e : (cond (decide (dim < 0)) (some true) (cond (decide (goLen c.Sizes ≤ dim)) (some true) (cond (decide (i < 0)) (some true) ((goAt c.Sizes dim).bind fun e_6 => some (decide (e_6 < i))))) : Option Bool) = some true := by
          by_cases h1 : dim < 0
          · simp [h1]
          · by_cases h2 : goLen c.Sizes ≤ dim
            · simp [h1, h2]
            · by_cases h3 : i < 0
              · simp [h1, h2, h3]
              · rw [decide_eq_false h1, decide_eq_false h2, decide_eq_false h3]
                simp only [cond_false]
                obtain ⟨d, rfl⟩ := Int.eq_ofNat_of_zero_le (show 0 ≤ dim by omega)
                obtain ⟨k, rfl⟩ := Int.eq_ofNat_of_zero_le (show 0 ≤ i by omega)
                have hdl : d < S.length := by
                  rw [hS.sz] at h2
                  simp only [goLen, up_len] at h2; omega
                have hs : S[d]? = some S[d] := by simp [hdl]
                rw [hS.sz, up_at hs, Option.bind_some]
                congr 1
                refine decide_eq_true ?_
                have : ¬ k ≤ S[d] := fun hk => hg ⟨S, d, S[d], k, hS, rfl, hs, rfl, hk⟩
                omega
        rw [e]; rfl
    · unfold spec_SliceOf
      rw [e2]
      cases b with
      | false => rfl
      | true =>
        obtain ⟨S, hS⟩ := hb.1 rfl
        simp only [Option.bind_some, Bool.not_true, cond_false, lIn_eq, goLen]
        rw [wid (n := (c.Sizes.length : Int) - 1) (by omega) (by omega)]
        by_cases h1 : 0 ≤ dim ∧ dim ≤ (c.Sizes.length : Int) - 1
        · rw [decide_eq_true h1]
          simp only [Bool.not_true, cond_false]
          obtain ⟨d, rfl⟩ := Int.eq_ofNat_of_zero_le h1.1
          have hdl : d < S.length := by
            have := h1.2
            rw [hS.sz, up_len] at this; omega
          have hs : S[d]? = some S[d] := by simp [hdl]
          rw [hS.sz, up_at hs, Option.bind_some]
          by_cases h2 : 0 ≤ i ∧ i ≤ ((S[d] : Nat) : Int)
          · obtain ⟨k, rfl⟩ := Int.eq_ofNat_of_zero_le h2.1
            exact absurd ⟨S, d, S[d], k, hS, rfl, hs, rfl, by omega⟩ hg
          · rw [decide_eq_false h2]; rfl
        · rw [decide_eq_false h1]; rfl

/-! ## differences -/
theorem Equal_bis {a b : List Int} (hl : a.length ≤ 1000000) : Bis (slices_Equal_int_int a b) (a = b) := by
  unfold slices_Equal_int_int
  by_cases h : a.length = b.length
  · rw [show (goLen a != goLen b) = false by simp [goLen, h], cond_false]
    refine bis_iff (bis_loop (l := a) (fun k x => b[k]? = some x) (fun k x hx => ?_) (by simp only [slices_Equal_int_int_l1, lt_end, cond_false])) ?_
    · have hk := (List.getElem?_eq_some_iff.1 hx).1
      have hy : b[k]? = some (b[k]'(by omega)) := by simp [show k < b.length by omega]
      generalize b[k]'(by omega) = y at hy
      simp only [slices_Equal_int_int_l1, lt_ok hx, at_ok hx, at_ok hy, cond_true, Option.bind_some]
      refine ⟨x == y, by rw [hy, beq_iff_eq]; exact ⟨fun h => by rw [h], fun h => (Option.some.inj h).symm⟩, ?_⟩
      by_cases hxy : x = y
      · subst hxy; simp [nx_ok hx (show a.length ≤ 9223372036854775807 by omega)]
      · rw [show (x != y) = true by simpa using hxy, show (x == y) = false by simpa using hxy]; rfl
    · constructor
      · intro hh
        apply List.ext_getElem?
        intro k
        by_cases hk : k < a.length
        · have hx : a[k]? = some a[k] := by simp [hk]
          rw [hx, hh k _ hx]
        · rw [List.getElem?_eq_none (by omega), List.getElem?_eq_none (by omega)]
      · rintro rfl k x hx; exact hx
  · rw [show (goLen a != goLen b) = true by simp [goLen]; omega]
    refine ⟨false, rfl, ?_⟩
    simp only [Bool.false_eq_true, false_iff]
    exact fun e => h (by rw [e])

def diffC (S : List Nat) (f g : Nat → Int) : impl_Cube := ⟨up S, tab (cnt S) fun i => f i - g i⟩

theorem diff_loop {S : List Nat} {a b : impl_Cube} (ha : GoodC S a) (hb : GoodC S b) : loopC (impl_DifferenceOf_l1 b) (0, ⟨up S, a.Cells⟩) = some (diffC S (ce a.Cells) (ce b.Cells)) := by
  have hc := ha.vc.2
  refine tot_eq ?_
  refine tot_loop (fun s => ∃ k : Nat, s = ((k : Int), ⟨up S, tab (cnt S) fun i => if i < k then ce a.Cells i - ce b.Cells i else ce a.Cells i⟩) ∧ k ≤ cnt S) (fun s => 3000 - s.1.toNat) ⟨0, by simp only [Nat.not_lt_zero, if_false]; rw [← tab_ce ha.ln]; rfl, by omega⟩ ?_
  rintro s ⟨k, rfl, hk⟩
  simp only [impl_DifferenceOf_l1]
  refine tot_cond (fun hcc => ?_) fun hcc => tot_some ?_
  · have hlt : k < cnt S := by
      have := of_decide_eq_true hcc
      simp only [goLen, hb.ln] at this; omega
    rw [ce_at (by rw [hb.ln]; exact hlt), Option.bind_some, tab_at hlt, Option.bind_some, Option.bind_some, wid (n := (k : Int) + 1) (by omega) (by omega)]
    have h1 := ha.bd _ (ce_mem (l := a.Cells) (i := k) (by rw [ha.ln]; exact hlt))
    have h2 := hb.bd _ (ce_mem (l := b.Cells) (i := k) (by rw [hb.ln]; exact hlt))
    refine tot_some ⟨⟨k + 1, ?_, by omega⟩, by simp only; omega⟩
    refine Prod.ext rfl ?_
    simp only [goSet, Int.toNat_natCast, tab_set, impl_Cube.mk.injEq, true_and, Nat.lt_irrefl, if_false]
    rw [wid (by omega) (by omega)]
    refine tab_congr fun i hi => ?_
    by_cases hik : i = k
    · subst hik; simp
    · have : (i < k + 1) ↔ i < k := by omega
      simp [hik, this]
  · have hlt : ¬ k < cnt S := by
      have := of_decide_eq_false hcc
      simp only [goLen, hb.ln] at this; omega
    obtain rfl : k = cnt S := by omega
    simp only [diffC, impl_Cube.mk.injEq, true_and]
    exact tab_congr fun i hi => by simp [hi]

theorem DifferenceOf_tot (a b : impl_Cube) (hn : a.Sizes.length ≤ 1000000) : ∃ p : impl_Cube × Bool, impl_DifferenceOf a b = some p ∧ (p.2 = true → ∃ S, GoodC S a ∧ GoodC S b ∧ p.1 = diffC S (ce a.Cells) (ce b.Cells)) := by
  unfold impl_DifferenceOf
  obtain ⟨x, ex, hx⟩ := IsCube_bis a
  rw [ex, Option.bind_some]
  cases x with
  | false => exact ⟨_, rfl, nofun⟩
  | true =>
    obtain ⟨S, hS⟩ := hx.1 rfl
    obtain ⟨y, ey, hy⟩ := IsCube_bis b
    simp only [Bool.not_true, cond_false, ey, Option.bind_some]
    cases y with
    | false => exact ⟨_, rfl, nofun⟩
    | true =>
      obtain ⟨S', hS'⟩ := hy.1 rfl
      obtain ⟨z, ez, hz⟩ := Equal_bis (a := a.Sizes) (b := b.Sizes) hn
      simp only [Bool.not_true, cond_false, ez, Option.bind_some]
      cases z with
      | false => exact ⟨_, rfl, nofun⟩
      | true =>
        have : S = S' := up_inj (hS.sz.symm.trans ((hz.1 rfl).trans hS'.sz))
        subst this
        have h1 := hS.vc.1.l
        have h2 := hS.vc.2
        simp only [Bool.not_true, cond_false]
        rw [hS.sz, clone_eq (by rw [up_len]; omega), clone_eq (by rw [hS.ln]; omega)]
        simp only [Option.bind_some]
        rw [diff_loop hS hS', Option.bind_some]
        obtain ⟨w, ew, hw⟩ := areCubeValues_bis (l := (diffC S (ce a.Cells) (ce b.Cells)).Cells) (by simp only [diffC, tab_len]; omega)
        rw [ew, Option.bind_some]
        cases w with
        | false => exact ⟨_, rfl, nofun⟩
        | true => exact ⟨_, rfl, fun _ => ⟨S, hS, hS', rfl⟩⟩

/-! ## what is left of the slice of the total -/
theorem slice_ix {S : List Nat} {d t : Nat} {Y : List Nat} : put (S.set d t) (oth S.length d) Y = (put S (oth S.length d) Y).set d t := (put_comm _ _ _ _ _ (oth_not _ _)).symm

/-- cell j, when the first k slices are taken off -/
def left (S : List Nat) (f : Nat → Int) (d s k j : Nat) : Int :=
  f (ix S ((put S (oth S.length d) (dig (pick S (oth S.length d)) j)).set d s)) - sg (fun t => f (ix S ((put S (oth S.length d) (dig (pick S (oth S.length d)) j)).set d t))) k

theorem left_all {S : List Nat} {c : impl_Cube} (h : GoodC S c) {d s j : Nat} (hs : S[d]? = some s) (hj : j < cnt (pick S (oth S.length d))) : left S (ce c.Cells) d s s j = 0 := by
  unfold left
  have hdl := (List.getElem?_eq_some_iff.1 hs).1
  have hP := put_ok (D := oth S.length d) (VX_top S) (dig_ok hj) (oth_rd S.length d).lt
  generalize hX : put S (oth S.length d) (dig (pick S (oth S.length d)) j) = X at hP
  have hXd : X[d]? = some s := by rw [← hX, put_other _ _ _ _ (oth_not _ _)]; exact hs
  have he : X.set d s = X := by
    apply List.ext_getElem?
    intro i
    rw [List.getElem?_set]
    split
    · rename_i hi
      subst hi
      rw [hXd, if_pos (by rw [hP.len]; exact hdl)]
    · rfl
  have hix := ix_lt hP
  have hp : parts S (ce c.Cells) (ix S X) d s = ce c.Cells (ix S X) := Classical.byContradiction fun hne => h.ok _ hix ⟨d, s, hs, by rw [dig_ix hP]; exact hXd, hne⟩
  unfold parts at hp
  rw [dig_ix hP] at hp
  rw [he, hp]
  omega

theorem SliceChain {S : List Nat} {c : impl_Cube} (h : GoodC S c) {d s i : Nat} (hs : S[d]? = some s) : Tot (loopC (laws_FnSlices_l1 (c, (d : Int), (i : Int))) (0, sliceC S (ce c.Cells) d s)) fun r => match r with | .inl x => x.Cells = tab (cnt (pick S (oth S.length d))) (left S (ce c.Cells) d s s) | .inr b => b = true := by
  obtain ⟨b1, b2⟩ := h.vc.1.get hs
  have hv := pick_vc h.vc (oth_rd S.length d)
  have h4 := hv.1.l
  refine tot_loop (fun t => ∃ k : Nat, t = ((k : Int), ⟨up (pick S (oth S.length d)), tab (cnt (pick S (oth S.length d))) (left S (ce c.Cells) d s k)⟩) ∧ k ≤ s) (fun t => 40 - t.1.toNat) ⟨0, by
    refine Prod.ext rfl ?_
    simp only [sliceC, takeC, impl_Cube.mk.injEq, true_and]
    refine tab_congr fun j hj => ?_
    unfold left
    rw [slice_ix]
    simp [sg], by omega⟩ ?_
  rintro t ⟨k, rfl, hk⟩
  simp only [laws_FnSlices_l1]
  rw [h.sz, up_at hs, Option.bind_some]
  refine tot_cond (fun hc => ?_) fun hc => tot_some ?_
  · have hlt : k < s := Int.ofNat_lt.1 (of_decide_eq_true hc)
    rw [(SliceOf_ok h hs (show k ≤ s by omega)).1, Option.bind_some]
    simp only [Bool.not_true, cond_false]
    obtain ⟨p, ep, hp⟩ := DifferenceOf_tot ⟨up (pick S (oth S.length d)), tab (cnt (pick S (oth S.length d))) (left S (ce c.Cells) d s k)⟩ (sliceC S (ce c.Cells) d k) (by simp only [up_len]; omega)
    rw [ep, Option.bind_some]
    refine tot_cond (fun _ => tot_some rfl) fun hok => tot_some ?_
    have hok' : p.2 = true := by simpa using hok
    obtain ⟨S', ha, hb, he⟩ := hp hok'
    have : S' = pick S (oth S.length d) := up_inj ha.sz.symm
    subst this
    rw [he, wid (n := (k : Int) + 1) (by omega) (by omega)]
    refine ⟨⟨k + 1, ?_, by omega⟩, by simp only; omega⟩
    refine Prod.ext rfl ?_
    simp only [diffC, impl_Cube.mk.injEq, true_and]
    refine tab_congr fun j hj => ?_
    rw [ce_tab hj]
    simp only [sliceC, takeC]
    rw [ce_tab hj, slice_ix]
    unfold left
    rw [sg]
    omega
  · have hlt : ¬ k < s := fun h => of_decide_eq_false hc (Int.ofNat_lt.2 h)
    obtain rfl : k = s := by omega
    rfl

end Go.Gx.F
