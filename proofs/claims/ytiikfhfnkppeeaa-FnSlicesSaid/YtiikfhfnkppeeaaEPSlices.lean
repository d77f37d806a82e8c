/- Plain laws: the law of slices. -/
import Derived.Test.YtiikfhfnkppeeaaEPGrc
import Derived.Test.YtiikfhfnkppeeaaEPCubes
namespace Go.Gx.F
open Go.Gx
set_option linter.all false

/-- the new index of x -/
def gx (grp : List Nat) (G x : Nat) : Nat := (grp ++ [G]).getD x 0
def gm (grp : List Nat) (G d : Nat) (X : List Nat) : List Nat := X.set d (gx grp G (X.getD d 0))

theorem gx_lt {grp : List Nat} {G x : Nat} (hg : ∀ g ∈ grp, g < G) (h : x < grp.length) : gx grp G x < G := by
  unfold gx
  rw [List.getD_eq_getElem?_getD, List.getElem?_append_left h, List.getElem?_eq_getElem h]
  exact hg _ (List.getElem_mem h)
theorem gx_top (grp : List Nat) (G : Nat) : gx grp G grp.length = G := by
  unfold gx
  rw [List.getD_eq_getElem?_getD, List.getElem?_append_right (Nat.le_refl _)]
  simp
theorem gx_le {grp : List Nat} {G x : Nat} (hg : ∀ g ∈ grp, g < G) (h : x ≤ grp.length) : gx grp G x ≤ G := by
  by_cases hx : x < grp.length
  · have := gx_lt hg hx; omega
  · have : x = grp.length := by omega
    rw [this, gx_top]; omega

/-- what is needed of a joining -/
structure GOk (S : List Nat) (d s : Nat) (grp : List Nat) (G : Nat) : Prop where
  hs : S[d]? = some s
  len : grp.length = s
  lt : ∀ g ∈ grp, g < G
  pos : 0 < G
  le : G ≤ s

theorem cnt_set_le : ∀ {S : List Nat} {d s G : Nat}, S[d]? = some s → G ≤ s → cnt (S.set d G) ≤ cnt S
  | a :: S, 0, s, G, h, hG => by
    simp at h; subst h
    simp only [List.set_cons_zero, cnt]
    exact Nat.mul_le_mul_right _ (by omega)
  | a :: S, d + 1, s, G, h, hG => by
    simp only [List.set_cons_succ, cnt]
    exact Nat.mul_le_mul_left _ (cnt_set_le (by simpa using h) hG)
  | [], _, _, _, h, _ => by simp at h

theorem GOk.vc {S : List Nat} {d s G : Nat} {grp : List Nat} (h : GOk S d s grp G) (hv : VC S) : VC (S.set d G) := by
  refine ⟨⟨by simpa using hv.1.l, fun x hx => ?_⟩, Nat.le_trans (cnt_set_le h.hs h.le) hv.2⟩
  have h1 := hv.1.get h.hs
  rcases List.mem_or_eq_of_mem_set hx with hx | rfl
  · exact hv.1.b x hx
  · have := h.pos; have := h.le; omega

theorem GOk.dlt {S : List Nat} {d s G : Nat} {grp : List Nat} (h : GOk S d s grp G) : d < S.length := (List.getElem?_eq_some_iff.1 h.hs).1

theorem GOk.get {S : List Nat} {d s G : Nat} {grp : List Nat} (h : GOk S d s grp G) : (S.set d G)[d]? = some G := by simp [h.dlt]

/-- other dimensions are as they were -/
theorem GOk.set {S X : List Nat} {d s G : Nat} {grp : List Nat} (h : GOk S d s grp G) (hX : VX S X) {y : Nat} (hy : y ≤ G) : VX (S.set d G) (X.set d y) := by
  refine VX.of_get (by simp [hX.len]) fun k a b h1 h2 => ?_
  rw [List.getElem?_set] at h1 h2
  by_cases hk : d = k
  · rw [if_pos hk] at h1 h2
    split at h1
    · split at h2
      · simp at h1 h2; omega
      · cases h2
    · cases h1
  · rw [if_neg hk] at h1 h2
    exact hX.get h1 h2

theorem GOk.back {S Y : List Nat} {d s G : Nat} {grp : List Nat} (h : GOk S d s grp G) (hY : VX (S.set d G) Y) {x : Nat} (hx : x ≤ s) : VX S (Y.set d x) := by
  refine VX.of_get (by simp [hY.len]) fun k a b h1 h2 => ?_
  rw [List.getElem?_set] at h2
  by_cases hk : d = k
  · subst hk
    rw [if_pos rfl] at h2
    rw [h.hs] at h1
    split at h2
    · simp at h1 h2; omega
    · cases h2
  · rw [if_neg hk] at h2
    exact hY.get (by rw [List.getElem?_set_ne hk]; exact h1) h2

theorem getD_get {l : List Nat} {d x : Nat} (h : l[d]? = some x) : l.getD d 0 = x := by simp [List.getD_eq_getElem?_getD, h]

theorem gm_ok {S X : List Nat} {d s G : Nat} {grp : List Nat} (h : GOk S d s grp G) (hX : VX S X) : VX (S.set d G) (gm grp G d X) := by
  unfold gm
  refine h.set hX (gx_le h.lt ?_)
  have hd : X[d]? = some (X[d]'(by rw [hX.len]; exact h.dlt)) := by simp
  rw [getD_get hd, h.len]
  exact hX.get h.hs hd

/-- what falls together in cell j -/
def joinT (S : List Nat) (f : Nat → Int) (grp : List Nat) (G d j n : Nat) : Int := sg (fun i => if ix (S.set d G) (gm grp G d (dig S i)) = j then f i else 0) n

theorem joinT_bound {S : List Nat} {c : impl_Cube} (h : FormC S c) (grp : List Nat) (G d j : Nat) {n : Nat} (hn : n ≤ cnt S) : -2000000000 ≤ joinT S (ce c.Cells) grp G d j n ∧ joinT S (ce c.Cells) grp G d j n ≤ 2000000000 := by
  have := sg_bound (g := fun i => if ix (S.set d G) (gm grp G d (dig S i)) = j then ce c.Cells i else 0) (n := n) (B := 1000000) fun k hk => by
    split
    · exact h.bd _ (ce_mem (by rw [h.ln]; omega))
    · omega
  have hc := h.vc.2
  unfold joinT
  omega

theorem join_impl {S : List Nat} {c : impl_Cube} (h : FormC S c) {d s G : Nat} {grp : List Nat} (hg : GOk S d s grp G) :
    loopC (impl_GroupCube_l1 c (d : Int) (up grp) (up S) (G : Int)) (0, ⟨up (S.set d G), tab (cnt (S.set d G)) fun _ => 0⟩) = some ⟨up (S.set d G), tab (cnt (S.set d G)) fun j => joinT S (ce c.Cells) grp G d j (cnt S)⟩ := by
  have hv := hg.vc h.vc
  have hc := h.vc.2
  refine tot_eq ?_
  refine tot_loop (fun t => ∃ k : Nat, t = ((k : Int), ⟨up (S.set d G), tab (cnt (S.set d G)) fun j => joinT S (ce c.Cells) grp G d j k⟩) ∧ k ≤ cnt S) (fun t => 3000 - t.1.toNat) ⟨0, rfl, by omega⟩ ?_
  rintro t ⟨k, rfl, hk⟩
  simp only [impl_GroupCube_l1]
  refine tot_cond (fun hcc => ?_) fun hcc => tot_some ?_
  · have hlt : k < cnt S := by
      have := of_decide_eq_true hcc
      simp only [goLen, h.ln] at this; omega
    have hX := dig_ok hlt
    have hd : (dig S k)[d]? = some ((dig S k)[d]'(by rw [dig_len]; exact hg.dlt)) := by simp
    generalize (dig S k)[d]'(by rw [dig_len]; exact hg.dlt) = x at hd
    have hxs := hX.get hg.hs hd
    have hgm : gm grp G d (dig S k) = (dig S k).set d (gx grp G x) := by unfold gm; rw [getD_get hd]
    have hok := gm_ok hg hX
    have hS2 : goSet (up S) (d : Int) (G : Int) = up (S.set d G) := by simp only [goSet, Int.toNat_natCast]; exact up_set S d G
    rw [ce_at (by rw [h.ln]; exact hlt), Option.bind_some, h.sz, indexOf_eq h.vc.1 hlt, Option.bind_some, up_at hd, Option.bind_some, up_at hg.hs, Option.bind_some, hS2, up_at hg.get]
    have hidx : ((cond ((x : Int) == (s : Int)) ((some (G : Int)).bind fun e_43 => ((some (x : Int)).bind fun e_45 => some (goSet (up (dig S k)) (d : Int) e_43))) ((some (x : Int)).bind fun e_36 => ((goAt (up grp) e_36).bind fun e_38 => ((some (x : Int)).bind fun e_40 => some (goSet (up (dig S k)) (d : Int) e_38)))) : Option (List Int)) = some (up (gm grp G d (dig S k)))) := by
      rw [hgm]
      simp only [Option.bind_some, goSet, Int.toNat_natCast]
      by_cases hxe : x = s
      · rw [show ((x : Int) == (s : Int)) = true by simp [hxe], cond_true, up_set, hxe, ← hg.len, gx_top]
      · rw [show ((x : Int) == (s : Int)) = false by simp; omega, cond_false]
        have hgl : x < grp.length := by rw [hg.len]; omega
        have hgr : grp[x]? = some grp[x] := by simp [hgl]
        rw [up_at hgr, Option.bind_some, up_set]
        congr 3
        unfold gx
        rw [List.getD_eq_getElem?_getD, List.getElem?_append_left hgl, hgr]; rfl
    rw [hidx, Option.bind_some, cellOf_eq hv.1 hok, Option.bind_some, tab_at (ix_lt hok), Option.bind_some, Option.bind_some, wid (n := (k : Int) + 1) (by omega) (by omega)]
    refine tot_some ⟨⟨k + 1, ?_, by omega⟩, by simp only; omega⟩
    refine Prod.ext rfl ?_
    simp only [goSet, Int.toNat_natCast, tab_set, impl_Cube.mk.injEq, true_and]
    have hb := joinT_bound h grp G d (ix (S.set d G) (gm grp G d (dig S k))) (n := k + 1) (by omega)
    unfold joinT at hb ⊢
    rw [sg, if_pos rfl] at hb
    rw [wid (by omega) (by omega)]
    refine tab_congr fun j hj => ?_
    rw [sg]
    by_cases hje : j = ix (S.set d G) (gm grp G d (dig S k))
    · rw [if_pos hje, if_pos hje.symm, hje]
    · rw [if_neg hje, if_neg (Ne.symm hje)]; simp
  · have hlt : ¬ k < cnt S := by
      have := of_decide_eq_false hcc
      simp only [goLen, h.ln] at this; omega
    obtain rfl : k = cnt S := by omega
    rfl

theorem join_spec {S : List Nat} {c : impl_Cube} (h : FormC S c) {d s G : Nat} {grp : List Nat} (hg : GOk S d s grp G) :
    loopC (spec_GroupCube_l1 c (d : Int) (up grp)) (0, ⟨up (S.set d G), tab (cnt (S.set d G)) fun _ => 0⟩) = some ⟨up (S.set d G), tab (cnt (S.set d G)) fun j => joinT S (ce c.Cells) grp G d j (cnt S)⟩ := by
  have hv := hg.vc h.vc
  have hc := h.vc.2
  refine tot_eq ?_
  refine tot_loop (fun t => ∃ k : Nat, t = ((k : Int), ⟨up (S.set d G), tab (cnt (S.set d G)) fun j => joinT S (ce c.Cells) grp G d j k⟩) ∧ k ≤ cnt S) (fun t => 3000 - t.1.toNat) ⟨0, rfl, by omega⟩ ?_
  rintro t ⟨k, rfl, hk⟩
  simp only [spec_GroupCube_l1]
  refine tot_cond (fun hcc => ?_) fun hcc => tot_some ?_
  · have hlt : k < cnt S := by
      have := of_decide_eq_true hcc
      simp only [goLen, h.ln] at this; omega
    have hX := dig_ok hlt
    have hd : (dig S k)[d]? = some ((dig S k)[d]'(by rw [dig_len]; exact hg.dlt)) := by simp
    generalize (dig S k)[d]'(by rw [dig_len]; exact hg.dlt) = x at hd
    have hxs := hX.get hg.hs hd
    have hgm : gm grp G d (dig S k) = (dig S k).set d (gx grp G x) := by unfold gm; rw [getD_get hd]
    have hok := gm_ok hg hX
    rw [ce_at (by rw [h.ln]; exact hlt), Option.bind_some, h.sz, cbIndices_eq h.vc.1 hlt, Option.bind_some, up_at hd, Option.bind_some, up_at hg.hs, Option.bind_some, up_at hg.get]
    have hidx : ((cond ((x : Int) == (s : Int)) ((some (G : Int)).bind fun e_43 => ((some (x : Int)).bind fun e_45 => some (goSet (up (dig S k)) (d : Int) e_43))) ((some (x : Int)).bind fun e_36 => ((goAt (up grp) e_36).bind fun e_38 => ((some (x : Int)).bind fun e_40 => some (goSet (up (dig S k)) (d : Int) e_38)))) : Option (List Int)) = some (up (gm grp G d (dig S k)))) := by
      rw [hgm]
      simp only [Option.bind_some, goSet, Int.toNat_natCast]
      by_cases hxe : x = s
      · rw [show ((x : Int) == (s : Int)) = true by simp [hxe], cond_true, up_set, hxe, ← hg.len, gx_top]
      · rw [show ((x : Int) == (s : Int)) = false by simp; omega, cond_false]
        have hgl : x < grp.length := by rw [hg.len]; omega
        have hgr : grp[x]? = some grp[x] := by simp [hgl]
        rw [up_at hgr, Option.bind_some, up_set]
        congr 3
        unfold gx
        rw [List.getD_eq_getElem?_getD, List.getElem?_append_left hgl, hgr]; rfl
    rw [hidx, Option.bind_some, cbAt_eq hv.1 hok, Option.bind_some, tab_at (ix_lt hok), Option.bind_some, Option.bind_some, wid (n := (k : Int) + 1) (by omega) (by omega)]
    refine tot_some ⟨⟨k + 1, ?_, by omega⟩, by simp only; omega⟩
    refine Prod.ext rfl ?_
    simp only [goSet, Int.toNat_natCast, tab_set, impl_Cube.mk.injEq, true_and]
    have hb := joinT_bound h grp G d (ix (S.set d G) (gm grp G d (dig S k))) (n := k + 1) (by omega)
    unfold joinT at hb ⊢
    rw [sg, if_pos rfl] at hb
    rw [wid (by omega) (by omega)]
    refine tab_congr fun j hj => ?_
    rw [sg]
    by_cases hje : j = ix (S.set d G) (gm grp G d (dig S k))
    · rw [if_pos hje, if_pos hje.symm, hje]
    · rw [if_neg hje, if_neg (Ne.symm hje)]; simp
  · have hlt : ¬ k < cnt S := by
      have := of_decide_eq_false hcc
      simp only [goLen, h.ln] at this; omega
    obtain rfl : k = cnt S := by omega
    rfl

/-! ## the joined cube is one -/
/-- the same by the indices that fall together -/
def joinO (S : List Nat) (f : Nat → Int) (grp : List Nat) (G d s : Nat) (Y : List Nat) : Int := sg (fun x => if gx grp G x = Y.getD d 0 then f (ix S (Y.set d x)) else 0) (s + 1)

theorem set_self {l : List Nat} {d x : Nat} (h : l[d]? = some x) : l.set d x = l := by
  apply List.ext_getElem?
  intro i
  rw [List.getElem?_set]
  split
  · rename_i hi
    subst hi
    rw [h, if_pos (List.getElem?_eq_some_iff.1 h).1]
  · rfl

theorem joinT_eq {S : List Nat} {f : Nat → Int} {d s G : Nat} {grp : List Nat} (hg : GOk S d s grp G) {Y : List Nat} (hY : VX (S.set d G) Y) : joinT S f grp G d (ix (S.set d G) Y) (cnt S) = joinO S f grp G d s Y := by
  have hdY : d < Y.length := by rw [hY.len]; simp [hg.dlt]
  have hyd : Y[d]? = some Y[d] := by simp [hdY]
  unfold joinT joinO
  -- each cell that falls into Y is one of these
  have e : ∀ i, i < cnt S → (if ix (S.set d G) (gm grp G d (dig S i)) = ix (S.set d G) Y then f i else 0) = sg (fun x => if gx grp G x = Y.getD d 0 ∧ dig S i = Y.set d x then f i else 0) (s + 1) := by
    intro i hi
    have hX := dig_ok hi
    have hd : (dig S i)[d]? = some ((dig S i)[d]'(by rw [dig_len]; exact hg.dlt)) := by simp
    generalize (dig S i)[d]'(by rw [dig_len]; exact hg.dlt) = x at hd
    have hxs := hX.get hg.hs hd
    have hgm : gm grp G d (dig S i) = (dig S i).set d (gx grp G x) := by unfold gm; rw [getD_get hd]
    have hdl : d < (dig S i).length := by rw [dig_len]; exact hg.dlt
    by_cases hfall : gx grp G x = Y.getD d 0 ∧ dig S i = Y.set d x
    · rw [sg_one (c := x) (by omega) fun k hk hne => by
        rw [if_neg]
        rintro ⟨_, h2⟩
        have h3 := congrArg (fun l => l[d]?) (hfall.2.symm.trans h2)
        simp [hdY] at h3
        exact hne h3.symm, if_pos hfall, if_pos]
      rw [hgm, hfall.2, List.set_set, hfall.1, getD_get hyd, set_self hyd]
    · rw [sg_congr (h := fun _ => 0) fun k hk => by
        rw [if_neg]
        rintro ⟨h1, h2⟩
        have h3 := congrArg (fun l => l[d]?) h2
        rw [hd] at h3
        simp [hdY] at h3
        subst h3
        exact hfall ⟨h1, h2⟩, sg_zero, if_neg]
      intro hix
      have h4 := ix_inj (gm_ok hg hX) hY hix
      rw [hgm] at h4
      apply hfall
      constructor
      · have h5 := congrArg (fun l => l[d]?) h4
        simp only [hyd] at h5
        simp [hdl] at h5
        rw [getD_get hyd]; exact h5
      · rw [← h4, List.set_set, set_self hd]
  rw [sg_congr e, sg_swap]
  refine sg_congr fun x hx => ?_
  have hb := hg.back hY (show x ≤ s by omega)
  by_cases h1 : gx grp G x = Y.getD d 0
  · rw [if_pos h1, sg_one (c := ix S (Y.set d x)) (ix_lt hb) fun k hk hne => by
      rw [if_neg]
      rintro ⟨_, h2⟩
      rw [← h2, ix_dig hk] at hne
      exact hne rfl, if_pos ⟨h1, dig_ix hb⟩]
  · rw [if_neg h1, sg_congr (h := fun _ => 0) fun k hk => if_neg fun h => h1 h.1, sg_zero]

theorem good_sum {S : List Nat} {c : impl_Cube} (h : GoodC S c) {X : List Nat} (hX : VX S X) {d s : Nat} (hs : S[d]? = some s) (hd : X[d]? = some s) : sg (fun k => ce c.Cells (ix S (X.set d k))) s = ce c.Cells (ix S X) := by
  have hix := ix_lt hX
  have hp : parts S (ce c.Cells) (ix S X) d s = ce c.Cells (ix S X) := Classical.byContradiction fun hne => h.ok _ hix ⟨d, s, hs, by rw [dig_ix hX]; exact hd, hne⟩
  unfold parts at hp
  rwa [dig_ix hX] at hp

theorem sg_sel {g : Nat → Int} {n c : Nat} {v : Int} (h : c < n) : sg (fun k => if c = k then v else 0) n = v := by
  rw [sg_one h fun k _ hk => if_neg (Ne.symm hk), if_pos rfl]

/-- the joined sums are additive -/
theorem joinO_add {S : List Nat} {c : impl_Cube} (h : GoodC S c) {d s G : Nat} {grp : List Nat} (hg : GOk S d s grp G) {Y : List Nat} (hY : VX (S.set d G) Y) {e u : Nat} (hu : (S.set d G)[e]? = some u) (hyu : Y[e]? = some u) :
    sg (fun k => joinO S (ce c.Cells) grp G d s (Y.set e k)) u = joinO S (ce c.Cells) grp G d s Y := by
  have hdY : d < Y.length := by rw [hY.len]; simp [hg.dlt]
  by_cases hed : e = d
  · subst hed
    rw [hg.get] at hu
    obtain rfl := Option.some.inj hu
    unfold joinO
    have hB := hg.back hY (Nat.le_refl s)
    -- only the total falls into the total
    have e1 : sg (fun x => if gx grp G x = Y.getD e 0 then ce c.Cells (ix S (Y.set e x)) else 0) (s + 1) = ce c.Cells (ix S (Y.set e s)) := by
      rw [getD_get hyu, sg_one (c := s) (by omega) fun k hk hne => if_neg fun hh => by
        have := gx_lt hg.lt (show k < grp.length by rw [hg.len]; omega)
        omega, if_pos (by rw [← hg.len, gx_top])]
    rw [e1, sg_swap]
    have e2 : ∀ x, x < s + 1 → sg (fun k => if gx grp G x = (Y.set e k).getD e 0 then ce c.Cells (ix S ((Y.set e k).set e x)) else 0) G = if x < s then ce c.Cells (ix S (Y.set e x)) else 0 := by
      intro x hx
      have e3 : ∀ k, (if gx grp G x = (Y.set e k).getD e 0 then ce c.Cells (ix S ((Y.set e k).set e x)) else 0) = if gx grp G x = k then ce c.Cells (ix S (Y.set e x)) else 0 := by
        intro k
        rw [getD_get (show (Y.set e k)[e]? = some k by simp [hdY]), List.set_set]
      rw [sg_congr fun k _ => e3 k]
      by_cases hxs : x < s
      · rw [if_pos hxs, sg_sel (g := fun _ => 0) (gx_lt hg.lt (by rw [hg.len]; exact hxs))]
      · have : x = grp.length := by rw [hg.len]; omega
        rw [if_neg hxs, sg_congr (h := fun _ => 0) fun k hk => if_neg (by rw [this, gx_top]; omega), sg_zero]
    rw [sg_congr e2, sg, if_neg (Nat.lt_irrefl s), sg_congr (h := fun x => ce c.Cells (ix S (Y.set e x))) fun x hx => if_pos hx]
    have := good_sum h hB hg.hs (show (Y.set e s)[e]? = some s by simp [hdY])
    simp only [List.set_set] at this
    omega
  · have hu' : S[e]? = some u := by rwa [List.getElem?_set_ne (Ne.symm hed)] at hu
    unfold joinO
    rw [sg_swap]
    refine sg_congr fun x hx => ?_
    have hB := hg.back hY (show x ≤ s by omega)
    have e3 : ∀ k, (if gx grp G x = (Y.set e k).getD d 0 then ce c.Cells (ix S ((Y.set e k).set d x)) else 0) = if gx grp G x = Y.getD d 0 then ce c.Cells (ix S ((Y.set d x).set e k)) else 0 := by
      intro k
      have : (Y.set e k).getD d 0 = Y.getD d 0 := by
        rw [List.getD_eq_getElem?_getD, List.getD_eq_getElem?_getD, List.getElem?_set_ne hed]
      rw [this, List.set_comm _ _ hed]
    rw [sg_congr fun k _ => e3 k]
    by_cases hgx : gx grp G x = Y.getD d 0
    · simp only [hgx, if_true]
      exact good_sum h hB hu' (by rw [List.getElem?_set_ne (Ne.symm hed)]; exact hyu)
    · simp only [hgx, if_false]
      exact sg_zero u

def joinC (S : List Nat) (f : Nat → Int) (grp : List Nat) (G d : Nat) : impl_Cube := ⟨up (S.set d G), tab (cnt (S.set d G)) fun j => joinT S f grp G d j (cnt S)⟩

theorem joinC_good {S : List Nat} {c : impl_Cube} (h : GoodC S c) {d s G : Nat} {grp : List Nat} (hg : GOk S d s grp G) : (∃ S', GoodC S' (joinC S (ce c.Cells) grp G d)) ↔ Bnd (joinC S (ce c.Cells) grp G d).Cells := by
  constructor
  · rintro ⟨S', hh⟩; exact hh.bd
  · intro hb
    refine ⟨S.set d G, ⟨hg.vc h.vc, rfl, tab_len _ _, hb⟩, fun i hi => ?_⟩
    rintro ⟨e, u, hu, hd, hp⟩
    apply hp
    have hY := dig_ok hi
    have hcell : ∀ Y, VX (S.set d G) Y → ce (joinC S (ce c.Cells) grp G d).Cells (ix (S.set d G) Y) = joinO S (ce c.Cells) grp G d s Y := by
      intro Y hY
      simp only [joinC]
      rw [ce_tab (ix_lt hY), joinT_eq hg hY]
    unfold parts
    have h2 := hcell _ hY
    rw [ix_dig hi] at h2
    rw [h2, sg_congr fun k hk => hcell _ (hY.set hu (by omega))]
    exact joinO_add h hg hY hu hd

theorem joinC_last {S : List Nat} {c : impl_Cube} (h : GoodC S c) {d s G : Nat} {grp : List Nat} (hg : GOk S d s grp G) : ce (joinC S (ce c.Cells) grp G d).Cells (cnt (S.set d G) - 1) = ce c.Cells (cnt S - 1) := by
  have h1 := ix_top (S.set d G)
  have h2 := ix_top S
  have e : cnt (S.set d G) - 1 = ix (S.set d G) (S.set d G) := by omega
  simp only [joinC]
  rw [ce_tab (by omega), e, joinT_eq hg (VX_top _)]
  unfold joinO
  rw [getD_get hg.get, sg_one (c := s) (by omega) fun k hk hne => if_neg fun hh => by
    have := gx_lt hg.lt (show k < grp.length by rw [hg.len]; omega)
    omega, if_pos (by rw [← hg.len, gx_top]), List.set_set, set_self hg.hs]
  congr 1
  omega

theorem GroupCube_same (c : impl_Cube) (dim : Int) (groups : List Int) (hn : c.Sizes.length ≤ 1000000) (hgl : groups.length ≤ 1000) : ∃ p : impl_Cube × Bool, impl_GroupCube c dim groups = some p ∧ spec_GroupCube c dim groups = some p ∧
    (p.2 = true → ∃ S d s G grp, GoodC S c ∧ GOk S d s grp G ∧ p.1 = joinC S (ce c.Cells) grp G d ∧ GoodC (S.set d G) p.1) ∧ (p.2 = false → p.1 = noCube) := by
  obtain ⟨b, e1, e2, hb⟩ := goods c
  obtain ⟨n, g1, g2, g3, g4⟩ := groups_same hgl
  unfold impl_GroupCube spec_GroupCube
  rw [e1, e2, g1, g2]
  cases b with
  | false => exact ⟨(noCube, false), rfl, rfl, nofun, fun _ => rfl⟩
  | true =>
    obtain ⟨S, hS⟩ := hb.1 rfl
    have h4 := hS.vc.1.l
    simp only [Option.bind_some, Bool.not_true, cond_false, lIn_eq, goLen]
    rw [wid (n := (c.Sizes.length : Int) - 1) (by omega) (by omega)]
    by_cases hd : 0 ≤ dim ∧ dim < c.Sizes.length
    · rw [show decide (dim < 0) = false by simp; omega, show decide ((c.Sizes.length : Int) ≤ dim) = false by simp; omega, show decide (0 ≤ dim ∧ dim ≤ (c.Sizes.length : Int) - 1) = true by simp; omega]
      obtain ⟨d, rfl⟩ := Int.eq_ofNat_of_zero_le hd.1
      have hdl : d < S.length := by
        have := hd.2
        rw [hS.sz, up_len] at this; omega
      have hs : S[d]? = some S[d] := by simp [hdl]
      generalize S[d] = s at hs
      obtain ⟨s1, s2⟩ := hS.vc.1.get hs
      rw [hS.sz]
      simp only [cond_false, Bool.not_true, up_at hs, Option.bind_some]
      by_cases hl : groups.length = s
      · rw [show ((groups.length : Int) != (s : Int)) = false by simp [hl]]
        simp only [cond_false, Option.bind_some]
        by_cases hn0 : n = 0
        · subst hn0
          exact ⟨(noCube, false), rfl, rfl, nofun, fun _ => rfl⟩
        · have hG := g3 hn0
          rw [show ((n : Int) == 0) = false by simp; omega]
          simp only [cond_false]
          have hgu : groups = up (groups.map Int.toNat) := (up_toNat fun v hv => ((hG.2 v).1 hv).1).symm
          have hok : GOk S d s (groups.map Int.toNat) n := ⟨hs, by simpa using hl, fun g hg => by
            obtain ⟨v, hv, rfl⟩ := List.mem_map.1 hg
            have := (hG.2 v).1 hv
            omega, hG.1, by omega⟩
          generalize hgrp : groups.map Int.toNat = grp at hgu hok
          have hv := hok.vc hS.vc
          have hc := hv.2
          have hS2 : goSet (up S) (d : Int) (n : Int) = up (S.set d n) := by simp only [goSet, Int.toNat_natCast]; exact up_set S d n
          rw [hgu, clone_eq (by rw [up_len]; omega), own_eq (by rw [up_len]; omega), Option.bind_some, Option.bind_some, up_at hs, Option.bind_some, Option.bind_some, hS2, (counts_up hv).1, (counts_up hv).2, Option.bind_some, Option.bind_some, goMake_ok (by omega) (by omega), Option.bind_some, Option.bind_some, tab_zero, join_impl hS.toFormC hok, join_spec hS.toFormC hok, Option.bind_some, Option.bind_some]
          obtain ⟨w, ew, hw⟩ := areCubeValues_bis (l := (joinC S (ce c.Cells) grp n d).Cells) (by simp only [joinC, tab_len]; omega)
          obtain ⟨q, eq, hq1, hq2, hq3⟩ := cbIf_eq (joinC S (ce c.Cells) grp n d)
          have ew' : impl_areCubeValues (tab (cnt (S.set d n)) fun j => joinT S (ce c.Cells) grp n d j (cnt S)) = some w := ew
          have eq' : spec_cbIf ⟨up (S.set d n), tab (cnt (S.set d n)) fun j => joinT S (ce c.Cells) grp n d j (cnt S)⟩ = some q := eq
          rw [ew', eq', Option.bind_some, Option.bind_some]
          have hqw : q.2 = w := by
            rw [Bool.eq_iff_iff, hq1, hw, joinC_good hS hok]; rfl
          refine ⟨q, ?_, rfl, fun h => ?_, hq3⟩
          · cases w with
            | false =>
              show some (noCube, false) = some q
              congr 1
              exact pair_ext hqw.symm (fun h => by cases h) fun _ => (hq3 hqw).symm
            | true =>
              show some (joinC S (ce c.Cells) grp n d, true) = some q
              congr 1
              exact pair_ext hqw.symm (fun _ => (hq2 hqw).symm) fun h => by cases h
          · refine ⟨S, d, s, n, grp, hS, hok, hq2 h, ?_⟩
            obtain ⟨S', hg'⟩ := hq1.1 h
            rw [hq2 h]
            have : S.set d n = S' := up_inj hg'.sz
            rw [this]; exact hg'
      · rw [show ((groups.length : Int) != (s : Int)) = true by simp; omega]
        exact ⟨(noCube, false), rfl, rfl, nofun, fun _ => rfl⟩
    · have h1 : decide (0 ≤ dim ∧ dim ≤ (c.Sizes.length : Int) - 1) = false := by simp; omega
      rw [h1]
      refine ⟨(noCube, false), ?_, rfl, nofun, fun _ => rfl⟩
      by_cases h0 : dim < 0
      · rw [decide_eq_true h0]; rfl
      · rw [decide_eq_false h0, show decide ((c.Sizes.length : Int) ≤ dim) = true by simp; omega]; rfl

/-! ## what is drawn -/
theorem DrawSliceOf_ok {code : List (K .u8)} (ho : ∀ x ∈ code, Rng.ok x) : Tot (spec_DrawSliceOf code) fun r => r.1.Sizes.length ≤ 5 := by
  unfold spec_DrawSliceOf
  refine tot_bind (tcube (cur0 ho) (by omega)) fun ⟨x, c1⟩ ⟨hs, _, _, k1⟩ => ?_
  replace hs : x.Sizes.length ≤ 5 := hs
  simp only [goLen]
  rw [wid (by omega) (by omega)]
  refine tot_bind (tpick k1 (by omega) (by omega)) fun ⟨a, c2⟩ ⟨_, _, _, k2⟩ => ?_
  refine tot_bind (tpick k2) fun ⟨y, c3⟩ ⟨_, _, _, k3⟩ => ?_
  refine tot_bind (tot_quo (Q := fun _ => True) (by omega) trivial) fun _ _ => ?_
  refine tot_bind (tpick k3) fun ⟨z, c4⟩ ⟨_, _, _, k4⟩ => ?_
  refine tot_bind (tpick k4) fun ⟨u, c5⟩ ⟨_, _, _, k5⟩ => ?_
  exact tot_bind (tot_quo (Q := fun _ => True) (by omega) trivial) fun _ _ => tot_some hs

theorem DrawGroupCube_ok {code : List (K .u8)} (ho : ∀ x ∈ code, Rng.ok x) : Tot (spec_DrawGroupCube code) fun r => r.1.Sizes.length ≤ 5 ∧ r.2.2.length ≤ 40 := by
  unfold spec_DrawGroupCube
  refine tot_bind (tcube (cur0 ho) (by omega)) fun ⟨x, c1⟩ ⟨hs, h31, _, k1⟩ => ?_
  replace hs : x.Sizes.length ≤ 5 := hs
  replace h31 : ∀ v ∈ x.Sizes, v ≤ 31 := h31
  have hw : w64 (goLen x.Sizes + 1) = (x.Sizes.length : Int) + 1 := wid (by simp only [goLen]; omega) (by simp only [goLen]; omega)
  simp only [hw]
  refine tot_bind (tpick k1 (by omega) (by omega)) fun ⟨a, c2⟩ ⟨a0, _, _, k2⟩ => ?_
  simp only at a0
  refine tot_bind (Q := fun r => r.1.length ≤ 31 ∧ Cur 31000 r.2) (tot_cond (fun ha => ?_) fun _ => tot_some ⟨by simp, k2.le (by omega)⟩) fun ⟨groups, c3⟩ ⟨hgl, k3⟩ => ?_
  · have ha' : a < x.Sizes.length := by simpa [goLen] using ha
    obtain ⟨d, rfl⟩ := Int.eq_ofNat_of_zero_le a0
    have hd : x.Sizes[d]? = some (x.Sizes[d]'(by omega)) := by simp [show d < x.Sizes.length by omega]
    generalize x.Sizes[d]'(by omega) = v at hd
    have hv := h31 v (List.mem_of_getElem? hd)
    rw [at_ok hd, Option.bind_some, lMost_eq, Option.bind_some, lLeast_eq, Option.bind_some]
    refine tot_bind (tpick k2 (by omega) (by omega)) fun ⟨y, c3⟩ ⟨y0, y1, _, k3⟩ => ?_
    have hy := y1 (by omega)
    simp only at y0 hy
    refine tot_bind (Q := fun r => r.1.length ≤ 31 ∧ Cur 31000 r.2) ?_ fun ⟨r1, r2⟩ hr => tot_some hr
    refine tot_loop (fun t => ∃ k : Nat, t.2.1 = (k : Int) ∧ t.1.length = k ∧ k ≤ 31 ∧ Cur (0 + 30000 + 2 + 2 + 2 * k) t.2.2) (fun t => 40 - t.2.1.toNat) ⟨0, rfl, rfl, by omega, k3⟩ ?_
    rintro ⟨out, t, c4⟩ ⟨k, rfl, hl, hk, k4⟩
    simp only at hl k4
    simp only [spec_DrawGroupCube_l1]
    rw [at_ok hd, Option.bind_some]
    refine tot_cond (fun hc => ?_) fun _ => tot_some ⟨by simp only; omega, k4.le (by omega)⟩
    have hkv : (k : Int) < v := by simpa using hc
    rw [wid (n := 1 + y) (by omega) (by omega), wid (n := (k : Int) + 1) (by omega) (by omega)]
    refine tot_bind (Q := fun r => r.1.length = k + 1 ∧ Cur (0 + 30000 + 2 + 2 + 2 * (k + 1)) r.2) (tot_cond (fun _ => ?_) fun _ => ?_) fun ⟨r1, r2⟩ hr => tot_some ⟨⟨k + 1, rfl, hr.1, by omega, hr.2⟩, by simp only; omega⟩
    · exact tot_bind (tot_app (Q := fun r => r.length = k + 1) (by simp; omega) (by simp; omega)) fun r hr => tot_some ⟨hr, k4.le (by omega)⟩
    · refine tot_bind (tpick k4 (by omega) (by omega)) fun ⟨z, c5⟩ ⟨_, _, _, k5⟩ => ?_
      exact tot_bind (tot_app (Q := fun r => r.length = k + 1) (by simp; omega) (by simp; omega)) fun r hr => tot_some ⟨hr, k5.le (by omega)⟩
  · replace hgl : groups.length ≤ 31 := hgl
    refine tot_bind (tone k3) fun ⟨b, c4⟩ k4 => ?_
    refine tot_bind (Q := fun r => r.length ≤ 40) (tot_cond (fun _ => ?_) fun _ => tot_some (by omega)) fun r hr => tot_some ⟨hs, hr⟩
    refine tot_bind (tamong k4) fun ⟨v, c5⟩ _ => ?_
    exact tot_bind (tot_app (Q := fun r => r.length ≤ 40) (by simp; omega) (by simp; omega)) fun r hr => tot_some hr

theorem laws_FnSlices_true (a b : List (K .u8)) (o1 : Rng.ok a) (o2 : Rng.ok b) : laws_FnSlices a b = some true := by
  refine tot_eq ?_
  unfold laws_FnSlices
  refine tot_cond (fun _ => tot_some rfl) fun _ => ?_
  refine tot_bind (DrawSliceOf_ok o1.2) fun ⟨x, dim, i⟩ hxs => ?_
  replace hxs : x.Sizes.length ≤ 5 := hxs
  obtain ⟨p, p1, p2, p3, p4⟩ := SliceOf_same x dim i (by omega)
  simp only [p1, p2, Option.bind_some]
  refine tot_bind (DrawGroupCube_ok o2.2) fun ⟨z, e, groups⟩ ⟨hzs, hgl⟩ => ?_
  replace hzs : z.Sizes.length ≤ 5 := hzs
  replace hgl : groups.length ≤ 40 := hgl
  obtain ⟨q, q1, q2, q3, q4⟩ := GroupCube_same z e groups (by omega) (by omega)
  have hp : laws_qInts p.1.Sizes p.1.Sizes = some true ∧ laws_qInts p.1.Cells p.1.Cells = some true := by
    cases h : p.2 with
    | false => rw [p4 h]; exact ⟨qInts_same (by simp [noCube]), qInts_same (by simp [noCube])⟩
    | true =>
      obtain ⟨S, d, s, k, hg, _, hs, _, hk, he⟩ := p3 h
      have hv := pick_vc hg.vc (oth_rd S.length d)
      have := hv.1.l; have := hv.2
      rw [he]
      exact ⟨qInts_same (by simp only [sliceC, takeC]; rw [up_len]; omega), qInts_same (by simp only [sliceC, takeC]; rw [tab_len]; omega)⟩
  have hq : laws_qInts q.1.Sizes q.1.Sizes = some true ∧ laws_qInts q.1.Cells q.1.Cells = some true := by
    cases h : q.2 with
    | false => rw [q4 h]; exact ⟨qInts_same (by simp [noCube]), qInts_same (by simp [noCube])⟩
    | true =>
      obtain ⟨S, d, s, G, grp, hg, hok, he, hgood⟩ := q3 h
      have := hgood.vc.1.l; have := hgood.vc.2
      exact ⟨qInts_same (by rw [hgood.sz, up_len]; omega), qInts_same (by rw [hgood.ln]; omega)⟩
  simp only [q1, q2, hp.1, hp.2, hq.1, hq.2, Option.bind_some, bne_self_eq_false, cond_false, Bool.not_true]
  refine tot_bind (Q := fun r => r = false) (tot_cond (fun h => ?_) fun _ => tot_some rfl) fun r hr => ?_
  · obtain ⟨S, d, s, G, grp, hg, hok, he, hgood⟩ := q3 h
    rw [IsCube_true hgood, Option.bind_some]
    simp only [Bool.not_true, cond_false]
    have hcp := cnt_pos (S.set d G)
    have hcs := cnt_pos S
    have hv2 := hgood.vc.2
    have hg2 := hg.vc.2
    rw [show (goLen q.1.Cells == 0) = false by simp only [goLen, hgood.ln]; simp; omega]
    simp only [cond_false, goLen, hgood.ln, hg.ln]
    rw [wid (n := ((cnt (S.set d G) : Nat) : Int) - 1) (by omega) (by omega), wid (n := ((cnt S : Nat) : Int) - 1) (by omega) (by omega), show ((cnt (S.set d G) : Nat) : Int) - 1 = ((cnt (S.set d G) - 1 : Nat) : Int) by omega, show ((cnt S : Nat) : Int) - 1 = ((cnt S - 1 : Nat) : Int) by omega,
      ce_at (by rw [hgood.ln]; omega), ce_at (by rw [hg.ln]; omega), Option.bind_some, Option.bind_some, he, joinC_last hg hok]
    exact tot_some (by simp)
  · subst hr
    simp only [cond_false]
    refine tot_cond (fun _ => tot_some rfl) fun h => ?_
    have h' : p.2 = true := by simpa using h
    obtain ⟨S, d, s, k, hg, rfl, hs, rfl, hk, he⟩ := p3 h'
    have hus : goAt x.Sizes (d : Int) = some (s : Int) := by rw [hg.sz]; exact up_at hs
    rw [hus, Option.bind_some, (SliceOf_ok hg hs (Nat.le_refl s)).1, Option.bind_some]
    simp only [Option.bind_some, Bool.not_true, cond_false]
    refine tot_bind (SliceChain hg (i := k) hs) fun r hr => ?_
    rcases r with y | b
    · simp only at hr ⊢
      have hz : ∀ v ∈ y.Cells, v = 0 := by
        intro v hv
        rw [hr] at hv
        obtain ⟨j, hj, rfl⟩ := tab_mem hv
        exact left_all hg hs hj
      have hyl : y.Cells.length ≤ 1000000 := by
        rw [hr, tab_len]
        have := (pick_vc hg.vc (oth_rd S.length d)).2
        omega
      have hl := loop_all (l := y.Cells) (fun _ => true) (laws_FnSlices_l2 y) (fun k v hv => by
        have := hz v (List.mem_of_getElem? hv)
        subst this
        simp only [laws_FnSlices_l2, lt_ok hv, at_ok hv, cond_true, Option.bind_some, bne_self_eq_false, cond_false, nx_ok hv (show y.Cells.length ≤ 9223372036854775807 by omega), if_true]) (fun _ => by simp only [laws_FnSlices_l2, lt_end, cond_false])
      rw [hl]
      have hall : y.Cells.all (fun _ => true) = true := by simp
      rw [hall]
      exact tot_some rfl
    · simp only at hr ⊢
      exact tot_some hr

end Go.Gx.F
