/- Plain laws: cubes made, read and margined alike. -/
import Derived.Test.YtiikfhfnkppeeaaEPCub3
namespace Go.Gx.F
open Go.Gx
set_option linter.all false

def noCube : impl_Cube := ⟨[], []⟩

theorem cbIf_eq (c : impl_Cube) : ∃ p : impl_Cube × Bool, spec_cbIf c = some p ∧ (p.2 = true ↔ ∃ S, GoodC S c) ∧ (p.2 = true → p.1 = c) ∧ (p.2 = false → p.1 = noCube) := by
  unfold spec_cbIf
  obtain ⟨b, e, hb⟩ := cbGood_bis c
  rw [e, Option.bind_some]
  cases b with
  | true => exact ⟨_, rfl, by simp only [true_iff]; exact hb.1 rfl, fun _ => rfl, nofun⟩
  | false =>
    refine ⟨_, rfl, ?_, nofun, fun _ => rfl⟩
    simp only [Bool.false_eq_true, false_iff]
    exact fun h => by have := hb.2 h; cases this

theorem pair_ext {p q : impl_Cube × Bool} (h : p.2 = q.2) (h1 : p.2 = true → p.1 = q.1) (h2 : p.2 = false → p.1 = q.1) : p = q := by
  refine Prod.ext ?_ h
  cases hp : p.2 with
  | true => exact h1 hp
  | false => exact h2 hp

/-! ## what is read from a cube -/
theorem IsCube_true {S : List Nat} {c : impl_Cube} (h : GoodC S c) : impl_IsCube c = some true := by
  obtain ⟨b, e, hb⟩ := IsCube_bis c
  rw [e, hb.2 ⟨S, h⟩]

/-- the values of the base cells below n -/
def bvals (S : List Nat) (f : Nat → Int) (n : Nat) : List Int := (bs S n).map f

theorem bvals_base {S : List Nat} {base : List Int} (hl : base.length = rk S (cnt S)) : bvals S (ce (cubeT S base).Cells) (cnt S) = base := by
  have key : ∀ n, n ≤ cnt S → bvals S (ce (cubeT S base).Cells) n = base.take (rk S n) := by
    intro n
    induction n with
    | zero => intro _; simp [bvals, bs, rk]
    | succ n ih =>
      intro hn
      have h1 := ih (by omega)
      unfold bvals at h1 ⊢
      rw [bs_succ, rk_succ]
      cases hb : bB S n with
      | false => simpa using h1
      | true =>
        have hr := rk_lt (S := S) (i := n) (n := cnt S) (by omega) hb
        have hx : base[rk S n]? = some (base[rk S n]'(by omega)) := by simp [show rk S n < base.length by omega]
        simp only [if_true, List.map_append, h1, List.map_cons, List.map_nil]
        rw [List.take_add_one, hx]
        congr 1
        simp only [Option.toList_some, List.cons.injEq, and_true, cubeT]
        rw [ce_tab (by omega), T_base (by omega) hb]
        simp [ce, List.getD_eq_getElem?_getD, hx]
  rw [key _ (Nat.le_refl _), ← hl, List.take_length]

theorem VX_top : ∀ S : List Nat, VX S S
  | [] => trivial
  | s :: S => ⟨Nat.le_refl _, VX_top S⟩

theorem ix_top : ∀ S : List Nat, ix S S + 1 = cnt S
  | [] => rfl
  | s :: S => by
    have := ix_top S
    simp only [ix, cnt]
    rw [Nat.add_mul, Nat.one_mul]
    omega

/-! ## parts of a cube: some dimensions stay, the others are fixed -/
def put : List Nat → List Nat → List Nat → List Nat
  | F, d :: D, y :: Y => put (F.set d y) D Y
  | F, _, _ => F

def pick (S D : List Nat) : List Nat := D.map fun d => S.getD d 0

theorem pick_get {S D : List Nat} {k d : Nat} (h : D[k]? = some d) : (pick S D)[k]? = some (S.getD d 0) := by simp [pick, h]

theorem put_len : ∀ (D F Y : List Nat), (put F D Y).length = F.length
  | [], F, Y => by simp [put]
  | d :: D, F, [] => by simp [put]
  | d :: D, F, y :: Y => by simp only [put]; rw [put_len D]; simp

theorem put_other : ∀ (D F Y : List Nat) (d : Nat), d ∉ D → (put F D Y)[d]? = F[d]?
  | [], F, Y, d, _ => by simp [put]
  | e :: D, F, [], d, _ => by simp [put]
  | e :: D, F, y :: Y, d, h => by
    simp only [List.mem_cons, not_or] at h
    simp only [put]
    rw [put_other D _ Y d h.2, List.getElem?_set_ne (Ne.symm h.1)]

theorem put_comm : ∀ (D F Y : List Nat) (d k : Nat), d ∉ D → (put F D Y).set d k = put (F.set d k) D Y
  | [], F, Y, d, k, _ => by simp [put]
  | e :: D, F, [], d, k, _ => by simp [put]
  | e :: D, F, y :: Y, d, k, h => by
    simp only [List.mem_cons, not_or] at h
    simp only [put]
    rw [put_comm D _ Y d k h.2, List.set_comm _ _ (Ne.symm h.1)]

theorem put_get : ∀ {D F Y : List Nat} {e d y : Nat}, D.Nodup → D[e]? = some d → Y[e]? = some y → d < F.length → (put F D Y)[d]? = some y
  | d' :: D, F, y' :: Y, 0, d, y, hn, h1, h2, hd => by
    simp at h1 h2; subst h1 h2
    simp only [put]
    rw [put_other D _ Y d' (List.nodup_cons.1 hn).1]
    simp [hd]
  | d' :: D, F, y' :: Y, e + 1, d, y, hn, h1, h2, hd => by
    simp only [put]
    exact put_get (List.nodup_cons.1 hn).2 (by simpa using h1) (by simpa using h2) (by simpa using hd)
  | [], _, _, _, _, _, _, h1, _, _ => by simp at h1
  | _ :: _, _, [], _, _, _, _, _, h2, _ => by simp at h2

theorem put_set : ∀ {D F Y : List Nat} {e d k : Nat}, D.Nodup → D[e]? = some d → e < Y.length → put F D (Y.set e k) = (put F D Y).set d k
  | d' :: D, F, y' :: Y, 0, d, k, hn, h1, _ => by
    simp at h1; subst h1
    simp only [List.set_cons_zero, put]
    rw [put_comm D _ Y d' k (List.nodup_cons.1 hn).1, List.set_set]
  | d' :: D, F, y' :: Y, e + 1, d, k, hn, h1, h2 => by
    simp only [List.set_cons_succ, put]
    exact put_set (List.nodup_cons.1 hn).2 (by simpa using h1) (by simpa using h2)
  | [], _, _, _, _, _, _, h1, _ => by simp at h1
  | _ :: _, _, [], _, _, _, _, _, h2 => by simp at h2

theorem put_ok : ∀ {S D F Y : List Nat}, VX S F → VX (pick S D) Y → (∀ d ∈ D, d < S.length) → VX S (put F D Y)
  | S, [], F, Y, hF, _, _ => by simpa [put] using hF
  | S, d :: D, F, [], _, hY, _ => hY.elim
  | S, d :: D, F, y :: Y, hF, hY, hD => by
    simp only [put]
    have hd := hD d (by simp)
    have hs : S[d]? = some S[d] := by simp [hd]
    refine put_ok (hF.set hs ?_) hY.2 fun e he => hD e (by simp [he])
    have := hY.1
    simpa [List.getD_eq_getElem?_getD, hs] using this

/-- rising dimensions -/
structure RD (n : Nat) (D : List Nat) : Prop where
  lt : ∀ d ∈ D, d < n
  pw : D.Pairwise (· < ·)

theorem RD.nodup {n : Nat} {D : List Nat} (h : RD n D) : D.Nodup := h.pw.imp fun h => by omega

theorem pick_sub : ∀ (D S : List Nat) (o : Nat), (∀ d ∈ D, o ≤ d ∧ d < S.length) → D.Pairwise (· < ·) → (pick S D).Sublist (S.drop o)
  | [], S, o, _, _ => by simp [pick]
  | d :: D, S, o, h, hp => by
    obtain ⟨h1, h2⟩ := h d (by simp)
    obtain ⟨hp1, hp2⟩ := List.pairwise_cons.1 hp
    have hs : S[d]? = some S[d] := by simp [h2]
    have ih := pick_sub D S (d + 1) (fun e he => ⟨hp1 e he, (h e (by simp [he])).2⟩) hp2
    have e : pick S (d :: D) = S[d] :: pick S D := by simp [pick, List.getD_eq_getElem?_getD, hs]
    rw [e]
    have h3 : (S[d] :: pick S D).Sublist (S.drop d) := by
      rw [drop_cons hs]
      exact ih.cons_cons _
    refine h3.trans ?_
    rw [show d = o + (d - o) by omega, ← List.drop_drop]
    exact List.drop_sublist _ _

theorem cnt_sub {A B : List Nat} (h : A.Sublist B) : cnt A ≤ cnt B := by
  induction h with
  | slnil => exact Nat.le_refl _
  | cons a _ ih =>
    simp only [cnt]
    exact Nat.le_trans ih (Nat.le_mul_of_pos_left _ (Nat.succ_pos _))
  | cons_cons a _ ih =>
    simp only [cnt]
    exact Nat.mul_le_mul_left _ ih

theorem pick_vc {S D : List Nat} (h : VC S) (hD : RD S.length D) : VC (pick S D) := by
  have hs := pick_sub D S 0 (fun d hd => ⟨Nat.zero_le _, hD.lt d hd⟩) hD.pw
  rw [List.drop_zero] at hs
  refine ⟨⟨Nat.le_trans hs.length_le h.1.l, fun s hx => h.1.b s (hs.subset hx)⟩, Nat.le_trans (cnt_sub hs) h.2⟩

theorem put_drop {F D Y : List Nat} {k d y : Nat} (h1 : D[k]? = some d) (h2 : Y[k]? = some y) : put F (D.drop k) (Y.drop k) = put (F.set d y) (D.drop (k + 1)) (Y.drop (k + 1)) := by
  rw [drop_cons h1, drop_cons h2]; rfl

theorem put_loop_impl {D Y : List Nat} (hl : Y.length = D.length) (h4 : D.length ≤ 4) : ∀ (j k : Nat) (G : List Nat), k + j = Y.length → (∀ d ∈ D, d < G.length) → loopC (impl_taken_l3 (up D) (up Y)) (up G, (k : Int)) = some (up (put G (D.drop k) (Y.drop k))) := by
  intro j
  induction j with
  | zero =>
    intro k G hk _
    rw [loopC_eq]
    simp only [impl_taken_l3, up_end (show Y.length = k by omega), cond_false]
    rw [List.drop_of_length_le (show Y.length ≤ k by omega)]
    cases D.drop k <;> rfl
  | succ j ih =>
    intro k G hk hG
    have hy : Y[k]? = some (Y[k]'(by omega)) := by simp [show k < Y.length by omega]
    have hd : D[k]? = some (D[k]'(by omega)) := by simp [show k < D.length by omega]
    generalize Y[k]'(by omega) = y at hy
    generalize D[k]'(by omega) = d at hd
    have hdG := hG d (List.mem_of_getElem? hd)
    have hg : G[d]? = some G[d] := by simp [hdG]
    rw [loopC_eq]
    simp only [impl_taken_l3, up_lt hy, cond_true, up_at hy, up_at hd, up_at hg, Option.bind_some, goSet, Int.toNat_natCast, up_set]
    rw [wid (n := (k : Int) + 1) (by omega) (by omega), show ((k : Int) + 1) = ((k + 1 : Nat) : Int) by omega, ih (k + 1) _ (by omega) (by simpa using hG), put_drop hd hy]

theorem put_loop_spec {D Y : List Nat} (hl : Y.length = D.length) (h4 : D.length ≤ 4) : ∀ (j k : Nat) (G : List Nat), k + j = Y.length → (∀ d ∈ D, d < G.length) → loopC (spec_cbFrom_l2 (up D) (up Y)) (up G, (k : Int)) = some (up (put G (D.drop k) (Y.drop k))) := by
  intro j
  induction j with
  | zero =>
    intro k G hk _
    rw [loopC_eq]
    simp only [spec_cbFrom_l2, up_end (show Y.length = k by omega), cond_false]
    rw [List.drop_of_length_le (show Y.length ≤ k by omega)]
    cases D.drop k <;> rfl
  | succ j ih =>
    intro k G hk hG
    have hy : Y[k]? = some (Y[k]'(by omega)) := by simp [show k < Y.length by omega]
    have hd : D[k]? = some (D[k]'(by omega)) := by simp [show k < D.length by omega]
    generalize Y[k]'(by omega) = y at hy
    generalize D[k]'(by omega) = d at hd
    have hdG := hG d (List.mem_of_getElem? hd)
    have hg : G[d]? = some G[d] := by simp [hdG]
    rw [loopC_eq]
    simp only [spec_cbFrom_l2, up_lt hy, cond_true, up_at hy, up_at hd, up_at hg, Option.bind_some, goSet, Int.toNat_natCast, up_set]
    rw [wid (n := (k : Int) + 1) (by omega) (by omega), show ((k : Int) + 1) = ((k + 1 : Nat) : Int) by omega, ih (k + 1) _ (by omega) (by simpa using hG), put_drop hd hy]

/-- the cube of the dimensions D; the others stand as in F -/
def takeC (S : List Nat) (f : Nat → Int) (D F : List Nat) : impl_Cube := ⟨up (pick S D), tab (cnt (pick S D)) fun i => f (ix S (put F D (dig (pick S D) i)))⟩

theorem picks_impl {S D : List Nat} {c : impl_Cube} (hS : c.Sizes = up S) (hD : RD S.length D) (h4 : D.length ≤ 4) : loopC (impl_taken_l1 c (up D)) (0, ⟨[], []⟩) = some ⟨up (pick S D), []⟩ := by
  refine tot_eq ?_
  refine tot_loop (fun s => ∃ k : Nat, s = ((k : Int), ⟨up (pick S (D.take k)), []⟩) ∧ k ≤ D.length) (fun s => 10 - s.1.toNat) ⟨0, by simp [pick, up], by omega⟩ ?_
  rintro s ⟨k, rfl, hk⟩
  simp only [impl_taken_l1]
  by_cases hlt : k < D.length
  · have hd : D[k]? = some D[k] := by simp [hlt]
    generalize D[k] = d at hd
    have hds := hD.lt d (List.mem_of_getElem? hd)
    have hs : S[d]? = some S[d] := by simp [hds]
    rw [up_lt hd, cond_true, up_at hd, Option.bind_some, hS, up_at hs, Option.bind_some, wid (n := (k : Int) + 1) (by omega) (by omega)]
    refine tot_bind (tot_app (Q := fun r => r = up (pick S (D.take (k + 1)))) (by simp [up, pick]; omega) (by rw [List.take_add_one, hd]; simp [pick, up, List.getD_eq_getElem?_getD, hs])) fun r hr => tot_some ?_
    subst hr
    exact ⟨⟨k + 1, rfl, by omega⟩, by simp only; omega⟩
  · obtain rfl : k = D.length := by omega
    rw [up_end rfl, cond_false, List.take_length]
    exact tot_some rfl

theorem picks_spec {S D : List Nat} (hD : RD S.length D) (h4 : D.length ≤ 4) : spec_sPick (up S) (up D) = some (up (pick S D)) := by
  refine tot_eq ?_
  unfold spec_sPick
  refine tot_bind (Q := fun r => r = up (pick S D)) ?_ fun r hr => tot_some hr
  refine tot_loop (fun s => ∃ k : Nat, s = (up (pick S (D.take k)), (k : Int)) ∧ k ≤ D.length) (fun s => 10 - s.2.toNat) ⟨0, by simp [pick, up], by omega⟩ ?_
  rintro s ⟨k, rfl, hk⟩
  simp only [spec_sPick_l1]
  by_cases hlt : k < D.length
  · have hd : D[k]? = some D[k] := by simp [hlt]
    generalize D[k] = d at hd
    have hds := hD.lt d (List.mem_of_getElem? hd)
    have hs : S[d]? = some S[d] := by simp [hds]
    rw [up_lt hd, cond_true, up_at hd, Option.bind_some, up_at hs, Option.bind_some, wid (n := (k : Int) + 1) (by omega) (by omega)]
    refine tot_bind (tot_app (Q := fun r => r = up (pick S (D.take (k + 1)))) (by simp [up, pick]; omega) (by rw [List.take_add_one, hd]; simp [pick, up, List.getD_eq_getElem?_getD, hs])) fun r hr => tot_some ?_
    subst hr
    exact ⟨⟨k + 1, rfl, by omega⟩, by simp only; omega⟩
  · obtain rfl : k = D.length := by omega
    rw [up_end rfl, cond_false, List.take_length]
    exact tot_some rfl

theorem pick_len (S D : List Nat) : (pick S D).length = D.length := by simp [pick]

theorem taken_eq {S D F : List Nat} {c : impl_Cube} (h : FormC S c) (hD : RD S.length D) (hF : VX S F) : impl_taken c (up D) (up F) = some (takeC S (ce c.Cells) D F) := by
  have hv := pick_vc h.vc hD
  have hl4 : D.length ≤ 4 := by have := hv.1.l; rwa [pick_len] at this
  have hS4 := h.vc.1.l
  have hc := hv.2
  refine tot_eq ?_
  unfold impl_taken
  rw [picks_impl h.sz hD hl4, Option.bind_some, (counts_up hv).1, Option.bind_some, goMake_ok (by omega) (by omega), Option.bind_some, tab_zero]
  refine tot_bind (Q := fun r => r = takeC S (ce c.Cells) D F) ?_ fun r hr => tot_some hr
  refine tot_loop (fun s => ∃ k : Nat, s = ((k : Int), ⟨up (pick S D), tab (cnt (pick S D)) fun i => if i < k then ce c.Cells (ix S (put F D (dig (pick S D) i))) else 0⟩) ∧ k ≤ cnt (pick S D)) (fun s => 3000 - s.1.toNat) ⟨0, by simp, by omega⟩ ?_
  rintro s ⟨k, rfl, hk⟩
  simp only [impl_taken_l2]
  refine tot_cond (fun hc2 => ?_) fun hc2 => tot_some ?_
  · have hlt : k < cnt (pick S D) := by
      have := of_decide_eq_true hc2
      simp only [goLen, tab_len] at this; omega
    have hp := put_ok (D := D) hF (dig_ok hlt) hD.lt
    have hpl := put_loop_impl (D := D) (Y := dig (pick S D) k) (by rw [dig_len, pick_len]) hl4 _ 0 F (Nat.zero_add _) (fun d hd => by rw [hF.len]; exact hD.lt d hd)
    simp only [List.drop_zero] at hpl
    rw [clone_eq (by rw [up_len, hF.len]; omega), Option.bind_some, indexOf_eq hv.1 hlt, Option.bind_some]
    rw [show ((0 : Nat) : Int) = 0 from rfl] at hpl
    rw [hpl, Option.bind_some, h.sz, cellOf_eq h.vc.1 hp, Option.bind_some, ce_at (by rw [h.ln]; exact ix_lt hp), Option.bind_some, tab_at hlt, Option.bind_some, wid (n := (k : Int) + 1) (by omega) (by omega)]
    refine tot_some ⟨⟨k + 1, ?_, by omega⟩, by simp only; omega⟩
    refine Prod.ext rfl ?_
    simp only [goSet, Int.toNat_natCast, tab_set, impl_Cube.mk.injEq, true_and]
    refine tab_congr fun i hi => ?_
    by_cases hik : i = k
    · subst hik; simp
    · have : (i < k + 1) ↔ i < k := by omega
      simp [hik, this]
  · have hlt : ¬ k < cnt (pick S D) := by
      have := of_decide_eq_false hc2
      simp only [goLen, tab_len] at this; omega
    obtain rfl : k = cnt (pick S D) := by omega
    simp only [takeC, impl_Cube.mk.injEq, true_and]
    exact tab_congr fun i hi => by simp [hi]

theorem cbFrom_eq {S D F : List Nat} {c : impl_Cube} (h : FormC S c) (hD : RD S.length D) (hF : VX S F) : spec_cbFrom c (up D) (up F) = some (takeC S (ce c.Cells) D F) := by
  have hv := pick_vc h.vc hD
  have hl4 : D.length ≤ 4 := by have := hv.1.l; rwa [pick_len] at this
  have hS4 := h.vc.1.l
  have hc := hv.2
  refine tot_eq ?_
  unfold spec_cbFrom
  rw [h.sz, picks_spec hD hl4, Option.bind_some]
  refine tot_bind (Q := fun r => r = takeC S (ce c.Cells) D F) ?_ fun r hr => tot_some hr
  refine tot_loop (fun s => ∃ k : Nat, s = ((k : Int), ⟨up (pick S D), tab k fun i => ce c.Cells (ix S (put F D (dig (pick S D) i)))⟩) ∧ k ≤ cnt (pick S D)) (fun s => 3000 - s.1.toNat) ⟨0, by simp [tab], by omega⟩ ?_
  rintro s ⟨k, rfl, hk⟩
  simp only [spec_cbFrom_l1]
  rw [(counts_up hv).2, Option.bind_some]
  refine tot_cond (fun hc2 => ?_) fun hc2 => tot_some ?_
  · have hlt : k < cnt (pick S D) := Int.ofNat_lt.1 (of_decide_eq_true hc2)
    have hp := put_ok (D := D) hF (dig_ok hlt) hD.lt
    have hpl := put_loop_spec (D := D) (Y := dig (pick S D) k) (by rw [dig_len, pick_len]) hl4 _ 0 F (Nat.zero_add _) (fun d hd => by rw [hF.len]; exact hD.lt d hd)
    simp only [List.drop_zero] at hpl
    rw [own_eq (by rw [up_len, hF.len]; omega), Option.bind_some, cbIndices_eq hv.1 hlt, Option.bind_some]
    rw [show ((0 : Nat) : Int) = 0 from rfl] at hpl
    rw [hpl, Option.bind_some, h.sz, cbAt_eq h.vc.1 hp, Option.bind_some, ce_at (by rw [h.ln]; exact ix_lt hp), Option.bind_some, goApp_ok (by simp [tab]; omega), Option.bind_some, Option.bind_some, wid (n := (k : Int) + 1) (by omega) (by omega)]
    refine tot_some ⟨⟨k + 1, ?_, by omega⟩, by simp only; omega⟩
    rw [tab_snoc k fun i => ce c.Cells (ix S (put F D (dig (pick S D) i)))]
    rfl
  · have hlt : ¬ k < cnt (pick S D) := fun h => of_decide_eq_false hc2 (Int.ofNat_lt.2 h)
    obtain rfl : k = cnt (pick S D) := by omega
    rfl

/-- a part of a cube is one -/
theorem takeC_good {S D F : List Nat} {c : impl_Cube} (h : GoodC S c) (hD : RD S.length D) (hF : VX S F) : GoodC (pick S D) (takeC S (ce c.Cells) D F) := by
  have hv := pick_vc h.vc hD
  refine ⟨⟨hv, rfl, tab_len _ _, fun v hv2 => ?_⟩, fun i hi => ?_⟩
  · obtain ⟨i, hi, rfl⟩ := tab_mem hv2
    exact h.bd _ (ce_mem (by rw [h.ln]; exact ix_lt (put_ok hF (dig_ok hi) hD.lt)))
  · rintro ⟨e, s, hs, hd, hp⟩
    apply hp
    have hel : e < D.length := by
      have := (List.getElem?_eq_some_iff.1 hs).1
      rwa [pick_len] at this
    have hde : D[e]? = some D[e] := by simp [hel]
    generalize D[e] = d at hde
    have hdS := hD.lt d (List.mem_of_getElem? hde)
    have hsd : S[d]? = some s := by
      have h1 := pick_get (S := S) hde
      rw [hs] at h1
      have h2 : S[d]? = some S[d] := by simp [hdS]
      rw [h2]
      have h3 := Option.some.inj h1
      simp [List.getD_eq_getElem?_getD, h2] at h3
      rw [h3]
    have hP := put_ok (D := D) hF (dig_ok hi) hD.lt
    have hix := ix_lt hP
    have hgood := h.ok _ hix
    have hdig : dig S (ix S (put F D (dig (pick S D) i))) = put F D (dig (pick S D) i) := dig_ix hP
    have hget : (put F D (dig (pick S D) i))[d]? = some s := put_get hD.nodup hde hd (by rw [hF.len]; exact hdS)
    have hparts : parts S (ce c.Cells) (ix S (put F D (dig (pick S D) i))) d s = ce c.Cells (ix S (put F D (dig (pick S D) i))) := Classical.byContradiction fun hne => hgood ⟨d, s, hsd, by rw [hdig]; exact hget, hne⟩
    simp only [takeC]
    rw [ce_tab hi, ← hparts]
    unfold parts
    rw [hdig]
    refine sg_congr fun k hk => ?_
    rw [ce_tab (part_lt hi hs (by omega)), dig_set hi hs (by omega), put_set hD.nodup hde (by rw [dig_len, pick_len]; exact hel)]

theorem put_top : ∀ {S D : List Nat}, (∀ d ∈ D, d < S.length) → put S D (pick S D) = S
  | S, [], _ => rfl
  | S, d :: D, h => by
    have hd := h d (by simp)
    have e : pick S (d :: D) = S[d] :: pick S D := by simp [pick, List.getD_eq_getElem?_getD, hd]
    rw [e]
    simp only [put]
    rw [List.set_getElem_self]
    exact put_top fun e he => h e (by simp [he])

/-! ## rising lists of dimensions -/
def Rise (n : Nat) (dims : List Int) : Prop := ∀ (k : Nat) (x : Int), dims[k]? = some x → (0 ≤ x ∧ x < n) ∧ ∀ y, 0 < k → dims[k - 1]? = some y → y < x

theorem Rise.rd {n : Nat} {dims : List Int} (h : Rise n dims) : ∃ D, dims = up D ∧ RD n D := by
  refine ⟨dims.map Int.toNat, (up_toNat fun v hv => ?_).symm, fun d hd => ?_, ?_⟩
  · obtain ⟨k, hk⟩ := List.getElem?_of_mem hv
    exact (h k v hk).1.1
  · obtain ⟨v, hv, rfl⟩ := List.mem_map.1 hd
    obtain ⟨k, hk⟩ := List.getElem?_of_mem hv
    have := (h k v hk).1
    omega
  · rw [List.pairwise_map]
    have key : ∀ (j i : Nat) (x y : Int), i < j → dims[i]? = some x → dims[j]? = some y → x < y := by
      intro j
      induction j with
      | zero => intro i x y hi; omega
      | succ j ih =>
        intro i x y hi hx hy
        have hj : j < dims.length := by have := (List.getElem?_eq_some_iff.1 hy).1; omega
        have hz : dims[j]? = some dims[j] := by simp [hj]
        have h1 := (h (j + 1) y hy).2 dims[j] (by omega) hz
        by_cases hij : i = j
        · subst hij
          rw [hz] at hx
          obtain rfl := Option.some.inj hx
          exact h1
        · have := ih i x _ (by omega) hx hz
          omega
    rw [List.pairwise_iff_getElem]
    intro i j hi hj hij
    have h1 := key j i dims[i] dims[j] hij (by simp [hi]) (by simp [hj])
    have h2 := (h i dims[i] (by simp [hi])).1
    omega

/-- the last cell of a margin -/
theorem takeC_last {S D : List Nat} {f : Nat → Int} (h : VC S) (hD : RD S.length D) : ce (takeC S f D S).Cells (cnt (pick S D) - 1) = f (cnt S - 1) := by
  have h1 := ix_top (pick S D)
  have h2 := ix_top S
  have e : cnt (pick S D) - 1 = ix (pick S D) (pick S D) := by omega
  simp only [takeC]
  rw [ce_tab (by omega), e, dig_ix (VX_top _), put_top hD.lt]
  congr 1
  omega

end Go.Gx.F
