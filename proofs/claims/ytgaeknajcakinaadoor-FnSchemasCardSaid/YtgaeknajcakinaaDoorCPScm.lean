/- Plain laws: FnSchemas. -/
import Derived.Test.YtgaeknajcakinaaDoorCPPas
import Derived.Test.YtgaeknajcakinaaDoorCPGpc
import Derived.Test.YtgaeknajcakinaaDoorCPTxt
namespace Go.Gx.F
open Go.Gx
set_option linter.all false

/-! what is drawn -/
theorem tgrouping {B : Nat} {c : spec_l1Cur} {s : List impl_Variable} (h : Cur B c) (hs : SmallS 8 s) (hB : B ≤ 100000 := by omega) : Tot (spec_l1Cur_grouping c s) fun r => r.1.Groups.length ≤ 100 ∧ Cur (B + 60) r.2 := by
  unfold spec_l1Cur_grouping
  have hsl := hs.l
  refine tot_bind (Q := fun r => r.1.Groups.length ≤ 9 ∧ Cur (B + 40) r.2) (tot_cond (fun h1 => ?_) fun _ => tot_some ⟨by simp, h.le (by omega)⟩) fun ⟨g, c1⟩ ⟨hg, k1⟩ => ?_
  · have h1' : 0 < s.length := by simpa [goLen] using h1
    refine tot_bind (tpick h (hk := by simp only [goLen]; omega)) fun ⟨x, c1⟩ ⟨x0, x1, _, k1⟩ => ?_
    have hx := x1 (by simp only [goLen]; omega)
    simp only [goLen] at x0 hx k1
    obtain ⟨i, rfl⟩ := Int.eq_ofNat_of_zero_le x0
    have hi : i < s.length := by omega
    have hv : s[i]? = some s[i] := by simp [hi]
    have hb := hs.b _ (List.getElem_mem hi)
    rw [at_ok hv, Option.bind_some]
    refine tot_bind (Q := fun r => r.1 ≤ 9 ∧ Cur (B + 4) r.2) (tot_cond (fun _ => ?_) fun _ => tot_some ⟨by simp, k1.le (by omega)⟩) fun ⟨k, c2⟩ ⟨hk, k2⟩ => ?_
    · refine tot_bind (tpick k1) fun ⟨y, c2⟩ ⟨y0, y1, _, k2⟩ => ?_
      have hy := y1 (by omega)
      simp only at y0 hy
      simp only
      rw [wid (n := 2 + y) (by omega) (by omega), lLeast_eq, Option.bind_some]
      exact tot_some ⟨by simp only; omega, k2⟩
    · simp only at hk k2
      refine tot_bind (Q := fun r => r.2.Groups.length ≤ 9 ∧ Cur (B + 40) r.1) (tot_loop (fun t => ∃ j : Nat, t.1 = (j : Int) ∧ (j : Int) ≤ s[i].Levels ∧ t.2.2.Var = (i : Int) ∧ t.2.2.Groups.length = j ∧ Cur (B + 4 + 2 * j) t.2.1) (fun t => 10 - t.1.toNat) ⟨0, rfl, by omega, rfl, rfl, k2⟩ ?_) fun r hr => tot_some hr
      rintro ⟨_, c3, g3⟩ ⟨j, rfl, hj, hgv, hgl, k3⟩
      simp only at hj hgv hgl k3
      simp only [spec_l1Cur_grouping_l1]
      rw [hgv, at_ok hv, Option.bind_some]
      refine tot_cond (fun hc => ?_) fun _ => tot_some ⟨by simp only; omega, k3.le (by omega)⟩
      have hc' : (j : Int) < s[i].Levels := by simpa using hc
      refine tot_bind (Q := fun r => r.2.Var = (i : Int) ∧ r.2.Groups.length = j + 1 ∧ Cur (B + 4 + 2 * (j + 1)) r.1) (tot_cond (fun _ => ?_) fun _ => ?_) fun ⟨c4, g4⟩ ⟨q1, q2, q3⟩ => tot_some ⟨⟨j + 1, by simp only; rw [wid (by omega) (by omega)]; omega, by omega, q1, q2, q3⟩, by simp only; rw [wid (by omega) (by omega)]; omega⟩
      · rw [goApp_ok (by simp; omega), Option.bind_some]
        exact tot_some ⟨rfl, by simp; omega, k3.le (by omega)⟩
      · refine tot_bind (Q := fun r => r.2.Var = (i : Int) ∧ r.2.Groups.length = j + 1 ∧ Cur (B + 4 + 2 * (j + 1)) r.1) ?_ fun r hr => tot_some hr
        refine tot_bind (tpick k3) fun ⟨z, c4⟩ ⟨_, _, _, k4⟩ => ?_
        rw [goApp_ok (by simp; omega), Option.bind_some]
        exact tot_some ⟨rfl, by simp; omega, k4.le (by omega)⟩
  · simp only at hg k1
    refine tot_bind (tpick k1) fun ⟨y, c2⟩ ⟨_, _, _, k2⟩ => ?_
    simp only at k2 ⊢
    refine tot_bind (Q := fun r => r.2.Groups.length ≤ 100 ∧ Cur (B + 60) r.1) (tot_cond (fun _ => ?_) fun _ => ?_) fun r hr => tot_some hr
    · exact tot_bind (tamong k2) fun ⟨z, c3⟩ ⟨_, k3⟩ => tot_some ⟨by simp only; omega, k3.le (by omega)⟩
    · refine tot_bind (Q := fun r => r.Groups.length ≤ 100) (tot_cond (fun _ => ?_) fun _ => ?_) fun r hr => tot_some ⟨hr, k2.le (by omega)⟩
      · rw [goApp_ok (by simp; omega), Option.bind_some]
        exact tot_some (by simp; omega)
      · refine tot_bind (Q := fun r => r.Groups.length ≤ 100) (tot_cond (fun _ => ?_) fun _ => tot_some (by omega)) fun r hr => tot_some hr
        refine tot_bind (Q := fun r => r.Groups.length ≤ 100) (tot_loop (fun t => ∃ j : Nat, t.1 = (j : Int) ∧ j ≤ g.Groups.length ∧ t.2.Groups.length = g.Groups.length) (fun t => 20 - t.1.toNat) ⟨0, rfl, by omega, rfl⟩ ?_) fun r hr => tot_some hr
        rintro ⟨_, g3⟩ ⟨j, rfl, hj, hgl⟩
        simp only at hgl
        simp only [spec_l1Cur_grouping_l2]
        refine tot_cond (fun hc => ?_) fun _ => tot_some (by omega)
        have hc' : (j : Int) < goLen g.Groups := by simpa using hc
        simp only [goLen] at hc'
        refine tot_bind (tot_at (Q := fun _ => True) (by omega) (by omega) fun _ _ _ => trivial) fun _ _ => ?_
        refine tot_bind (tot_rem (Q := fun _ => True) (by omega) trivial) fun _ _ => ?_
        refine tot_bind (tot_at (Q := fun _ => True) (by omega) (by omega) fun _ _ _ => trivial) fun _ _ => ?_
        exact tot_some ⟨⟨j + 1, by simp only; rw [wid (by omega) (by omega)]; omega, by omega, by simp [hgl]⟩, by simp only; rw [wid (by omega) (by omega)]; omega⟩

theorem tcount {s : List impl_Variable} (hs : SmallS 8 s) : Tot (spec_sCount s) fun r => 0 ≤ r ∧ r ≤ 43046721 := by
  unfold spec_sCount
  have hsl := hs.l
  have hp : ∀ k, k ≤ 8 → ((9 ^ k : Nat) : Int) ≤ 43046721 := by decide
  refine tot_bind (Q := fun r => 0 ≤ r ∧ r ≤ 43046721) (tot_loop (fun t => ∃ k : Nat, t.2 = (k : Int) ∧ k ≤ s.length ∧ 0 ≤ t.1 ∧ t.1 ≤ ((9 ^ k : Nat) : Int)) (fun t => s.length - t.2.toNat) ⟨0, rfl, by omega, by simp, by simp⟩ ?_) fun r hr => tot_some hr
  rintro ⟨n, _⟩ ⟨k, rfl, hk, h0, hn⟩
  simp only at h0 hn
  have hb9 := hp k (by omega)
  by_cases hlt : k < s.length
  · have hv : s[k]? = some s[k] := by simp [hlt]
    have hb := hs.b _ (List.getElem_mem hlt)
    simp only [spec_sCount_l1, lt_ok hv, at_ok hv, cond_true, Option.bind_some, nx_ok hv (show s.length ≤ 9223372036854775807 by omega)]
    have h1 : 0 ≤ n * s[k].Levels := Int.mul_nonneg h0 (by omega)
    have h2 : n * s[k].Levels ≤ ((9 ^ k : Nat) : Int) * 9 := Int.mul_le_mul hn (by omega) (by omega) (by omega)
    have h3 : ((9 ^ (k + 1) : Nat) : Int) = ((9 ^ k : Nat) : Int) * 9 := by rw [Nat.pow_succ]; simp
    rw [wid (by omega) (by omega)]
    exact tot_some ⟨⟨k + 1, rfl, by omega, h1, by rw [h3]; exact h2⟩, by simp only; omega⟩
  · obtain rfl : k = s.length := by omega
    simp only [spec_sCount_l1, lt_end, cond_false]
    exact tot_some ⟨h0, by omega⟩

theorem tDrawComb {code : List (K .u8)} (ho : ∀ x ∈ code, Rng.ok x) : Tot (spec_DrawCombinationAt code) fun r => SmallS 8 r.1 := by
  unfold spec_DrawCombinationAt
  refine tot_bind (tanySchema (cur0 ho)) fun ⟨s, c1⟩ ⟨hs, k1⟩ => ?_
  simp only at hs k1
  refine tot_bind (tone k1) fun ⟨b, c2⟩ k2 => ?_
  simp only at k2 ⊢
  refine tot_cond (fun _ => ?_) fun _ => ?_
  · refine tot_bind (tcount hs) fun n hn => ?_
    refine tot_bind (tcount hs) fun n2 hn2 => ?_
    exact tot_bind (tamong k2) fun ⟨x, c3⟩ _ => tot_some hs
  · refine tot_bind (tcount hs) fun n hn => ?_
    exact tot_bind (tpick k2) fun ⟨x, c3⟩ _ => tot_some hs

theorem tDrawGroupV {code : List (K .u8)} (ho : ∀ x ∈ code, Rng.ok x) : Tot (spec_DrawGroupValues code) fun r => SmallS 8 r.1 ∧ r.2.1.Groups.length ≤ 100 ∧ r.2.2.length ≤ 9 := by
  unfold spec_DrawGroupValues
  refine tot_bind (tanySchema (cur0 ho)) fun ⟨s, c1⟩ ⟨hs, k1⟩ => ?_
  simp only at hs k1
  refine tot_bind (tgrouping k1 hs) fun ⟨g, c2⟩ ⟨hg, k2⟩ => ?_
  simp only at hg k2
  exact tot_bind (tanyValues k2 hs) fun ⟨v, c3⟩ ⟨hv, _⟩ => tot_some ⟨hs, hg, hv⟩

/-! combinations -/
theorem comb_same {s : List impl_Variable} (i : Int) (ht : TameS s) : (∃ b : Bool, b = false ∧ impl_CombinationAt s i = some ([], false) ∧ spec_CombinationAt s i = some ([], false)) ∨
    (∃ n : Nat, OkS s ∧ i = (n : Int) ∧ n < cnt (tops s) ∧ impl_CombinationAt s i = some (up (dig (tops s) n), true) ∧ spec_CombinationAt s i = some (up (dig (tops s) n), true)) := by
  obtain ⟨b, e1, e2, hb⟩ := schemas ht
  unfold impl_CombinationAt spec_CombinationAt
  rw [e1, e2]
  simp only [Option.bind_some]
  cases b with
  | false => exact .inl ⟨false, rfl, rfl, rfl⟩
  | true =>
    have hS := hb.1 rfl
    have hL := hS.lv
    have hc := hL.cnt_le 0
    rw [List.drop_zero] at hc
    simp only [Bool.not_true, cond_false, combinations_eq hL, sCount_eq hL, Option.bind_some, lIn_eq]
    rw [wid (n := ((cnt (tops s) : Nat) : Int) - 1) (by omega) (by omega)]
    by_cases h1 : 0 ≤ i ∧ i ≤ ((cnt (tops s) : Nat) : Int) - 1
    · obtain ⟨n, rfl⟩ := Int.eq_ofNat_of_zero_le h1.1
      have hn : n < cnt (tops s) := by omega
      rw [decide_eq_true h1, decide_eq_false (show ¬ (n : Int) < 0 by omega), decide_eq_false (show ¬ ((cnt (tops s) : Nat) : Int) ≤ (n : Int) by omega)]
      simp only [cond_false, Option.bind_some, Bool.not_true, valuesAt_eq hL hn, sAt_eq hL hn]
      exact .inr ⟨n, hS, rfl, hn, rfl, rfl⟩
    · rw [decide_eq_false h1]
      by_cases h2 : i < 0
      · rw [decide_eq_true h2]; exact .inl ⟨false, rfl, rfl, rfl⟩
      · rw [decide_eq_false h2, decide_eq_true (show ((cnt (tops s) : Nat) : Int) ≤ i by omega)]; exact .inl ⟨false, rfl, rfl, rfl⟩

theorem CombIndex_ok {s : List impl_Variable} {X : List Nat} (ht : TameS s) (hS : OkS s) (hX : VX (tops s) X) (hl : X.length ≤ 1000) : impl_CombinationIndex s (up X) = some (((ix (tops s) X : Nat) : Int), true) := by
  obtain ⟨b, e1, hb⟩ := IsSchema_bis ht
  obtain rfl := hb.2 hS
  obtain ⟨b2, e2, hb2⟩ := areValues_bis (s := s) (l := up X) (by rw [up_len]; omega)
  obtain rfl := hb2.2 (OkV.of_vx hS.lv hX)
  unfold impl_CombinationIndex
  rw [e1, e2]
  simp only [Option.bind_some, Bool.not_true, cond_false, indexOfValues_eq hS.lv hX]

/-! groups -/
def gset (s : List impl_Variable) (g : impl_Grouping) (n : Int) : List impl_Variable := match s[g.Var.toNat]? with
  | some v => s.set g.Var.toNat ⟨v.Name, n⟩
  | none => s

theorem group_schema {s : List impl_Variable} {g : impl_Grouping} {n : Int} (hS : OkS s) (hg : OkG s g n) : OkS (gset s g n) ∧ (gset s g n).length = s.length := by
  obtain ⟨g1, g2, g3, g4, g5, g6⟩ := hg
  have hi : g.Var.toNat < s.length := by omega
  have hv : s[g.Var.toNat]? = some s[g.Var.toNat] := by simp [hi]
  unfold gset
  rw [hv]
  simp only
  obtain ⟨s1, s2, s3⟩ := hS
  have hname : ∀ (k : Nat) (v : impl_Variable), (s.set g.Var.toNat ⟨s[g.Var.toNat].Name, n⟩)[k]? = some v → ∃ w, s[k]? = some w ∧ w.Name = v.Name ∧ (v.Levels = w.Levels ∨ v.Levels = n) := by
    intro k v hk
    by_cases he : k = g.Var.toNat
    · subst he
      rw [List.getElem?_set_self hi] at hk
      obtain rfl := Option.some.inj hk
      exact ⟨_, hv, rfl, .inr rfl⟩
    · rw [List.getElem?_set_ne (by omega)] at hk
      exact ⟨v, hk, rfl, .inl rfl⟩
  refine ⟨⟨by rw [List.length_set]; exact s1, by rw [List.length_set]; exact s2, fun k v hk => ?_⟩, by rw [List.length_set]⟩
  obtain ⟨w, hw, hn, hl⟩ := hname k v hk
  obtain ⟨⟨a1, a2, a3⟩, a4⟩ := s3 k w hw
  refine ⟨⟨by rw [← hn]; exact a1, by omega, by omega⟩, ?_⟩
  intro j u hj hu
  obtain ⟨u', hu', hun, _⟩ := hname j u hu
  have := a4 j u' hj hu'
  rw [← hn, ← hun]
  exact this

theorem OkS.tame {s : List impl_Variable} (h : OkS s) : TameS s := ⟨by have := h.2.1; omega, fun v hv => by
  obtain ⟨k, hk⟩ := List.getElem?_of_mem hv
  have := (h.2.2 k v hk).1.1.2.1
  omega⟩

theorem gv_same {s : List impl_Variable} {g : impl_Grouping} {V : List Int} (ht : TameS s) (hg : g.Groups.length ≤ 100) (hV : V.length ≤ 9) (hlv : ∀ v ∈ s, -1000 ≤ v.Levels ∧ v.Levels ≤ 1000000) :
    (impl_GroupValues s g V = some ([], false) ∧ spec_GroupValues s g V = some ([], false)) ∨
    ∃ W x j, impl_GroupValues s g V = some (W, true) ∧ spec_GroupValues s g V = some (W, true) ∧ W.length ≤ 9 ∧ impl_GroupSchema s g = some (x, true) ∧ impl_CombinationIndex x W = some (j, true) := by
  obtain ⟨b, e1, e2, hb⟩ := schemas ht
  obtain ⟨n, e3, e4, hn⟩ := groups_same (s := s) (g := g) ht.1 (by omega)
  obtain ⟨c, e5, hc⟩ := areValues_bis (s := s) (l := V) (by omega)
  obtain ⟨c2, e6, hc2⟩ := sFits_bis (s := s) (l := V) (by omega) hlv
  obtain rfl : c = c2 := by cases c <;> cases c2 <;> simp_all
  unfold impl_GroupValues spec_GroupValues impl_GroupSchema
  rw [e1, e2, e3, e4, e5, e6]
  simp only [Option.bind_some]
  cases b with
  | false => exact .inl ⟨rfl, rfl⟩
  | true =>
    rcases hn with rfl | hG
    · exact .inl ⟨rfl, rfl⟩
    · obtain ⟨g1, g2, g3, g4, g5, g6⟩ := id hG
      rw [show (n == 0) = false by rw [beq_eq_false_iff_ne]; omega]
      cases c with
      | false => exact .inl ⟨rfl, rfl⟩
      | true =>
        have hS := hb.1 rfl
        have hOV := hc.1 rfl
        have hi : g.Var.toNat < s.length := by omega
        have hv : s[g.Var.toNat]? = some s[g.Var.toNat] := by simp [hi]
        have hVl := hOV.1
        have hx : V[g.Var.toNat]? = some (V[g.Var.toNat]'(by omega)) := by simp
        have hxb := hOV.2 _ _ _ hv hx
        have hgl := g5 _ hv
        have hvi : g.Var = ((g.Var.toNat : Nat) : Int) := by omega
        have hat1 : goAt V g.Var = some (V[g.Var.toNat]'(by omega)) := by
          unfold goAt
          rw [decide_eq_true g3, cond_true]; exact hx
        have hgi : (V[g.Var.toNat]'(by omega)).toNat < g.Groups.length := by omega
        have hgx : g.Groups[(V[g.Var.toNat]'(by omega)).toNat]? = some (g.Groups[(V[g.Var.toNat]'(by omega)).toNat]'hgi) := by simp [hgi]
        have hat2 : goAt g.Groups (V[g.Var.toNat]'(by omega)) = some (g.Groups[(V[g.Var.toNat]'(by omega)).toNat]'hgi) := by
          unfold goAt
          rw [decide_eq_true hxb.1, cond_true]; exact hgx
        have hyb := g6 _ (List.getElem_mem hgi)
        have hcl : slices_Clone_impl_Variable_impl_Variable s = some s := by
          unfold slices_Clone_impl_Variable_impl_Variable
          have := ht.1
          rw [goApp_ok (by simp; omega)]; rfl
        have hat3 : goAt s g.Var = some s[g.Var.toNat] := by
          unfold goAt
          rw [decide_eq_true g3, cond_true]; exact hv
        simp only [Bool.not_true, cond_false, Option.bind_some, clone_eq (show V.length ≤ 1000000 by omega), own_eq (show V.length ≤ 1000000 by omega), hat1, hat2, hcl, hat3]
        have hgs : goSet s g.Var (⟨s[g.Var.toNat].Name, n⟩ : impl_Variable) = gset s g n := by
          unfold gset
          rw [hv]
        rw [hgs]
        obtain ⟨hS2, hl2⟩ := group_schema hS hG
        have hOV2 : OkV (gset s g n) (goSet V g.Var (g.Groups[(V[g.Var.toNat]'(by omega)).toNat]'hgi)) := by
          refine ⟨by rw [hl2]; simp [hVl], fun k v x hk hx' => ?_⟩
          unfold gset at hk
          rw [hv] at hk
          simp only at hk
          by_cases he : k = g.Var.toNat
          · subst he
            rw [List.getElem?_set_self hi] at hk
            rw [List.getElem?_set_self (by omega)] at hx'
            obtain rfl := Option.some.inj hk
            obtain rfl := Option.some.inj hx'
            exact hyb
          · rw [List.getElem?_set_ne (by omega)] at hk
            rw [List.getElem?_set_ne (by omega)] at hx'
            exact hOV.2 k v x hk hx'
        obtain ⟨X, hX, hVX⟩ := hOV2.vx hS2.lv
        have hXl : X.length ≤ 1000 := by
          have := congrArg List.length hX
          rw [up_len] at this
          simp at this
          omega
        have hci := CombIndex_ok hS2.tame hS2 hVX hXl
        rw [← hX] at hci
        exact .inr ⟨_, _, _, rfl, rfl, by rw [List.length_set]; exact hV, rfl, hci⟩

/-! texts -/
def ptx (v : impl_Variable) : List UInt8 := (v.Name ++ [58]) ++ Go.Lib.itoa v.Levels

def OkVar (v : impl_Variable) : Prop := Word v.Name ∧ 2 ≤ v.Levels ∧ v.Levels ≤ 8

theorem itoa_lv {v : impl_Variable} (h : OkVar v) : Go.Lib.itoa v.Levels = [UInt8.ofNat (48 + v.Levels.toNat)] := by
  unfold Go.Lib.itoa
  rw [if_neg (by have := h.2.1; omega), digs_small (by have := h.2.2; omega)]

theorem index_app {b : UInt8} : ∀ {a r : List UInt8}, b ∉ a → Go.Lib.index (a ++ b :: r) [b] = (a.length : Int)
  | [], r, _ => by
    unfold Go.Lib.index
    simp [List.isPrefixOf]
  | x :: a, r, h => by
    have hx : (b == x) = false := by rw [beq_eq_false_iff_ne]; exact fun hc => h (by rw [hc]; exact List.mem_cons_self)
    have ih := index_app (r := r) (fun hc => h (List.mem_cons_of_mem _ hc) : b ∉ a)
    rw [List.cons_append]
    unfold Go.Lib.index
    rw [ih]
    simp only [List.isPrefixOf, hx, Bool.false_and, Bool.false_eq_true, if_false]
    rw [if_neg (by rw [beq_iff_eq]; omega), List.length_cons]
    omega

theorem index_no {b : UInt8} : ∀ {a : List UInt8}, b ∉ a → Go.Lib.index a [b] = -1
  | [], _ => rfl
  | x :: a, h => by
    have hx : (b == x) = false := by rw [beq_eq_false_iff_ne]; exact fun hc => h (by rw [hc]; exact List.mem_cons_self)
    have ih := index_no (fun hc => h (List.mem_cons_of_mem _ hc) : b ∉ a)
    unfold Go.Lib.index
    rw [ih]
    simp [List.isPrefixOf, hx]

theorem cut_yes {b : UInt8} {a r : List UInt8} (h : b ∉ a) : Go.Lib.cut (a ++ b :: r) [b] = (a, r, true) := by
  unfold Go.Lib.cut
  rw [index_app h, if_pos (by omega), Int.toNat_natCast, List.take_left]
  congr 2
  rw [← List.drop_drop, List.drop_left]
  rfl

theorem cut_no {b : UInt8} {a : List UInt8} (h : b ∉ a) : Go.Lib.cut a [b] = (a, [], false) := by
  unfold Go.Lib.cut
  rw [index_no h, if_neg (by omega)]

theorem word_no {w : List UInt8} {b : UInt8} (h : Word w) (hb : b.toNat < 97) : b ∉ w := fun hc => by have := h.2.2 b hc; omega

theorem lv_byte {v : impl_Variable} (h : OkVar v) : 48 ≤ (UInt8.ofNat (48 + v.Levels.toNat)).toNat ∧ (UInt8.ofNat (48 + v.Levels.toNat)).toNat ≤ 57 := by
  have := h.2.2
  rw [dig_nat (by omega)]
  omega

theorem ptx_no {v : impl_Variable} (h : OkVar v) : (44 : UInt8) ∉ ptx v := by
  unfold ptx
  rw [itoa_lv h]
  intro hc
  simp only [List.mem_append, List.mem_singleton] at hc
  rcases hc with (hc | hc) | hc
  · exact word_no h.1 (by decide) hc
  · exact absurd hc (by decide)
  · have := lv_byte h
    rw [← hc] at this
    exact absurd this.1 (by decide)

theorem ptx_len {v : impl_Variable} (h : OkVar v) : (ptx v).length ≤ 10 := by
  unfold ptx
  rw [itoa_lv h]
  have := h.1.2.1
  simp; omega

theorem lens_le {l : List impl_Variable} (h : ∀ v ∈ l, OkVar v) : Go.Lib.lens (l.map ptx) ≤ 10 * l.length := by
  induction l with
  | nil => simp [Go.Lib.lens]
  | cons v l ih =>
    have h1 := ptx_len (h v List.mem_cons_self)
    have h2 := ih fun w hw => h w (List.mem_cons_of_mem _ hw)
    simp only [List.map_cons, Go.Lib.lens, List.length_cons] at h2 ⊢
    simp only [List.map_cons, List.sum_cons] at h2 ⊢
    omega

theorem join_len {v : impl_Variable} {l : List impl_Variable} (h : ∀ w ∈ v :: l, OkVar w) : (Go.Lib.join ((v :: l).map ptx) [44]).length ≤ 11 * (l.length + 1) := by
  have h1 := lens_le h
  rw [List.map_cons, Go.Lib.join_length]
  rw [List.map_cons] at h1
  simp only [List.length_map, List.length_cons, List.length_singleton, List.length_nil] at h1 ⊢
  omega

theorem schemaText_ok {s : List impl_Variable} (hs : ∀ v ∈ s, OkVar v) (hl : 1 ≤ s.length ∧ s.length ≤ 6) : impl_schemaText s = some (Go.Lib.join (s.map ptx) [44]) := by
  unfold impl_schemaText
  rw [show goLen s = ((s.length : Nat) : Int) from rfl, goMake_ok (by omega) (by omega), Option.bind_some]
  have h := loop_map (l := s) ptx ([] : List UInt8) (impl_schemaText_l1 s) (fun k v out hv ho => by
    have hO := hs v (List.mem_of_getElem? hv)
    have hw := hO.1.2.1
    have hk := (List.getElem?_eq_some_iff.1 hv).1
    have e : goAt out (k : Int) = some out[k] := at_ok (by simp [ho, hk])
    simp only [impl_schemaText_l1, lt_ok hv, at_ok hv, cond_true, Option.bind_some, nx_ok hv (show s.length ≤ 9223372036854775807 by omega)]
    have c1 : goCat v.Name [58] = some (v.Name ++ [58]) := by unfold goCat; rw [decide_eq_true (by simp; omega), cond_true]
    rw [c1, Option.bind_some, itoa_ok (by have := hO.2.1; omega) (by have := hO.2.2; omega), Option.bind_some]
    have c2 : goCat (v.Name ++ [58]) (Go.Lib.itoa v.Levels) = some (ptx v) := by unfold goCat; rw [decide_eq_true (by rw [itoa_lv hO]; simp; omega), cond_true]; rfl
    rw [c2, Option.bind_some, e, Option.bind_some]
    simp only [goSet, Int.toNat_natCast]) (fun out => by simp only [impl_schemaText_l1, lt_end, cond_false])
  rw [h, Option.bind_some]
  have hj : strings_Join (s.map ptx) [44] = some (Go.Lib.join (s.map ptx) [44]) := by
    unfold strings_Join
    rw [decide_eq_true, cond_true]
    refine ⟨by simp; omega, ?_⟩
    cases s with
    | nil => simp at hl
    | cons v l =>
      have := join_len hs
      have h6 := hl.2
      simp only [List.length_cons] at h6
      omega
  rw [hj, Option.bind_some]

theorem whole_ok {v : impl_Variable} (h : OkVar v) : impl_wholeNatural (Go.Lib.itoa v.Levels) 8 = some (v.Levels, true) := by
  have hi : Go.Lib.itoa v.Levels = Go.Lib.decDigits v.Levels.toNat := by unfold Go.Lib.itoa; rw [if_neg (by have := h.2.1; omega)]
  have := readNat_ok (u := v.Levels.toNat) (r := []) (most := 8) (by have := h.2.2; have := h.2.1; omega) (by omega) (.inl rfl) (by simp)
  rw [List.append_nil] at this
  unfold impl_wholeNatural
  rw [hi, this]
  simp only [Option.bind_some, Bool.not_true, cond_false, bne_self_eq_false]
  rw [show ((v.Levels.toNat : Nat) : Int) = v.Levels by have := h.2.1; omega]

theorem parse_loop : ∀ (l : List impl_Variable) (v : impl_Variable) (acc : List impl_Variable), (∀ w ∈ v :: l, OkVar w) → acc.length + l.length + 1 ≤ 6 →
    loopC impl_ParseSchema_l1 (Go.Lib.join ((v :: l).map ptx) [44], acc) = some (.inl (acc ++ v :: l))
  | l, v, acc, hO, hl => by
    have hv := hO v List.mem_cons_self
    have hlen := join_len hO
    have hcol : Go.Lib.cut (ptx v) [58] = (v.Name, Go.Lib.itoa v.Levels, true) := by
      unfold ptx
      rw [List.append_assoc, List.singleton_append]
      exact cut_yes (word_no hv.1 (by decide))
    have hcolf : strings_Cut (ptx v) [58] = some (v.Name, Go.Lib.itoa v.Levels, true) := by
      unfold strings_Cut
      have := ptx_len hv
      rw [decide_eq_true (by omega), cond_true, hcol]
    have hcut : ∀ t, Go.Lib.cut (Go.Lib.join ((v :: l).map ptx) [44]) [44] = t → strings_Cut (Go.Lib.join ((v :: l).map ptx) [44]) [44] = some t := fun t ht => by
      unfold strings_Cut
      rw [decide_eq_true (by omega), cond_true, ht]
    rw [loopC_eq]
    cases l with
    | nil =>
      have h1 : Go.Lib.cut (Go.Lib.join ([v].map ptx) [44]) [44] = (ptx v, [], false) := by
        rw [List.map_cons, List.map_nil, Go.Lib.join_one]
        exact cut_no (ptx_no hv)
      simp only [impl_ParseSchema_l1]
      rw [hcut _ h1]
      simp only [Option.bind_some]
      rw [hcolf]
      simp only [Option.bind_some, whole_ok hv, Bool.not_true, cond_false]
      rw [show (goLen acc == 6) = false by rw [beq_eq_false_iff_ne]; simp only [goLen]; simp only [List.length_nil] at hl; omega]
      simp only [cond_false, Option.bind_some]
      rw [goApp_ok (by simp at hl ⊢; omega)]
      rfl
    | cons w l =>
      have h1 : Go.Lib.cut (Go.Lib.join ((v :: w :: l).map ptx) [44]) [44] = (ptx v, Go.Lib.join ((w :: l).map ptx) [44], true) := by
        have e : Go.Lib.join ((v :: w :: l).map ptx) [44] = ptx v ++ 44 :: Go.Lib.join ((w :: l).map ptx) [44] := by
          rw [List.map_cons, Go.Lib.join_cons, List.map_cons, Go.Lib.join_cons]
          simp [Go.Lib.joinTail]
        rw [e]
        exact cut_yes (ptx_no hv)
      simp only [impl_ParseSchema_l1]
      rw [hcut _ h1]
      simp only [Option.bind_some]
      rw [hcolf]
      simp only [Option.bind_some, whole_ok hv, Bool.not_true, cond_false]
      simp only [List.length_cons] at hl
      rw [show (goLen acc == 6) = false by rw [beq_eq_false_iff_ne]; simp only [goLen]; omega]
      simp only [cond_false, Option.bind_some]
      rw [goApp_ok (by simp; omega)]
      simp only [Option.bind_some]
      rw [parse_loop l w (acc ++ [v]) (fun u hu => hO u (List.mem_cons_of_mem _ hu)) (by simp; omega)]
      simp

theorem vars_ok {s : List impl_Variable} (h : OkS s) : ∀ v ∈ s, OkVar v := fun v hv => by
  obtain ⟨k, hk⟩ := List.getElem?_of_mem hv
  exact (h.2.2 k v hk).1

theorem schema_back {s : List impl_Variable} (h : OkS s) : ∃ t, impl_SchemaText s = some (t, true) ∧ impl_ParseSchema t = some (s, true) := by
  obtain ⟨b, e1, hb⟩ := IsSchema_bis h.tame
  obtain rfl := hb.2 h
  refine ⟨Go.Lib.join (s.map ptx) [44], ?_, ?_⟩
  · unfold impl_SchemaText
    rw [e1]
    simp only [Option.bind_some, Bool.not_true, cond_false, schemaText_ok (vars_ok h) ⟨h.1, h.2.1⟩]
  · unfold impl_ParseSchema
    have h6 := h.2.1
    have h1 := h.1
    cases s with
    | nil => simp at h1
    | cons v l =>
      rw [parse_loop l v [] (vars_ok h) (by simp at h6 ⊢; omega)]
      simp only [Option.bind_some, List.nil_append]
      rw [e1]
      rfl

theorem dist_zero {s : List impl_Variable} {V : List Int} (h : OkS s) (hV : OkV s V) (hl : V.length ≤ 1000) : impl_ValueDistance s V V = some (0, true) := by
  obtain ⟨b, e1, hb⟩ := IsSchema_bis h.tame
  obtain rfl := hb.2 h
  obtain ⟨b2, e2, hb2⟩ := areValues_bis (s := s) (l := V) (by omega)
  obtain rfl := hb2.2 hV
  unfold impl_ValueDistance
  rw [e1, e2]
  simp only [Option.bind_some, Bool.not_true, cond_false]
  have key : loopC (impl_ValueDistance_l1 V V) (0, 0) = some 0 := by
    refine tot_eq (tot_loop (fun t => ∃ k : Nat, k ≤ V.length ∧ t = ((0 : Int), (k : Int))) (fun t => V.length - t.2.toNat) ⟨0, by omega, rfl⟩ ?_)
    rintro t ⟨k, hk, rfl⟩
    by_cases hlt : k < V.length
    · have hx : V[k]? = some V[k] := by simp [hlt]
      simp only [impl_ValueDistance_l1, lt_ok hx, at_ok hx, cond_true, Option.bind_some, bne_self_eq_false, cond_false, nx_ok hx (show V.length ≤ 9223372036854775807 by omega)]
      exact tot_some ⟨⟨k + 1, by omega, rfl⟩, by simp only; omega⟩
    · obtain rfl : k = V.length := by omega
      simp only [impl_ValueDistance_l1, lt_end, cond_false]
      exact tot_some rfl
  rw [key, Option.bind_some]

theorem qSchema_same {s : List impl_Variable} (hl : s.length ≤ 1000) : laws_qSchema s s = some true := by
  unfold laws_qSchema
  rw [bne_self_eq_false, cond_false]
  have h := loop_all (l := s) (fun _ => true) (laws_qSchema_l1 s s) (fun k x hx => by
    simp only [laws_qSchema_l1, lt_ok hx, cond_true, at_ok hx, Option.bind_some, beq_self_eq_true, Bool.and_self, Bool.not_true, cond_false, nx_ok hx (show s.length ≤ 9223372036854775807 by omega), if_true]) (fun _ => by simp only [laws_qSchema_l1, lt_end, cond_false])
  rw [h]; simp

theorem laws_FnSchemas_true (a b : List (K .u8)) (o1 : Rng.ok a) (o2 : Rng.ok b) : laws_FnSchemas a b = some true := by
  refine tot_eq ?_
  unfold laws_FnSchemas
  refine tot_cond (fun _ => tot_some rfl) fun _ => ?_
  refine tot_bind (tDrawComb o1.2) fun ⟨s, i⟩ hs => ?_
  simp only at hs ⊢
  have hcomb := comb_same i hs.tame
  have hgoal : ∀ (R : Bool → Prop), R true → ∀ (X : Option Bool), X = some true → Tot X R := fun R hR X hX => ⟨true, hX, hR⟩
  have htail : ∀ {T : Option Bool}, T = some true → Tot ((spec_DrawGroupValues b).bind fun t_14 => ((impl_GroupValues t_14.1 t_14.2.1 t_14.2.2).bind fun t_20 => ((spec_GroupValues t_14.1 t_14.2.1 t_14.2.2).bind fun t_24 => (((cond (t_20.2 != t_24.2) (some true) ((laws_qInts t_20.1 t_24.1).bind fun t_30 => some (!t_30))) : Option (Bool)).bind fun t_32 => (cond t_32 (some false) (((cond t_20.2 ((impl_GroupSchema t_14.1 t_14.2.1).bind fun t_33 => ((impl_CombinationIndex t_33.1 t_20.1).bind fun t_37 => (((cond (!t_33.2) (some true) (some (!t_37.2))) : Option (Bool)).bind fun t_39 => (cond t_39 (some (.inr false)) (some (.inl ())))))) (some (.inl ()))) : Option ((Unit) ⊕ (Bool))).bind fun | .inl () => T | .inr o => some o)))))) (fun z => z = true) := by
    intro T hT
    refine tot_bind (tDrawGroupV o2.2) fun ⟨h, g, V⟩ ⟨hh, hg, hV⟩ => ?_
    simp only at hh hg hV ⊢
    rcases gv_same hh.tame hg hV (fun v hv => by have := hh.b v hv; omega) with ⟨q1, q2⟩ | ⟨W, x, j, q1, q2, hW, q3, q4⟩
    · rw [q1, q2]
      simp only [Option.bind_some, bne_self_eq_false, cond_false, qInts_same (l := []) (by simp), Bool.not_true]
      exact ⟨true, hT, rfl⟩
    · rw [q1, q2]
      simp only [Option.bind_some, bne_self_eq_false, cond_false, cond_true, qInts_same (l := W) (by omega), Bool.not_true, q3, q4]
      exact ⟨true, hT, rfl⟩
  rcases hcomb with ⟨_, _, q1, q2⟩ | ⟨n, hS, rfl, hn, q1, q2⟩
  · rw [q1, q2]
    simp only [Option.bind_some, bne_self_eq_false, cond_false, qInts_same (l := []) (by simp), Bool.not_true, cond_true]
    exact htail rfl
  · have hVX := dig_ok (S := tops s) hn
    have hlen : (dig (tops s) n).length ≤ 1000 := by
      rw [dig_len, tops_len]; have := hS.2.1; omega
    obtain ⟨t, q5, q6⟩ := schema_back hS
    have hidx := CombIndex_ok hS.tame hS hVX hlen
    rw [ix_dig hn] at hidx
    have hcc : impl_CombinationCount s = some (((cnt (tops s) : Nat) : Int), true) := by
      obtain ⟨b, e1, hb⟩ := IsSchema_bis hS.tame
      obtain rfl := hb.2 hS
      unfold impl_CombinationCount
      rw [e1]
      simp only [Option.bind_some, Bool.not_true, cond_false, combinations_eq hS.lv]
    rw [q1, q2]
    simp only [Option.bind_some, bne_self_eq_false, cond_false, qInts_same (l := up (dig (tops s) n)) (by rw [up_len]; omega), Bool.not_true]
    refine htail ?_
    rw [hidx, hcc, q5]
    simp only [Option.bind_some, q6, dist_zero hS (OkV.of_vx hS.lv hVX) (by rw [up_len]; omega), cond_true, beq_self_eq_true]
    rw [decide_eq_true (show (n : Int) < ((cnt (tops s) : Nat) : Int) by omega)]
    simp only [cond_true, qSchema_same (show s.length ≤ 1000 by have := hS.2.1; omega), Option.bind_some]

end Go.Gx.F
