/- Plain laws: how many groups a grouping has. -/
import Derived.Test.YtebjhiflnemkhaaGPLst
namespace Go.Gx.F
open Go.Gx
set_option linter.all false

def tup (f : Nat → Bool) : Bool × Bool × Bool × Bool × Bool × Bool × Bool × Bool := (f 0, f 1, f 2, f 3, f 4, f 5, f 6, f 7)

def usd (G : List Int) (j : Nat) : Bool := decide ((j : Int) ∈ G)

def top1 (l : List Int) : Int := l.foldl (fun k e => max k (e + 1)) 0

theorem top1_snoc (l : List Int) (e : Int) : top1 (l ++ [e]) = max (top1 l) (e + 1) := by simp [top1]

theorem foldl_max_ge (l : List Int) : ∀ k : Int, k ≤ l.foldl (fun k e => max k (e + 1)) k ∧ ∀ e ∈ l, e + 1 ≤ l.foldl (fun k e => max k (e + 1)) k := by
  induction l with
  | nil => intro k; exact ⟨Int.le_refl _, fun e he => by simp at he⟩
  | cons x l ih =>
    intro k
    obtain ⟨h1, h2⟩ := ih (max k (x + 1))
    refine ⟨by rw [List.foldl_cons]; omega, fun e he => ?_⟩
    rw [List.foldl_cons]
    rcases List.mem_cons.1 he with rfl | he
    · omega
    · exact h2 e he

theorem foldl_max_mem (l : List Int) : ∀ k : Int, l.foldl (fun k e => max k (e + 1)) k = k ∨ ∃ e ∈ l, l.foldl (fun k e => max k (e + 1)) k = e + 1 := by
  induction l with
  | nil => intro k; exact .inl rfl
  | cons x l ih =>
    intro k
    rw [List.foldl_cons]
    rcases ih (max k (x + 1)) with h | ⟨e, he, h⟩
    · rw [h]
      by_cases hc : k ≤ x + 1
      · exact .inr ⟨x, List.mem_cons_self, by omega⟩
      · exact .inl (by omega)
    · exact .inr ⟨e, List.mem_cons_of_mem _ he, h⟩

theorem top1_le {G : List Int} (h : ∀ e ∈ G, 0 ≤ e ∧ e ≤ 7) : 0 ≤ top1 G ∧ top1 G ≤ 8 := by
  refine ⟨(foldl_max_ge G 0).1, ?_⟩
  rcases foldl_max_mem G 0 with h1 | ⟨e, he, h1⟩
  · have : top1 G = 0 := h1
    omega
  · have : top1 G = e + 1 := h1
    have := h e he
    omega

theorem used_set {f : Nat → Bool} {e : Int} (h0 : 0 ≤ e) (h7 : e ≤ 7) : ((some (goSet ([(tup f).1, (tup f).2.1, (tup f).2.2.1, (tup f).2.2.2.1, (tup f).2.2.2.2.1, (tup f).2.2.2.2.2.1, (tup f).2.2.2.2.2.2.1, (tup f).2.2.2.2.2.2.2] : List Bool) e true)).bind fun l_15 => some ((l_15.getD 0 (false : Bool)), (l_15.getD 1 (false : Bool)), (l_15.getD 2 (false : Bool)), (l_15.getD 3 (false : Bool)), (l_15.getD 4 (false : Bool)), (l_15.getD 5 (false : Bool)), (l_15.getD 6 (false : Bool)), (l_15.getD 7 (false : Bool)))) = some (tup fun j => decide ((j : Int) = e) || f j) := by
  have : e = 0 ∨ e = 1 ∨ e = 2 ∨ e = 3 ∨ e = 4 ∨ e = 5 ∨ e = 6 ∨ e = 7 := by omega
  rcases this with rfl | rfl | rfl | rfl | rfl | rfl | rfl | rfl <;> rfl

theorem usd_snoc {G : List Int} {e : Int} : (fun j : Nat => decide ((j : Int) = e) || usd G j) = usd (G ++ [e]) := by
  funext j
  unfold usd
  rw [Bool.eq_iff_iff]
  simp only [Bool.or_eq_true, decide_eq_true_eq, List.mem_append, List.mem_singleton]
  exact or_comm

theorem group_loop {g : impl_Grouping} (hl : g.Groups.length ≤ 1000) (h : ∀ e ∈ g.Groups, 0 ≤ e ∧ e ≤ 7) :
    loopC (impl_groupCount_l1 g) (0, 0, (false, false, false, false, false, false, false, false)) = some (.inl (top1 g.Groups, tup (usd g.Groups))) := by
  refine tot_eq (tot_loop (fun s => ∃ k : Nat, k ≤ g.Groups.length ∧ s = (top1 (g.Groups.take k), (k : Int), tup (usd (g.Groups.take k)))) (fun s => g.Groups.length - s.2.1.toNat) ⟨0, by omega, by simp [top1, tup, usd]⟩ ?_)
  rintro s ⟨k, hk, rfl⟩
  by_cases hlt : k < g.Groups.length
  · have hx : g.Groups[k]? = some g.Groups[k] := by simp [hlt]
    have hb := h _ (List.getElem_mem hlt)
    have ht := top1_le (G := g.Groups.take k) fun e he => h e (List.mem_of_mem_take he)
    have hs := used_set (f := usd (g.Groups.take k)) hb.1 hb.2
    have htk : g.Groups.take (k + 1) = g.Groups.take k ++ [g.Groups[k]] := by rw [List.take_succ, hx]; rfl
    simp only [Option.bind_some, Option.some.injEq] at hs
    simp only [impl_groupCount_l1, lt_ok hx, at_ok hx, cond_true, Option.bind_some, nx_ok hx (show g.Groups.length ≤ 9223372036854775807 by omega)]
    rw [decide_eq_false (show ¬ g.Groups[k] < 0 by omega), decide_eq_false (show ¬ 8 ≤ g.Groups[k] by omega)]
    simp only [cond_false, Option.bind_some]
    unfold goIx
    rw [decide_eq_true (show 0 ≤ g.Groups[k] by omega), decide_eq_true (show g.Groups[k] < ((8 : Nat) : Int) by omega)]
    simp only [Bool.and_self, cond_true, Option.bind_some]
    rw [hs, usd_snoc, wid (by omega) (by omega), ← top1_snoc, ← htk]
    exact tot_some ⟨⟨k + 1, by omega, rfl⟩, by simp only; omega⟩
  · obtain rfl : k = g.Groups.length := by omega
    simp only [impl_groupCount_l1, lt_end, cond_false]
    exact tot_some (by rw [List.take_length])

theorem group_bad {g : impl_Grouping} (hl : g.Groups.length ≤ 1000) (h : ¬ ∀ e ∈ g.Groups, 0 ≤ e ∧ e ≤ 7) :
    loopC (impl_groupCount_l1 g) (0, 0, (false, false, false, false, false, false, false, false)) = some (.inr 0) := by
  refine tot_eq (tot_loop (fun s => ∃ (k : Nat) (f : Nat → Bool), k ≤ g.Groups.length ∧ s.2.1 = (k : Int) ∧ s.2.2 = tup f ∧ ∀ e ∈ g.Groups.take k, 0 ≤ e ∧ e ≤ 7) (fun s => g.Groups.length - s.2.1.toNat) ⟨0, fun _ => false, by omega, rfl, rfl, by simp⟩ ?_)
  rintro ⟨m, t, u⟩ ⟨k, f, hk, ht, hu, hall⟩
  simp only at ht hu
  subst ht
  subst hu
  by_cases hlt : k < g.Groups.length
  · have hx : g.Groups[k]? = some g.Groups[k] := by simp [hlt]
    simp only [impl_groupCount_l1, lt_ok hx, at_ok hx, cond_true, Option.bind_some, nx_ok hx (show g.Groups.length ≤ 9223372036854775807 by omega)]
    by_cases h1 : g.Groups[k] < 0
    · rw [decide_eq_true h1]; exact tot_some rfl
    · rw [decide_eq_false h1, cond_false, Option.bind_some]
      by_cases h2 : 8 ≤ g.Groups[k]
      · rw [decide_eq_true h2]; exact tot_some rfl
      · rw [decide_eq_false h2, cond_false]
        have hs := used_set (f := f) (e := g.Groups[k]) (by omega) (by omega)
        simp only [Option.bind_some, Option.some.injEq] at hs
        unfold goIx
        rw [decide_eq_true (show 0 ≤ g.Groups[k] by omega), decide_eq_true (show g.Groups[k] < ((8 : Nat) : Int) by omega)]
        simp only [Bool.and_self, cond_true, Option.bind_some]
        rw [hs]
        refine tot_some ⟨⟨k + 1, (fun j => decide ((j : Int) = g.Groups[k]) || f j), by omega, rfl, rfl, fun e he => ?_⟩, by simp only; omega⟩
        rw [List.take_succ, hx, List.mem_append] at he
        rcases he with he | he
        · exact hall e he
        · simp at he; subst he; omega
  · obtain rfl : k = g.Groups.length := by omega
    rw [List.take_length] at hall
    exact absurd hall h

/-- all of them are used -/
theorem used_loop {f : Nat → Bool} {k : Int} (h0 : 0 ≤ k) (h8 : k ≤ 8) : ∃ l, goSub ([(tup f).1, (tup f).2.1, (tup f).2.2.1, (tup f).2.2.2.1, (tup f).2.2.2.2.1, (tup f).2.2.2.2.2.1, (tup f).2.2.2.2.2.2.1, (tup f).2.2.2.2.2.2.2] : List Bool) 0 k = some l ∧
    ∃ b : Bool, (b = true ↔ ∃ j : Nat, (j : Int) < k ∧ f j = false) ∧ loopC (impl_groupCount_l2 l) 0 = some (cond b (.inr 0) (.inl ())) := by
  obtain ⟨n, rfl⟩ : ∃ n : Nat, k = (n : Int) := ⟨k.toNat, by omega⟩
  have hn : n ≤ 8 := by omega
  have hget : ∀ j, j < 8 → ([(tup f).1, (tup f).2.1, (tup f).2.2.1, (tup f).2.2.2.1, (tup f).2.2.2.2.1, (tup f).2.2.2.2.2.1, (tup f).2.2.2.2.2.2.1, (tup f).2.2.2.2.2.2.2] : List Bool)[j]? = some (f j) := fun j hj => by
    have : j = 0 ∨ j = 1 ∨ j = 2 ∨ j = 3 ∨ j = 4 ∨ j = 5 ∨ j = 6 ∨ j = 7 := by omega
    rcases this with rfl | rfl | rfl | rfl | rfl | rfl | rfl | rfl <;> rfl
  generalize hL : ([(tup f).1, (tup f).2.1, (tup f).2.2.1, (tup f).2.2.2.1, (tup f).2.2.2.2.1, (tup f).2.2.2.2.2.1, (tup f).2.2.2.2.2.2.1, (tup f).2.2.2.2.2.2.2] : List Bool) = L at hget
  have hLl : L.length = 8 := by rw [← hL]; rfl
  have hsub : goSub L 0 (n : Int) = some (L.take n) := by
    refine tot_eq (tot_sub (by omega) (by omega) (by omega) ?_)
    simp
  refine ⟨_, hsub, ?_⟩
  obtain ⟨b, hb, e⟩ := loop_find (l := L.take n) (fun _ u => u = false) (0 : Int) (body := impl_groupCount_l2 (L.take n)) (fun j u hu => ⟨!u, by simp, by
    have hj := (List.getElem?_eq_some_iff.1 hu).1
    rw [List.length_take] at hj
    simp only [impl_groupCount_l2, lt_ok hu, at_ok hu, cond_true, Option.bind_some, nx_ok hu (show (L.take n).length ≤ 9223372036854775807 by rw [List.length_take]; omega)]
    cases u <;> rfl⟩) (by simp only [impl_groupCount_l2, lt_end, cond_false])
  refine ⟨b, ?_, e⟩
  rw [hb]
  constructor
  · rintro ⟨j, u, hj, rfl⟩
    have hjl := (List.getElem?_eq_some_iff.1 hj).1
    rw [List.length_take] at hjl
    rw [List.getElem?_take_of_lt (by omega), hget j (by omega)] at hj
    exact ⟨j, by omega, Option.some.inj hj⟩
  · rintro ⟨j, hj, hf⟩
    exact ⟨j, false, by rw [List.getElem?_take_of_lt (by omega), hget j (by omega), hf], rfl⟩

/-! the groups that are met, in order -/
structure Met (l : List Int) (G : List Int) : Prop where
  up : l.Pairwise (· < ·)
  mem : ∀ x, x ∈ l ↔ x ∈ G

theorem put_at (l : List Int) (n : Int) (hl : l.length ≤ 10000) : ∃ k : Nat, k ≤ l.length ∧ loopC (spec_l1Put_l1 l n) 0 = some (k : Int) ∧ (∀ x ∈ l.take k, x < n) ∧ ∀ x, l[k]? = some x → ¬ x < n := by
  obtain ⟨r, e, k, hk, rfl, h1, h2⟩ := tot_loop (body := spec_l1Put_l1 l n) (s := 0) (Q := fun r => ∃ k : Nat, k ≤ l.length ∧ r = (k : Int) ∧ (∀ x ∈ l.take k, x < n) ∧ ∀ x, l[k]? = some x → ¬ x < n)
    (fun s => ∃ k : Nat, k ≤ l.length ∧ s = (k : Int) ∧ ∀ x ∈ l.take k, x < n) (fun s => l.length - s.toNat) ⟨0, by omega, rfl, by simp⟩ (by
    rintro s ⟨k, hk, rfl, h1⟩
    by_cases hlt : k < l.length
    · have hx : l[k]? = some l[k] := by simp [hlt]
      simp only [spec_l1Put_l1, lt_ok hx, at_ok hx, cond_true, Option.bind_some, nx_ok hx (show l.length ≤ 9223372036854775807 by omega)]
      by_cases hc : l[k] < n
      · rw [decide_eq_true hc]
        refine tot_some ⟨⟨k + 1, by omega, rfl, fun x hx' => ?_⟩, by omega⟩
        rw [List.take_succ, hx, List.mem_append] at hx'
        rcases hx' with h | h
        · exact h1 x h
        · simp at h; subst h; exact hc
      · rw [decide_eq_false hc]
        exact tot_some ⟨k, hk, rfl, h1, fun x hx' => by rw [hx] at hx'; obtain rfl := Option.some.inj hx'; exact hc⟩
    · obtain rfl : k = l.length := by omega
      simp only [spec_l1Put_l1, lt_end, cond_false, Option.bind_some]
      exact tot_some ⟨l.length, by omega, rfl, h1, fun x hx' => by simp at hx'⟩)
  exact ⟨k, hk, e, h1, h2⟩

theorem put_met {l G : List Int} {n : Int} (hl : l.length ≤ 10000) (h : Met l G) : ∃ r, spec_l1Put l n = some r ∧ Met r (G ++ [n]) ∧ r.length ≤ l.length + 1 := by
  obtain ⟨k, hk, e, h1, h2⟩ := put_at l n hl
  unfold spec_l1Put
  rw [e, Option.bind_some]
  by_cases hin : l[k]? = some n
  · rw [lt_ok hin, at_ok hin]
    simp only [cond_true, Option.bind_some, beq_self_eq_true]
    refine ⟨l, rfl, ⟨h.up, fun x => ?_⟩, by omega⟩
    rw [List.mem_append, List.mem_singleton, h.mem]
    constructor
    · exact fun h => .inl h
    · rintro (h' | rfl)
      · exact h'
      · exact (h.mem _).1 (List.mem_of_getElem? hin)
  · have hcond : ((cond (decide ((k : Int) < (goLen l))) ((goAt l (k : Int)).bind fun e_7 => some (e_7 == n)) (some false)) : Option Bool) = some false := by
      by_cases hlt : k < l.length
      · have hx : l[k]? = some l[k] := by simp [hlt]
        rw [lt_ok hx, at_ok hx, cond_true, Option.bind_some]
        have : l[k] ≠ n := fun hc => hin (by rw [hx, hc])
        rw [show (l[k] == n) = false by simpa using this]
      · obtain rfl : k = l.length := by omega
        rw [lt_end, cond_false]
    rw [hcond, Option.bind_some, cond_false]
    have e1 : goSub l 0 (k : Int) = some (l.take k) := tot_eq (tot_sub (by omega) (by omega) (by omega) (by simp))
    have e2 : goSub l (k : Int) (goLen l) = some (l.drop k) := tot_eq (tot_sub (by omega) (by simp only [goLen]; omega) (by simp only [goLen]; omega) (by simp only [goLen, Int.toNat_natCast]; rw [List.take_of_length_le (by rw [List.length_drop]; omega)]))
    rw [e1, e2]
    simp only [Option.bind_some]
    rw [goApp_ok (by simp; omega), Option.bind_some, goApp_ok (by simp; omega), Option.bind_some, goApp_ok (by simp; omega), Option.bind_some]
    refine ⟨_, rfl, ⟨?_, fun x => ?_⟩, by simp; omega⟩
    · have hu := h.up
      have hgt : ∀ x ∈ l.drop k, n < x := fun x hx => by
        obtain ⟨j, hj⟩ := List.getElem?_of_mem hx
        rw [List.getElem?_drop] at hj
        obtain ⟨hkj, hxe⟩ := List.getElem?_eq_some_iff.1 hj
        have hklt : k < l.length := by omega
        have hk' : l[k]? = some l[k] := by simp [hklt]
        have hn1 := h2 _ hk'
        have hn2 : l[k] ≠ n := fun hc => hin (by rw [hk', hc])
        by_cases hj0 : j = 0
        · subst hj0
          simp only [Nat.add_zero] at hxe
          omega
        · have := List.pairwise_iff_getElem.1 hu k (k + j) hklt hkj (by omega)
          omega
      rw [List.nil_append, List.append_assoc, List.pairwise_append]
      refine ⟨hu.sublist (List.take_sublist _ _), ?_, fun x hx y hy => ?_⟩
      · rw [List.singleton_append, List.pairwise_cons]
        exact ⟨fun x hx => hgt x hx, hu.sublist (List.drop_sublist _ _)⟩
      · rw [List.singleton_append, List.mem_cons] at hy
        have := h1 x hx
        rcases hy with rfl | hy
        · exact this
        · have := hgt y hy; omega
    · rw [List.nil_append, List.mem_append, List.mem_append, List.mem_append, List.mem_singleton, ← h.mem]
      constructor
      · rintro ((h' | h') | h')
        · exact .inl (List.mem_of_mem_take h')
        · exact .inr h'
        · exact .inl (List.mem_of_mem_drop h')
      · rintro (h' | h')
        · rw [← List.take_append_drop k l, List.mem_append] at h'
          rcases h' with h' | h'
          · exact .inl (.inl h')
          · exact .inr h'
        · exact .inl (.inr h')

theorem met_loop {g : impl_Grouping} (hl : g.Groups.length ≤ 1000) : ∃ r, loopC (spec_sGroups_l1 g) (([] : List Int), 0) = some r ∧ Met r g.Groups ∧ r.length ≤ 1000 := by
  have key := tot_loop (body := spec_sGroups_l1 g) (s := (([] : List Int), 0)) (Q := fun r => Met r g.Groups ∧ r.length ≤ 1000) (fun s => ∃ k : Nat, k ≤ g.Groups.length ∧ s.2 = (k : Int) ∧ Met s.1 (g.Groups.take k) ∧ s.1.length ≤ k) (fun s => g.Groups.length - s.2.toNat) ⟨0, by omega, rfl, ⟨List.Pairwise.nil, by simp⟩, by simp⟩ (by
    rintro ⟨m, t⟩ ⟨k, hk, ht, hm, hml⟩
    simp only at ht hm hml
    subst ht
    by_cases hlt : k < g.Groups.length
    · have hx : g.Groups[k]? = some g.Groups[k] := by simp [hlt]
      obtain ⟨r, e, hr, hrl⟩ := put_met (n := g.Groups[k]) (by omega) hm
      simp only [spec_sGroups_l1, lt_ok hx, at_ok hx, cond_true, Option.bind_some, e, nx_ok hx (show g.Groups.length ≤ 9223372036854775807 by omega)]
      refine tot_some ⟨⟨k + 1, by omega, rfl, ?_, by simp only; omega⟩, by simp only; omega⟩
      rw [List.take_succ, hx]; exact hr
    · obtain rfl : k = g.Groups.length := by omega
      simp only [spec_sGroups_l1, lt_end, cond_false]
      rw [List.take_length] at hm
      exact tot_some ⟨hm, by omega⟩)
  obtain ⟨r, e, h⟩ := key
  exact ⟨r, e, h⟩

/-- numbers from 0 on that grow: the last is one less than their number where none is left out -/
theorem met_last {l G : List Int} (h : Met l G) (h0 : ∀ x ∈ G, 0 ≤ x) (h1 : 1 ≤ l.length) :
    top1 G = l[l.length - 1]'(by omega) + 1 ∧ (l[l.length - 1]'(by omega) = (l.length : Int) - 1 ↔ ∀ j : Nat, (j : Int) < top1 G → (j : Int) ∈ G) := by
  have hup := List.pairwise_iff_getElem.1 h.up
  have hnn : ∀ i (hi : i < l.length), (i : Int) ≤ l[i] := by
    intro i
    induction i with
    | zero => intro hi; have := h0 _ ((h.mem _).1 (List.getElem_mem hi)); simpa using this
    | succ i ih => intro hi; have h2 := ih (by omega); have h3 := hup i (i + 1) (by omega) hi (by omega); omega
  have hle : ∀ x ∈ G, x ≤ l[l.length - 1]'(by omega) := fun x hx => by
    obtain ⟨j, hj, rfl⟩ := List.mem_iff_getElem.1 ((h.mem x).2 hx)
    by_cases he : j = l.length - 1
    · subst he; exact Int.le_refl _
    · exact Int.le_of_lt (hup j (l.length - 1) hj (by omega) (by omega))
  have hlast : l[l.length - 1]'(by omega) ∈ G := (h.mem _).1 (List.getElem_mem _)
  have htop : top1 G = l[l.length - 1]'(by omega) + 1 := by
    have ha := (foldl_max_ge G 0).2 _ hlast
    have hb := foldl_max_mem G 0
    have hc := h0 _ hlast
    unfold top1
    rcases hb with hb | ⟨e, he, hb⟩
    · omega
    · have := hle e he; omega
  refine ⟨htop, ?_⟩
  rw [htop]
  constructor
  · intro he j hj
    have hjl : j < l.length := by omega
    have hge : ∀ d, ∀ i (hi : i < l.length), i + d = l.length - 1 → l[i] + (d : Int) ≤ l[l.length - 1]'(by omega) := by
      intro d
      induction d with
      | zero => intro i hi hd; obtain rfl : i = l.length - 1 := by omega
                simp
      | succ d ih => intro i hi hd
                     have h2 := ih (i + 1) (by omega) (by omega)
                     have h3 := hup i (i + 1) hi (by omega) (by omega)
                     omega
    have h2 := hge (l.length - 1 - j) j hjl (by omega)
    have h3 := hnn j hjl
    have : l[j] = (j : Int) := by omega
    rw [← this]
    exact (h.mem _).1 (List.getElem_mem hjl)
  · intro hall
    have heq : ∀ i (hi : i < l.length), l[i] = (i : Int) := by
      intro i
      induction i using Nat.strongRecOn with
      | _ i ih =>
        intro hi
        have h2 := hnn i hi
        have hil : l[i] ≤ l[l.length - 1]'(by omega) := hle _ ((h.mem _).1 (List.getElem_mem hi))
        obtain ⟨p, hp, hpe⟩ := List.mem_iff_getElem.1 ((h.mem _).2 (hall i (by omega)))
        by_cases hpi : p < i
        · have := ih p hpi hp; omega
        · by_cases hpe2 : p = i
          · subst hpe2; exact hpe
          · have := hup i p hi hp (by omega); omega
    rw [heq _ (by omega)]; omega

def OkG (s : List impl_Variable) (g : impl_Grouping) (n : Int) : Prop :=
  2 ≤ n ∧ n ≤ 8 ∧ 0 ≤ g.Var ∧ g.Var < s.length ∧ (∀ v, s[g.Var.toNat]? = some v → (g.Groups.length : Int) = v.Levels) ∧ ∀ e ∈ g.Groups, 0 ≤ e ∧ e < n

theorem groups_same {s : List impl_Variable} {g : impl_Grouping} (hs : s.length ≤ 1000) (hg : g.Groups.length ≤ 1000) :
    ∃ n, impl_groupCount s g = some n ∧ spec_sGroups s g = some n ∧ (n = 0 ∨ OkG s g n) := by
  unfold impl_groupCount spec_sGroups
  rw [lIn_eq, wid (n := goLen s - 1) (by simp only [goLen]; omega) (by simp only [goLen]; omega)]
  simp only [Option.bind_some]
  by_cases hv : 0 ≤ g.Var ∧ g.Var < s.length
  · obtain ⟨x, hx⟩ : ∃ x, s[g.Var.toNat]? = some x := ⟨s[g.Var.toNat]'(by omega), by simp⟩
    have hat : goAt s g.Var = some x := by unfold goAt; rw [decide_eq_true hv.1]; exact hx
    rw [decide_eq_false (show ¬ g.Var < 0 by omega), decide_eq_false (show ¬ goLen s ≤ g.Var by simp only [goLen]; omega), decide_eq_true (show 0 ≤ g.Var ∧ g.Var ≤ goLen s - 1 by simp only [goLen]; omega), hat]
    simp only [Bool.not_true, cond_false, Option.bind_some]
    by_cases hlen : (g.Groups.length : Int) = x.Levels
    · rw [show ((goLen g.Groups) != x.Levels) = false by simp [goLen, hlen]]
      obtain ⟨b, e, hb⟩ := lAll_bis (l := g.Groups) (lo := 0) (hi := 7) (by omega)
      rw [e]
      simp only [cond_false, Option.bind_some]
      by_cases hall : ∀ v ∈ g.Groups, 0 ≤ v ∧ v ≤ 7
      · obtain rfl := hb.2 hall
        rw [group_loop hg hall]
        obtain ⟨r, er, hm, hrl⟩ := met_loop hg
        rw [er]
        simp only [Option.bind_some, Bool.not_true, cond_false]
        have ht := top1_le hall
        obtain ⟨l, el, b2, hb2, e2⟩ := used_loop (f := usd g.Groups) ht.1 ht.2
        rw [el, Option.bind_some, e2]
        have hmemlen : r.length = 0 ↔ g.Groups = [] := by
          constructor
          · intro h0
            have : r = [] := List.eq_nil_of_length_eq_zero h0
            subst this
            exact List.eq_nil_iff_forall_not_mem.2 fun y hy => by have := (hm.mem y).2 hy; simp at this
          · intro h0
            rw [h0] at hm
            have : r = [] := List.eq_nil_iff_forall_not_mem.2 fun y hy => by have := (hm.mem y).1 hy; simp at this
            rw [this]; rfl
        by_cases h0 : r.length = 0
        · have hG := hmemlen.1 h0
          have ht0 : top1 g.Groups = 0 := by rw [hG]; rfl
          have hb3 : b2 = false := by
            cases b2 with
            | false => rfl
            | true => obtain ⟨j, hj, _⟩ := hb2.1 rfl; rw [ht0] at hj; omega
          rw [hb3, ht0, decide_eq_true (show goLen r < 2 by simp only [goLen]; omega)]
          exact ⟨0, rfl, rfl, .inl rfl⟩
        · obtain ⟨p1, p2⟩ := met_last hm (fun y hy => (hall y hy).1) (by omega)
          have hlastat : goAt r (w64 (goLen r - 1)) = some (r[r.length - 1]'(by omega)) := by
            rw [wid (by simp only [goLen]; omega) (by simp only [goLen]; omega), show goLen r - 1 = ((r.length - 1 : Nat) : Int) by simp only [goLen]; omega]
            exact at_ok (by simp)
          have hw : w64 (goLen r - 1) = (r.length : Int) - 1 := by rw [wid (by simp only [goLen]; omega) (by simp only [goLen]; omega)]
          by_cases hfull : ∀ j : Nat, (j : Int) < top1 g.Groups → (j : Int) ∈ g.Groups
          · have hb3 : b2 = false := by
              cases b2 with
              | false => rfl
              | true =>
                obtain ⟨j, hj, hf⟩ := hb2.1 rfl
                have := hfull j hj
                unfold usd at hf
                rw [decide_eq_true this] at hf
                cases hf
            have hl2 := p2.2 hfull
            have htl : top1 g.Groups = r.length := by omega
            rw [hb3, htl]
            simp only [cond_false, Option.bind_some]
            by_cases h2 : r.length < 2
            · rw [decide_eq_true (show (r.length : Int) < 2 by omega)]
              exact ⟨0, rfl, rfl, .inl rfl⟩
            · rw [decide_eq_false (show ¬ (r.length : Int) < 2 by omega), hlastat]
              simp only [cond_false, Option.bind_some]
              rw [hw, hl2, bne_self_eq_false, cond_false]
              refine ⟨_, rfl, rfl, .inr ⟨by omega, by omega, hv.1, hv.2, fun v hv' => by rw [hx] at hv'; obtain rfl := Option.some.inj hv'; exact hlen, fun y hy => ⟨(hall y hy).1, ?_⟩⟩⟩
              have := (foldl_max_ge g.Groups 0).2 y hy
              have h3 : top1 g.Groups = g.Groups.foldl (fun k e => max k (e + 1)) 0 := rfl
              omega
          · have hb3 : b2 = true := hb2.2 (by
              apply Classical.byContradiction
              intro hc
              refine hfull fun j hj => Classical.byContradiction fun hn => hc ⟨j, hj, ?_⟩
              unfold usd
              exact decide_eq_false hn)
            have hl2 : ¬ r[r.length - 1]'(by omega) = (r.length : Int) - 1 := fun hc => hfull (p2.1 hc)
            rw [hb3, hlastat]
            simp only [cond_true, Option.bind_some]
            rw [hw, show (r[r.length - 1]'(by omega) != (r.length : Int) - 1) = true by simpa using hl2]
            by_cases h2 : goLen r < 2
            · rw [decide_eq_true h2]; exact ⟨0, rfl, rfl, .inl rfl⟩
            · rw [decide_eq_false h2]; exact ⟨0, rfl, rfl, .inl rfl⟩
      · have hb' : b = false := by
          cases b with
          | false => rfl
          | true => exact absurd (hb.1 rfl) hall
        rw [hb', group_bad hg hall]
        exact ⟨0, rfl, rfl, .inl rfl⟩
    · rw [show ((goLen g.Groups) != x.Levels) = true by simpa [goLen] using hlen]
      exact ⟨0, rfl, rfl, .inl rfl⟩
  · rw [decide_eq_false (show ¬ (0 ≤ g.Var ∧ g.Var ≤ goLen s - 1) by simp only [goLen]; omega)]
    by_cases h1 : g.Var < 0
    · rw [decide_eq_true h1]; exact ⟨0, rfl, rfl, .inl rfl⟩
    · rw [decide_eq_false h1, decide_eq_true (show goLen s ≤ g.Var by simp only [goLen]; omega)]; exact ⟨0, rfl, rfl, .inl rfl⟩

end Go.Gx.F
