/- Plain laws: how many groups a grouping has. -/
import Derived.Test.YtebjhiflnemkhaaGreatKPLst
namespace Go.Gx.F
open Go.Gx
set_option linter.all false

def tup (f : Nat → Bool) : Bool × Bool × Bool × Bool × Bool × Bool × Bool × Bool := (f 0, f 1, f 2, f 3, f 4, f 5, f 6, f 7)

def usd (G : List Int) (j : Nat) : Bool := decide ((j : Int) ∈ G)

def top1 (l : List Int) : Int := l.foldl (fun k e => max k (e + 1)) 0

theorem top1_snoc (l : List Int) (e : Int) : top1 (l ++ [e]) = max (top1 l) (e + 1) := by simp [top1]

theorem foldl_max_ge (l : List Int) : ∀ k : Int, k ≤ l.foldl (fun k e => max k (e + 1)) k ∧ ∀ e ∈ l, e + 1 ≤ l.foldl (fun k e => max k (e + 1)) k := by
  induction l with
  | nil => intro k; exact ⟨Int.le_refl _, fun e he => by simp at he⟩
  | cons x l ih =>
    intro k
    obtain ⟨h1, h2⟩ := ih (max k (x + 1))
    refine ⟨by rw [List.foldl_cons]; omega, fun e he => ?_⟩
    rw [List.foldl_cons]
    rcases List.mem_cons.1 he with rfl | he
    · omega
    · exact h2 e he

theorem foldl_max_mem (l : List Int) : ∀ k : Int, l.foldl (fun k e => max k (e + 1)) k = k ∨ ∃ e ∈ l, l.foldl (fun k e => max k (e + 1)) k = e + 1 := by
  induction l with
  | nil => intro k; exact .inl rfl
  | cons x l ih =>
    intro k
    rw [List.foldl_cons]
    rcases ih (max k (x + 1)) with h | ⟨e, he, h⟩
    · rw [h]
      by_cases hc : k ≤ x + 1
      · exact .inr ⟨x, List.mem_cons_self, by omega⟩
      · exact .inl (by omega)
    · exact .inr ⟨e, List.mem_cons_of_mem _ he, h⟩

theorem top1_le {G : List Int} (h : ∀ e ∈ G, 0 ≤ e ∧ e ≤ 7) : 0 ≤ top1 G ∧ top1 G ≤ 8 := by
  refine ⟨(foldl_max_ge G 0).1, ?_⟩
  rcases foldl_max_mem G 0 with h1 | ⟨e, he, h1⟩
  · have : top1 G = 0 := h1
    omega
  · have : top1 G = e + 1 := h1
    have := h e he
    omega

theorem used_set {f : Nat → Bool} {e : Int} (h0 : 0 ≤ e) (h7 : e ≤ 7) : ((some (goSet ([(tup f).1, (tup f).2.1, (tup f).2.2.1, (tup f).2.2.2.1, (tup f).2.2.2.2.1, (tup f).2.2.2.2.2.1, (tup f).2.2.2.2.2.2.1, (tup f).2.2.2.2.2.2.2] : List Bool) e true)).bind fun l_15 => some ((l_15.getD 0 (false : Bool)), (l_15.getD 1 (false : Bool)), (l_15.getD 2 (false : Bool)), (l_15.getD 3 (false : Bool)), (l_15.getD 4 (false : Bool)), (l_15.getD 5 (false : Bool)), (l_15.getD 6 (false : Bool)), (l_15.getD 7 (false : Bool)))) = some (tup fun j => decide ((j : Int) = e) || f j) := by
  have : e = 0 ∨ e = 1 ∨ e = 2 ∨ e = 3 ∨ e = 4 ∨ e = 5 ∨ e = 6 ∨ e = 7 := by omega
  rcases this with rfl | rfl | rfl | rfl | rfl | rfl | rfl | rfl <;> rfl

theorem usd_snoc {G : List Int} {e : Int} : (fun j : Nat => decide ((j : Int) = e) || usd G j) = usd (G ++ [e]) := by
  funext j
  unfold usd
  rw [Bool.eq_iff_iff]
  simp only [Bool.or_eq_true, decide_eq_true_eq, List.mem_append, List.mem_singleton]
  exact or_comm

/-! the groups that are met, in order -/
structure Met (l : List Int) (G : List Int) : Prop where
  up : l.Pairwise (· < ·)
  mem : ∀ x, x ∈ l ↔ x ∈ G

theorem put_at (l : List Int) (n : Int) (hl : l.length ≤ 10000) : ∃ k : Nat, k ≤ l.length ∧ loopC (spec_l1Put_l1 l n) 0 = some (k : Int) ∧ (∀ x ∈ l.take k, x < n) ∧ ∀ x, l[k]? = some x → ¬ x < n := by
  obtain ⟨r, e, k, hk, rfl, h1, h2⟩ := tot_loop (body := spec_l1Put_l1 l n) (s := 0) (Q := fun r => ∃ k : Nat, k ≤ l.length ∧ r = (k : Int) ∧ (∀ x ∈ l.take k, x < n) ∧ ∀ x, l[k]? = some x → ¬ x < n)
    (fun s => ∃ k : Nat, k ≤ l.length ∧ s = (k : Int) ∧ ∀ x ∈ l.take k, x < n) (fun s => l.length - s.toNat) ⟨0, by omega, rfl, by simp⟩ (by
    rintro s ⟨k, hk, rfl, h1⟩
    by_cases hlt : k < l.length
    · have hx : l[k]? = some l[k] := by simp [hlt]
      simp only [spec_l1Put_l1, lt_ok hx, at_ok hx, cond_true, Option.bind_some, nx_ok hx (show l.length ≤ 9223372036854775807 by omega)]
      by_cases hc : l[k] < n
      · rw [decide_eq_true hc]
        refine tot_some ⟨⟨k + 1, by omega, rfl, fun x hx' => ?_⟩, by omega⟩
        rw [List.take_succ, hx, List.mem_append] at hx'
        rcases hx' with h | h
        · exact h1 x h
        · simp at h; subst h; exact hc
      · rw [decide_eq_false hc]
        exact tot_some ⟨k, hk, rfl, h1, fun x hx' => by rw [hx] at hx'; obtain rfl := Option.some.inj hx'; exact hc⟩
    · obtain rfl : k = l.length := by omega
      simp only [spec_l1Put_l1, lt_end, cond_false, Option.bind_some]
      exact tot_some ⟨l.length, by omega, rfl, h1, fun x hx' => by simp at hx'⟩)
  exact ⟨k, hk, e, h1, h2⟩

theorem put_met {l G : List Int} {n : Int} (hl : l.length ≤ 10000) (h : Met l G) : ∃ r, spec_l1Put l n = some r ∧ Met r (G ++ [n]) ∧ r.length ≤ l.length + 1 := by
  obtain ⟨k, hk, e, h1, h2⟩ := put_at l n hl
  unfold spec_l1Put
  rw [e, Option.bind_some]
  by_cases hin : l[k]? = some n
  · rw [lt_ok hin, at_ok hin]
    simp only [cond_true, Option.bind_some, beq_self_eq_true]
    refine ⟨l, rfl, ⟨h.up, fun x => ?_⟩, by omega⟩
    rw [List.mem_append, List.mem_singleton, h.mem]
    constructor
    · exact fun h => .inl h
    · rintro (h' | rfl)
      · exact h'
      · exact (h.mem _).1 (List.mem_of_getElem? hin)
  · have hcond : ((cond (decide ((k : Int) < (goLen l))) ((goAt l (k : Int)).bind fun e_7 => some (e_7 == n)) (some false)) : Option Bool) = some false := by
      by_cases hlt : k < l.length
      · have hx : l[k]? = some l[k] := by simp [hlt]
        rw [lt_ok hx, at_ok hx, cond_true, Option.bind_some]
        have : l[k] ≠ n := fun hc => hin (by rw [hx, hc])
        rw [show (l[k] == n) = false by simpa using this]
      · obtain rfl : k = l.length := by omega
        rw [lt_end, cond_false]
    rw [hcond, Option.bind_some, cond_false]
    have e1 : goSub l 0 (k : Int) = some (l.take k) := tot_eq (tot_sub (by omega) (by omega) (by omega) (by simp))
    have e2 : goSub l (k : Int) (goLen l) = some (l.drop k) := tot_eq (tot_sub (by omega) (by simp only [goLen]; omega) (by simp only [goLen]; omega) (by simp only [goLen, Int.toNat_natCast]; rw [List.take_of_length_le (by rw [List.length_drop]; omega)]))
    rw [e1, e2]
    simp only [Option.bind_some]
    rw [goApp_ok (by simp; omega), Option.bind_some, goApp_ok (by simp; omega), Option.bind_some, goApp_ok (by simp; omega), Option.bind_some]
    refine ⟨_, rfl, ⟨?_, fun x => ?_⟩, by simp; omega⟩
    · have hu := h.up
      have hgt : ∀ x ∈ l.drop k, n < x := fun x hx => by
        obtain ⟨j, hj⟩ := List.getElem?_of_mem hx
        rw [List.getElem?_drop] at hj
        obtain ⟨hkj, hxe⟩ := List.getElem?_eq_some_iff.1 hj
        have hklt : k < l.length := by omega
        have hk' : l[k]? = some l[k] := by simp [hklt]
        have hn1 := h2 _ hk'
        have hn2 : l[k] ≠ n := fun hc => hin (by rw [hk', hc])
        by_cases hj0 : j = 0
        · subst hj0
          simp only [Nat.add_zero] at hxe
          omega
        · have := List.pairwise_iff_getElem.1 hu k (k + j) hklt hkj (by omega)
          omega
      rw [List.nil_append, List.append_assoc, List.pairwise_append]
      refine ⟨hu.sublist (List.take_sublist _ _), ?_, fun x hx y hy => ?_⟩
      · rw [List.singleton_append, List.pairwise_cons]
        exact ⟨fun x hx => hgt x hx, hu.sublist (List.drop_sublist _ _)⟩
      · rw [List.singleton_append, List.mem_cons] at hy
        have := h1 x hx
        rcases hy with rfl | hy
        · exact this
        · have := hgt y hy; omega
    · rw [List.nil_append, List.mem_append, List.mem_append, List.mem_append, List.mem_singleton, ← h.mem]
      constructor
      · rintro ((h' | h') | h')
        · exact .inl (List.mem_of_mem_take h')
        · exact .inr h'
        · exact .inl (List.mem_of_mem_drop h')
      · rintro (h' | h')
        · rw [← List.take_append_drop k l, List.mem_append] at h'
          rcases h' with h' | h'
          · exact .inl (.inl h')
          · exact .inr h'
        · exact .inl (.inr h')

/-- numbers from 0 on that grow: the last is one less than their number where none is left out -/
theorem met_last {l G : List Int} (h : Met l G) (h0 : ∀ x ∈ G, 0 ≤ x) (h1 : 1 ≤ l.length) :
    top1 G = l[l.length - 1]'(by omega) + 1 ∧ (l[l.length - 1]'(by omega) = (l.length : Int) - 1 ↔ ∀ j : Nat, (j : Int) < top1 G → (j : Int) ∈ G) := by
  have hup := List.pairwise_iff_getElem.1 h.up
  have hnn : ∀ i (hi : i < l.length), (i : Int) ≤ l[i] := by
    intro i
    induction i with
    | zero => intro hi; have := h0 _ ((h.mem _).1 (List.getElem_mem hi)); simpa using this
    | succ i ih => intro hi; have h2 := ih (by omega); have h3 := hup i (i + 1) (by omega) hi (by omega); omega
  have hle : ∀ x ∈ G, x ≤ l[l.length - 1]'(by omega) := fun x hx => by
    obtain ⟨j, hj, rfl⟩ := List.mem_iff_getElem.1 ((h.mem x).2 hx)
    by_cases he : j = l.length - 1
    · subst he; exact Int.le_refl _
    · exact Int.le_of_lt (hup j (l.length - 1) hj (by omega) (by omega))
  have hlast : l[l.length - 1]'(by omega) ∈ G := (h.mem _).1 (List.getElem_mem _)
  have htop : top1 G = l[l.length - 1]'(by omega) + 1 := by
    have ha := (foldl_max_ge G 0).2 _ hlast
    have hb := foldl_max_mem G 0
    have hc := h0 _ hlast
    unfold top1
    rcases hb with hb | ⟨e, he, hb⟩
    · omega
    · have := hle e he; omega
  refine ⟨htop, ?_⟩
  rw [htop]
  constructor
  · intro he j hj
    have hjl : j < l.length := by omega
    have hge : ∀ d, ∀ i (hi : i < l.length), i + d = l.length - 1 → l[i] + (d : Int) ≤ l[l.length - 1]'(by omega) := by
      intro d
      induction d with
      | zero => intro i hi hd; obtain rfl : i = l.length - 1 := by omega
                simp
      | succ d ih => intro i hi hd
                     have h2 := ih (i + 1) (by omega) (by omega)
                     have h3 := hup i (i + 1) hi (by omega) (by omega)
                     omega
    have h2 := hge (l.length - 1 - j) j hjl (by omega)
    have h3 := hnn j hjl
    have : l[j] = (j : Int) := by omega
    rw [← this]
    exact (h.mem _).1 (List.getElem_mem hjl)
  · intro hall
    have heq : ∀ i (hi : i < l.length), l[i] = (i : Int) := by
      intro i
      induction i using Nat.strongRecOn with
      | _ i ih =>
        intro hi
        have h2 := hnn i hi
        have hil : l[i] ≤ l[l.length - 1]'(by omega) := hle _ ((h.mem _).1 (List.getElem_mem hi))
        obtain ⟨p, hp, hpe⟩ := List.mem_iff_getElem.1 ((h.mem _).2 (hall i (by omega)))
        by_cases hpi : p < i
        · have := ih p hpi hp; omega
        · by_cases hpe2 : p = i
          · subst hpe2; exact hpe
          · have := hup i p hi hp (by omega); omega
    rw [heq _ (by omega)]; omega

end Go.Gx.F
