/- Plain laws: how many groups a grouping has. -/
import Derived.Test.YtebjhiflnemkhaaGreatDoorDPLst
namespace Go.Gx.F
open Go.Gx
set_option linter.all false

def tup (f : Nat → Bool) : Bool × Bool × Bool × Bool × Bool × Bool × Bool × Bool := (f 0, f 1, f 2, f 3, f 4, f 5, f 6, f 7)

def usd (G : List Int) (j : Nat) : Bool := decide ((j : Int) ∈ G)

def top1 (l : List Int) : Int := l.foldl (fun k e => max k (e + 1)) 0

theorem top1_snoc (l : List Int) (e : Int) : top1 (l ++ [e]) = max (top1 l) (e + 1) := by simp [top1]

theorem foldl_max_ge (l : List Int) : ∀ k : Int, k ≤ l.foldl (fun k e => max k (e + 1)) k ∧ ∀ e ∈ l, e + 1 ≤ l.foldl (fun k e => max k (e + 1)) k := by
  induction l with
  | nil => intro k; exact ⟨Int.le_refl _, fun e he => by simp at he⟩
  | cons x l ih =>
    intro k
    obtain ⟨h1, h2⟩ := ih (max k (x + 1))
    refine ⟨by rw [List.foldl_cons]; omega, fun e he => ?_⟩
    rw [List.foldl_cons]
    rcases List.mem_cons.1 he with rfl | he
    · omega
    · exact h2 e he

theorem foldl_max_mem (l : List Int) : ∀ k : Int, l.foldl (fun k e => max k (e + 1)) k = k ∨ ∃ e ∈ l, l.foldl (fun k e => max k (e + 1)) k = e + 1 := by
  induction l with
  | nil => intro k; exact .inl rfl
  | cons x l ih =>
    intro k
    rw [List.foldl_cons]
    rcases ih (max k (x + 1)) with h | ⟨e, he, h⟩
    · rw [h]
      by_cases hc : k ≤ x + 1
      · exact .inr ⟨x, List.mem_cons_self, by omega⟩
      · exact .inl (by omega)
    · exact .inr ⟨e, List.mem_cons_of_mem _ he, h⟩

theorem top1_le {G : List Int} (h : ∀ e ∈ G, 0 ≤ e ∧ e ≤ 7) : 0 ≤ top1 G ∧ top1 G ≤ 8 := by
  refine ⟨(foldl_max_ge G 0).1, ?_⟩
  rcases foldl_max_mem G 0 with h1 | ⟨e, he, h1⟩
  · have : top1 G = 0 := h1
    omega
  · have : top1 G = e + 1 := h1
    have := h e he
    omega

theorem used_set {f : Nat → Bool} {e : Int} (h0 : 0 ≤ e) (h7 : e ≤ 7) : ((some (goSet ([(tup f).1, (tup f).2.1, (tup f).2.2.1, (tup f).2.2.2.1, (tup f).2.2.2.2.1, (tup f).2.2.2.2.2.1, (tup f).2.2.2.2.2.2.1, (tup f).2.2.2.2.2.2.2] : List Bool) e true)).bind fun l_15 => some ((l_15.getD 0 (false : Bool)), (l_15.getD 1 (false : Bool)), (l_15.getD 2 (false : Bool)), (l_15.getD 3 (false : Bool)), (l_15.getD 4 (false : Bool)), (l_15.getD 5 (false : Bool)), (l_15.getD 6 (false : Bool)), (l_15.getD 7 (false : Bool)))) = some (tup fun j => decide ((j : Int) = e) || f j) := by
  have : e = 0 ∨ e = 1 ∨ e = 2 ∨ e = 3 ∨ e = 4 ∨ e = 5 ∨ e = 6 ∨ e = 7 := by omega
  rcases this with rfl | rfl | rfl | rfl | rfl | rfl | rfl | rfl <;> rfl

theorem usd_snoc {G : List Int} {e : Int} : (fun j : Nat => decide ((j : Int) = e) || usd G j) = usd (G ++ [e]) := by
  funext j
  unfold usd
  rw [Bool.eq_iff_iff]
  simp only [Bool.or_eq_true, decide_eq_true_eq, List.mem_append, List.mem_singleton]
  exact or_comm

/-! the groups that are met, in order -/
structure Met (l : List Int) (G : List Int) : Prop where
  up : l.Pairwise (· < ·)
  mem : ∀ x, x ∈ l ↔ x ∈ G

/-- numbers from 0 on that grow: the last is one less than their number where none is left out -/
theorem met_last {l G : List Int} (h : Met l G) (h0 : ∀ x ∈ G, 0 ≤ x) (h1 : 1 ≤ l.length) :
    top1 G = l[l.length - 1]'(by omega) + 1 ∧ (l[l.length - 1]'(by omega) = (l.length : Int) - 1 ↔ ∀ j : Nat, (j : Int) < top1 G → (j : Int) ∈ G) := by
  have hup := List.pairwise_iff_getElem.1 h.up
  have hnn : ∀ i (hi : i < l.length), (i : Int) ≤ l[i] := by
    intro i
    induction i with
    | zero => intro hi; have := h0 _ ((h.mem _).1 (List.getElem_mem hi)); simpa using this
    | succ i ih => intro hi; have h2 := ih (by omega); have h3 := hup i (i + 1) (by omega) hi (by omega); omega
  have hle : ∀ x ∈ G, x ≤ l[l.length - 1]'(by omega) := fun x hx => by
    obtain ⟨j, hj, rfl⟩ := List.mem_iff_getElem.1 ((h.mem x).2 hx)
    by_cases he : j = l.length - 1
    · subst he; exact Int.le_refl _
    · exact Int.le_of_lt (hup j (l.length - 1) hj (by omega) (by omega))
  have hlast : l[l.length - 1]'(by omega) ∈ G := (h.mem _).1 (List.getElem_mem _)
  have htop : top1 G = l[l.length - 1]'(by omega) + 1 := by
    have ha := (foldl_max_ge G 0).2 _ hlast
    have hb := foldl_max_mem G 0
    have hc := h0 _ hlast
    unfold top1
    rcases hb with hb | ⟨e, he, hb⟩
    · omega
    · have := hle e he; omega
  refine ⟨htop, ?_⟩
  rw [htop]
  constructor
  · intro he j hj
    have hjl : j < l.length := by omega
    have hge : ∀ d, ∀ i (hi : i < l.length), i + d = l.length - 1 → l[i] + (d : Int) ≤ l[l.length - 1]'(by omega) := by
      intro d
      induction d with
      | zero => intro i hi hd; obtain rfl : i = l.length - 1 := by omega
                simp
      | succ d ih => intro i hi hd
                     have h2 := ih (i + 1) (by omega) (by omega)
                     have h3 := hup i (i + 1) hi (by omega) (by omega)
                     omega
    have h2 := hge (l.length - 1 - j) j hjl (by omega)
    have h3 := hnn j hjl
    have : l[j] = (j : Int) := by omega
    rw [← this]
    exact (h.mem _).1 (List.getElem_mem hjl)
  · intro hall
    have heq : ∀ i (hi : i < l.length), l[i] = (i : Int) := by
      intro i
      induction i using Nat.strongRecOn with
      | _ i ih =>
        intro hi
        have h2 := hnn i hi
        have hil : l[i] ≤ l[l.length - 1]'(by omega) := hle _ ((h.mem _).1 (List.getElem_mem hi))
        obtain ⟨p, hp, hpe⟩ := List.mem_iff_getElem.1 ((h.mem _).2 (hall i (by omega)))
        by_cases hpi : p < i
        · have := ih p hpi hp; omega
        · by_cases hpe2 : p = i
          · subst hpe2; exact hpe
          · have := hup i p hi hp (by omega); omega
    rw [heq _ (by omega)]; omega

end Go.Gx.F
