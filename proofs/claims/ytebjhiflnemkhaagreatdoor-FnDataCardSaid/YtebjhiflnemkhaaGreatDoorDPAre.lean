/- Plain laws: areas of a geography: levels, ancestors, leaves. -/
import Derived.Test.YtebjhiflnemkhaaGreatDoorDPTre
namespace Go.Gx.F
open Go.Gx
set_option linter.all false

/-! ## those that are picked, by their numbers -/
def picks {α : Type} (sel : Nat → Bool) (f : Nat → α) : Nat → List α
  | 0 => []
  | n + 1 => cond (sel n) (picks sel f n ++ [f n]) (picks sel f n)

theorem picks_len {α : Type} {sel : Nat → Bool} {f : Nat → α} : ∀ n, (picks sel f n).length ≤ n
  | 0 => Nat.le_refl _
  | n + 1 => by
    have := picks_len (sel := sel) (f := f) n
    rw [picks]
    cases sel n <;> simp <;> omega

theorem picks_congr {α : Type} {sel sel' : Nat → Bool} {f : Nat → α} : ∀ {n : Nat}, (∀ k, k < n → sel k = sel' k) → picks sel f n = picks sel' f n
  | 0, _ => rfl
  | n + 1, h => by rw [picks, picks, h n (by omega), picks_congr fun k hk => h k (by omega)]

theorem mem_picks {α : Type} {sel : Nat → Bool} {f : Nat → α} {x : α} : ∀ {n : Nat}, x ∈ picks sel f n ↔ ∃ k, k < n ∧ sel k = true ∧ f k = x
  | 0 => by simp [picks]
  | n + 1 => by
    rw [picks]
    cases h : sel n with
    | true =>
      rw [cond_true, List.mem_append, mem_picks, List.mem_singleton]
      constructor
      · rintro (⟨k, h1, h2, h3⟩ | rfl)
        · exact ⟨k, by omega, h2, h3⟩
        · exact ⟨n, by omega, h, rfl⟩
      · rintro ⟨k, h1, h2, h3⟩
        by_cases hk : k = n
        · subst hk; exact .inr h3.symm
        · exact .inl ⟨k, by omega, h2, h3⟩
    | false =>
      rw [cond_false, mem_picks]
      constructor
      · rintro ⟨k, h1, h2, h3⟩; exact ⟨k, by omega, h2, h3⟩
      · rintro ⟨k, h1, h2, h3⟩
        by_cases hk : k = n
        · subst hk; rw [h] at h2; cases h2
        · exact ⟨k, by omega, h2, h3⟩

/-- how many of them come before -/
def pos (sel : Nat → Bool) (k : Nat) : Nat := (picks sel (fun i => i) k).length

theorem picks_len_eq {α : Type} {sel : Nat → Bool} {f : Nat → α} : ∀ n, (picks sel f n).length = pos sel n
  | 0 => rfl
  | n + 1 => by
    have := picks_len_eq (sel := sel) (f := f) n
    unfold pos at *
    rw [picks, picks]
    cases sel n <;> simp [this]

theorem pos_mono {sel : Nat → Bool} {k : Nat} (h : sel k = true) : ∀ {n : Nat}, k < n → pos sel k < pos sel n
  | 0, hk => by omega
  | n + 1, hk => by
    have e : pos sel (n + 1) = pos sel n + (cond (sel n) 1 0) := by
      unfold pos
      rw [picks]
      cases sel n <;> simp
    by_cases hkn : k = n
    · subst hkn; rw [e, h]; simp
    · have := pos_mono h (n := n) (by omega)
      omega

theorem picks_at {α : Type} {sel : Nat → Bool} {f : Nat → α} {k : Nat} (h : sel k = true) : ∀ {n : Nat}, k < n → (picks sel f n)[pos sel k]? = some (f k)
  | 0, hk => by omega
  | n + 1, hk => by
    have hl := picks_len_eq (sel := sel) (f := f) n
    rw [picks]
    by_cases hkn : k = n
    · subst hkn
      rw [h, cond_true, List.getElem?_append_right (by omega), hl, Nat.sub_self]
      rfl
    · have ih := picks_at (f := f) h (n := n) (by omega)
      cases sel n with
      | true => rw [cond_true, List.getElem?_append_left (by rw [hl]; exact pos_mono h (by omega))]; exact ih
      | false => exact ih

theorem picks_lt {sel : Nat → Bool} {n : Nat} {i j : Nat} {a b : Int} (hij : i < j) (hi : (picks sel (fun k => (k : Int)) n)[i]? = some a) (hj : (picks sel (fun k => (k : Int)) n)[j]? = some b) : a < b := by
  induction n with
  | zero => simp [picks] at hi
  | succ n ih =>
    rw [picks] at hi hj
    cases h : sel n with
    | false => rw [h] at hi hj; exact ih hi hj
    | true =>
      rw [h, cond_true] at hi hj
      have hjl := (List.getElem?_eq_some_iff.1 hj).1
      simp only [List.length_append, List.length_singleton] at hjl
      have hi' : (picks sel (fun k => (k : Int)) n)[i]? = some a := by
        rw [List.getElem?_append_left (by omega)] at hi; exact hi
      by_cases hjn : j < (picks sel (fun k => (k : Int)) n).length
      · rw [List.getElem?_append_left hjn] at hj
        exact ih hi' hj
      · rw [List.getElem?_append_right (by omega), show j - (picks sel (fun k => (k : Int)) n).length = 0 by omega] at hj
        have hb : (n : Int) = b := by simpa using hj
        obtain ⟨k, hk, _, e⟩ := mem_picks.1 (List.mem_of_getElem? hi')
        have e : (k : Int) = a := e
        omega

/-- a loop that picks -/
theorem loop_sel {α : Type} {n : Nat} (sel : Nat → Bool) (f : Nat → α) {body : List α × Int → Option (Stp (List α × Int) (List α))}
    (h1 : ∀ (out : List α) (k : Nat), k < n → out.length ≤ k → body (out, (k : Int)) = some (.next (cond (sel k) (out ++ [f k]) out, ((k + 1 : Nat) : Int))))
    (h2 : ∀ out : List α, body (out, (n : Int)) = some (.done out)) : loopC body ([], 0) = some (picks sel f n) := by
  suffices h : ∀ (j k : Nat), k + j = n → loopC body (picks sel f k, (k : Int)) = some (picks sel f n) from h n 0 (by omega)
  intro j
  induction j with
  | zero =>
    intro k hk
    obtain rfl : k = n := by omega
    rw [loopC_eq, h2]
  | succ j ih =>
    intro k hk
    rw [loopC_eq, h1 _ k (by omega) (picks_len k)]
    exact ih (k + 1) (by omega)

/-- the first place of a number in a list -/
theorem loop_first {ρ : Type} {l : List Int} {x : Int} {p : Nat} (r : Nat → ρ) {body : Int → Option (Stp Int (Unit ⊕ ρ))}
    (h1 : ∀ (k : Nat) (y : Int), l[k]? = some y → body k = some (cond (y == x) (.done (.inr (r k))) (.next ((k + 1 : Nat) : Int))))
    (hp : l[p]? = some x) (hb : ∀ (k : Nat), k < p → l[k]? ≠ some x) : loopC body 0 = some (.inr (r p)) := by
  have hpl := (List.getElem?_eq_some_iff.1 hp).1
  suffices h : ∀ (j k : Nat), k + j = p → loopC body (k : Int) = some (.inr (r p)) from h p 0 (by omega)
  intro j
  induction j with
  | zero =>
    intro k hk
    obtain rfl : k = p := by omega
    rw [loopC_eq, h1 k x hp, beq_self_eq_true]; rfl
  | succ j ih =>
    intro k hk
    have hy : l[k]? = some (l[k]'(by omega)) := by simp [show k < l.length by omega]
    have hne := hb k (by omega)
    generalize l[k]'(by omega) = y at hy
    rw [hy] at hne
    rw [loopC_eq, h1 k y hy, show (y == x) = false by simpa using fun e => hne (by rw [e])]
    exact ih (k + 1) (by omega)

/-! ## levels -/
def dep (p : List Int) (i : Nat) : Nat := (gpath p i).length - 1
def atL (p : List Int) (L : Int) (i : Nat) : Bool := ((dep p i : Nat) : Int) == L
def lev (p : List Int) (L : Int) : List Int := picks (atL p L) (fun k => (k : Int)) p.length

theorem lev_len (p : List Int) (L : Int) : (lev p L).length ≤ p.length := picks_len _

theorem lev_at {p : List Int} {L : Int} {k : Nat} (h : atL p L k = true) (hk : k < p.length) : (lev p L)[pos (atL p L) k]? = some (k : Int) := picks_at (f := fun k => (k : Int)) h hk

theorem lev_uniq {p : List Int} {L : Int} {i j : Nat} {a : Int} (hi : (lev p L)[i]? = some a) (hj : (lev p L)[j]? = some a) : i = j := by
  rcases Nat.lt_trichotomy i j with h | h | h
  · have := picks_lt h hi hj; omega
  · exact h
  · have := picks_lt h hj hi; omega

theorem shr1 {n : Nat} (h : n ≤ 1000000) : goShr .u64 (IntKind.wrap .u64 (n : Int)) 1 = some ((n / 2 : Nat) : Int) := by
  rw [Go.IntWalk.u64_in _ ⟨by omega, by omega⟩]
  unfold goShr
  rw [show decide ((1 : Int) < 0) = false by decide, cond_false, show min (Int.toNat 1) (IntKind.bits .u64) = 1 from rfl, Int.fdiv_eq_ediv_of_nonneg _ (by decide)]
  congr 1

/-! ## ancestors -/
def anc (p : List Int) (i : Nat) (L : Int) : Int := if 0 ≤ L then ((gpath p i)[L.toNat]?).getD (-1) else -1

/-- one at the level, or none -/
theorem anc_cases {p : List Int} (h : GeoOk p) {i : Nat} (hi : i < p.length) (L : Int) : (anc p i L = -1) ∨ ∃ n k : Nat, L = (k : Int) ∧ anc p i L = (n : Int) ∧ n ≤ i ∧ (gpath p i)[k]? = some (n : Int) ∧ atL p L n = true := by
  unfold anc
  by_cases h0 : 0 ≤ L
  · rw [if_pos h0]
    obtain ⟨k, rfl⟩ := Int.eq_ofNat_of_zero_le h0
    cases e : (gpath p i)[(k : Int).toNat]? with
    | none => left; rfl
    | some a =>
      right
      obtain ⟨n, n1, n2, _, n4⟩ := gpath_at h i hi _ _ e
      refine ⟨n, k, rfl, n2, n1, ?_, ?_⟩
      · rw [← n2]; exact e
      · unfold atL dep; rw [n4]; simp
  · rw [if_neg h0]; left; rfl

/-! ## leaves -/
def leaf (p : List Int) (i : Nat) : Bool := !p.contains (i : Int)

def leaves (p : List Int) : List Int := picks (leaf p) (fun k => (k : Int)) p.length

theorem mem_leaves {p : List Int} {x : Int} : x ∈ leaves p ↔ ∃ k : Nat, k < p.length ∧ leaf p k = true ∧ x = (k : Int) := by
  unfold leaves
  rw [mem_picks]
  exact ⟨fun ⟨k, h1, h2, h3⟩ => ⟨k, h1, h2, h3.symm⟩, fun ⟨k, h1, h2, h3⟩ => ⟨k, h1, h2, h3.symm⟩⟩

theorem leaves_len (p : List Int) : (leaves p).length ≤ p.length := picks_len _

/-- the last area is one -/
theorem leaves_pos {p : List Int} (h : GeoOk p) : 1 ≤ (leaves p).length := by
  have hl := h.l1
  have hm : ((p.length - 1 : Nat) : Int) ∈ leaves p := mem_leaves.2 ⟨p.length - 1, by omega, by
    unfold leaf
    simp only [Bool.not_eq_true', List.contains_eq_mem, decide_eq_false_iff_not]
    intro hm
    obtain ⟨k, hk⟩ := List.getElem?_of_mem hm
    have hkl := (List.getElem?_eq_some_iff.1 hk).1
    by_cases h0 : 0 < k
    · have := (h.up k _ hk h0).2; omega
    · obtain rfl : k = 0 := by omega
      rw [h.rt] at hk
      have := Option.some.inj hk
      omega, rfl⟩
  exact List.length_pos_of_mem hm

end Go.Gx.F
