/- Plain laws: small functions over lists. -/
import Derived.Test.YtebjhiflnemkhaaGreatDoorDPDr
namespace Go.Gx.F
open Go.Gx
set_option linter.all false

theorem all_mem_iff {α : Type} {l : List α} {p : α → Prop} : (∀ (k : Nat) (x : α), l[k]? = some x → p x) ↔ ∀ x ∈ l, p x := by
  constructor
  · intro h x hx
    obtain ⟨k, hk⟩ := List.getElem?_of_mem hx
    exact h k x hk
  · intro h k x hx
    exact h x (List.mem_of_getElem? hx)

theorem lIn_eq (n lo hi : Int) : spec_l1In n lo hi = some (decide (lo ≤ n ∧ n ≤ hi)) := by
  unfold spec_l1In
  by_cases h1 : lo ≤ n <;> by_cases h2 : n ≤ hi <;> simp [h1, h2]

/-- the first of them that is one -/
theorem loop_find {α ρ : Type} {l : List α} (p : Nat → α → Prop) (r : ρ) {body : Int → Option (Stp Int (Unit ⊕ ρ))}
    (h1 : ∀ k x, l[k]? = some x → ∃ b : Bool, (b = true ↔ p k x) ∧ body k = some (cond b (.done (.inr r)) (.next ((k + 1 : Nat) : Int))))
    (h2 : body l.length = some (.done (.inl ()))) : ∃ b : Bool, (b = true ↔ ∃ k x, l[k]? = some x ∧ p k x) ∧ loopC body 0 = some (cond b (.inr r) (.inl ())) := by
  suffices h : ∀ (j k : Nat), k + j = l.length → (∀ i x, i < k → l[i]? = some x → ¬ p i x) → ∃ b : Bool, (b = true ↔ ∃ k x, l[k]? = some x ∧ p k x) ∧ loopC body (k : Int) = some (cond b (.inr r) (.inl ())) from
    h l.length 0 (by omega) (fun i x hi => by omega)
  intro j
  induction j with
  | zero =>
    intro k hk hp
    obtain rfl : k = l.length := by omega
    rw [loopC_eq, h2]
    refine ⟨false, ?_, rfl⟩
    simp only [Bool.false_eq_true, false_iff]
    rintro ⟨i, x, hx, hpx⟩
    exact hp i x (List.getElem?_eq_some_iff.1 hx).1 hx hpx
  | succ j ih =>
    intro k hk hp
    have hlt : k < l.length := by omega
    have hx : l[k]? = some l[k] := by simp [hlt]
    obtain ⟨b, hb, e⟩ := h1 k l[k] hx
    rw [loopC_eq, e]
    cases b with
    | true => exact ⟨true, by simp only [true_iff]; exact ⟨k, _, hx, hb.1 rfl⟩, rfl⟩
    | false =>
      refine ih (k + 1) (by omega) fun i x hi hix => ?_
      by_cases hik : i = k
      · subst hik
        rw [hx] at hix
        obtain rfl := Option.some.inj hix
        exact fun hc => by have := hb.2 hc; simp at this
      · exact hp i x (by omega) hix

theorem own_eq {l : List Int} (hl : l.length ≤ 1000000) : spec_l1Own l = some l := by
  unfold spec_l1Own
  rw [goApp_ok (by simp; omega)]; rfl

theorem clone_eq {l : List Int} (hl : l.length ≤ 1000000) : slices_Clone_int_int l = some l := by
  unfold slices_Clone_int_int
  rw [goApp_ok (by simp; omega)]; rfl

theorem qInts_same {l : List Int} (h : l.length ≤ 1048576) : laws_qInts l l = some true := by
  unfold laws_qInts
  rw [bne_self_eq_false, cond_false]
  have h := loop_all (l := l) (fun _ => true) (laws_qInts_l1 l l) (fun k x hx => by
    simp only [laws_qInts_l1, lt_ok hx, cond_true, at_ok hx, Option.bind_some, bne_self_eq_false, cond_false, nx_ok hx (by omega), if_true]) (fun _ => by simp only [laws_qInts_l1, lt_end, cond_false])
  rw [h]; simp

/-! sums -/
def sg (g : Nat → Int) : Nat → Int
  | 0 => 0
  | n + 1 => sg g n + g n

theorem sg_congr {g h : Nat → Int} : ∀ {n : Nat}, (∀ k, k < n → g k = h k) → sg g n = sg h n
  | 0, _ => rfl
  | n + 1, e => by rw [sg, sg, sg_congr fun k hk => e k (by omega), e n (by omega)]

theorem sg_front (g : Nat → Int) : ∀ n, sg g (n + 1) = g 0 + sg (fun t => g (t + 1)) n
  | 0 => by simp [sg]
  | n + 1 => by
    rw [sg, sg_front g n, sg]
    omega

theorem sg_rev (g : Nat → Int) : ∀ n, sg (fun t => g (n - 1 - t)) n = sg g n
  | 0 => rfl
  | n + 1 => by
    rw [sg_front, sg]
    have : sg (fun t => g (n + 1 - 1 - (t + 1))) n = sg g n := by
      rw [← sg_rev g n]
      exact sg_congr fun k hk => by congr 1; omega
    rw [this]
    simp
    omega

theorem sg_add (g h : Nat → Int) : ∀ n, sg (fun k => g k + h k) n = sg g n + sg h n
  | 0 => rfl
  | n + 1 => by rw [sg, sg, sg, sg_add g h n]; omega

theorem sg_zero : ∀ n, sg (fun _ => 0) n = 0
  | 0 => rfl
  | n + 1 => by rw [sg, sg_zero n]; rfl

theorem sg_swap (g : Nat → Nat → Int) (m : Nat) : ∀ n, sg (fun i => sg (fun j => g i j) m) n = sg (fun j => sg (fun i => g i j) n) m
  | 0 => by simp only [sg]; rw [sg_zero]
  | n + 1 => by
    rw [sg, sg_swap g m n, ← sg_add]
    exact sg_congr fun k _ => by rw [sg]

theorem sg_one {g : Nat → Int} {c : Nat} : ∀ {n : Nat}, c < n → (∀ k, k < n → k ≠ c → g k = 0) → sg g n = g c
  | 0, h, _ => by omega
  | n + 1, h, hz => by
    rw [sg]
    by_cases hc : c = n
    · subst hc
      rw [sg_congr (h := fun _ => 0) fun k hk => hz k (by omega) (by omega), sg_zero]
      omega
    · rw [hz n (by omega) (Ne.symm hc), sg_one (by omega) fun k hk => hz k (by omega)]
      omega

theorem sg_bound {g : Nat → Int} {B : Int} : ∀ {n : Nat}, (∀ k, k < n → -B ≤ g k ∧ g k ≤ B) → -(B * n) ≤ sg g n ∧ sg g n ≤ B * n
  | 0, _ => by simp [sg]
  | n + 1, h => by
    have h1 := sg_bound (n := n) fun k hk => h k (by omega)
    have h2 := h n (by omega)
    have e : B * ((n + 1 : Nat) : Int) = B * n + B := by rw [Int.natCast_add, Int.mul_add]; simp
    rw [sg, e]
    omega

theorem sg_sum (l : List Int) : ∀ n, n ≤ l.length → sg (fun k => l.getD k 0) n = (l.take n).sum
  | 0, _ => by simp [sg]
  | n + 1, h => by
    have hx : l[n]? = some l[n] := by simp [show n < l.length by omega]
    have e : l.getD n 0 = l[n] := by simp [List.getD_eq_getElem?_getD, hx]
    rw [sg, sg_sum l n (by omega), e, List.take_add_one, hx, List.sum_append]
    simp

end Go.Gx.F
