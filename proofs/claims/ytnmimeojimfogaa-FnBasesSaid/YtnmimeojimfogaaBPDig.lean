/- Plain laws: the cells of a cube and their indices. -/
import Derived.Test.YtnmimeojimfogaaBPDr

namespace Go.Gx.F

open Go.Gx

set_option linter.all false

def up (l : List Nat) : List Int := l.map fun (n : Nat) => (n : Int)

theorem drop_cons {γ : Type} {l : List γ} {k : Nat} {x : γ} (h : l[k]? = some x) : l.drop k = x :: l.drop (k + 1) := by
  have hlt := (List.getElem?_eq_some_iff.1 h).1
  have he := (List.getElem?_eq_some_iff.1 h).2
  rw [List.drop_eq_getElem_cons hlt, he]

def cnt : List Nat → Nat
  | [] => 1
  | s :: S => (s + 1) * cnt S

def strd : List Nat → List Nat
  | [] => []
  | _ :: S => cnt S :: strd S

def dig : List Nat → Nat → List Nat
  | [], _ => []
  | _ :: S, i => i / cnt S :: dig S (i % cnt S)

def ix : List Nat → List Nat → Nat
  | _ :: S, x :: X => x * cnt S + ix S X
  | _, _ => 0

def VX : List Nat → List Nat → Prop
  | [], [] => True
  | s :: S, x :: X => x ≤ s ∧ VX S X
  | _, _ => False

theorem cnt_pos : ∀ S : List Nat, 0 < cnt S
  | [] => Nat.one_pos
  | s :: S => Nat.mul_pos (Nat.succ_pos s) (cnt_pos S)

theorem cnt_le : ∀ {S : List Nat}, (∀ s ∈ S, s ≤ 30) → cnt S ≤ 31 ^ S.length
  | [], _ => Nat.le_refl _
  | s :: S, h => by
    have h1 := h s (by simp)
    have h2 := cnt_le fun x hx => h x (List.mem_cons_of_mem _ hx)
    simp only [cnt, List.length_cons, Nat.pow_succ]
    rw [Nat.mul_comm (31 ^ S.length)]
    exact Nat.mul_le_mul (by omega) h2

theorem VX.len : ∀ {S X : List Nat}, VX S X → X.length = S.length
  | [], [], _ => rfl
  | s :: S, x :: X, h => by simp [VX.len h.2]
  | [], _ :: _, h => h.elim
  | _ :: _, [], h => h.elim

theorem VX.get : ∀ {S X : List Nat}, VX S X → ∀ {k s x : Nat}, S[k]? = some s → X[k]? = some x → x ≤ s
  | s :: S, x :: X, h, 0, _, _, h1, h2 => by simp at h1 h2; subst h1 h2; exact h.1
  | s :: S, x :: X, h, k + 1, _, _, h1, h2 => VX.get h.2 (by simpa using h1) (by simpa using h2)
  | [], [], _, k, _, _, h1, _ => by simp at h1
  | [], _ :: _, h, _, _, _, _, _ => h.elim
  | _ :: _, [], h, _, _, _, _, _ => h.elim

theorem VX.of_get : ∀ {S X : List Nat}, X.length = S.length → (∀ (k s x : Nat), S[k]? = some s → X[k]? = some x → x ≤ s) → VX S X
  | [], [], _, _ => trivial
  | s :: S, x :: X, hl, h => ⟨h 0 s x rfl rfl, VX.of_get (by simpa using hl) fun k a b h1 h2 => h (k + 1) a b (by simpa using h1) (by simpa using h2)⟩
  | [], _ :: _, hl, _ => by simp at hl
  | _ :: _, [], hl, _ => by simp at hl

theorem VX.set {S X : List Nat} (h : VX S X) {d s k : Nat} (hs : S[d]? = some s) (hk : k ≤ s) : VX S (X.set d k) := by
  refine VX.of_get (by simpa using h.len) fun j a b h1 h2 => ?_
  rw [List.getElem?_set] at h2
  split at h2
  · rename_i hj
    subst hj
    rw [hs] at h1
    split at h2
    · simp at h1 h2; omega
    · cases h2
  · exact h.get h1 h2

theorem dig_ok : ∀ {S : List Nat} {i : Nat}, i < cnt S → VX S (dig S i)
  | [], _, _ => trivial
  | s :: S, i, h => by
    refine ⟨?_, dig_ok (Nat.mod_lt _ (cnt_pos S))⟩
    have : i / cnt S < s + 1 := (Nat.div_lt_iff_lt_mul (cnt_pos S)).2 h
    omega

theorem cnt_drop {S : List Nat} {d s : Nat} (h : S[d]? = some s) : cnt (S.drop d) = (s + 1) * cnt (S.drop (d + 1)) := by
  rw [drop_cons h]; rfl

theorem cnt_drop_le {S : List Nat} (h : ∀ s ∈ S, s ≤ 30) (hl : S.length ≤ 4) (d : Nat) : cnt (S.drop d) ≤ 923521 := by
  have h1 := cnt_le (S := S.drop d) fun s hs => h s (List.mem_of_mem_drop hs)
  have h2 : (S.drop d).length ≤ 4 := by simp; omega
  have : 31 ^ (S.drop d).length ≤ 31 ^ 4 := Nat.pow_le_pow_right (by omega) h2
  omega

structure VS (S : List Nat) : Prop where
  l : S.length ≤ 4
  b : ∀ s ∈ S, 1 ≤ s ∧ s ≤ 30

theorem VS.le {S : List Nat} (h : VS S) (d : Nat) : cnt (S.drop d) ≤ 923521 := cnt_drop_le (fun s hs => (h.b s hs).2) h.l d

theorem VS.get {S : List Nat} (h : VS S) {d s : Nat} (hs : S[d]? = some s) : 1 ≤ s ∧ s ≤ 30 := h.b s (List.mem_of_getElem? hs)

theorem VX.drop {S X : List Nat} (h : VX S X) (k : Nat) : VX (S.drop k) (X.drop k) := by
  refine VX.of_get (by simp [h.len]) fun j a b h1 h2 => ?_
  rw [List.getElem?_drop] at h1 h2
  exact h.get h1 h2

end Go.Gx.F
