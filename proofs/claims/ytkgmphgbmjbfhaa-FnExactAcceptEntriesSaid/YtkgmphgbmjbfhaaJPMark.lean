/- Plain laws: lists that are marked, and held. -/
import Derived.Test.YtkgmphgbmjbfhaaJPArith
namespace Go.Gx.F
open Go.Gx
set_option linter.all false

theorem bne_self {a : Int} : (a != a) = false := by simp

theorem laws_eqIntS_self {l : List Int} (h : l.length ≤ 1048576) : laws_eqIntS l l = some true := by
  unfold laws_eqIntS
  rw [loop_all (l := l) (fun _ => true) _ (fun k x hx => ?_) (fun _ => ?_)]
  · simp
  · simp only [laws_eqIntS_l1, lt_ok hx, cond_true, at_ok hx, Option.bind_some, bne_self, cond_false, nx_ok hx (by omega), if_true]
  · simp only [laws_eqIntS_l1, lt_end, cond_false]

theorem markInt {l : List Int} (h : l.length ≤ 1048576) : ∃ a, laws_markIntS l 1 = some (1 + (l.length : Int), a) ∧ a.length = l.length ∧ ∀ j : Nat, j < l.length → a[j]? = some (1 + (j : Int)) := by
  obtain ⟨r, hr, h1, h2, h3⟩ := loopC_inv (f := laws_markIntS_l1) (fun s => s.1.length = l.length ∧ 0 ≤ s.2.2 ∧ s.2.2 ≤ l.length ∧ s.2.1 = 1 + s.2.2 ∧ ∀ j : Nat, (j : Int) < s.2.2 → s.1[j]? = some (1 + (j : Int))) (fun s => (l.length : Int).toNat - s.2.2.toNat)
    (fun r => r.1.length = l.length ∧ r.2 = 1 + (l.length : Int) ∧ ∀ j : Nat, j < l.length → r.1[j]? = some (1 + (j : Int))) (fun s hs => by
      obtain ⟨a, k, i⟩ := s
      obtain ⟨e1, e2, e3, e4, e5⟩ := hs
      simp only at e1 e2 e3 e4 e5
      subst e4
      by_cases hi : i < (l.length : Int)
      · right
        obtain ⟨n, rfl⟩ := Int.eq_ofNat_of_zero_le e2
        have hlt : n < a.length := by omega
        have hx : a[n]? = some a[n] := by simp [hlt]
        have w1 : w64 (1 + (n : Int) + 1) = 1 + ((n : Int) + 1) := by rw [w64_in (by omega) (by omega)]; omega
        have w3 : w64 ((n : Int) + 1) = (n : Int) + 1 := w64_in (by omega) (by omega)
        have e : laws_markIntS_l1 (a, 1 + (n : Int), (n : Int)) = some (.next (goSet a (n : Int) (1 + (n : Int)), 1 + ((n : Int) + 1), (n : Int) + 1)) := by simp only [laws_markIntS_l1, lt_ok hx, cond_true, at_ok hx, Option.bind_some, w1, w3]
        refine ⟨_, e, ⟨by simpa [goSet] using e1, ?_, ?_, ?_, fun j hj => ?_⟩, ?_⟩
        · simp only; omega
        · simp only; omega
        · simp only
        · simp only at hj ⊢
          by_cases hjn : j = n
          · subst hjn; simp [goSet, hlt]
          · have := e5 j (by omega)
            simpa [goSet, List.getElem?_set_ne (Ne.symm hjn)] using this
        · simp only; omega
      · left
        have hil : i = l.length := by omega
        refine ⟨_, by simp only [laws_markIntS_l1]; rw [show decide (i < goLen a) = false by simp [goLen]; omega]; rfl, e1, by simp only; omega, fun j hj => e5 j (by omega)⟩) (l, 1, 0) ⟨rfl, by simp, by simp, by simp, fun j hj => by simp at hj; omega⟩
  refine ⟨r.1, ?_, h1, h3⟩
  unfold laws_markIntS
  rw [hr]
  obtain ⟨ra, rk⟩ := r
  simp only at h2
  subst h2
  rfl

theorem heldInt {l a : List Int} (h : l.length ≤ 1048576) (hl : a.length = l.length) (ha : ∀ j : Nat, j < l.length → a[j]? = some (1 + (j : Int))) : laws_heldIntS a 1 = some (1 + (l.length : Int)) := by
  obtain ⟨r, hr, h1⟩ := loopC_inv (f := laws_heldIntS_l1 a) (fun s => 0 ≤ s.2 ∧ s.2 ≤ l.length ∧ s.1 = 1 + s.2) (fun s => (l.length : Int).toNat - s.2.toNat) (fun r => r = .inl (1 + (l.length : Int))) (fun s hs => by
      obtain ⟨k, i⟩ := s
      obtain ⟨e2, e3, e4⟩ := hs
      simp only at e2 e3 e4
      subst e4
      by_cases hi : i < (l.length : Int)
      · right
        obtain ⟨n, rfl⟩ := Int.eq_ofNat_of_zero_le e2
        have hx := ha n (by omega)
        have w1 : w64 (1 + (n : Int) + 1) = 1 + ((n : Int) + 1) := by rw [w64_in (by omega) (by omega)]; omega
        have w3 : w64 ((n : Int) + 1) = (n : Int) + 1 := w64_in (by omega) (by omega)
        have e : laws_heldIntS_l1 a (1 + (n : Int), (n : Int)) = some (.next (1 + ((n : Int) + 1), (n : Int) + 1)) := by simp only [laws_heldIntS_l1, lt_ok hx, cond_true, at_ok hx, Option.bind_some, bne_self, cond_false, w1, w3]
        refine ⟨_, e, ⟨?_, ?_, ?_⟩, ?_⟩
        · simp only; omega
        · simp only; omega
        · simp only
        · simp only; omega
      · left
        have hil : i = l.length := by omega
        subst hil
        exact ⟨_, by simp only [laws_heldIntS_l1]; rw [show decide ((l.length : Int) < goLen a) = false by simp [goLen]; omega]; rfl, rfl⟩) (1, 0) ⟨by simp, by simp, by simp⟩
  unfold laws_heldIntS
  rw [hr, h1]
  rfl

theorem bothInt {l : List Int} (h : l.length ≤ 1048576) : ∃ a, laws_markIntS l 1 = some (1 + (l.length : Int), a) ∧ laws_heldIntS a 1 = some (1 + (l.length : Int)) := by
  obtain ⟨a, h1, h2, h3⟩ := markInt h
  exact ⟨a, h1, heldInt h h2 h3⟩

theorem ok2 (n : Nat) : decide (1 + 2 * (n : Int) < 0) = false := by simp; omega

theorem ok1 (n : Nat) : decide (1 + (n : Int) < 0) = false := by simp; omega
end Go.Gx.F
