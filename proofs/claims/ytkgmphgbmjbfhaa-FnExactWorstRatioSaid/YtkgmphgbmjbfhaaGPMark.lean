/- Plain laws: lists that are marked, and held. -/
import Derived.Test.YtkgmphgbmjbfhaaGPArith
namespace Go.Gx.F
open Go.Gx
set_option linter.all false

theorem bne_self {a : Int} : (a != a) = false := by simp

theorem laws_eqFracS_self {l : List impl_Frac} (h : l.length ≤ 1048576) : laws_eqFracS l l = some true := by
  unfold laws_eqFracS
  rw [loop_all (l := l) (fun _ => true) _ (fun k x hx => ?_) (fun _ => ?_)]
  · simp
  · simp only [laws_eqFracS_l1, lt_ok hx, cond_true, at_ok hx, Option.bind_some, laws_eqFrac_self, Bool.not_true, cond_false, nx_ok hx (by omega), if_true]
  · simp only [laws_eqFracS_l1, lt_end, cond_false]

theorem markFrac {l : List impl_Frac} (h : l.length ≤ 1048576) : ∃ a, laws_markFracS l 1 = some (1 + 2 * (l.length : Int), a) ∧ a.length = l.length ∧ ∀ j : Nat, j < l.length → a[j]? = some ⟨1 + 2 * (j : Int), 2 + 2 * (j : Int)⟩ := by
  obtain ⟨r, hr, h1, h2, h3⟩ := loopC_inv (f := laws_markFracS_l1) (fun s => s.1.length = l.length ∧ 0 ≤ s.2.2 ∧ s.2.2 ≤ l.length ∧ s.2.1 = 1 + 2 * s.2.2 ∧ ∀ j : Nat, (j : Int) < s.2.2 → s.1[j]? = some ⟨1 + 2 * (j : Int), 2 + 2 * (j : Int)⟩) (fun s => (l.length : Int).toNat - s.2.2.toNat)
    (fun r => r.1.length = l.length ∧ r.2 = 1 + 2 * (l.length : Int) ∧ ∀ j : Nat, j < l.length → r.1[j]? = some ⟨1 + 2 * (j : Int), 2 + 2 * (j : Int)⟩) (fun s hs => by
      obtain ⟨a, k, i⟩ := s
      obtain ⟨e1, e2, e3, e4, e5⟩ := hs
      simp only at e1 e2 e3 e4 e5
      subst e4
      by_cases hi : i < (l.length : Int)
      · right
        obtain ⟨n, rfl⟩ := Int.eq_ofNat_of_zero_le e2
        have hlt : n < a.length := by omega
        have hx : a[n]? = some a[n] := by simp [hlt]
        have hy : ∀ v : impl_Frac, (goSet a (n : Int) v)[n]? = some v := fun v => by simp [goSet, hlt]
        have w1 : w64 (1 + 2 * (n : Int) + 1) = 2 + 2 * (n : Int) := by rw [w64_in (by omega) (by omega)]; omega
        have w2 : w64 (2 + 2 * (n : Int) + 1) = 1 + 2 * ((n : Int) + 1) := by rw [w64_in (by omega) (by omega)]; omega
        have w3 : w64 ((n : Int) + 1) = (n : Int) + 1 := w64_in (by omega) (by omega)
        have e : laws_markFracS_l1 (a, 1 + 2 * (n : Int), (n : Int)) = some (.next (goSet (goSet a (n : Int) ⟨1 + 2 * (n : Int), a[n].Den⟩) (n : Int) ⟨1 + 2 * (n : Int), 2 + 2 * (n : Int)⟩, 1 + 2 * ((n : Int) + 1), (n : Int) + 1)) := by
          simp only [laws_markFracS_l1, lt_ok hx, cond_true, at_ok hx, at_ok (hy _), Option.bind_some, w1, w2, w3]
        refine ⟨_, e, ⟨by simpa [goSet] using e1, ?_, ?_, ?_, fun j hj => ?_⟩, ?_⟩
        · simp only; omega
        · simp only; omega
        · simp only
        · simp only at hj ⊢
          by_cases hjn : j = n
          · subst hjn; simp [goSet, hlt]
          · have := e5 j (by omega)
            simpa [goSet, List.getElem?_set_ne (Ne.symm hjn)] using this
        · simp only; omega
      · left
        have hil : i = l.length := by omega
        refine ⟨_, by simp only [laws_markFracS_l1]; rw [show decide (i < goLen a) = false by simp [goLen]; omega]; rfl, e1, by simp only; omega, fun j hj => e5 j (by omega)⟩) (l, 1, 0) ⟨rfl, by simp, by simp, by simp, fun j hj => by simp at hj; omega⟩
  refine ⟨r.1, ?_, h1, h3⟩
  unfold laws_markFracS
  rw [hr]
  obtain ⟨ra, rk⟩ := r
  simp only at h2
  subst h2
  rfl

theorem heldFrac {l a : List impl_Frac} (h : l.length ≤ 1048576) (hl : a.length = l.length) (ha : ∀ j : Nat, j < l.length → a[j]? = some ⟨1 + 2 * (j : Int), 2 + 2 * (j : Int)⟩) : laws_heldFracS a 1 = some (1 + 2 * (l.length : Int)) := by
  obtain ⟨r, hr, h1⟩ := loopC_inv (f := laws_heldFracS_l1 a) (fun s => 0 ≤ s.2 ∧ s.2 ≤ l.length ∧ s.1 = 1 + 2 * s.2) (fun s => (l.length : Int).toNat - s.2.toNat) (fun r => r = .inl (1 + 2 * (l.length : Int))) (fun s hs => by
      obtain ⟨k, i⟩ := s
      obtain ⟨e2, e3, e4⟩ := hs
      simp only at e2 e3 e4
      subst e4
      by_cases hi : i < (l.length : Int)
      · right
        obtain ⟨n, rfl⟩ := Int.eq_ofNat_of_zero_le e2
        have hx := ha n (by omega)
        have w1 : w64 (1 + 2 * (n : Int) + 1) = 2 + 2 * (n : Int) := by rw [w64_in (by omega) (by omega)]; omega
        have w2 : w64 (2 + 2 * (n : Int) + 1) = 1 + 2 * ((n : Int) + 1) := by rw [w64_in (by omega) (by omega)]; omega
        have w3 : w64 ((n : Int) + 1) = (n : Int) + 1 := w64_in (by omega) (by omega)
        have e : laws_heldFracS_l1 a (1 + 2 * (n : Int), (n : Int)) = some (.next (1 + 2 * ((n : Int) + 1), (n : Int) + 1)) := by simp only [laws_heldFracS_l1, lt_ok hx, cond_true, at_ok hx, Option.bind_some, bne_self, cond_false, w1, w2, w3]
        refine ⟨_, e, ⟨?_, ?_, ?_⟩, ?_⟩
        · simp only; omega
        · simp only; omega
        · simp only
        · simp only; omega
      · left
        have hil : i = l.length := by omega
        subst hil
        exact ⟨_, by simp only [laws_heldFracS_l1]; rw [show decide ((l.length : Int) < goLen a) = false by simp [goLen]; omega]; rfl, rfl⟩) (1, 0) ⟨by simp, by simp, by simp⟩
  unfold laws_heldFracS
  rw [hr, h1]
  rfl

/-- marked and held -/
theorem bothFrac {l : List impl_Frac} (h : l.length ≤ 1048576) : ∃ a, laws_markFracS l 1 = some (1 + 2 * (l.length : Int), a) ∧ laws_heldFracS a 1 = some (1 + 2 * (l.length : Int)) := by
  obtain ⟨a, h1, h2, h3⟩ := markFrac h
  exact ⟨a, h1, heldFrac h h2 h3⟩

theorem ok2 (n : Nat) : decide (1 + 2 * (n : Int) < 0) = false := by simp; omega

theorem ok1 (n : Nat) : decide (1 + (n : Int) < 0) = false := by simp; omega
end Go.Gx.F
