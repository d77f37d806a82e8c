/- Plain laws: lists that are marked, and held. -/
import Derived.Test.YtkgmphgbmjbfhaaHPArith
namespace Go.Gx.F
open Go.Gx
set_option linter.all false

theorem bne_self {a : Int} : (a != a) = false := by simp

theorem laws_eqFracS_self {l : List impl_Frac} (h : l.length ≤ 1048576) : laws_eqFracS l l = some true := by
  unfold laws_eqFracS
  rw [loop_all (l := l) (fun _ => true) _ (fun k x hx => ?_) (fun _ => ?_)]
  · simp
  · simp only [laws_eqFracS_l1, lt_ok hx, cond_true, at_ok hx, Option.bind_some, laws_eqFrac_self, Bool.not_true, cond_false, nx_ok hx (by omega), if_true]
  · simp only [laws_eqFracS_l1, lt_end, cond_false]

theorem ok2 (n : Nat) : decide (1 + 2 * (n : Int) < 0) = false := by simp; omega

theorem ok1 (n : Nat) : decide (1 + (n : Int) < 0) = false := by simp; omega
end Go.Gx.F
