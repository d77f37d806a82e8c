/- Plain laws: the join of two tables. -/
import Derived.Test.YtnmimeojimfogaaBPFolw

namespace Go.Gx.F

open Go.Gx

set_option linter.all false

/-! ## rising lists by their members -/

/-! ## the join -/

def orc (s : List impl_Variable) (a b : impl_Table) (k : Nat) : Nat := cset s a k ||| cset s b k

def jW (s : List impl_Variable) (a b : impl_Table) (k : Nat) : Int := match s[k]? with
  | some v => if (orc s a b k : Int) = full v then 0 else (orc s a b k : Int)
  | none => 0

def jSel (s : List impl_Variable) (a b : impl_Table) (k : Nat) : Bool := decide ((k : Int) ∈ a.Vars) || decide ((k : Int) ∈ b.Vars) || decide (cset s a k ≠ cset s b k) || (decide (a.Sum ≠ b.Sum) && (decide (a.Sum = (k : Int)) || decide (b.Sum = (k : Int))))

def jn (s : List impl_Variable) (a b : impl_Table) : impl_Table := ⟨max a.Level b.Level, picks (jSel s a b) (fun k => (k : Int)) s.length, (List.range s.length).map (jW s a b), if a.Sum = b.Sum then a.Sum else -1⟩

def Fil (n : Nat) (w : Nat → Int) (k : Nat) (l : List Int) : Prop := l.length = n ∧ ∀ i : Nat, i < n → l[i]? = some (if i < k then w i else 0)

theorem Fil.map {n : Nat} {w : Nat → Int} {l : List Int} (h : Fil n w n l) : l = (List.range n).map w := by
  apply List.ext_getElem?
  intro i
  by_cases hi : i < n
  · rw [h.2 i hi, if_pos hi, List.getElem?_map, List.getElem?_range hi]; rfl
  · rw [List.getElem?_eq_none (by rw [h.1]; omega), List.getElem?_eq_none (by simp; omega)]

theorem Fil.zero (n : Nat) (w : Nat → Int) : Fil n w 0 (List.replicate n 0) := ⟨by simp, fun i hi => by rw [List.getElem?_replicate, if_pos hi, if_neg (by omega)]⟩

theorem Fil.keep {n : Nat} {w : Nat → Int} {k : Nat} {l : List Int} (h : Fil n w k l) (hk : w k = 0) : Fil n w (k + 1) l := ⟨h.1, fun i hi => by
  rw [h.2 i hi]
  by_cases h1 : i < k
  · rw [if_pos h1, if_pos (by omega)]
  · rw [if_neg h1]
    by_cases h2 : i < k + 1
    · rw [if_pos h2, show i = k by omega, hk]
    · rw [if_neg h2]⟩

theorem Fil.put {n : Nat} {w : Nat → Int} {k : Nat} {l : List Int} (h : Fil n w k l) (hk : k < n) : Fil n w (k + 1) (l.set k (w k)) := ⟨by rw [List.length_set, h.1], fun i hi => by
  by_cases h1 : i = k
  · subst h1
    rw [if_pos (by omega)]
    simp [h.1, hk]
  · rw [List.getElem?_set_ne (by omega), h.2 i hi]
    by_cases h2 : i < k
    · rw [if_pos h2, if_pos (by omega)]
    · rw [if_neg h2, if_neg (by omega)]⟩

end Go.Gx.F
