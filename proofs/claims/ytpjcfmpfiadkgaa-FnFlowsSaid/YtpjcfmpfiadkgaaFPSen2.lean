/- Plain laws: sensitive cells: two-way tables, thresholds, patterns joined. -/
import Derived.Test.YtpjcfmpfiadkgaaFPSen1

namespace Go.Gx.F

open Go.Gx

set_option linter.all false

def wdt (x : List (List Int)) : Nat := (x.headD []).length

def Grid (m : Int) (x : List (List Int)) : Prop := 1 ≤ x.length ∧ x.length ≤ 8 ∧ 1 ≤ wdt x ∧ wdt x ≤ 8 ∧ (∀ r ∈ x, r.length = wdt x) ∧ ∀ r ∈ x, ∀ v ∈ r, 0 ≤ v ∧ v ≤ m

theorem shape_bis {x : List (List Int)} {n w : Int} (hx : x.length ≤ 1000) : Bis (impl_hasShape x n w) ((x.length : Int) = n ∧ ∀ r ∈ x, (r.length : Int) = w) := by
  unfold impl_hasShape
  by_cases h : (x.length : Int) = n
  · have e : ((goLen x) != n) = false := by simp [goLen, h]
    rw [e, cond_false]
    refine bis_iff (bis_loop (l := x) (fun _ r => (r.length : Int) = w) (fun k r hr => ⟨decide ((r.length : Int) = w), by simp, ?_⟩) ?_) ?_
    · simp only [impl_hasShape_l1, lt_ok hr, at_ok hr, cond_true, Option.bind_some, nx_ok hr (show x.length ≤ 9223372036854775807 by omega), goLen]
      by_cases h : (r.length : Int) = w
      · simp [h]
      · rw [show ((r.length : Int) != w) = true by simpa using h, decide_eq_false h]; rfl
    · simp only [impl_hasShape_l1, lt_end, cond_false]
    · rw [all_mem_iff]; simp [h]
  · have e : ((goLen x) != n) = true := by simp [goLen, h]
    rw [e, cond_true]
    exact bis_some (by simp [h])

/-! a list that is turned from the front on -/

section

variable {α : Type} {new old : List α} {k : Nat} {y : α}

def mx (k : Nat) (new old : List α) : List α := new.take k ++ old.drop k

end

theorem copy_eq {x : List (List Int)} (hx : Sz x) (hn : 1 ≤ x.length := by omega) : impl_copyMatrix x = some x := by
  unfold impl_copyMatrix
  obtain ⟨s1, s2⟩ := hx
  rw [show goLen x = ((x.length : Nat) : Int) from rfl, goMake_ok (by omega) (by omega), Option.bind_some]
  have h := loop_map (l := x) id ([] : List Int) (impl_copyMatrix_l1 x) (fun k r out hr hl => by
    have h2 := s2 r (List.mem_of_getElem? hr)
    have hk := (List.getElem?_eq_some_iff.1 hr).1
    have e : goAt out (k : Int) = some out[k] := at_ok (by simp [hl, hk])
    simp only [impl_copyMatrix_l1, lt_ok hr, at_ok hr, cond_true, Option.bind_some, clone_eq (show r.length ≤ 1000000 by omega), e, nx_ok hr (show x.length ≤ 9223372036854775807 by omega), goSet, Int.toNat_natCast, id]) (fun out => by simp only [impl_copyMatrix_l1, lt_end, cond_false])
  have hg : goNE (List.replicate x.length ([] : List Int)) = some () := by
    unfold goNE
    cases x with
    | nil => simp at hn
    | cons a x => rfl
  rw [h]
  simp [hg]

/-! thresholds -/

def thr (t v : Int) : Int := if 0 < v ∧ v < t then 1 else 0

def thrs (t : Int) (x : List (List Int)) : List (List Int) := x.map fun r => r.map (thr t)

theorem app_loop {α β τ : Type} (l : List α) (f : α → β) (body : List β × Int → Option (Stp (List β × Int) (List β)))
    (h1 : ∀ (k : Nat) (x : α) (out : List β), l[k]? = some x → out.length = k → body (out, (k : Int)) = some (.next (out ++ [f x], ((k + 1 : Nat) : Int)))) (h2 : ∀ out, body (out, (l.length : Int)) = some (.done out)) :
    loopC body ([], 0) = some (l.map f) := by
  refine tot_eq (tot_loop (fun s => ∃ k : Nat, k ≤ l.length ∧ s = ((l.take k).map f, (k : Int))) (fun s => l.length - s.2.toNat) ⟨0, by omega, by simp⟩ ?_)
  rintro s ⟨k, hk, rfl⟩
  by_cases hlt : k < l.length
  · rw [h1 k l[k] _ (by simp [hlt]) (by simp; omega)]
    refine tot_some ⟨⟨k + 1, by omega, ?_⟩, by simp only; omega⟩
    rw [List.take_succ, List.map_append, List.getElem?_eq_getElem hlt]; rfl
  · obtain rfl : k = l.length := by omega
    rw [h2]
    exact tot_some (by simp)

/-! patterns joined -/

def jn (a b : List Int) : List Int := List.zipWith max a b

def jns (a b : List (List Int)) : List (List Int) := List.zipWith jn a b

structure Pair (a b : List (List Int)) : Prop where
  sza : Sz a
  szb : Sz b
  len : b.length = a.length
  row : ∀ (i : Nat) (r q : List Int), a[i]? = some r → b[i]? = some q → q.length = r.length
  va : ∀ r ∈ a, ∀ v ∈ r, 0 ≤ v ∧ v ≤ 1
  vb : ∀ r ∈ b, ∀ v ∈ r, 0 ≤ v ∧ v ≤ 1

end Go.Gx.F
