/- Plain laws: sums over chosen indices. -/
import Derived.Test.YtpjcfmpfiadkgaaFPFl8

namespace Go.Gx.F

open Go.Gx

set_option linter.all false

set_option maxRecDepth 10000

theorem idx_sum {l : List Int} {n : Nat} {S : Nat → Bool} {body : Int × Int → Option (Stp (Int × Int) Int)} (hl : l.length = n) (hn : n ≤ 8) (hb : ∀ i, i < n → 0 ≤ vc l i ∧ vc l i ≤ 100000)
    (h1 : ∀ (s : Int) (k : Nat) (e v : Int), (sel S n)[k]? = some e → goAt l e = some v → body (s, (k : Int)) = some (.next (w64 (s + v), w64 ((k : Int) + 1)))) (h2 : ∀ s : Int, body (s, ((sel S n).length : Int)) = some (.done s)) {i0 : Int} (hi0 : -1000000000 ≤ i0 ∧ i0 ≤ 1000000000) :
    loopC body (i0, 0) = some (i0 + sm n fun i => if S i = true then vc l i else 0) := by
  rw [← sel_sum]
  have hsl := sel_len S n
  generalize hf : (fun x : Int => vc l x.toNat) = f
  have hsplit : ∀ k, (h : k < (sel S n).length) → (((sel S n).take (k + 1)).map f).sum = (((sel S n).take k).map f).sum + f ((sel S n)[k]) := fun k h => by
    rw [List.take_succ, List.getElem?_eq_getElem h, List.map_append, List.sum_append]
    simp
  have hin : ∀ k, (h : k < (sel S n).length) → ∃ a : Nat, a < n ∧ (sel S n)[k] = (a : Int) ∧ f ((sel S n)[k]) = vc l a := fun k h => by
    obtain ⟨a, h1, _, h3⟩ := sel_in (List.getElem_mem h)
    exact ⟨a, h1, h3, by rw [h3, ← hf]; simp⟩
  have bd : ∀ k, k ≤ (sel S n).length → 0 ≤ (((sel S n).take k).map f).sum ∧ (((sel S n).take k).map f).sum ≤ 100000 * (k : Int) := by
    intro k
    induction k with
    | zero => intro _; simp
    | succ k ih =>
      intro hk
      obtain ⟨a, g1, g2, g3⟩ := hin k (by omega)
      have g4 := hb a g1
      have g5 := ih (by omega)
      rw [hsplit k (by omega), g3]
      omega
  refine tot_eq (tot_loop (fun s => ∃ k : Nat, k ≤ (sel S n).length ∧ s = (i0 + (((sel S n).take k).map f).sum, (k : Int))) (fun s => (sel S n).length - s.2.toNat) ⟨0, by omega, by simp⟩ ?_)
  rintro _ ⟨k, hk, rfl⟩
  by_cases hlt : k < (sel S n).length
  · obtain ⟨a, g1, g2, g3⟩ := hin k hlt
    have g4 := hb a g1
    have g5 := bd k hk
    rw [h1 _ k _ (vc l a) (List.getElem?_eq_getElem hlt) (by rw [g2]; exact at_ok (vc_at (by omega))), wid (n := (k : Int) + 1) (by omega) (by omega), wid (n := _ + vc l a) (by omega) (by omega)]
    refine tot_some ⟨⟨k + 1, by omega, Prod.ext ?_ (by simp only; omega)⟩, by simp only; omega⟩
    simp only
    rw [hsplit k hlt, g3]
    omega
  · obtain rfl : k = (sel S n).length := by omega
    rw [h2]
    exact tot_some (by rw [List.take_length])

end Go.Gx.F
