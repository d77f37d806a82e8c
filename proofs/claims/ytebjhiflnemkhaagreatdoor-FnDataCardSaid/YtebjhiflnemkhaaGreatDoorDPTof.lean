/- Plain laws: the cells of a table, and the records in them. -/
import Derived.Test.YtebjhiflnemkhaaGreatDoorDPCel
namespace Go.Gx.F
open Go.Gx
set_option linter.all false

theorem loop_fold {α σ ρ : Type} {l : List α} (f : σ → α → σ) (I : Nat → σ → Prop) (fin : σ → ρ) {body : σ × Int → Option (Stp (σ × Int) ρ)}
    (h1 : ∀ (out : σ) (k : Nat) (x : α), l[k]? = some x → I k out → body (out, (k : Int)) = some (.next (f out x, ((k + 1 : Nat) : Int))) ∧ I (k + 1) (f out x))
    (h2 : ∀ out, I l.length out → body (out, (l.length : Int)) = some (.done (fin out))) {s : σ} (h0 : I 0 s) : loopC body (s, 0) = some (fin (l.foldl f s)) ∧ I l.length (l.foldl f s) := by
  suffices h : ∀ (j k : Nat) (s : σ), k + j = l.length → I k s → loopC body (s, (k : Int)) = some (fin ((l.drop k).foldl f s)) ∧ I l.length ((l.drop k).foldl f s) by
    have := h l.length 0 s (by omega) h0
    simpa using this
  intro j
  induction j with
  | zero =>
    intro k s hk hi
    obtain rfl : k = l.length := by omega
    rw [loopC_eq, h2 s hi, List.drop_of_length_le (Nat.le_refl _)]
    exact ⟨rfl, hi⟩
  | succ j ih =>
    intro k s hk hi
    have hx : l[k]? = some (l[k]'(by omega)) := by simp [show k < l.length by omega]
    generalize l[k]'(by omega) = x at hx
    obtain ⟨e, hi2⟩ := h1 s k x hx hi
    rw [loopC_eq, e, drop_cons hx]
    exact ih (k + 1) _ (by omega) hi2

/-! ## adding to cells -/
def addC (out : List Int) (c : Int × Int) : List Int := if 0 ≤ c.1 then out.set c.1.toNat (out.getD c.1.toNat 0 + c.2) else out

structure Inv (N k : Nat) (out : List Int) : Prop where
  l : out.length = N
  b : ∀ v ∈ out, 0 ≤ v ∧ v ≤ 8 * (k : Int)

theorem Inv.zero (N : Nat) : Inv N 0 (List.replicate N 0) := ⟨by simp, fun v hv => by have := (List.mem_replicate.1 hv).2; omega⟩

theorem addC_step {N k : Nat} {out : List Int} {c : Int × Int} (h : Inv N k out) (hc : 0 ≤ c.1 → ∃ i : Nat, c.1 = (i : Int) ∧ i < N) (ha : 0 ≤ c.2 ∧ c.2 ≤ 8) (hk : k ≤ 1000000) :
    (cond (decide (0 ≤ c.1)) ((goAt out c.1).bind fun e => ((goAt out c.1).bind fun _ => some (goSet out c.1 (w64 (e + c.2))))) (some out) : Option (List Int)) = some (addC out c) ∧ Inv N (k + 1) (addC out c) := by
  by_cases h0 : 0 ≤ c.1
  · obtain ⟨i, hi, hl⟩ := hc h0
    have hx : out[i]? = some (out[i]'(by rw [h.l]; exact hl)) := by simp
    generalize out[i]'(by rw [h.l]; exact hl) = x at hx
    have hb := h.b x (List.mem_of_getElem? hx)
    have e : addC out c = out.set i (x + c.2) := by
      unfold addC
      rw [if_pos h0, hi, show (i : Int).toNat = i by omega, List.getD_eq_getElem?_getD, hx]
      rfl
    rw [e, decide_eq_true h0, hi, at_ok hx]
    refine ⟨by simp only [cond_true, Option.bind_some]; rw [wid (by omega) (by omega)]; rfl, by rw [List.length_set, h.l], fun v hv => ?_⟩
    rcases List.mem_or_eq_of_mem_set hv with hv | rfl
    · have := h.b v hv; omega
    · omega
  · have e : addC out c = out := by unfold addC; rw [if_neg h0]
    rw [e, decide_eq_false h0]
    exact ⟨rfl, h.l, fun v hv => by have := h.b v hv; omega⟩

theorem addC_get {out : List Int} {c : Int × Int} (hc : 0 ≤ c.1 → c.1.toNat < out.length) {j : Nat} (hj : j < out.length) : (addC out c).getD j 0 = out.getD j 0 + (if c.1 = (j : Int) then c.2 else 0) := by
  unfold addC
  by_cases h0 : 0 ≤ c.1
  · rw [if_pos h0]
    by_cases h : c.1 = (j : Int)
    · rw [if_pos h, show c.1.toNat = j by omega]
      simp [List.getD_eq_getElem?_getD, List.getElem?_set, hj]
    · rw [if_neg h]
      simp [List.getD_eq_getElem?_getD, List.getElem?_set, show ¬ c.1.toNat = j by omega]
  · rw [if_neg h0, if_neg (show ¬ c.1 = (j : Int) by omega)]; omega

theorem addC_len (out : List Int) (c : Int × Int) : (addC out c).length = out.length := by unfold addC; split <;> simp

end Go.Gx.F
