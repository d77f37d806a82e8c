/- Plain laws: a greatest flow leaves a cut that is full. -/
import Derived.Test.YtpjcfmpfiadkgaaFPFl1

namespace Go.Gx.F

open Go.Gx

set_option linter.all false

set_option maxRecDepth 10000

theorem srch_max {N : Nat} {r : Nat → Nat → Int} {a : Nat} (ha : a < N) : ∃ (back : Nat → Int) (ord : List Nat), Srch N r (fun v => v = a) back ord ∧ a ∈ ord ∧ ∀ u v, u ∈ ord → v < N → v ∉ ord → ¬ 0 < r u v := by
  have key : ∀ (k : Nat) (back : Nat → Int) (ord : List Nat), N - ord.length = k → Srch N r (fun v => v = a) back ord → a ∈ ord → ∃ (back : Nat → Int) (ord : List Nat), Srch N r (fun v => v = a) back ord ∧ a ∈ ord ∧ ∀ u v, u ∈ ord → v < N → v ∉ ord → ¬ 0 < r u v := by
    intro k
    induction k with
    | zero =>
      intro back ord hk hs hao
      refine ⟨back, ord, hs, hao, fun u v hu hv hn hr => ?_⟩
      have hp := hs.push (back' := fun w => if w = v then (u : Int) else back w) hv hn (fun e => hn (by rw [e]; exact hao)) hu hr fun w => rfl
      have := hp.len
      simp only [List.length_append, List.length_cons, List.length_nil] at this
      omega
    | succ k ih =>
      intro back ord hk hs hao
      by_cases hc : ∃ u v, u ∈ ord ∧ v < N ∧ v ∉ ord ∧ 0 < r u v
      · obtain ⟨u, v, hu, hv, hn, hr⟩ := hc
        have hp := hs.push (back' := fun w => if w = v then (u : Int) else back w) hv hn (fun e => hn (by rw [e]; exact hao)) hu hr fun w => rfl
        exact ih _ (ord ++ [v]) (by simp only [List.length_append, List.length_cons, List.length_nil]; omega) hp (List.mem_append_left _ hao)
      · exact ⟨back, ord, hs, hao, fun u v hu hv hn hr => hc ⟨u, v, hu, hv, hn, hr⟩⟩
  refine key _ (fun _ => 0) [a] rfl ⟨by simp, fun v hv => ?_, fun k v hk => ?_⟩ (by simp)
  · rw [List.mem_singleton.1 hv]; exact ha
  · refine .inl ?_
    have := List.mem_of_getElem? hk
    exact List.mem_singleton.1 this

theorem Res.stuck {N : Nat} {r0 r : Nat → Nat → Int} {a b : Nat} {v : Int} (h : Res N r0 r a b v) (ha : a < N) (hab : a ≠ b) (hmax : ∀ w g, FlowN N r0 a b w g → w ≤ v) :
    ∃ S : Nat → Bool, S a = true ∧ S b = false ∧ ∀ i j, i < N → j < N → S i = true → S j = false → r i j = 0 := by
  obtain ⟨back, ord, hs, hao, hcl⟩ := srch_max (r := r) ha
  have hb : b ∉ ord := fun hb => by
    obtain ⟨k, hk⟩ := List.mem_iff_getElem?.1 hb
    obtain ⟨path, a', p1, p2, p3, p4, p5, p6, p7⟩ := hs.path k b hk
    obtain rfl : a' = a := p3
    have h2 := h.aug (s := 1) (by omega) p4 (fun x hx => by obtain ⟨i, _, hi⟩ := p5 x hx; exact hs.lt x (List.mem_of_getElem? hi)) p7 p1 p2
    have := hmax _ _ (h2.flow ha hab)
    omega
  refine ⟨fun v => decide (v ∈ ord), decide_eq_true hao, decide_eq_false hb, fun i j hi hj h1 h2 => ?_⟩
  have g1 := of_decide_eq_true h1
  have g2 := of_decide_eq_false h2
  have g3 := hcl i j g1 hj g2
  have g4 := h.nn i j hi hj
  omega

theorem Res.cut {N : Nat} {r0 r : Nat → Nat → Int} {a b : Nat} {v : Int} (h : Res N r0 r a b v) (ha : a < N) (hab : a ≠ b) (hmax : ∀ w g, FlowN N r0 a b w g → w ≤ v) :
    ∃ S : Nat → Bool, S a = true ∧ S b = false ∧ v = sm N fun i => sm N fun j => if S i = true ∧ S j = false then r0 i j else 0 := by
  obtain ⟨S, h1, h2, h3⟩ := h.stuck ha hab hmax
  refine ⟨S, h1, h2, ?_⟩
  rw [cut_eq (h.flow ha hab) ha h1 h2]
  refine sm_congr fun i hi => sm_congr fun j hj => ?_
  by_cases hc : S i = true ∧ S j = false
  · rw [if_pos hc, if_pos hc, h3 i j hi hj hc.1 hc.2]; omega
  · rw [if_neg hc, if_neg hc]

end Go.Gx.F
