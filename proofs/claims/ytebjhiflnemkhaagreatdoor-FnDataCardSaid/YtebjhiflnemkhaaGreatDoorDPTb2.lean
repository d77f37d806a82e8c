/- Plain laws: tables: when they are valid, their cells. -/
import Derived.Test.YtebjhiflnemkhaaGreatDoorDPTab
namespace Go.Gx.F
open Go.Gx
set_option linter.all false

theorem loop_push {α β : Type} {l : List α} (f : α → β) {body : List β × Int → Option (Stp (List β × Int) (List β))}
    (h1 : ∀ (out : List β) (k : Nat) (x : α), l[k]? = some x → out.length = k → body (out, (k : Int)) = some (.next (out ++ [f x], ((k + 1 : Nat) : Int))))
    (h2 : ∀ out : List β, body (out, (l.length : Int)) = some (.done out)) : loopC body ([], 0) = some (l.map f) := by
  suffices h : ∀ (j k : Nat), k + j = l.length → loopC body ((l.take k).map f, (k : Int)) = some (l.map f) from h l.length 0 (by omega)
  intro j
  induction j with
  | zero =>
    intro k hk
    obtain rfl : k = l.length := by omega
    rw [loopC_eq, h2, List.take_of_length_le (Nat.le_refl _)]
  | succ j ih =>
    intro k hk
    have hx : l[k]? = some (l[k]'(by omega)) := by simp [show k < l.length by omega]
    generalize l[k]'(by omega) = x at hx
    rw [loopC_eq, h1 _ k x hx (by simp; omega)]
    have := ih (k + 1) (by omega)
    rw [List.take_add_one, hx] at this
    simpa using this

/-! ## the variables of a table -/
def part (s : List impl_Variable) (V : List Int) : List impl_Variable := V.map fun v => (s[v.toNat]?).getD ⟨[], 0⟩

theorem part_len (s : List impl_Variable) (V : List Int) : (part s V).length = V.length := by simp [part]

theorem rise_at {α : Type} {s : List α} {V : List Int} (h : RiseV s.length V) {k : Nat} {v : Int} (hv : V[k]? = some v) : ∃ x, s[v.toNat]? = some x ∧ goAt s v = some x := by
  have hb := (h k v hv).1
  obtain ⟨n, rfl⟩ := Int.eq_ofNat_of_zero_le hb.1
  have hx : s[n]? = some (s[n]'(by omega)) := by simp [show n < s.length by omega]
  exact ⟨_, hx, at_ok hx⟩

theorem part_at {s : List impl_Variable} {V : List Int} (h : RiseV s.length V) {k : Nat} {v : Int} (hv : V[k]? = some v) : ∃ x, goAt s v = some x ∧ s[v.toNat]? = some x ∧ (part s V)[k]? = some x := by
  obtain ⟨x, h1, h2⟩ := rise_at h hv
  exact ⟨x, h2, h1, by simp [part, hv, h1]⟩

theorem part_lv {s : List impl_Variable} {V : List Int} (hs : OkS s) (h : RiseV s.length V) : LvS (part s V) := by
  refine ⟨by rw [part_len]; have := h.len; have := hs.2.1; omega, fun v hv => ?_⟩
  simp only [part, List.mem_map] at hv
  obtain ⟨w, hw, rfl⟩ := hv
  obtain ⟨k, hk⟩ := List.getElem?_of_mem hw
  obtain ⟨x, h1, _⟩ := rise_at h hk
  rw [h1]
  exact hs.lv.get h1

/-! ## a record's cell -/
/-- the bit of a value is in a set -/
def bit (e x : Int) : Bool := !(goBits .and .i64 (e.fdiv (2 ^ min x.toNat (IntKind.bits .i64))) 1 == 0)

def meets (W V : List Int) : Prop := ∀ (k : Nat) (e : Int), W[k]? = some e → (e ≠ 0 → ∀ x, V[k]? = some x → bit e x = true)

theorem shr_eq {e x : Int} (hx : 0 ≤ x) : goShr .i64 e x = some (e.fdiv (2 ^ min x.toNat (IntKind.bits .i64))) := by
  unfold goShr
  rw [decide_eq_false (show ¬ x < 0 by omega), cond_false]

theorem meets_loop {s : List impl_Variable} {W V : List Int} (hs : OkS s) (hW : W.length = s.length) (hV : OkV s V) {body : Int → Option (Stp Int (Unit ⊕ Bool))}
    (h1 : ∀ (k : Nat) (e x : Int), W[k]? = some e → V[k]? = some x → 0 ≤ x → x ≤ 8 → body k = some (cond (cond (e != 0) (!bit e x) false) (.done (.inr false)) (.next ((k + 1 : Nat) : Int))))
    (h2 : body W.length = some (.done (.inl ()))) : Bis ((loopC body 0).bind fun | .inl () => some true | .inr o => some o) (meets W V) := by
  refine bis_loop (l := W) (fun k e => e ≠ 0 → ∀ x, V[k]? = some x → bit e x = true) (fun k e he => ?_) h2
  have hk := (List.getElem?_eq_some_iff.1 he).1
  have hl := hV.1
  have hx : V[k]? = some (V[k]'(by omega)) := by simp [show k < V.length by omega]
  have hv : s[k]? = some (s[k]'(by omega)) := by simp [show k < s.length by omega]
  generalize V[k]'(by omega) = x at hx
  have hb := hV.2 k _ x hv hx
  have hb2 := hs.lv.get hv
  refine ⟨!(cond (e != 0) (!bit e x) false), ?_, ?_⟩
  · rw [hx]
    by_cases h0 : e = 0
    · subst h0; simp
    · rw [show (e != 0) = true by simpa using h0]
      simp [h0]
  · rw [h1 k e x he hx (by omega) (by omega)]
    cases cond (e != 0) (!bit e x) false <;> rfl

end Go.Gx.F
