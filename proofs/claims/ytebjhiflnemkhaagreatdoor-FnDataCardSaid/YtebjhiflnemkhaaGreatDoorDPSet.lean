/- Plain laws: sets of levels as texts. -/
import Derived.Test.YtebjhiflnemkhaaGreatDoorDPBit
import Derived.Test.YtebjhiflnemkhaaGreatDoorDPNum
namespace Go.Gx.F
open Go.Gx
set_option linter.all false

/-- the levels of a set -/
def lvs (x : Nat) : List Nat := (List.range 8).filter fun k => Nat.testBit x k

def dgt (d : Nat) : List UInt8 := [UInt8.ofNat (48 + d)]

/-- their text -/
def stx (x : Nat) : List UInt8 := Go.Lib.join ((lvs x).map dgt) [44]

theorem stx_len : ∀ x : Fin 256, (stx x.1).length ≤ 15 ∧ (lvs x.1).length ≤ 8 := by decide +kernel

theorem stx_no : ∀ x : Fin 256, (32 : UInt8) ∉ stx x.1 ∧ (61 : UInt8) ∉ stx x.1 ∧ (10 : UInt8) ∉ stx x.1 := by decide +kernel

theorem lvs_dig : ∀ x : Fin 256, ∀ d ∈ lvs x.1, d < 8 := by decide +kernel

/-! texts put together -/
theorem join_nil (sep : List UInt8) : Go.Lib.join [] sep = [] := rfl
theorem join_cons2 (x y : List UInt8) (r : List (List UInt8)) (sep : List UInt8) : Go.Lib.join (x :: y :: r) sep = x ++ (sep ++ Go.Lib.join (y :: r) sep) := by
  rw [Go.Lib.join_cons, Go.Lib.join_cons]
  simp [Go.Lib.joinTail]

theorem join_snoc (sep : List UInt8) (y : List UInt8) : ∀ (l : List (List UInt8)), l ≠ [] → Go.Lib.join (l ++ [y]) sep = Go.Lib.join l sep ++ (sep ++ y)
  | [], h => absurd rfl h
  | [x], _ => by rw [List.singleton_append, join_cons2, Go.Lib.join_one, Go.Lib.join_one]
  | x :: z :: r, _ => by
    rw [List.cons_append, List.cons_append, join_cons2, join_cons2, ← List.cons_append, join_snoc sep y (z :: r) (by simp)]
    simp [List.append_assoc]

/-- parts without the sign between them come back -/
theorem split_app {c : UInt8} : ∀ {a r : List UInt8}, c ∉ a → splitB c (a ++ c :: r) = a :: splitB c r
  | [], r, _ => by simp [splitB]
  | x :: a, r, h => by
    have hx : (x == c) = false := by rw [beq_eq_false_iff_ne]; exact fun hc => h (by rw [hc]; exact List.mem_cons_self)
    rw [List.cons_append]
    simp only [splitB, hx]
    rw [split_app (fun hc => h (List.mem_cons_of_mem _ hc))]
    rfl

theorem split_no {c : UInt8} : ∀ {a : List UInt8}, c ∉ a → splitB c a = [a]
  | [], _ => rfl
  | x :: a, h => by
    have hx : (x == c) = false := by rw [beq_eq_false_iff_ne]; exact fun hc => h (by rw [hc]; exact List.mem_cons_self)
    simp only [splitB, hx]
    rw [split_no (fun hc => h (List.mem_cons_of_mem _ hc))]
    rfl

theorem split_join {c : UInt8} : ∀ {l : List (List UInt8)}, l ≠ [] → (∀ x ∈ l, c ∉ x) → splitB c (Go.Lib.join l [c]) = l
  | [], h, _ => absurd rfl h
  | [x], _, h => by rw [Go.Lib.join_one, split_no (h x List.mem_cons_self)]
  | x :: y :: r, _, h => by
    rw [join_cons2, List.singleton_append, split_app (h x List.mem_cons_self), split_join (by simp) fun z hz => h z (List.mem_cons_of_mem _ hz)]

/-- the parts of a text hold its signs -/
theorem join_len_le {sep : List UInt8} {B : Nat} : ∀ {l : List (List UInt8)}, (∀ x ∈ l, x.length ≤ B) → (Go.Lib.join l sep).length ≤ l.length * (B + sep.length)
  | [], _ => by simp [join_nil]
  | [x], h => by
    rw [Go.Lib.join_one]
    have := h x List.mem_cons_self
    simp only [List.length_singleton, Nat.one_mul]; omega
  | x :: y :: r, h => by
    have h1 := h x List.mem_cons_self
    have h2 := join_len_le (sep := sep) (l := y :: r) fun z hz => h z (List.mem_cons_of_mem _ hz)
    rw [join_cons2]
    simp only [List.length_append, List.length_cons] at h2 ⊢
    rw [Nat.add_mul (r.length + 1) 1]
    omega

/-! the reference's own way to write a list of digits -/
theorem digits_loop {body : (List UInt8) × Int → Option (Stp ((List UInt8) × Int) (List UInt8))} {l : List Int} {D : List Nat} (hl : l = D.map fun (k : Nat) => (k : Int)) (hD : ∀ d ∈ D, d < 8) (hn : D.length ≤ 8)
    (hb : ∀ out t, body (out, t) = (cond (decide (t < (goLen l))) ((goAt l t).bind fun e_24 => (((cond (decide (0 < t)) ((goCat out ([44] : List UInt8)).bind fun t_26 => some t_26) (some out)) : Option ((List UInt8))).bind fun out_27 => ((spec_l1Num e_24).bind fun t_28 => ((goCat out_27 t_28).bind fun t_29 => some (.next (t_29, (w64 (t + 1)))))))) (some (.done out))))
    {out : List UInt8} (ho : out.length ≤ 1000) : loopC body (out, 0) = some (out ++ Go.Lib.join (D.map dgt) [44]) := by
  subst hl
  suffices h : ∀ (j k : Nat), k + j = D.length → loopC body (out ++ Go.Lib.join ((D.take k).map dgt) [44], (k : Int)) = some (out ++ Go.Lib.join (D.map dgt) [44]) by
    have := h D.length 0 (by omega)
    simpa [join_nil] using this
  intro j
  induction j with
  | zero =>
    intro k hk
    obtain rfl : k = D.length := by omega
    rw [loopC_eq, hb, decide_eq_false (by simp [goLen]), cond_false, List.take_length]
  | succ j ih =>
    intro k hk
    have hk' : k < D.length := by omega
    have hx : D[k]? = some D[k] := by simp [hk']
    have hd := hD _ (List.getElem_mem hk')
    have hat : goAt (D.map fun (k : Nat) => (k : Int)) (k : Int) = some ((D[k] : Nat) : Int) := at_ok (by simp [hk'])
    have hjl := join_len_le (sep := [44]) (B := 1) (l := (D.take k).map dgt) (fun x hx => by
      obtain ⟨d, _, rfl⟩ := List.mem_map.1 hx
      simp [dgt])
    simp only [List.length_map, List.length_take, List.length_singleton] at hjl
    have htk : D.take (k + 1) = D.take k ++ [D[k]] := by rw [List.take_add_one]; simp [hk']
    have step : body (out ++ Go.Lib.join ((D.take k).map dgt) [44], (k : Int)) = some (.next (out ++ Go.Lib.join ((D.take (k + 1)).map dgt) [44], ((k + 1 : Nat) : Int))) := by
      rw [hb, decide_eq_true (by simp [goLen]; omega), cond_true, hat, Option.bind_some, l1Num_ok (by omega), num_small (by omega), wid (by omega) (by omega)]
      by_cases h0 : k = 0
      · subst h0
        rw [decide_eq_false (by omega), cond_false]
        simp only [Option.bind_some]
        rw [cat_ok (by simp [join_nil]; omega)]
        simp only [Option.bind_some, htk]
        simp [join_nil, Go.Lib.join_one, dgt]
      · rw [decide_eq_true (by omega), cond_true, cat_ok (by simp only [List.length_append, List.length_singleton]; omega)]
        simp only [Option.bind_some]
        rw [cat_ok (by simp only [List.length_append, List.length_singleton]; omega), htk, List.map_append, List.map_singleton, join_snoc _ _ _ (fun h => by have := congrArg List.length h; simp only [List.length_map, List.length_take, List.length_nil] at this; omega)]
        simp [dgt, List.append_assoc]
    rw [loopC_eq, step]
    exact ih (k + 1) (by omega)

end Go.Gx.F
