/- Plain laws: surveys and tables. -/
import Derived.Test.YtebjhiflnemkhaaGreatDoorDPSch
import Derived.Test.YtebjhiflnemkhaaGreatDoorDPAre
namespace Go.Gx.F
open Go.Gx
set_option linter.all false

/-! ## records -/
def OkR (s : List impl_Variable) (r : impl_Record) : Prop := (0 ≤ r.Area ∧ r.Area ≤ 29) ∧ (0 ≤ r.House ∧ r.House ≤ 999) ∧ OkV s r.Values

/-- no list is too long -/
def TameR (r : impl_Record) : Prop := r.Values.length ≤ 1000000

theorem OkS.lvl {s : List impl_Variable} (h : OkS s) : ∀ v ∈ s, -1000 ≤ v.Levels ∧ v.Levels ≤ 1000000 := fun v hv => by
  have := h.lv.b v hv
  omega

theorem isRecord_bis {s : List impl_Variable} {r : impl_Record} (hr : TameR r) : Bis (impl_isRecord s r) (OkR s r) := by
  unfold impl_isRecord OkR
  refine bis_ret (bis_iff (bis_and (b := decide (0 ≤ r.Area)) (Q := 0 ≤ r.Area) (by simp) fun _ => bis_and (b := decide (r.Area ≤ 29)) (Q := r.Area ≤ 29) (by simp) fun _ => bis_and (b := decide (0 ≤ r.House)) (Q := 0 ≤ r.House) (by simp) fun _ => bis_and (b := decide (r.House ≤ 999)) (Q := r.House ≤ 999) (by simp) fun _ => bis_ret (areValues_bis hr)) ?_)
  simp only [and_assoc]

theorem rGood_bis {s : List impl_Variable} {r : impl_Record} (hs : OkS s) (hr : TameR r) : Bis (spec_rGood s r) (OkR s r) := by
  unfold spec_rGood OkR
  simp only [lIn_eq, Option.bind_some]
  exact bis_ret (bis_and (by simp) fun _ => bis_and (by simp) fun _ => bis_ret (sFits_bis hr hs.lvl))

def OkD (s : List impl_Variable) (l : List impl_Record) : Prop := l.length ≤ 40 ∧ ∀ r ∈ l, OkR s r
def TameD (l : List impl_Record) : Prop := l.length ≤ 1000000 ∧ ∀ r ∈ l, TameR r

theorem isData_bis {s : List impl_Variable} {l : List impl_Record} (hl : TameD l) : Bis (impl_isData s l) (OkD s l) := by
  unfold impl_isData OkD
  have hl1 := hl.1
  by_cases h : l.length ≤ 40
  · rw [show decide (40 < goLen l) = false by simp [goLen]; omega, cond_false]
    refine bis_iff (bis_loop (l := l) (fun _ r => OkR s r) (fun k r hr => ?_) (by simp only [impl_isData_l1, lt_end, cond_false])) (by rw [all_mem_iff]; simp [h])
    obtain ⟨b, e, hb⟩ := isRecord_bis (s := s) (hl.2 r (List.mem_of_getElem? hr))
    refine ⟨b, hb, ?_⟩
    simp only [impl_isData_l1, lt_ok hr, at_ok hr, cond_true, Option.bind_some]
    rw [e, nx_ok hr (by omega)]
    cases b <;> rfl
  · rw [show decide (40 < goLen l) = true by simp [goLen]; omega]
    exact ⟨false, rfl, by simp [h]⟩

theorem dGood_bis {s : List impl_Variable} {l : List impl_Record} (hs : OkS s) (hl : TameD l) : Bis (spec_dGood s l) (OkD s l) := by
  unfold spec_dGood OkD
  have hl1 := hl.1
  obtain ⟨b, hb, e⟩ := loop_find (l := l) (body := spec_dGood_l1 s l) (fun _ r => ¬ OkR s r) false (fun k r hr => by
    obtain ⟨b, e, hb⟩ := rGood_bis hs (hl.2 r (List.mem_of_getElem? hr))
    refine ⟨!b, by rw [← hb]; cases b <;> simp, ?_⟩
    simp only [spec_dGood_l1, lt_ok hr, at_ok hr, cond_true, Option.bind_some]
    rw [e, nx_ok hr (by omega)]
    cases b <;> rfl) (by simp only [spec_dGood_l1, lt_end, cond_false])
  rw [e]
  have hall : b = false ↔ ∀ r ∈ l, OkR s r := by
    rw [← all_mem_iff]
    constructor
    · intro h k x hx
      exact Classical.byContradiction fun hn => by have := hb.2 ⟨k, x, hx, hn⟩; rw [h] at this; cases this
    · intro h
      cases b with
      | false => rfl
      | true => obtain ⟨k, x, hx, hn⟩ := hb.1 rfl; exact absurd (h k x hx) hn
  cases b with
  | true => exact ⟨false, rfl, by
      simp only [Bool.false_eq_true, false_iff]
      rintro ⟨_, h⟩
      have := hall.2 h
      cases this⟩
  | false => exact ⟨decide (goLen l ≤ 40), rfl, by
      have := hall.1 rfl
      rw [decide_eq_true_eq]
      exact ⟨fun h => ⟨by simp only [goLen] at h; omega, this⟩, fun h => by simp only [goLen]; omega⟩⟩

/-! ## the parts of a table -/
def RiseV (n : Nat) (l : List Int) : Prop := ∀ (k : Nat) (v : Int), l[k]? = some v → (0 ≤ v ∧ v < n) ∧ (0 < k → ∀ u, l[k - 1]? = some u → u < v)

theorem RiseV.ge {n : Nat} {l : List Int} (h : RiseV n l) : ∀ (k : Nat) (v : Int), l[k]? = some v → (k : Int) ≤ v
  | 0, v, hv => (h 0 v hv).1.1
  | k + 1, v, hv => by
    have hlt := (List.getElem?_eq_some_iff.1 hv).1
    have hu : l[k]? = some (l[k]'(by omega)) := by simp [show k < l.length by omega]
    have h1 := h.ge k _ hu
    have h2 := (h (k + 1) v hv).2 (by omega) _ hu
    omega

theorem RiseV.len {n : Nat} {l : List Int} (h : RiseV n l) : l.length ≤ n := by
  by_cases h0 : l.length = 0
  · omega
  · have hu : l[l.length - 1]? = some (l[l.length - 1]'(by omega)) := by simp [show l.length - 1 < l.length by omega]
    have h1 := h.ge _ _ hu
    have h2 := (h _ _ hu).1.2
    omega

/-! conditions -/
theorem shl_eq {L : Int} (h0 : 0 ≤ L) (h : L ≤ 60) : goShl .i64 1 L = some ((2 ^ L.toNat : Nat) : Int) := by
  obtain ⟨n, rfl⟩ := Int.eq_ofNat_of_zero_le h0
  have hp : 2 ^ n ≤ 2 ^ 60 := Nat.pow_le_pow_right (by omega) (by omega)
  unfold goShl
  rw [decide_eq_false (show ¬ (n : Int) < 0 by omega), cond_false, show (n : Int).toNat = n by omega, Nat.min_eq_left (show n ≤ IntKind.bits .i64 from by show n ≤ 64; omega), Int.one_mul]
  congr 1
  rw [show ((2 : Int) ^ n) = ((2 ^ n : Nat) : Int) by simp]
  exact wnat (by omega)

def full (v : impl_Variable) : Int := ((2 ^ v.Levels.toNat : Nat) : Int) - 1

theorem full_b {v : impl_Variable} (h : 0 ≤ v.Levels ∧ v.Levels ≤ 60) : 0 ≤ full v ∧ full v ≤ 1152921504606846975 := by
  have hp : 2 ^ v.Levels.toNat ≤ 2 ^ 60 := Nat.pow_le_pow_right (by omega) (by omega)
  have h1 : 1 ≤ 2 ^ v.Levels.toNat := Nat.one_le_two_pow
  unfold full
  omega

def OkW (s : List impl_Variable) (W : List Int) : Prop := W.length = s.length ∧ ∀ (k : Nat) (v : impl_Variable) (e : Int), s[k]? = some v → W[k]? = some e → 0 ≤ e ∧ e ≤ full v

end Go.Gx.F
