/- Plain laws: the cells of a cube and their indices. -/
import Derived.Test.YtebjhiflnemkhaaGreatDoorDPDr
namespace Go.Gx.F
open Go.Gx
set_option linter.all false

def up (l : List Nat) : List Int := l.map fun (n : Nat) => (n : Int)
theorem up_len (l : List Nat) : (up l).length = l.length := by simp [up]
theorem up_get {l : List Nat} {k x : Nat} (h : l[k]? = some x) : (up l)[k]? = some (x : Int) := by simp [up, h]
theorem up_at {l : List Nat} {k x : Nat} (h : l[k]? = some x) : goAt (up l) (k : Int) = some (x : Int) := at_ok (up_get h)
theorem up_lt {l : List Nat} {k x : Nat} (h : l[k]? = some x) : decide ((k : Int) < goLen (up l)) = true := lt_ok (up_get h)
theorem up_end {l : List Nat} {n : Nat} (h : l.length = n) : decide ((n : Int) < goLen (up l)) = false := by subst h; simp [goLen, up]
theorem up_set (l : List Nat) (k x : Nat) : (up l).set k (x : Int) = up (l.set k x) := by simp [up, List.map_set]
theorem up_inj {a b : List Nat} (h : up a = up b) : a = b := by
  unfold up at h
  exact List.map_inj_right (fun _ _ h => by omega) |>.1 h

theorem drop_cons {γ : Type} {l : List γ} {k : Nat} {x : γ} (h : l[k]? = some x) : l.drop k = x :: l.drop (k + 1) := by
  have hlt := (List.getElem?_eq_some_iff.1 h).1
  have he := (List.getElem?_eq_some_iff.1 h).2
  rw [List.drop_eq_getElem_cons hlt, he]

theorem set_drop_cons {γ : Type} {l : List γ} {k : Nat} {x : γ} (h : k < l.length) : (l.set k x).drop k = x :: l.drop (k + 1) := by
  have e : (l.set k x)[k]? = some x := by simp [h]
  rw [drop_cons e]
  congr 1
  rw [List.drop_set_of_lt (by omega)]

def cnt : List Nat → Nat
  | [] => 1
  | s :: S => (s + 1) * cnt S

def strd : List Nat → List Nat
  | [] => []
  | _ :: S => cnt S :: strd S

def dig : List Nat → Nat → List Nat
  | [], _ => []
  | _ :: S, i => i / cnt S :: dig S (i % cnt S)

def ix : List Nat → List Nat → Nat
  | _ :: S, x :: X => x * cnt S + ix S X
  | _, _ => 0

/-- X is the index of a cell -/
def VX : List Nat → List Nat → Prop
  | [], [] => True
  | s :: S, x :: X => x ≤ s ∧ VX S X
  | _, _ => False

theorem cnt_pos : ∀ S : List Nat, 0 < cnt S
  | [] => Nat.one_pos
  | s :: S => Nat.mul_pos (Nat.succ_pos s) (cnt_pos S)

theorem cnt_le : ∀ {S : List Nat}, (∀ s ∈ S, s ≤ 30) → cnt S ≤ 31 ^ S.length
  | [], _ => Nat.le_refl _
  | s :: S, h => by
    have h1 := h s (by simp)
    have h2 := cnt_le fun x hx => h x (List.mem_cons_of_mem _ hx)
    simp only [cnt, List.length_cons, Nat.pow_succ]
    rw [Nat.mul_comm (31 ^ S.length)]
    exact Nat.mul_le_mul (by omega) h2

theorem strd_len : ∀ S : List Nat, (strd S).length = S.length
  | [] => rfl
  | s :: S => by simp [strd, strd_len S]

theorem dig_len : ∀ (S : List Nat) (i : Nat), (dig S i).length = S.length
  | [], _ => rfl
  | s :: S, i => by simp [dig, dig_len S]

theorem VX.len : ∀ {S X : List Nat}, VX S X → X.length = S.length
  | [], [], _ => rfl
  | s :: S, x :: X, h => by simp [VX.len h.2]
  | [], _ :: _, h => h.elim
  | _ :: _, [], h => h.elim

theorem VX.get : ∀ {S X : List Nat}, VX S X → ∀ {k s x : Nat}, S[k]? = some s → X[k]? = some x → x ≤ s
  | s :: S, x :: X, h, 0, _, _, h1, h2 => by simp at h1 h2; subst h1 h2; exact h.1
  | s :: S, x :: X, h, k + 1, _, _, h1, h2 => VX.get h.2 (by simpa using h1) (by simpa using h2)
  | [], [], _, k, _, _, h1, _ => by simp at h1
  | [], _ :: _, h, _, _, _, _, _ => h.elim
  | _ :: _, [], h, _, _, _, _, _ => h.elim

theorem VX.of_get : ∀ {S X : List Nat}, X.length = S.length → (∀ (k s x : Nat), S[k]? = some s → X[k]? = some x → x ≤ s) → VX S X
  | [], [], _, _ => trivial
  | s :: S, x :: X, hl, h => ⟨h 0 s x rfl rfl, VX.of_get (by simpa using hl) fun k a b h1 h2 => h (k + 1) a b (by simpa using h1) (by simpa using h2)⟩
  | [], _ :: _, hl, _ => by simp at hl
  | _ :: _, [], hl, _ => by simp at hl

theorem VX.set {S X : List Nat} (h : VX S X) {d s k : Nat} (hs : S[d]? = some s) (hk : k ≤ s) : VX S (X.set d k) := by
  refine VX.of_get (by simpa using h.len) fun j a b h1 h2 => ?_
  rw [List.getElem?_set] at h2
  split at h2
  · rename_i hj
    subst hj
    rw [hs] at h1
    split at h2
    · simp at h1 h2; omega
    · cases h2
  · exact h.get h1 h2

theorem dig_ok : ∀ {S : List Nat} {i : Nat}, i < cnt S → VX S (dig S i)
  | [], _, _ => trivial
  | s :: S, i, h => by
    refine ⟨?_, dig_ok (Nat.mod_lt _ (cnt_pos S))⟩
    have : i / cnt S < s + 1 := (Nat.div_lt_iff_lt_mul (cnt_pos S)).2 h
    omega

theorem ix_dig : ∀ {S : List Nat} {i : Nat}, i < cnt S → ix S (dig S i) = i
  | [], i, h => by simp only [cnt] at h; simp only [dig, ix]; omega
  | s :: S, i, h => by
    simp only [dig, ix]
    rw [ix_dig (Nat.mod_lt _ (cnt_pos S))]
    rw [Nat.mul_comm]
    exact Nat.div_add_mod i (cnt S)

theorem ix_lt : ∀ {S X : List Nat}, VX S X → ix S X < cnt S
  | [], [], _ => Nat.one_pos
  | s :: S, x :: X, h => by
    have h1 := ix_lt h.2
    have h2 := h.1
    simp only [ix, cnt]
    calc x * cnt S + ix S X < x * cnt S + cnt S := by omega
      _ = (x + 1) * cnt S := by rw [Nat.add_mul, Nat.one_mul]
      _ ≤ (s + 1) * cnt S := Nat.mul_le_mul_right _ (by omega)
  | [], _ :: _, h => h.elim
  | _ :: _, [], h => h.elim

theorem dig_ix : ∀ {S X : List Nat}, VX S X → dig S (ix S X) = X
  | [], [], _ => rfl
  | s :: S, x :: X, h => by
    have h1 := ix_lt h.2
    simp only [ix, dig]
    rw [Nat.add_comm, Nat.add_mul_div_right _ _ (cnt_pos S), Nat.div_eq_of_lt h1, Nat.zero_add, Nat.add_mul_mod_self_right, Nat.mod_eq_of_lt h1, dig_ix h.2]
  | [], _ :: _, h => h.elim
  | _ :: _, [], h => h.elim

theorem ix_inj {S X Y : List Nat} (hx : VX S X) (hy : VX S Y) (h : ix S X = ix S Y) : X = Y := by
  rw [← dig_ix hx, ← dig_ix hy, h]

theorem strd_get : ∀ {S : List Nat} {d s : Nat}, S[d]? = some s → (strd S)[d]? = some (cnt (S.drop (d + 1)))
  | a :: S, 0, s, h => by simp [strd]
  | a :: S, d + 1, s, h => by simpa [strd] using strd_get (S := S) (d := d) (by simpa using h)
  | [], _, _, h => by simp at h

theorem strd_drop : ∀ (S : List Nat) (d : Nat), (strd S).drop d = strd (S.drop d)
  | S, 0 => rfl
  | [], d + 1 => rfl
  | a :: S, d + 1 => by simpa [strd] using strd_drop S d

theorem cnt_drop {S : List Nat} {d s : Nat} (h : S[d]? = some s) : cnt (S.drop d) = (s + 1) * cnt (S.drop (d + 1)) := by
  rw [drop_cons h]; rfl

theorem cnt_drop_le {S : List Nat} (h : ∀ s ∈ S, s ≤ 30) (hl : S.length ≤ 4) (d : Nat) : cnt (S.drop d) ≤ 923521 := by
  have h1 := cnt_le (S := S.drop d) fun s hs => h s (List.mem_of_mem_drop hs)
  have h2 : (S.drop d).length ≤ 4 := by simp; omega
  have : 31 ^ (S.drop d).length ≤ 31 ^ 4 := Nat.pow_le_pow_right (by omega) h2
  omega

theorem ix_set : ∀ {S X : List Nat} {d x y : Nat}, X.length = S.length → X[d]? = some x → ix S (X.set d y) + x * cnt (S.drop (d + 1)) = ix S X + y * cnt (S.drop (d + 1))
  | s :: S, a :: X, 0, x, y, _, h => by
    simp at h; subst h
    simp only [List.set_cons_zero, ix, List.drop_succ_cons, List.drop_zero]
    omega
  | s :: S, a :: X, d + 1, x, y, hl, h => by
    have := ix_set (S := S) (X := X) (d := d) (x := x) (y := y) (by simpa using hl) (by simpa using h)
    simp only [List.set_cons_succ, ix, List.drop_succ_cons]
    omega
  | [], [], _, _, _, _, h => by simp at h
  | [], _ :: _, _, _, _, hl, _ => by simp at hl
  | _ :: _, [], _, _, _, hl, _ => by simp at hl

theorem dig_get : ∀ {S : List Nat} {i k s : Nat}, i < cnt S → S[k]? = some s → (dig S i)[k]? = some (i % cnt (S.drop k) / cnt (S.drop (k + 1)))
  | a :: S, i, 0, s, hi, h => by
    simp only [dig, List.getElem?_cons_zero, List.drop_zero, List.drop_succ_cons]
    rw [Nat.mod_eq_of_lt hi]
  | a :: S, i, k + 1, s, hi, h => by
    have hk : S[k]? = some s := by simpa using h
    have := dig_get (S := S) (i := i % cnt S) (Nat.mod_lt _ (cnt_pos S)) hk
    simp only [dig, List.getElem?_cons_succ, List.drop_succ_cons]
    rw [this]
    congr 2
    have hd : cnt (S.drop k) ∣ cnt S := by
      clear this hk h hi
      induction k generalizing S with
      | zero => exact Nat.dvd_refl _
      | succ k ih =>
        cases S with
        | nil => exact Nat.dvd_refl _
        | cons b S => exact Nat.dvd_trans (by simpa using ih (S := S)) ⟨b + 1, by simp only [cnt]; rw [Nat.mul_comm]⟩
    exact Nat.mod_mod_of_dvd _ hd
  | [], _, _, _, _, h => by simp at h

/-- valid sizes -/
structure VS (S : List Nat) : Prop where
  l : S.length ≤ 4
  b : ∀ s ∈ S, 1 ≤ s ∧ s ≤ 30

theorem VS.le {S : List Nat} (h : VS S) (d : Nat) : cnt (S.drop d) ≤ 923521 := cnt_drop_le (fun s hs => (h.b s hs).2) h.l d
theorem VS.get {S : List Nat} (h : VS S) {d s : Nat} (hs : S[d]? = some s) : 1 ≤ s ∧ s ≤ 30 := h.b s (List.mem_of_getElem? hs)

theorem ix_drop {S X : List Nat} {k s x : Nat} (hs : S[k]? = some s) (hx : X[k]? = some x) : ix (S.drop k) (X.drop k) = x * cnt (S.drop (k + 1)) + ix (S.drop (k + 1)) (X.drop (k + 1)) := by
  rw [drop_cons hs, drop_cons hx]; rfl

theorem VX.drop {S X : List Nat} (h : VX S X) (k : Nat) : VX (S.drop k) (X.drop k) := by
  refine VX.of_get (by simp [h.len]) fun j a b h1 h2 => ?_
  rw [List.getElem?_drop] at h1 h2
  exact h.get h1 h2

end Go.Gx.F
