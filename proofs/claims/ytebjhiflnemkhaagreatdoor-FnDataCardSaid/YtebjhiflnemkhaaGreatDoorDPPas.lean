/- Plain laws: edits, the values that pass them, failures of records. -/
import Derived.Test.YtebjhiflnemkhaaGreatDoorDPDrs
import Derived.Test.YtebjhiflnemkhaaGreatDoorDPBit
namespace Go.Gx.F
open Go.Gx
set_option linter.all false

theorem full_le2 {v : impl_Variable} (h : 2 ≤ v.Levels ∧ v.Levels ≤ 8) : 3 ≤ full v ∧ full v ≤ 255 := by
  have h1 : 2 ^ v.Levels.toNat ≤ 2 ^ 8 := Nat.pow_le_pow_right (by omega) (by omega)
  have h2 : 2 ^ 2 ≤ 2 ^ v.Levels.toNat := Nat.pow_le_pow_right (by omega) (by omega)
  unfold full
  omega

noncomputable def frs (s : List impl_Variable) (L : List Nat) : List Int := match L.head? with
  | some i => up (dig (tops s) i)
  | none => []

theorem vals_ok {s : List impl_Variable} (hs : OkS s) {i : Nat} (hi : i < cnt (tops s)) : OkV s (up (dig (tops s) i)) := OkV.of_vx hs.lv (dig_ok hi)

theorem ne_up {s : List impl_Variable} (hs : OkS s) (i : Nat) : goNE (up (dig (tops s) i)) = some () := by
  unfold goNE
  have h1 := hs.1
  have : (up (dig (tops s) i)).length = s.length := by rw [up_len, dig_len, tops_len]
  cases h : up (dig (tops s) i) with
  | nil => rw [h] at this; simp at this; omega
  | cons a r => rfl

theorem take_snoc {α : Type} {l : List α} {k : Nat} {x : α} (h : l[k]? = some x) : l.take (k + 1) = l.take k ++ [x] := by
  rw [List.take_add_one, h]; rfl

theorem sum_sg (f : Nat → Int) : ∀ n, ((List.range n).map f).sum = sg f n
  | 0 => rfl
  | n + 1 => by rw [List.range_succ, List.map_append, List.sum_append, sum_sg f n, sg]; simp

theorem tanyValues {B : Nat} {c : spec_l1Cur} {s : List impl_Variable} (h : Cur B c) (hs : SmallS 8 s) (hB : B ≤ 100000 := by omega) : Tot (spec_l1Cur_anyValues c s) fun r => r.1.length ≤ 9 ∧ Cur (B + 40) r.2 := by
  unfold spec_l1Cur_anyValues
  have hsl := hs.l
  refine tot_bind (tvalues h hs) fun ⟨V, c1⟩ ⟨hV, k1⟩ => ?_
  simp only at hV k1
  refine tot_bind (Q := fun r => (r.1 = true → 0 < V.length) ∧ Cur (B + 20) r.2) (tot_cond (fun h1 => tot_bind (tone k1) fun ⟨y, c4⟩ k4 => tot_some ⟨fun _ => by simpa [goLen] using h1, k4.le (by omega)⟩) fun _ => tot_some ⟨fun h => by simp at h, k1.le (by omega)⟩) fun ⟨y, c2⟩ ⟨hy, k2⟩ => ?_
  simp only at hy k2
  dsimp only
  refine tot_bind (Q := fun o => match o with | .inl r => r.1.length ≤ 9 ∧ Cur (B + 40) r.2 | .inr r => r.1.length ≤ 9 ∧ Cur (B + 40) r.2) (tot_cond (fun h1 => ?_) fun _ => ?_) fun o ho => ?_
  · have h0 := hy h1
    refine tot_bind (tpick k2 (hk := by simp only [goLen]; omega)) fun ⟨x, c3⟩ ⟨x0, x1, _, k3⟩ => ?_
    have hx := x1 (by simp only [goLen]; omega)
    simp only [goLen] at x0 hx k3
    refine tot_bind (tamong k3) fun ⟨z, c4⟩ ⟨_, k4⟩ => ?_
    refine tot_bind (tot_at (Q := fun _ => True) x0 hx fun _ _ _ => trivial) fun _ _ => tot_some ⟨?_, k4.le (by omega)⟩
    show (V.set _ _).length ≤ 9
    rw [List.length_set]; omega
  · refine tot_bind (tone k2) fun ⟨z, c3⟩ k3 => ?_
    simp only at k3
    refine tot_cond (fun _ => ?_) fun _ => tot_some ⟨by simp only; omega, k3.le (by omega)⟩
    rw [goApp_ok (by simp; omega), Option.bind_some]
    exact tot_some ⟨by simp; omega, k3.le (by omega)⟩
  · rcases o with r | r
    · exact tot_some ho
    · exact tot_some ho

theorem tanyData {B : Nat} {c : spec_l1Cur} {s : List impl_Variable} (h : Cur B c) (hs : SmallS 8 s) (hB : B ≤ 50000 := by omega) : Tot (spec_l1Cur_anyData c s) fun r => r.1.length ≤ 50 ∧ ∀ x ∈ r.1, x.Values.length ≤ 100 := by
  unfold spec_l1Cur_anyData
  have hsl := hs.l
  refine tot_bind (tdata h hs ⟨by simp, by simp⟩) fun ⟨D, c1⟩ hD => ?_
  obtain ⟨hDl, hDv, k1⟩ : D.length ≤ 22 ∧ (∀ x ∈ D, x.Values.length ≤ 100) ∧ Cur (B + 1000) c1 := by
    obtain ⟨a, b, c⟩ := hD
    exact ⟨a, fun x hx => by have := b x hx; omega, c.le (by omega)⟩
  refine tot_bind (tpick k1) fun ⟨x, c2⟩ ⟨_, _, _, k2⟩ => ?_
  simp only at k2
  have ret : ∀ {x : Option (List impl_Record × spec_l1Cur)}, Tot x (fun r => r.1.length ≤ 50 ∧ ∀ x ∈ r.1, x.Values.length ≤ 100) → Tot (x.bind fun (p, t) => some (p, t)) (fun r => r.1.length ≤ 50 ∧ ∀ x ∈ r.1, x.Values.length ≤ 100) := fun hx => tot_bind hx fun z hz => tot_some hz
  refine ret (tot_cond (fun _ => ?_) fun _ => ret (tot_cond (fun _ => ret ?_) fun _ => tot_some ⟨by simp only; omega, hDv⟩))
  · refine tot_bind (tamong k2) fun ⟨y, c3⟩ ⟨_, k3⟩ => ?_
    refine tot_bind (tamong k3) fun ⟨z, c4⟩ ⟨_, k4⟩ => ?_
    simp only at k4
    refine tot_bind (tanyValues k4 hs) fun ⟨V, c5⟩ ⟨hV, _⟩ => ?_
    simp only at hV
    rw [goApp_ok (by simp; omega), Option.bind_some]
    refine tot_some ⟨by simp; omega, fun r hr => ?_⟩
    rcases List.mem_append.1 hr with hr | hr
    · exact hDv r hr
    · obtain rfl := List.mem_singleton.1 hr; simp only; omega
  · refine tot_loop (fun z => z.1.length ≤ 42 ∧ (∀ x ∈ z.1, x.Values.length ≤ 100) ∧ ∃ j : Nat, z.1.length = D.length + j ∧ Cur (B + 1002 + 20 * j) z.2) (fun z => 50 - z.1.length) ⟨by simp only; omega, hDv, 0, rfl, k2.le (by omega)⟩ ?_
    rintro ⟨z, c3⟩ ⟨hz, hzv, j, hj, k3⟩
    simp only at hz hzv hj k3
    simp only [spec_l1Cur_anyData_l1]
    refine tot_bind (tpick k3) fun ⟨y, c4⟩ ⟨y0, y1, _, k4⟩ => ?_
    have hy := y1 (by omega)
    simp only at y0 hy k4
    simp only [goLen]
    rw [wid (by omega) (by omega)]
    refine tot_cond (fun hc => ?_) fun _ => tot_some ⟨by simp only; omega, hzv⟩
    have hc' : (z.length : Int) < 40 + y := by simpa using hc
    refine tot_bind (tvalues k4 hs) fun ⟨V, c5⟩ ⟨hV, k5⟩ => ?_
    simp only at hV k5
    rw [goApp_ok (by simp; omega), Option.bind_some]
    refine tot_some ⟨⟨by simp; omega, fun r hr => ?_, j + 1, by simp; omega, k5.le (by omega)⟩, by simp; omega⟩
    rcases List.mem_append.1 hr with hr | hr
    · exact hzv r hr
    · obtain rfl := List.mem_singleton.1 hr; simp only; omega

end Go.Gx.F
