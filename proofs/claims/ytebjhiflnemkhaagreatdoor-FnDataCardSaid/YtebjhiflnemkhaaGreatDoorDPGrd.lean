/- Plain laws: FnGroupedData. -/
import Derived.Test.YtebjhiflnemkhaaGreatDoorDPPas
import Derived.Test.YtebjhiflnemkhaaGreatDoorDPGpc
namespace Go.Gx.F
open Go.Gx
set_option linter.all false

theorem OkS.tame {s : List impl_Variable} (h : OkS s) : TameS s := ⟨by have := h.2.1; omega, fun v hv => by
  obtain ⟨k, hk⟩ := List.getElem?_of_mem hv
  have := (h.2.2 k v hk).1.1.2.1
  omega⟩

/-! a list that is turned from the front on -/
section
variable {α : Type} {new old : List α} {k : Nat} {y : α}
def mx (k : Nat) (new old : List α) : List α := new.take k ++ old.drop k
theorem mx0 : mx 0 new old = old := by simp [mx]
theorem mx_end (h : old.length = new.length) : mx new.length new old = new := by
  unfold mx
  rw [List.take_length, List.drop_eq_nil_of_le (by omega), List.append_nil]
theorem mx_len (h : old.length = new.length) (hk : k ≤ new.length) : (mx k new old).length = new.length := by simp [mx]; omega
theorem mx_at (h : old.length = new.length) (hk : k ≤ new.length) : (mx k new old)[k]? = old[k]? := by
  unfold mx
  rw [List.getElem?_append_right (by simp; omega), List.getElem?_drop, List.length_take, Nat.min_eq_left hk]
  congr 1; omega
theorem mx_set (h : old.length = new.length) (hy : new[k]? = some y) : (mx k new old).set k y = mx (k + 1) new old := by
  obtain ⟨hk, e⟩ := List.getElem?_eq_some_iff.1 hy
  apply List.ext_getElem?
  intro j
  unfold mx
  by_cases hj : j = k
  · subst hj
    rw [List.getElem?_set_self (by simp; omega), List.getElem?_append_left (by simp; omega), List.getElem?_take_of_lt (by omega), hy]
  · rw [List.getElem?_set_ne (by omega)]
    by_cases h2 : j < k
    · rw [List.getElem?_append_left (by simp; omega), List.getElem?_append_left (by simp; omega), List.getElem?_take_of_lt h2, List.getElem?_take_of_lt (by omega)]
    · rw [List.getElem?_append_right (by simp; omega), List.getElem?_append_right (by simp; omega), List.getElem?_drop, List.getElem?_drop, List.length_take, List.length_take, Nat.min_eq_left (by omega), Nat.min_eq_left (by omega)]
      congr 1; omega
end

/-- rows one by one behind each other -/
theorem app_loop {α β τ : Type} (l : List α) (f : α → β) (body : List β × Int → Option (Stp (List β × Int) (List β)))
    (h1 : ∀ (k : Nat) (x : α) (out : List β), l[k]? = some x → out.length = k → body (out, (k : Int)) = some (.next (out ++ [f x], ((k + 1 : Nat) : Int)))) (h2 : ∀ out, body (out, (l.length : Int)) = some (.done out)) :
    loopC body ([], 0) = some (l.map f) := by
  refine tot_eq (tot_loop (fun s => ∃ k : Nat, k ≤ l.length ∧ s = ((l.take k).map f, (k : Int))) (fun s => l.length - s.2.toNat) ⟨0, by omega, by simp⟩ ?_)
  rintro s ⟨k, hk, rfl⟩
  by_cases hlt : k < l.length
  · rw [h1 k l[k] _ (by simp [hlt]) (by simp; omega)]
    refine tot_some ⟨⟨k + 1, by omega, ?_⟩, by simp only; omega⟩
    rw [List.take_succ, List.map_append, List.getElem?_eq_getElem hlt]; rfl
  · obtain rfl : k = l.length := by omega
    rw [h2]
    exact tot_some (by simp)

theorem copyRec_eq {r : impl_Record} (h : r.Values.length ≤ 1000) : impl_copyRecord r = some r := by
  unfold impl_copyRecord
  rw [clone_eq (by omega)]; rfl

theorem rOwn_eq2 {r : impl_Record} (h : r.Values.length ≤ 1000) : spec_rOwn r = some r := by
  unfold spec_rOwn
  rw [own_eq (by omega)]; rfl

theorem copyRecs_eq {l : List impl_Record} (hl : l.length ≤ 1000) (h : ∀ r ∈ l, r.Values.length ≤ 1000) : impl_copyRecords l = some l := by
  unfold impl_copyRecords
  rw [show goLen l = ((l.length : Nat) : Int) from rfl, goMake_ok (by omega) (by omega), Option.bind_some]
  have h := loop_map (l := l) id (⟨0, 0, []⟩ : impl_Record) (impl_copyRecords_l1 l) (fun k r out hr ho => by
    have hk := (List.getElem?_eq_some_iff.1 hr).1
    have e : goAt out (k : Int) = some out[k] := at_ok (by simp [ho, hk])
    simp only [impl_copyRecords_l1, lt_ok hr, at_ok hr, cond_true, Option.bind_some, copyRec_eq (h r (List.mem_of_getElem? hr)), e, nx_ok hr (show l.length ≤ 9223372036854775807 by omega), goSet, Int.toNat_natCast, id]) (fun out => by simp only [impl_copyRecords_l1, lt_end, cond_false])
  rw [h]
  simp

theorem inputs {s : List impl_Variable} {l : List impl_Record} (ht : TameS s) (hl : TameD l) : ∃ b c : Bool, impl_IsSchema s = some b ∧ spec_sGood s = some b ∧ (b = true ↔ OkS s) ∧ impl_isData s l = some c ∧ (c = true ↔ OkD s l) ∧ spec_dInput s l = some (b && c) := by
  obtain ⟨b, e1, e2, hb⟩ := schemas ht
  obtain ⟨c, e3, hc⟩ := isData_bis (s := s) hl
  refine ⟨b, c, e1, e2, hb, e3, hc, ?_⟩
  unfold spec_dInput
  rw [e2]
  cases b with
  | false => rfl
  | true =>
    obtain ⟨d, e4, hd⟩ := dGood_bis (hb.1 rfl) hl
    obtain rfl : d = c := by cases d <;> cases c <;> simp_all
    rw [Option.bind_some, cond_true, e4]; rfl

def wout (l : List impl_Record) (i t : Nat) : List impl_Record := (l.take t).take i ++ (l.take t).drop (i + 1)

theorem qRecord_same {r : impl_Record} (h : r.Values.length ≤ 1000) : laws_qRecord r r = some true := by
  unfold laws_qRecord
  simp only [beq_self_eq_true, cond_true, qInts_same (show r.Values.length ≤ 1048576 by omega), Option.bind_some]

theorem qData_same {l : List impl_Record} (hl : l.length ≤ 1000) (hT : ∀ r ∈ l, r.Values.length ≤ 1000) : laws_qData l l = some true := by
  unfold laws_qData
  rw [bne_self_eq_false, cond_false]
  have h := loop_all (l := l) (fun _ => true) (laws_qData_l1 l l) (fun k x hx => by
    simp only [laws_qData_l1, lt_ok hx, cond_true, at_ok hx, Option.bind_some, qRecord_same (hT x (List.mem_of_getElem? hx)), Bool.not_true, cond_false, nx_ok hx (show l.length ≤ 9223372036854775807 by omega), if_true]) (fun _ => by simp only [laws_qData_l1, lt_end, cond_false])
  rw [h]; simp

theorem tanyData2 {B : Nat} {c : spec_l1Cur} {s : List impl_Variable} (h : Cur B c) (hs : SmallS 8 s) (hB : B ≤ 50000 := by omega) : Tot (spec_l1Cur_anyData c s) fun r => r.1.length ≤ 50 ∧ (∀ x ∈ r.1, x.Values.length ≤ 100) ∧ Cur (B + 2000) r.2 := by
  unfold spec_l1Cur_anyData
  have hsl := hs.l
  refine tot_bind (tdata h hs ⟨by simp, by simp⟩) fun ⟨D, c1⟩ hD => ?_
  obtain ⟨hDl, hDv, k1⟩ : D.length ≤ 22 ∧ (∀ x ∈ D, x.Values.length ≤ 100) ∧ Cur (B + 1000) c1 := by
    obtain ⟨a, b, c⟩ := hD
    exact ⟨a, fun x hx => by have := b x hx; omega, c.le (by omega)⟩
  refine tot_bind (tpick k1) fun ⟨x, c2⟩ ⟨_, _, _, k2⟩ => ?_
  simp only at k2
  have ret : ∀ {x : Option (List impl_Record × spec_l1Cur)}, Tot x (fun r => r.1.length ≤ 50 ∧ (∀ x ∈ r.1, x.Values.length ≤ 100) ∧ Cur (B + 2000) r.2) → Tot (x.bind fun (p, t) => some (p, t)) (fun r => r.1.length ≤ 50 ∧ (∀ x ∈ r.1, x.Values.length ≤ 100) ∧ Cur (B + 2000) r.2) := fun hx => tot_bind hx fun z hz => tot_some hz
  refine ret (tot_cond (fun _ => ?_) fun _ => ret (tot_cond (fun _ => ret ?_) fun _ => tot_some ⟨by simp only; omega, hDv, k2.le (by omega)⟩))
  · refine tot_bind (tamong k2) fun ⟨y, c3⟩ ⟨_, k3⟩ => ?_
    refine tot_bind (tamong k3) fun ⟨z, c4⟩ ⟨_, k4⟩ => ?_
    simp only at k4
    refine tot_bind (tanyValues k4 hs) fun ⟨V, c5⟩ ⟨hV, k5⟩ => ?_
    simp only at hV k5
    rw [goApp_ok (by simp; omega), Option.bind_some]
    refine tot_some ⟨by simp; omega, fun r hr => ?_, k5.le (by omega)⟩
    rcases List.mem_append.1 hr with hr | hr
    · exact hDv r hr
    · obtain rfl := List.mem_singleton.1 hr; simp only; omega
  · refine tot_loop (fun z => z.1.length ≤ 42 ∧ (∀ x ∈ z.1, x.Values.length ≤ 100) ∧ ∃ j : Nat, z.1.length = D.length + j ∧ Cur (B + 1002 + 20 * j) z.2) (fun z => 50 - z.1.length) ⟨by simp only; omega, hDv, 0, rfl, k2.le (by omega)⟩ ?_
    rintro ⟨z, c3⟩ ⟨hz, hzv, j, hj, k3⟩
    simp only at hz hzv hj k3
    simp only [spec_l1Cur_anyData_l1]
    refine tot_bind (tpick k3) fun ⟨y, c4⟩ ⟨y0, y1, _, k4⟩ => ?_
    have hy := y1 (by omega)
    simp only at y0 hy k4
    simp only [goLen]
    rw [wid (by omega) (by omega)]
    refine tot_cond (fun hc => ?_) fun _ => tot_some ⟨by simp only; omega, hzv, k4.le (by omega)⟩
    have hc' : (z.length : Int) < 40 + y := by simpa using hc
    refine tot_bind (tvalues k4 hs) fun ⟨V, c5⟩ ⟨hV, k5⟩ => ?_
    simp only at hV k5
    rw [goApp_ok (by simp; omega), Option.bind_some]
    refine tot_some ⟨⟨by simp; omega, fun r hr => ?_, j + 1, by simp; omega, k5.le (by omega)⟩, by simp; omega⟩
    rcases List.mem_append.1 hr with hr | hr
    · exact hzv r hr
    · obtain rfl := List.mem_singleton.1 hr; simp only; omega

end Go.Gx.F
