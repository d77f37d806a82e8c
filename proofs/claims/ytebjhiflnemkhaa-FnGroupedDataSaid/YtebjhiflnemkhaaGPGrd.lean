/- Plain laws: FnGroupedData. -/
import Derived.Test.YtebjhiflnemkhaaGPPas
import Derived.Test.YtebjhiflnemkhaaGPGpc
namespace Go.Gx.F
open Go.Gx
set_option linter.all false

theorem tgrouping {B : Nat} {c : spec_l1Cur} {s : List impl_Variable} (h : Cur B c) (hs : SmallS 8 s) (hB : B ≤ 100000 := by omega) : Tot (spec_l1Cur_grouping c s) fun r => r.1.Groups.length ≤ 100 ∧ Cur (B + 60) r.2 := by
  unfold spec_l1Cur_grouping
  have hsl := hs.l
  refine tot_bind (Q := fun r => r.1.Groups.length ≤ 9 ∧ Cur (B + 40) r.2) (tot_cond (fun h1 => ?_) fun _ => tot_some ⟨by simp, h.le (by omega)⟩) fun ⟨g, c1⟩ ⟨hg, k1⟩ => ?_
  · have h1' : 0 < s.length := by simpa [goLen] using h1
    refine tot_bind (tpick h (hk := by simp only [goLen]; omega)) fun ⟨x, c1⟩ ⟨x0, x1, _, k1⟩ => ?_
    have hx := x1 (by simp only [goLen]; omega)
    simp only [goLen] at x0 hx k1
    obtain ⟨i, rfl⟩ := Int.eq_ofNat_of_zero_le x0
    have hi : i < s.length := by omega
    have hv : s[i]? = some s[i] := by simp [hi]
    have hb := hs.b _ (List.getElem_mem hi)
    rw [at_ok hv, Option.bind_some]
    refine tot_bind (Q := fun r => r.1 ≤ 9 ∧ Cur (B + 4) r.2) (tot_cond (fun _ => ?_) fun _ => tot_some ⟨by simp, k1.le (by omega)⟩) fun ⟨k, c2⟩ ⟨hk, k2⟩ => ?_
    · refine tot_bind (tpick k1) fun ⟨y, c2⟩ ⟨y0, y1, _, k2⟩ => ?_
      have hy := y1 (by omega)
      simp only at y0 hy
      simp only
      rw [wid (n := 2 + y) (by omega) (by omega), lLeast_eq, Option.bind_some]
      exact tot_some ⟨by simp only; omega, k2⟩
    · simp only at hk k2
      refine tot_bind (Q := fun r => r.2.Groups.length ≤ 9 ∧ Cur (B + 40) r.1) (tot_loop (fun t => ∃ j : Nat, t.1 = (j : Int) ∧ (j : Int) ≤ s[i].Levels ∧ t.2.2.Var = (i : Int) ∧ t.2.2.Groups.length = j ∧ Cur (B + 4 + 2 * j) t.2.1) (fun t => 10 - t.1.toNat) ⟨0, rfl, by omega, rfl, rfl, k2⟩ ?_) fun r hr => tot_some hr
      rintro ⟨_, c3, g3⟩ ⟨j, rfl, hj, hgv, hgl, k3⟩
      simp only at hj hgv hgl k3
      simp only [spec_l1Cur_grouping_l1]
      rw [hgv, at_ok hv, Option.bind_some]
      refine tot_cond (fun hc => ?_) fun _ => tot_some ⟨by simp only; omega, k3.le (by omega)⟩
      have hc' : (j : Int) < s[i].Levels := by simpa using hc
      refine tot_bind (Q := fun r => r.2.Var = (i : Int) ∧ r.2.Groups.length = j + 1 ∧ Cur (B + 4 + 2 * (j + 1)) r.1) (tot_cond (fun _ => ?_) fun _ => ?_) fun ⟨c4, g4⟩ ⟨q1, q2, q3⟩ => tot_some ⟨⟨j + 1, by simp only; rw [wid (by omega) (by omega)]; omega, by omega, q1, q2, q3⟩, by simp only; rw [wid (by omega) (by omega)]; omega⟩
      · rw [goApp_ok (by simp; omega), Option.bind_some]
        exact tot_some ⟨rfl, by simp; omega, k3.le (by omega)⟩
      · refine tot_bind (Q := fun r => r.2.Var = (i : Int) ∧ r.2.Groups.length = j + 1 ∧ Cur (B + 4 + 2 * (j + 1)) r.1) ?_ fun r hr => tot_some hr
        refine tot_bind (tpick k3) fun ⟨z, c4⟩ ⟨_, _, _, k4⟩ => ?_
        rw [goApp_ok (by simp; omega), Option.bind_some]
        exact tot_some ⟨rfl, by simp; omega, k4.le (by omega)⟩
  · simp only at hg k1
    refine tot_bind (tpick k1) fun ⟨y, c2⟩ ⟨_, _, _, k2⟩ => ?_
    simp only at k2 ⊢
    refine tot_bind (Q := fun r => r.2.Groups.length ≤ 100 ∧ Cur (B + 60) r.1) (tot_cond (fun _ => ?_) fun _ => ?_) fun r hr => tot_some hr
    · exact tot_bind (tamong k2) fun ⟨z, c3⟩ ⟨_, k3⟩ => tot_some ⟨by simp only; omega, k3.le (by omega)⟩
    · refine tot_bind (Q := fun r => r.Groups.length ≤ 100) (tot_cond (fun _ => ?_) fun _ => ?_) fun r hr => tot_some ⟨hr, k2.le (by omega)⟩
      · rw [goApp_ok (by simp; omega), Option.bind_some]
        exact tot_some (by simp; omega)
      · refine tot_bind (Q := fun r => r.Groups.length ≤ 100) (tot_cond (fun _ => ?_) fun _ => tot_some (by omega)) fun r hr => tot_some hr
        refine tot_bind (Q := fun r => r.Groups.length ≤ 100) (tot_loop (fun t => ∃ j : Nat, t.1 = (j : Int) ∧ j ≤ g.Groups.length ∧ t.2.Groups.length = g.Groups.length) (fun t => 20 - t.1.toNat) ⟨0, rfl, by omega, rfl⟩ ?_) fun r hr => tot_some hr
        rintro ⟨_, g3⟩ ⟨j, rfl, hj, hgl⟩
        simp only at hgl
        simp only [spec_l1Cur_grouping_l2]
        refine tot_cond (fun hc => ?_) fun _ => tot_some (by omega)
        have hc' : (j : Int) < goLen g.Groups := by simpa using hc
        simp only [goLen] at hc'
        refine tot_bind (tot_at (Q := fun _ => True) (by omega) (by omega) fun _ _ _ => trivial) fun _ _ => ?_
        refine tot_bind (tot_rem (Q := fun _ => True) (by omega) trivial) fun _ _ => ?_
        refine tot_bind (tot_at (Q := fun _ => True) (by omega) (by omega) fun _ _ _ => trivial) fun _ _ => ?_
        exact tot_some ⟨⟨j + 1, by simp only; rw [wid (by omega) (by omega)]; omega, by omega, by simp [hgl]⟩, by simp only; rw [wid (by omega) (by omega)]; omega⟩

def gset (s : List impl_Variable) (g : impl_Grouping) (n : Int) : List impl_Variable := match s[g.Var.toNat]? with
  | some v => s.set g.Var.toNat ⟨v.Name, n⟩
  | none => s

theorem group_schema {s : List impl_Variable} {g : impl_Grouping} {n : Int} (hS : OkS s) (hg : OkG s g n) : OkS (gset s g n) ∧ (gset s g n).length = s.length := by
  obtain ⟨g1, g2, g3, g4, g5, g6⟩ := hg
  have hi : g.Var.toNat < s.length := by omega
  have hv : s[g.Var.toNat]? = some s[g.Var.toNat] := by simp [hi]
  unfold gset
  rw [hv]
  simp only
  obtain ⟨s1, s2, s3⟩ := hS
  have hname : ∀ (k : Nat) (v : impl_Variable), (s.set g.Var.toNat ⟨s[g.Var.toNat].Name, n⟩)[k]? = some v → ∃ w, s[k]? = some w ∧ w.Name = v.Name ∧ (v.Levels = w.Levels ∨ v.Levels = n) := by
    intro k v hk
    by_cases he : k = g.Var.toNat
    · subst he
      rw [List.getElem?_set_self hi] at hk
      obtain rfl := Option.some.inj hk
      exact ⟨_, hv, rfl, .inr rfl⟩
    · rw [List.getElem?_set_ne (by omega)] at hk
      exact ⟨v, hk, rfl, .inl rfl⟩
  refine ⟨⟨by rw [List.length_set]; exact s1, by rw [List.length_set]; exact s2, fun k v hk => ?_⟩, by rw [List.length_set]⟩
  obtain ⟨w, hw, hn, hl⟩ := hname k v hk
  obtain ⟨⟨a1, a2, a3⟩, a4⟩ := s3 k w hw
  refine ⟨⟨by rw [← hn]; exact a1, by omega, by omega⟩, ?_⟩
  intro j u hj hu
  obtain ⟨u', hu', hun, _⟩ := hname j u hu
  have := a4 j u' hj hu'
  rw [← hn, ← hun]
  exact this

theorem OkS.tame {s : List impl_Variable} (h : OkS s) : TameS s := ⟨by have := h.2.1; omega, fun v hv => by
  obtain ⟨k, hk⟩ := List.getElem?_of_mem hv
  have := (h.2.2 k v hk).1.1.2.1
  omega⟩

/-! a list that is turned from the front on -/
section
variable {α : Type} {new old : List α} {k : Nat} {y : α}
def mx (k : Nat) (new old : List α) : List α := new.take k ++ old.drop k
theorem mx0 : mx 0 new old = old := by simp [mx]
theorem mx_end (h : old.length = new.length) : mx new.length new old = new := by
  unfold mx
  rw [List.take_length, List.drop_eq_nil_of_le (by omega), List.append_nil]
theorem mx_len (h : old.length = new.length) (hk : k ≤ new.length) : (mx k new old).length = new.length := by simp [mx]; omega
theorem mx_at (h : old.length = new.length) (hk : k ≤ new.length) : (mx k new old)[k]? = old[k]? := by
  unfold mx
  rw [List.getElem?_append_right (by simp; omega), List.getElem?_drop, List.length_take, Nat.min_eq_left hk]
  congr 1; omega
theorem mx_set (h : old.length = new.length) (hy : new[k]? = some y) : (mx k new old).set k y = mx (k + 1) new old := by
  obtain ⟨hk, e⟩ := List.getElem?_eq_some_iff.1 hy
  apply List.ext_getElem?
  intro j
  unfold mx
  by_cases hj : j = k
  · subst hj
    rw [List.getElem?_set_self (by simp; omega), List.getElem?_append_left (by simp; omega), List.getElem?_take_of_lt (by omega), hy]
  · rw [List.getElem?_set_ne (by omega)]
    by_cases h2 : j < k
    · rw [List.getElem?_append_left (by simp; omega), List.getElem?_append_left (by simp; omega), List.getElem?_take_of_lt h2, List.getElem?_take_of_lt (by omega)]
    · rw [List.getElem?_append_right (by simp; omega), List.getElem?_append_right (by simp; omega), List.getElem?_drop, List.getElem?_drop, List.length_take, List.length_take, Nat.min_eq_left (by omega), Nat.min_eq_left (by omega)]
      congr 1; omega
end

/-- rows one by one behind each other -/
theorem app_loop {α β τ : Type} (l : List α) (f : α → β) (body : List β × Int → Option (Stp (List β × Int) (List β)))
    (h1 : ∀ (k : Nat) (x : α) (out : List β), l[k]? = some x → out.length = k → body (out, (k : Int)) = some (.next (out ++ [f x], ((k + 1 : Nat) : Int)))) (h2 : ∀ out, body (out, (l.length : Int)) = some (.done out)) :
    loopC body ([], 0) = some (l.map f) := by
  refine tot_eq (tot_loop (fun s => ∃ k : Nat, k ≤ l.length ∧ s = ((l.take k).map f, (k : Int))) (fun s => l.length - s.2.toNat) ⟨0, by omega, by simp⟩ ?_)
  rintro s ⟨k, hk, rfl⟩
  by_cases hlt : k < l.length
  · rw [h1 k l[k] _ (by simp [hlt]) (by simp; omega)]
    refine tot_some ⟨⟨k + 1, by omega, ?_⟩, by simp only; omega⟩
    rw [List.take_succ, List.map_append, List.getElem?_eq_getElem hlt]; rfl
  · obtain rfl : k = l.length := by omega
    rw [h2]
    exact tot_some (by simp)

def gval (g : impl_Grouping) (V : List Int) : Int := g.Groups.getD (V.getD g.Var.toNat 0).toNat 0
def grec (g : impl_Grouping) (r : impl_Record) : impl_Record := ⟨r.Area, r.House, r.Values.set g.Var.toNat (gval g r.Values)⟩

structure GOk (s : List impl_Variable) (g : impl_Grouping) (n : Int) (V : List Int) : Prop where
  a1 : ∃ e, goAt V g.Var = some e ∧ goAt g.Groups e = some (gval g V)
  ok : OkV (gset s g n) (V.set g.Var.toNat (gval g V))

theorem gok_of {s : List impl_Variable} {g : impl_Grouping} {n : Int} {V : List Int} (hG : OkG s g n) (hV : OkV s V) : GOk s g n V := by
  obtain ⟨g1, g2, g3, g4, g5, g6⟩ := hG
  have hi : g.Var.toNat < s.length := by omega
  have hv : s[g.Var.toNat]? = some s[g.Var.toNat] := by simp [hi]
  have hVl := hV.1
  have hiV : g.Var.toNat < V.length := by omega
  have hx : V[g.Var.toNat]? = some V[g.Var.toNat] := by simp [hiV]
  have hxb := hV.2 _ _ _ hv hx
  have hgl := g5 _ hv
  have hgi : (V[g.Var.toNat]).toNat < g.Groups.length := by omega
  have hgx : g.Groups[(V[g.Var.toNat]).toNat]? = some (g.Groups[(V[g.Var.toNat]).toNat]) := by simp [hgi]
  have hgv : gval g V = g.Groups[(V[g.Var.toNat]).toNat] := by
    unfold gval
    simp [hiV, hgi]
  refine ⟨⟨V[g.Var.toNat], ?_, ?_⟩, ?_⟩
  · unfold goAt
    rw [decide_eq_true g3, cond_true]; exact hx
  · unfold goAt
    rw [decide_eq_true hxb.1, cond_true, hgv]; exact hgx
  · have hyb := g6 _ (List.getElem_mem hgi)
    rw [← hgv] at hyb
    unfold gset
    rw [hv]
    refine ⟨by simp [hVl], fun k v x hk hx' => ?_⟩
    simp only at hk
    by_cases he : k = g.Var.toNat
    · subst he
      rw [List.getElem?_set_self hi] at hk
      rw [List.getElem?_set_self hiV] at hx'
      obtain rfl := Option.some.inj hk
      obtain rfl := Option.some.inj hx'
      exact hyb
    · rw [List.getElem?_set_ne (by omega)] at hk
      rw [List.getElem?_set_ne (by omega)] at hx'
      exact hV.2 k v x hk hx'

theorem copyRec_eq {r : impl_Record} (h : r.Values.length ≤ 1000) : impl_copyRecord r = some r := by
  unfold impl_copyRecord
  rw [clone_eq (by omega)]; rfl

theorem rOwn_eq2 {r : impl_Record} (h : r.Values.length ≤ 1000) : spec_rOwn r = some r := by
  unfold spec_rOwn
  rw [own_eq (by omega)]; rfl

theorem copyRecs_eq {l : List impl_Record} (hl : l.length ≤ 1000) (h : ∀ r ∈ l, r.Values.length ≤ 1000) : impl_copyRecords l = some l := by
  unfold impl_copyRecords
  rw [show goLen l = ((l.length : Nat) : Int) from rfl, goMake_ok (by omega) (by omega), Option.bind_some]
  have h := loop_map (l := l) id (⟨0, 0, []⟩ : impl_Record) (impl_copyRecords_l1 l) (fun k r out hr ho => by
    have hk := (List.getElem?_eq_some_iff.1 hr).1
    have e : goAt out (k : Int) = some out[k] := at_ok (by simp [ho, hk])
    simp only [impl_copyRecords_l1, lt_ok hr, at_ok hr, cond_true, Option.bind_some, copyRec_eq (h r (List.mem_of_getElem? hr)), e, nx_ok hr (show l.length ≤ 9223372036854775807 by omega), goSet, Int.toNat_natCast, id]) (fun out => by simp only [impl_copyRecords_l1, lt_end, cond_false])
  rw [h]
  simp

theorem gI_eq {s : List impl_Variable} {g : impl_Grouping} {n : Int} {l : List impl_Record} (hG : OkG s g n) (hD : OkD s l) : loopC (impl_GroupData_l1 g (goLen l)) (l, 0) = some (l.map (grec g)) := by
  have hl := hD.1
  have hM : (l.map (grec g)).length = l.length := by simp
  refine tot_eq (tot_loop (fun t => ∃ k : Nat, k ≤ l.length ∧ t = (mx k (l.map (grec g)) l, (k : Int))) (fun t => l.length - t.2.toNat) ⟨0, by omega, by rw [mx0]; rfl⟩ ?_)
  rintro t ⟨k, hk, rfl⟩
  by_cases hlt : k < l.length
  · have hv : l[k]? = some l[k] := by simp [hlt]
    have ha : goAt (mx k (l.map (grec g)) l) (k : Int) = some l[k] := at_ok (by rw [mx_at hM.symm (by omega), hv])
    have hset : (mx k (l.map (grec g)) l).set k (grec g l[k]) = mx (k + 1) (l.map (grec g)) l := mx_set hM.symm (by simp [hv])
    obtain ⟨⟨e, e1, e2⟩, _⟩ := gok_of hG (hD.2 _ (List.getElem_mem hlt)).2.2
    simp only [impl_GroupData_l1, lt_ok hv, cond_true, ha, Option.bind_some, e1, e2, nx_ok hv (show l.length ≤ 9223372036854775807 by omega), goSet, Int.toNat_natCast]
    refine tot_some ⟨⟨k + 1, by omega, ?_⟩, by simp only; omega⟩
    rw [← hset]; rfl
  · obtain rfl : k = l.length := by omega
    simp only [impl_GroupData_l1, lt_end, cond_false]
    refine tot_some ?_
    simp only
    have := mx_end hM.symm
    rw [hM] at this
    rw [this]

theorem gS_eq {s : List impl_Variable} {g : impl_Grouping} {n : Int} {l : List impl_Record} (hG : OkG s g n) (hD : OkD s l) (hT : ∀ r ∈ l, r.Values.length ≤ 1000) : loopC (spec_GroupData_l1 g l) (([] : List impl_Record), 0) = some (l.map (grec g)) := by
  have hl := hD.1
  refine app_loop (τ := Unit) l (grec g) _ (fun k r out hr ho => ?_) fun out => by simp only [spec_GroupData_l1, lt_end, cond_false]
  have hk := (List.getElem?_eq_some_iff.1 hr).1
  obtain ⟨⟨e, e1, e2⟩, _⟩ := gok_of hG (hD.2 _ (List.mem_of_getElem? hr)).2.2
  simp only [spec_GroupData_l1, lt_ok hr, at_ok hr, cond_true, Option.bind_some, rOwn_eq2 (hT r (List.mem_of_getElem? hr)), e1, e2, nx_ok hr (show l.length ≤ 9223372036854775807 by omega)]
  rw [goApp_ok (by simp; omega), Option.bind_some]
  rfl

theorem inputs {s : List impl_Variable} {l : List impl_Record} (ht : TameS s) (hl : TameD l) : ∃ b c : Bool, impl_IsSchema s = some b ∧ spec_sGood s = some b ∧ (b = true ↔ OkS s) ∧ impl_isData s l = some c ∧ (c = true ↔ OkD s l) ∧ spec_dInput s l = some (b && c) := by
  obtain ⟨b, e1, e2, hb⟩ := schemas ht
  obtain ⟨c, e3, hc⟩ := isData_bis (s := s) hl
  refine ⟨b, c, e1, e2, hb, e3, hc, ?_⟩
  unfold spec_dInput
  rw [e2]
  cases b with
  | false => rfl
  | true =>
    obtain ⟨d, e4, hd⟩ := dGood_bis (hb.1 rfl) hl
    obtain rfl : d = c := by cases d <;> cases c <;> simp_all
    rw [Option.bind_some, cond_true, e4]; rfl

theorem gd_same {s : List impl_Variable} {g : impl_Grouping} {l : List impl_Record} (ht : TameS s) (hl : TameD l) (hg : g.Groups.length ≤ 100) (hT : ∀ r ∈ l, r.Values.length ≤ 1000) :
    (impl_GroupData s g l = some ([], false) ∧ spec_GroupData s g l = some ([], false)) ∨
    ∃ x, impl_GroupData s g l = some (l.map (grec g), true) ∧ spec_GroupData s g l = some (l.map (grec g), true) ∧ impl_GroupSchema s g = some (x, true) ∧ impl_IsData x (l.map (grec g)) = some (true, true) ∧ l.length ≤ 40 := by
  obtain ⟨b, c, e1, e2, hb, e3, hc, e4⟩ := inputs ht hl
  obtain ⟨n, e5, e6, hn⟩ := groups_same (s := s) (g := g) ht.1 (by omega)
  unfold impl_GroupData spec_GroupData impl_GroupSchema
  rw [e1, e3, e4, e5, e6]
  simp only [Option.bind_some]
  cases b with
  | false => exact .inl ⟨rfl, rfl⟩
  | true =>
    cases c with
    | false =>
      refine .inl ⟨?_, rfl⟩
      cases (n == 0) <;> rfl
    | true =>
      rcases hn with rfl | hG
      · exact .inl ⟨rfl, rfl⟩
      · have hS := hb.1 rfl
        have hD := hc.1 rfl
        have hn0 : (n == 0) = false := by rw [beq_eq_false_iff_ne]; have := hG.1; omega
        obtain ⟨g1, g2, g3, g4, g5, g6⟩ := id hG
        have hi : g.Var.toNat < s.length := by omega
        have hv : s[g.Var.toNat]? = some s[g.Var.toNat] := by simp [hi]
        have hcl : slices_Clone_impl_Variable_impl_Variable s = some s := by
          unfold slices_Clone_impl_Variable_impl_Variable
          have := ht.1
          rw [goApp_ok (by simp; omega)]; rfl
        have hat3 : goAt s g.Var = some s[g.Var.toNat] := by
          unfold goAt
          rw [decide_eq_true g3, cond_true]; exact hv
        have hl40 := hD.1
        simp only [Bool.not_true, cond_false, Option.bind_some, hn0, Bool.and_self, copyRecs_eq (show l.length ≤ 1000 by omega) hT, gI_eq hG hD, gS_eq hG hD hT, hcl, hat3]
        have hgs : goSet s g.Var (⟨s[g.Var.toNat].Name, n⟩ : impl_Variable) = gset s g n := by
          unfold gset
          rw [hv]
        rw [hgs]
        obtain ⟨hS2, hl2⟩ := group_schema hS hG
        refine .inr ⟨gset s g n, by first | trivial | rfl, by first | trivial | rfl, by first | trivial | rfl, ?_, hl40⟩
        obtain ⟨b2, q1, hb2⟩ := IsSchema_bis hS2.tame
        obtain rfl := hb2.2 hS2
        have hTD : TameD (l.map (grec g)) := ⟨by simp; omega, fun r hr => by
          obtain ⟨q, hq, rfl⟩ := List.mem_map.1 hr
          have := hl.2 q hq
          unfold TameR grec at *
          simpa using this⟩
        obtain ⟨c2, q2, hc2⟩ := isData_bis (s := gset s g n) hTD
        obtain rfl := hc2.2 ⟨by simp; omega, fun r hr => by
          obtain ⟨q, hq, rfl⟩ := List.mem_map.1 hr
          have hq2 := hD.2 q hq
          exact ⟨hq2.1, hq2.2.1, (gok_of hG hq2.2.2).ok⟩⟩
        unfold impl_IsData
        rw [q1, q2]; rfl

def wout (l : List impl_Record) (i t : Nat) : List impl_Record := (l.take t).take i ++ (l.take t).drop (i + 1)

theorem without_eq {l : List impl_Record} {i : Nat} (hl : l.length ≤ 1000) (hi : i < l.length) (hT : ∀ r ∈ l, r.Values.length ≤ 1000) : spec_dWithout l (i : Int) = some (l.take i ++ l.drop (i + 1)) := by
  unfold spec_dWithout
  have key : loopC (spec_dWithout_l1 l (i : Int)) (([] : List impl_Record), 0) = some (wout l i l.length) := by
    refine tot_eq (tot_loop (fun t => ∃ k : Nat, k ≤ l.length ∧ t = (wout l i k, (k : Int))) (fun t => l.length - t.2.toNat) ⟨0, by omega, by simp [wout]⟩ ?_)
    rintro t ⟨k, hk, rfl⟩
    by_cases hlt : k < l.length
    · have hv : l[k]? = some l[k] := by simp [hlt]
      have hn : l.take (k + 1) = l.take k ++ [l[k]] := by rw [List.take_succ, hv]; rfl
      have hlen : (l.take k).length = k := by rw [List.length_take]; omega
      simp only [spec_dWithout_l1, lt_ok hv, at_ok hv, cond_true, Option.bind_some, nx_ok hv (show l.length ≤ 9223372036854775807 by omega), rOwn_eq2 (hT _ (List.getElem_mem hlt))]
      by_cases hki : k = i
      · subst hki
        rw [bne_self_eq_false, cond_false, Option.bind_some]
        refine tot_some ⟨⟨k + 1, by omega, ?_⟩, by simp only; omega⟩
        unfold wout
        rw [hn, List.take_append_of_le_length (by omega), List.drop_eq_nil_of_le (as := l.take k) (by omega), List.drop_eq_nil_of_le (as := l.take k ++ [l[k]]) (by simp; omega)]
      · rw [show ((k : Int) != (i : Int)) = true by simp; omega, cond_true, goApp_ok (by unfold wout; simp; omega), Option.bind_some, Option.bind_some]
        refine tot_some ⟨⟨k + 1, by omega, ?_⟩, by simp only; omega⟩
        unfold wout
        rw [hn]
        by_cases hlt2 : k < i
        · rw [List.take_of_length_le (l := l.take k) (by omega), List.take_of_length_le (l := l.take k ++ [l[k]]) (by simp; omega), List.drop_eq_nil_of_le (as := l.take k) (by omega), List.drop_eq_nil_of_le (as := l.take k ++ [l[k]]) (by simp; omega)]
          simp
        · rw [List.take_append_of_le_length (by omega), List.drop_append_of_le_length (by omega), List.append_assoc]
    · obtain rfl : k = l.length := by omega
      simp only [spec_dWithout_l1, lt_end, cond_false]
      exact tot_some rfl
  rw [key, Option.bind_some]
  unfold wout
  rw [List.take_length]

theorem del_eq {l : List impl_Record} {i : Nat} (hl : l.length ≤ 1000) (hi : i < l.length) : slices_Delete_impl_Record_impl_Record l (i : Int) (w64 ((i : Int) + 1)) = some (l.take i ++ l.drop (i + 1)) := by
  unfold slices_Delete_impl_Record_impl_Record
  rw [wid (by omega) (by omega)]
  have e3 : ∃ r, goSub3 l (i : Int) ((i : Int) + 1) (goLen l) = some r := by
    unfold goSub3
    rw [decide_eq_true (show (0 : Int) ≤ i by omega), decide_eq_true (show (i : Int) ≤ (i : Int) + 1 by omega), decide_eq_true (show (i : Int) + 1 ≤ goLen l by simp only [goLen]; omega), decide_eq_true (show goLen l ≤ (l.length : Int) by simp only [goLen]; omega)]
    exact ⟨_, rfl⟩
  obtain ⟨r3, e3⟩ := e3
  rw [e3, Option.bind_some, show ((i : Int) == (i : Int) + 1) = false by rw [beq_eq_false_iff_ne]; omega, cond_false]
  have e4 : goSub l 0 (i : Int) = some (l.take i) := tot_eq (tot_sub (by omega) (by omega) (by omega) (by simp))
  have e5 : ∃ r, goSub l ((i : Int) + 1) (goLen l) = some r := by
    obtain ⟨r, e, _⟩ := tot_sub (l := l) (i := (i : Int) + 1) (j := goLen l) (Q := fun _ => True) (by omega) (by simp only [goLen]; omega) (by simp only [goLen]; omega) trivial
    exact ⟨r, e⟩
  obtain ⟨r5, e5⟩ := e5
  have e6 : goDel l (i : Int) ((i : Int) + 1) = some (l.take i ++ l.drop (i + 1)) := by
    unfold goDel
    rw [decide_eq_true (show (0 : Int) ≤ i by omega), decide_eq_true (show (i : Int) < (i : Int) + 1 by omega), decide_eq_true (show (i : Int) + 1 ≤ (l.length : Int) by omega)]
    rw [show ((i : Int) + 1).toNat = i + 1 by omega, Int.toNat_natCast]; rfl
  rw [e4, e5, e6]
  simp only [Option.bind_some]
  unfold goLe
  rw [decide_eq_true (by simp only [goLen, List.length_append, List.length_take, List.length_drop]; omega), cond_true, Option.bind_some]

theorem rem_same {s : List impl_Variable} {l : List impl_Record} (i : Int) (ht : TameS s) (hl : TameD l) (hl2 : l.length ≤ 1000) (hT : ∀ r ∈ l, r.Values.length ≤ 1000) :
    (impl_RemoveRecord s l i = some ([], false) ∧ spec_RemoveRecord s l i = some ([], false)) ∨
    ∃ y : List impl_Record, impl_RemoveRecord s l i = some (y, true) ∧ spec_RemoveRecord s l i = some (y, true) ∧ y.length + 1 = l.length ∧ ∀ r ∈ y, r ∈ l := by
  obtain ⟨b, c, e1, e2, hb, e3, hc, e4⟩ := inputs ht hl
  unfold impl_RemoveRecord spec_RemoveRecord
  rw [e1, e3, e4]
  simp only [Option.bind_some, lIn_eq]
  cases b with
  | false => exact .inl ⟨rfl, rfl⟩
  | true =>
    cases c with
    | false => exact .inl ⟨rfl, rfl⟩
    | true =>
      simp only [Bool.not_true, cond_false, Bool.and_self]
      rw [wid (n := goLen l - 1) (by simp only [goLen]; omega) (by simp only [goLen]; omega)]
      by_cases h1 : 0 ≤ i ∧ i ≤ goLen l - 1
      · rw [decide_eq_true h1, decide_eq_false (show ¬ i < 0 by omega), decide_eq_false (show ¬ goLen l ≤ i by omega)]
        obtain ⟨k, rfl⟩ := Int.eq_ofNat_of_zero_le h1.1
        have hk : k < l.length := by have := h1.2; simp only [goLen] at this; omega
        simp only [cond_false, Option.bind_some, Bool.not_true, copyRecs_eq hl2 hT, del_eq hl2 hk, without_eq hl2 hk hT]
        refine .inr ⟨_, rfl, rfl, by simp; omega, fun r hr => ?_⟩
        rcases List.mem_append.1 hr with hr | hr
        · exact List.mem_of_mem_take hr
        · exact List.mem_of_mem_drop hr
      · rw [decide_eq_false h1]
        by_cases h2 : i < 0
        · rw [decide_eq_true h2]; exact .inl ⟨rfl, rfl⟩
        · rw [decide_eq_false h2, decide_eq_true (show goLen l ≤ i by omega)]; exact .inl ⟨rfl, rfl⟩

theorem rep_same {s : List impl_Variable} {r : impl_Record} {V : List Int} (ht : TameS s) (hr : TameR r) (hV : V.length ≤ 1000) (hlv : ∀ v ∈ s, -1000 ≤ v.Levels ∧ v.Levels ≤ 1000000) :
    ∃ (w : impl_Record) (b : Bool), impl_ReplaceValues s r V = some (w, b) ∧ spec_ReplaceValues s r V = some (w, b) ∧ w.Values.length ≤ 1000 := by
  obtain ⟨b, e1, e2, hb⟩ := schemas ht
  obtain ⟨c, e3, hc⟩ := isRecord_bis (s := s) hr
  obtain ⟨d, e5, hd⟩ := areValues_bis (s := s) (l := V) (by omega)
  obtain ⟨d2, e6, hd2⟩ := sFits_bis (s := s) (l := V) (by omega) hlv
  obtain rfl : d = d2 := by cases d <;> cases d2 <;> simp_all
  unfold impl_ReplaceValues spec_ReplaceValues
  rw [e1, e2, e3, e5, e6]
  simp only [Option.bind_some]
  cases b with
  | false => exact ⟨_, _, rfl, rfl, by simp⟩
  | true =>
    obtain ⟨c2, e4, hc2⟩ := rGood_bis (hb.1 rfl) hr
    obtain rfl : c = c2 := by cases c <;> cases c2 <;> simp_all
    rw [e4]
    simp only [Option.bind_some, Bool.not_true, cond_false]
    cases c with
    | false => exact ⟨_, _, rfl, rfl, by simp⟩
    | true =>
      cases d with
      | false => exact ⟨_, _, rfl, rfl, by simp⟩
      | true =>
        simp only [Bool.not_true, cond_false, clone_eq (show V.length ≤ 1000000 by omega), own_eq (show V.length ≤ 1000000 by omega), Option.bind_some]
        exact ⟨_, _, rfl, rfl, hV⟩

theorem qRecord_same {r : impl_Record} (h : r.Values.length ≤ 1000) : laws_qRecord r r = some true := by
  unfold laws_qRecord
  simp only [beq_self_eq_true, cond_true, qInts_same (show r.Values.length ≤ 1048576 by omega), Option.bind_some]

theorem qData_same {l : List impl_Record} (hl : l.length ≤ 1000) (hT : ∀ r ∈ l, r.Values.length ≤ 1000) : laws_qData l l = some true := by
  unfold laws_qData
  rw [bne_self_eq_false, cond_false]
  have h := loop_all (l := l) (fun _ => true) (laws_qData_l1 l l) (fun k x hx => by
    simp only [laws_qData_l1, lt_ok hx, cond_true, at_ok hx, Option.bind_some, qRecord_same (hT x (List.mem_of_getElem? hx)), Bool.not_true, cond_false, nx_ok hx (show l.length ≤ 9223372036854775807 by omega), if_true]) (fun _ => by simp only [laws_qData_l1, lt_end, cond_false])
  rw [h]; simp

theorem tDrawGD {code : List (K .u8)} (ho : ∀ x ∈ code, Rng.ok x) : Tot (spec_DrawGroupData code) fun r => SmallS 8 r.1 ∧ r.2.1.Groups.length ≤ 100 ∧ r.2.2.length ≤ 50 ∧ ∀ x ∈ r.2.2, x.Values.length ≤ 100 := by
  unfold spec_DrawGroupData
  refine tot_bind (tanySchema (cur0 ho)) fun ⟨s, c1⟩ ⟨hs, k1⟩ => ?_
  simp only at hs k1
  refine tot_bind (tgrouping k1 hs) fun ⟨g, c2⟩ ⟨hg, k2⟩ => ?_
  simp only at hg k2
  exact tot_bind (tanyData k2 hs) fun ⟨l, c3⟩ ⟨h1, h2⟩ => tot_some ⟨hs, hg, h1, h2⟩

theorem tanyData2 {B : Nat} {c : spec_l1Cur} {s : List impl_Variable} (h : Cur B c) (hs : SmallS 8 s) (hB : B ≤ 50000 := by omega) : Tot (spec_l1Cur_anyData c s) fun r => r.1.length ≤ 50 ∧ (∀ x ∈ r.1, x.Values.length ≤ 100) ∧ Cur (B + 2000) r.2 := by
  unfold spec_l1Cur_anyData
  have hsl := hs.l
  refine tot_bind (tdata h hs ⟨by simp, by simp⟩) fun ⟨D, c1⟩ hD => ?_
  obtain ⟨hDl, hDv, k1⟩ : D.length ≤ 22 ∧ (∀ x ∈ D, x.Values.length ≤ 100) ∧ Cur (B + 1000) c1 := by
    obtain ⟨a, b, c⟩ := hD
    exact ⟨a, fun x hx => by have := b x hx; omega, c.le (by omega)⟩
  refine tot_bind (tpick k1) fun ⟨x, c2⟩ ⟨_, _, _, k2⟩ => ?_
  simp only at k2
  have ret : ∀ {x : Option (List impl_Record × spec_l1Cur)}, Tot x (fun r => r.1.length ≤ 50 ∧ (∀ x ∈ r.1, x.Values.length ≤ 100) ∧ Cur (B + 2000) r.2) → Tot (x.bind fun (p, t) => some (p, t)) (fun r => r.1.length ≤ 50 ∧ (∀ x ∈ r.1, x.Values.length ≤ 100) ∧ Cur (B + 2000) r.2) := fun hx => tot_bind hx fun z hz => tot_some hz
  refine ret (tot_cond (fun _ => ?_) fun _ => ret (tot_cond (fun _ => ret ?_) fun _ => tot_some ⟨by simp only; omega, hDv, k2.le (by omega)⟩))
  · refine tot_bind (tamong k2) fun ⟨y, c3⟩ ⟨_, k3⟩ => ?_
    refine tot_bind (tamong k3) fun ⟨z, c4⟩ ⟨_, k4⟩ => ?_
    simp only at k4
    refine tot_bind (tanyValues k4 hs) fun ⟨V, c5⟩ ⟨hV, k5⟩ => ?_
    simp only at hV k5
    rw [goApp_ok (by simp; omega), Option.bind_some]
    refine tot_some ⟨by simp; omega, fun r hr => ?_, k5.le (by omega)⟩
    rcases List.mem_append.1 hr with hr | hr
    · exact hDv r hr
    · obtain rfl := List.mem_singleton.1 hr; simp only; omega
  · refine tot_loop (fun z => z.1.length ≤ 42 ∧ (∀ x ∈ z.1, x.Values.length ≤ 100) ∧ ∃ j : Nat, z.1.length = D.length + j ∧ Cur (B + 1002 + 20 * j) z.2) (fun z => 50 - z.1.length) ⟨by simp only; omega, hDv, 0, rfl, k2.le (by omega)⟩ ?_
    rintro ⟨z, c3⟩ ⟨hz, hzv, j, hj, k3⟩
    simp only at hz hzv hj k3
    simp only [spec_l1Cur_anyData_l1]
    refine tot_bind (tpick k3) fun ⟨y, c4⟩ ⟨y0, y1, _, k4⟩ => ?_
    have hy := y1 (by omega)
    simp only at y0 hy k4
    simp only [goLen]
    rw [wid (by omega) (by omega)]
    refine tot_cond (fun hc => ?_) fun _ => tot_some ⟨by simp only; omega, hzv, k4.le (by omega)⟩
    have hc' : (z.length : Int) < 40 + y := by simpa using hc
    refine tot_bind (tvalues k4 hs) fun ⟨V, c5⟩ ⟨hV, k5⟩ => ?_
    simp only at hV k5
    rw [goApp_ok (by simp; omega), Option.bind_some]
    refine tot_some ⟨⟨by simp; omega, fun r hr => ?_, j + 1, by simp; omega, k5.le (by omega)⟩, by simp; omega⟩
    rcases List.mem_append.1 hr with hr | hr
    · exact hzv r hr
    · obtain rfl := List.mem_singleton.1 hr; simp only; omega

theorem tDrawRR {code : List (K .u8)} (ho : ∀ x ∈ code, Rng.ok x) : Tot (spec_DrawRemoveRecord code) fun r => SmallS 8 r.1 ∧ r.2.1.length ≤ 50 ∧ ∀ x ∈ r.2.1, x.Values.length ≤ 100 := by
  unfold spec_DrawRemoveRecord
  refine tot_bind (tanySchema (cur0 ho)) fun ⟨s, c1⟩ ⟨hs, k1⟩ => ?_
  simp only at hs k1
  refine tot_bind (tanyData2 k1 hs) fun ⟨l, c2⟩ ⟨h1, h2, k2⟩ => ?_
  simp only at h1 h2 k2
  simp only
  rw [wid (n := goLen l + 2) (by simp only [goLen]; omega) (by simp only [goLen]; omega)]
  exact tot_bind (tpick k2 (hk := by simp only [goLen]; omega)) fun ⟨x, c3⟩ _ => tot_some ⟨hs, h1, h2⟩

theorem tDrawIR {code : List (K .u8)} (ho : ∀ x ∈ code, Rng.ok x) : Tot (spec_DrawIsRecord code) fun r => SmallS 8 r.1 ∧ r.2.Values.length ≤ 100 := by
  unfold spec_DrawIsRecord
  refine tot_bind (tanySchema (cur0 ho)) fun ⟨s, c1⟩ ⟨hs, k1⟩ => ?_
  simp only at hs k1
  refine tot_bind (trecord k1 hs ⟨by simp, by simp⟩) fun ⟨r, c2⟩ ⟨hr, k2⟩ => ?_
  simp only at hr k2
  refine tot_bind (tpick k2) fun ⟨x, c3⟩ ⟨_, _, _, k3⟩ => ?_
  simp only at k3 ⊢
  refine tot_bind (Q := fun r => r.Values.length ≤ 100) ?_ fun r hr => tot_some ⟨hs, hr⟩
  refine tot_cond (fun _ => tot_bind (tamong k3) fun _ _ => tot_some (by simp only; omega)) fun _ => ?_
  refine tot_bind (Q := fun r => r.Values.length ≤ 100) ?_ fun r hr => tot_some hr
  refine tot_cond (fun _ => tot_bind (tamong k3) fun _ _ => tot_some (by simp only; omega)) fun _ => ?_
  refine tot_bind (Q := fun r => r.Values.length ≤ 100) ?_ fun r hr => tot_some hr
  exact tot_cond (fun _ => tot_bind (tanyValues k3 hs) fun ⟨V, c4⟩ ⟨hV, _⟩ => tot_some (by simp only at hV ⊢; omega)) fun _ => tot_some (by omega)

theorem tDrawRV {code : List (K .u8)} (ho : ∀ x ∈ code, Rng.ok x) : Tot (spec_DrawReplaceValues code) fun r => SmallS 8 r.1 ∧ r.2.1.Values.length ≤ 100 ∧ r.2.2.length ≤ 9 := by
  unfold spec_DrawReplaceValues
  refine tot_bind (tDrawIR ho) fun ⟨s, r⟩ ⟨hs, hr⟩ => ?_
  simp only at hs hr ⊢
  exact tot_bind (tanyValues (cur0 ho) hs) fun ⟨V, c4⟩ ⟨hV, _⟩ => tot_some ⟨hs, hr, hV⟩

theorem laws_FnGroupedData_true (a b : List (K .u8)) (o1 : Rng.ok a) (o2 : Rng.ok b) : laws_FnGroupedData a b = some true := by
  refine tot_eq ?_
  unfold laws_FnGroupedData
  refine tot_cond (fun _ => tot_some rfl) fun _ => ?_
  refine tot_bind (tDrawGD o1.2) fun ⟨s, g, l⟩ ⟨hs, hg, hl, hlv⟩ => ?_
  simp only at hs hg hl hlv ⊢
  have hT : ∀ r ∈ l, r.Values.length ≤ 1000 := fun r hr => by have := hlv r hr; omega
  have hTD : TameD l := ⟨by omega, fun r hr => by have := hlv r hr; unfold TameR; omega⟩
  have hrest : ∀ (x x' : List impl_Record) (ok : Bool), x = x' → x.length ≤ 1000 → (∀ r ∈ x, r.Values.length ≤ 1000) → ∀ (T : Option Bool), T = some true → Tot ((spec_DrawRemoveRecord b).bind fun t_17 => ((impl_RemoveRecord t_17.1 t_17.2.1 t_17.2.2).bind fun t_22 => ((spec_RemoveRecord t_17.1 t_17.2.1 t_17.2.2).bind fun t_25 => ((spec_DrawReplaceValues b).bind fun t_28 => ((impl_ReplaceValues t_28.1 t_28.2.1 t_28.2.2).bind fun t_34 => ((spec_ReplaceValues t_28.1 t_28.2.1 t_28.2.2).bind fun t_39 => (((cond (ok != ok) (some true) ((laws_qData x x').bind fun t_44 => (cond (!t_44) (some true) (cond (t_22.2 != t_25.2) (some true) ((laws_qData t_22.1 t_25.1).bind fun t_46 => (cond (!t_46) (some true) (cond (t_34.2 != t_39.2) (some true) ((laws_qRecord t_34.1 t_39.1).bind fun t_48 => some (!t_48))))))))) : Option (Bool)).bind fun t_50 => (cond t_50 (some false) (((cond t_22.2 (some ((goLen t_22.1) != (w64 ((goLen t_17.2.1) - 1)))) (some false)) : Option (Bool)).bind fun t_51 => (cond t_51 (some false) T)))))))))) (fun z => z = true) := by
    rintro x _ ok rfl hx hxT T hTt
    refine tot_bind (tDrawRR o2.2) fun ⟨h, d, i⟩ ⟨hh, hd, hdv⟩ => ?_
    simp only at hh hd hdv ⊢
    have hdT : ∀ r ∈ d, r.Values.length ≤ 1000 := fun r hr => by have := hdv r hr; omega
    have hdTD : TameD d := ⟨by omega, fun r hr => by have := hdv r hr; unfold TameR; omega⟩
    have hrv : ∀ (y : List impl_Record) (one : Bool), y.length ≤ 1000 → (∀ r ∈ y, r.Values.length ≤ 1000) → (one = true → y.length + 1 = d.length) → Tot ((spec_DrawReplaceValues b).bind fun t_28 => ((impl_ReplaceValues t_28.1 t_28.2.1 t_28.2.2).bind fun t_34 => ((spec_ReplaceValues t_28.1 t_28.2.1 t_28.2.2).bind fun t_39 => (((cond (ok != ok) (some true) ((laws_qData x x).bind fun t_44 => (cond (!t_44) (some true) (cond (one != one) (some true) ((laws_qData y y).bind fun t_46 => (cond (!t_46) (some true) (cond (t_34.2 != t_39.2) (some true) ((laws_qRecord t_34.1 t_39.1).bind fun t_48 => some (!t_48))))))))) : Option (Bool)).bind fun t_50 => (cond t_50 (some false) (((cond one (some ((goLen y) != (w64 ((goLen d) - 1)))) (some false)) : Option (Bool)).bind fun t_51 => (cond t_51 (some false) T))))))) (fun z => z = true) := by
      intro y one hy hyT hone
      refine tot_bind (tDrawRV o2.2) fun ⟨z, r, v⟩ ⟨hz, hr, hv⟩ => ?_
      simp only at hz hr hv ⊢
      obtain ⟨w, b3, q5, q6, hw⟩ := rep_same (r := r) (V := v) hz.tame (by unfold TameR; omega) (by omega) (fun u hu => by have := hz.b u hu; omega)
      rw [q5, q6]
      simp only [Option.bind_some, bne_self_eq_false, cond_false, qData_same hx hxT, qData_same hy hyT, qRecord_same hw, Bool.not_true]
      cases one with
      | false => exact ⟨true, hTt, rfl⟩
      | true =>
        have := hone rfl
        rw [wid (n := goLen d - 1) (by simp only [goLen]; omega) (by simp only [goLen]; omega), show ((goLen y) != goLen d - 1) = false by simp only [goLen]; rw [bne_eq_false_iff_eq]; omega]
        exact ⟨true, hTt, rfl⟩
    rcases rem_same (s := h) (l := d) i hh.tame hdTD (by omega) hdT with ⟨q3, q4⟩ | ⟨y, q3, q4, hy, hym⟩
    · rw [q3, q4, Option.bind_some, Option.bind_some]
      exact hrv [] false (by simp) (by simp) (by simp)
    · rw [q3, q4, Option.bind_some, Option.bind_some]
      exact hrv y true (by omega) (fun r hr => hdT r (hym r hr)) (fun _ => hy)
  rcases gd_same hs.tame hTD hg hT with ⟨q1, q2⟩ | ⟨x, q1, q2, q3, q4, hl40⟩
  · rw [q1, q2, Option.bind_some, Option.bind_some]
    exact hrest [] [] false rfl (by simp) (by simp) _ rfl
  · rw [q1, q2, Option.bind_some, Option.bind_some]
    refine hrest _ _ true rfl (by simp; omega) (fun r hr => ?_) _ ?_
    · obtain ⟨q, hq, rfl⟩ := List.mem_map.1 hr
      have := hT q hq
      unfold grec
      simpa using this
    · rw [q3, Option.bind_some]
      simp only
      rw [q4]
      simp [goLen]

end Go.Gx.F
