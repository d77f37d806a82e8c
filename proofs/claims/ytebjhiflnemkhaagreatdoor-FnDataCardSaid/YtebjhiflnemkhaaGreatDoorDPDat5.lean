/- Plain laws: the reference's reader of data. -/
import Derived.Test.YtebjhiflnemkhaaGreatDoorDPDat4
namespace Go.Gx.F
open Go.Gx
set_option linter.all false

noncomputable def rrd (x : List UInt8) : impl_Record := match splitB 32 x with
  | [a, b, c] => ⟨(spec_l1Read a).getD 0, (spec_l1Read b).getD 0, rdv c⟩
  | _ => ⟨0, 0, []⟩

theorem vals2 {a b c : List UInt8} {A H : Int} (hc : c.length ≤ 10000) : loopC (spec_ParseData_l2 [a, b, c]) (0, (impl_Record.mk A H ([] : List Int))) = some ⟨A, H, rdv c⟩ := by
  refine tot_eq (tot_loop (fun s => ∃ k : Nat, k ≤ c.length ∧ s = ((k : Int), ⟨A, H, rdv (c.take k)⟩)) (fun s => c.length - s.1.toNat) ⟨0, by omega, by simp [rdv]⟩ ?_)
  rintro _ ⟨k, hk, rfl⟩
  have g2 : goAt [a, b, c] 2 = some c := rfl
  by_cases hlt : k < c.length
  · have hx : c[k]? = some c[k] := by simp [hlt]
    generalize c[k] = v at hx
    have hv8 := UInt8.toNat_lt v
    have hl : (rdv (c.take k)).length = k := by simp [rdv]; omega
    simp only [spec_ParseData_l2, g2, Option.bind_some, lt_ok hx, cond_true, strAt_k hx]
    rw [wid (n := (v.toNat : Int)) (by omega) (by omega), wid (n := (v.toNat : Int) - 48) (by omega) (by omega), goApp_ok (by simp only [hl, List.length_cons, List.length_nil]; omega), Option.bind_some, wid (by omega) (by omega)]
    refine tot_some ⟨⟨k + 1, by omega, ?_⟩, by simp only; omega⟩
    rw [List.take_succ, hx]
    simp [rdv]
  · obtain rfl : k = c.length := by omega
    simp only [spec_ParseData_l2, g2, Option.bind_some, lt_end, cond_false]
    exact tot_some (by rw [List.take_length])

theorem lines_loop {L : List (List UInt8)} (hL : L.length ≤ 2000) (hv : ∀ x ∈ L, x.length ≤ 10000) :
    Tot (loopC (spec_ParseData_l1 L) (([] : List impl_Record), 0)) fun o => match o with | .inl out => out = L.map rrd ∧ ∀ x ∈ L, (splitB 32 x).length = 3 | .inr o => o = ([], false) ∧ ∃ x ∈ L, (splitB 32 x).length ≠ 3 := by
  refine tot_loop (fun s => ∃ k : Nat, k ≤ L.length ∧ s = ((L.take k).map rrd, (k : Int)) ∧ ∀ x ∈ L.take k, (splitB 32 x).length = 3) (fun s => L.length - s.2.toNat) ⟨0, by omega, by simp, by simp⟩ ?_
  rintro _ ⟨k, hk, rfl, h3⟩
  by_cases hlt : k < L.length
  · have hx : L[k]? = some L[k] := by simp [hlt]
    have hxm := List.getElem_mem hlt
    generalize L[k] = x at hx hxm
    have hxl := hv x hxm
    have hsp := (split_bd 32 x).2
    simp only [spec_ParseData_l1, lt_ok hx, cond_true, at_ok hx, Option.bind_some, l1Split_ok (c := 32) (z := 32) rfl (show x.length ≤ 1000000 by omega)]
    by_cases h : (splitB 32 x).length = 3
    · obtain ⟨a, b, c, e⟩ : ∃ a b c, splitB 32 x = [a, b, c] := by
        match hm : splitB 32 x with
        | [] => rw [hm] at h; simp at h
        | [_] => rw [hm] at h; simp at h
        | [_, _] => rw [hm] at h; simp at h
        | [a, b, c] => exact ⟨a, b, c, rfl⟩
        | _ :: _ :: _ :: _ :: _ => rw [hm] at h; simp at h
      have hrr : rrd x = ⟨(spec_l1Read a).getD 0, (spec_l1Read b).getD 0, rdv c⟩ := by unfold rrd; rw [e]
      rw [e] at hsp ⊢
      obtain ⟨A, eA, _, _⟩ := l1Read_bd (x := a)
      obtain ⟨H, eH, _, _⟩ := l1Read_bd (x := b)
      have g0 : goAt [a, b, c] 0 = some a := rfl
      have g1 : goAt [a, b, c] 1 = some b := rfl
      rw [show (goLen [a, b, c] != 3) = false from rfl, cond_false, g0, g1]
      simp only [Option.bind_some, eA, eH]
      rw [vals2 (by have := (hsp c (by simp)).1; omega), Option.bind_some, goApp_ok (by simp; omega), Option.bind_some, wid (by omega) (by omega)]
      refine tot_some ⟨⟨k + 1, by omega, ?_, ?_⟩, by simp only; omega⟩
      · rw [List.take_succ, hx, List.map_append]
        simp only [Option.toList_some, List.map_cons, List.map_nil, hrr, eA, eH, Option.getD_some]
        rfl
      · intro y hy
        rw [List.take_succ, hx] at hy
        rcases List.mem_append.1 hy with hy | hy
        · exact h3 y hy
        · obtain rfl : y = x := by simpa using hy
          rw [e]; rfl
    · rw [show (goLen (splitB 32 x) != 3) = true by simp only [goLen]; rw [bne_iff_ne]; omega, cond_true]
      exact tot_some ⟨rfl, x, hxm, h⟩
  · obtain rfl : k = L.length := by omega
    rw [List.take_length] at h3 ⊢
    have e : decide ((L.length : Int) < goLen L) = false := lt_end
    simp only [spec_ParseData_l1, e, cond_false]
    exact tot_some ⟨rfl, h3⟩

theorem split_dtx {s : List impl_Variable} (hs : OkS s) : ∀ {d : List impl_Record}, (∀ r ∈ d, OkR s r) → splitB 10 (dtx d) = d.map rlin ++ [[]]
  | [], _ => rfl
  | r :: d, h => by
    rw [dtx_cons, split_app (rlin_no hs (h r (by simp))), split_dtx hs fun x hx => h x (by simp [hx])]
    rfl

theorem rrd_of {s : List impl_Variable} {r : impl_Record} (hs : OkS s) (hr : OkR s r) : rrd (rlin r) = r ∧ (splitB 32 (rlin r)).length = 3 := by
  obtain ⟨hA, hH, hV⟩ := hr
  have hv := OkV.bd hs hV
  have e : splitB 32 (rlin r) = [Go.Lib.decDigits r.Area.toNat, Go.Lib.decDigits r.House.toNat, vtx r.Values] := by
    unfold rlin
    rw [split_app (dd_no (by decide)), split_app (dd_no (by decide)), split_no (vtx_no hv.2 (by decide))]
  unfold rrd
  rw [e]
  refine ⟨?_, rfl⟩
  simp only [read_of (u := r.Area.toNat) (by omega), read_of (u := r.House.toNat) (by omega), Option.getD_some, rdv_vtx hv.2]
  rw [show ((r.Area.toNat : Nat) : Int) = r.Area by omega, show ((r.House.toNat : Nat) : Int) = r.House by omega]

theorem sParse {s : List impl_Variable} {t : List UInt8} (hs : OkS s) (ht : TameS s) (hl : t.length ≤ 100000) : ∃ L b, spec_ParseData s t = some (L, b) ∧ (b = true → t = dtx L ∧ OkD s L) ∧ (b = false → L = [] ∧ ∀ d, t = dtx d → ¬ OkD s d) := by
  unfold spec_ParseData
  obtain ⟨c, _, e1, hc⟩ := schemas ht
  rw [e1, Option.bind_some, hc.2 hs]
  simp only [Bool.not_true, cond_false, Option.bind_some]
  by_cases h1000 : 1000 < t.length
  · rw [decide_eq_true (by simp only [goLen]; omega), cond_true]
    refine ⟨[], false, rfl, fun h => (by cases h), fun _ => ⟨rfl, fun d hd ho => ?_⟩⟩
    have := dtx_len hs ho.2
    have := ho.1
    rw [← hd] at *
    omega
  · rw [decide_eq_false (by simp only [goLen]; omega), cond_false, l1Split_ok (c := 10) (z := 10) rfl (by omega), Option.bind_some]
    have hbd := split_bd 10 t
    have hpos : 1 ≤ (splitB 10 t).length := by
      cases hq : splitB 10 t with
      | nil => exact absurd hq (splitB_ne 10 t)
      | cons a r => simp
    obtain ⟨L, eL, hL⟩ : Tot (goSub (splitB 10 t) 0 (w64 ((goLen (splitB 10 t)) - 1))) (fun l => l = (splitB 10 t).take ((splitB 10 t).length - 1)) := by
      rw [wid (by simp only [goLen]; omega) (by simp only [goLen]; omega)]
      refine tot_sub (by omega) (by simp only [goLen]; omega) (by simp only [goLen]; omega) ?_
      simp only [goLen]
      rw [show (0 : Int).toNat = 0 from rfl, List.drop_zero]
      congr 1
      omega
    rw [eL, Option.bind_some]
    have hLm : ∀ x ∈ L, x.length ≤ 1000 := fun x hx => by
      rw [hL] at hx
      have := (hbd.2 x (List.mem_of_mem_take hx)).1
      omega
    have hLl : L.length ≤ 1001 := by rw [hL, List.length_take]; omega
    obtain ⟨o, eo, ho⟩ := lines_loop (L := L) (by omega) (fun x hx => by have := hLm x hx; omega)
    rw [eo, Option.bind_some]
    have key : ∀ d, t = dtx d → (∀ r ∈ d, OkR s r) → L = d.map rlin := fun d hd ho => by
      rw [hL, hd, split_dtx hs ho]
      simp
    cases o with
    | inr o =>
      obtain ⟨rfl, x, hx, h3⟩ := ho
      refine ⟨[], false, rfl, fun h => (by cases h), fun _ => ⟨rfl, fun d hd ho => ?_⟩⟩
      rw [key d hd ho.2] at hx
      obtain ⟨r, hr, rfl⟩ := List.mem_map.1 hx
      exact h3 (rrd_of hs (ho.2 r hr)).2
    | inl out =>
      obtain ⟨rfl, h3⟩ := ho
      have hT : TameD (L.map rrd) := ⟨by rw [List.length_map]; omega, fun r hr => by
        obtain ⟨x, hx, rfl⟩ := List.mem_map.1 hr
        have h1 := hLm x hx
        have hsp := (split_bd 32 x).2
        unfold TameR rrd
        split
        · rename_i a b c e
          rw [e] at hsp
          have := (hsp c (by simp)).1
          simp [rdv]; omega
        · simp⟩
      obtain ⟨g, e4, hg⟩ := dGood_bis hs hT
      simp only
      rw [e4, Option.bind_some]
      have kk : ∀ d, t = dtx d → OkD s d → L.map rrd = d := fun d hd ho => by
        rw [key d hd ho.2, List.map_map]
        conv => rhs; rw [← List.map_id d]
        apply List.map_congr_left
        intro r hr
        exact (rrd_of hs (ho.2 r hr)).1
      cases g with
      | false =>
        refine ⟨[], false, rfl, fun h => (by cases h), fun _ => ⟨rfl, fun d hd ho => ?_⟩⟩
        have := kk d hd ho
        rw [this] at hg
        have := hg.2 ho
        cases this
      | true =>
        have hO := hg.1 rfl
        simp only [Bool.not_true, cond_false]
        rw [dText_eq2 hs hO, Option.bind_some]
        cases hq : (dtx (L.map rrd) != t) with
        | true =>
          refine ⟨[], false, rfl, fun h => (by cases h), fun _ => ⟨rfl, fun d hd ho => ?_⟩⟩
          rw [kk d hd ho, hd] at hq
          simp at hq
        | false =>
          have : dtx (L.map rrd) = t := by simpa using hq
          exact ⟨L.map rrd, true, rfl, fun _ => ⟨this.symm, hO⟩, fun h => (by cases h)⟩

/-- both read the same -/
theorem parse_same {s : List impl_Variable} {t : List UInt8} (ht : TameS s) (hl : t.length ≤ 100000) : ∃ L b, impl_ParseData s t = some (L, b) ∧ spec_ParseData s t = some (L, b) ∧ (b = true → OkS s ∧ t = dtx L ∧ OkD s L) ∧ (b = false → L = []) := by
  obtain ⟨c, e1, e2, hc⟩ := schemas ht
  cases c with
  | false =>
    refine ⟨[], false, ?_, ?_, fun h => (by cases h), fun _ => rfl⟩
    · unfold impl_ParseData; rw [e1]; rfl
    · unfold spec_ParseData; rw [e2]; rfl
  | true =>
    have hs := hc.1 rfl
    obtain ⟨L, b, i1, i2, i3⟩ := iParse hs ht hl
    obtain ⟨L', b', s1, s2, s3⟩ := sParse hs ht hl
    cases b with
    | false =>
      obtain ⟨rfl, i4⟩ := i3 rfl
      cases b' with
      | false =>
        obtain ⟨rfl, _⟩ := s3 rfl
        exact ⟨[], false, i1, s1, fun h => (by cases h), fun _ => rfl⟩
      | true => exact absurd (s2 rfl).2 (i4 _ (s2 rfl).1)
    | true =>
      obtain ⟨i4, i5⟩ := i2 rfl
      cases b' with
      | false => exact absurd i5 ((s3 rfl).2 _ i4)
      | true =>
        obtain ⟨s4, s5⟩ := s2 rfl
        obtain rfl : L = L' := dtx_inj hs i5.2 s5.2 (i4.symm.trans s4)
        exact ⟨L, true, i1, s1, fun _ => ⟨hs, i4, i5⟩, fun h => (by cases h)⟩

end Go.Gx.F
