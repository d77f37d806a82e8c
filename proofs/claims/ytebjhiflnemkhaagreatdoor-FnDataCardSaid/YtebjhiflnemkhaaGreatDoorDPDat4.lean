/- Plain laws: texts of data, written and read. -/
import Derived.Test.YtebjhiflnemkhaaGreatDoorDPDat3
namespace Go.Gx.F
open Go.Gx
set_option linter.all false

theorem dtx_inj {s : List impl_Variable} (hs : OkS s) : ∀ {a b : List impl_Record}, (∀ r ∈ a, OkR s r) → (∀ r ∈ b, OkR s r) → dtx a = dtx b → a = b
  | [], [], _, _, _ => rfl
  | [], r :: b, _, _, h => by rw [dtx_cons] at h; simp [dtx] at h
  | r :: a, [], _, _, h => by rw [dtx_cons] at h; simp [dtx] at h
  | r :: a, r' :: b, h1, h2, h => by
    rw [dtx_cons, dtx_cons] at h
    obtain ⟨e1, e2⟩ := first_one h (rlin_no hs (h1 r (by simp))) (rlin_no hs (h2 r' (by simp)))
    rw [rlin_inj hs (h1 r (by simp)) (h2 r' (by simp)) e1, dtx_inj hs (fun x hx => h1 x (by simp [hx])) (fun x hx => h2 x (by simp [hx])) e2]

/-! the program's reader -/
theorem parse_loop {s : List impl_Variable} (hs : OkS s) : ∀ (n : Nat) (t : List UInt8) (l : List impl_Record), t.length ≤ n → n ≤ 100000 → l.length ≤ 40 →
    ∃ res, loopC (impl_ParseData_l1 s) (t, l) = some res ∧ match res with
      | .inl L => ∃ d, L = l ++ d ∧ t = dtx d ∧ (∀ r ∈ d, OkR s r) ∧ L.length ≤ 40
      | .inr o => o = ([], false) ∧ ∀ d, t = dtx d → (∀ r ∈ d, OkR s r) → 40 < (l ++ d).length := by
  intro n
  induction n with
  | zero =>
    intro t l h1 h2 h3
    have ht : t = [] := List.eq_nil_of_length_eq_zero (by omega)
    subst ht
    rw [loopC_eq]
    exact ⟨.inl l, rfl, [], by simp, rfl, by simp, h3⟩
  | succ n ih =>
    intro t l h1 h2 h3
    by_cases ht : t = []
    · subst ht
      rw [loopC_eq]
      exact ⟨.inl l, rfl, [], by simp, rfl, by simp, h3⟩
    · have hne : (t != []) = true := by simpa using ht
      rw [loopC_eq]
      rcases firstC 10 t with hf | ⟨a, rest, rfl, hf⟩
      · obtain ⟨r, b, e, _⟩ := parseRec (s := s) (x := t) hs (by omega)
        have e2 : impl_ParseData_l1 s (t, l) = some (.done (.inr ([], false))) := by
          simp only [impl_ParseData_l1, hne, cond_true, cutNo hf (show t.length ≤ 1000000 by omega), Option.bind_some, e, Bool.not_false]
        rw [e2]
        refine ⟨_, rfl, rfl, fun d hd _ => ?_⟩
        cases d with
        | nil => exact absurd hd ht
        | cons r0 d => rw [dtx_cons] at hd; rw [hd] at hf; simp at hf
      · simp only [List.length_append, List.length_cons] at h1
        obtain ⟨r, b, e, q⟩ := parseRec (s := s) (x := a) hs (by omega)
        have hcut := cutYes (r := rest) hf (show a.length + rest.length ≤ 1000000 by omega)
        have back : ∀ d, a ++ 10 :: rest = dtx d → (∀ r ∈ d, OkR s r) → ∃ r0 d', d = r0 :: d' ∧ OkR s r0 ∧ a = rlin r0 ∧ rest = dtx d' ∧ ∀ r ∈ d', OkR s r := by
          intro d hd ho
          cases d with
          | nil => simp [dtx] at hd
          | cons r0 d =>
            rw [dtx_cons] at hd
            obtain ⟨e1, e2⟩ := first_one hd hf (rlin_no hs (ho r0 (by simp)))
            exact ⟨r0, d, rfl, ho r0 (by simp), e1, e2, fun x hx => ho x (by simp [hx])⟩
        cases b with
        | false =>
          have e2 : impl_ParseData_l1 s (a ++ 10 :: rest, l) = some (.done (.inr ([], false))) := by
            simp only [impl_ParseData_l1, hne, cond_true, hcut, Option.bind_some, e, Bool.not_false, Bool.not_true, cond_false]
          rw [e2]
          refine ⟨_, rfl, rfl, fun d hd ho => ?_⟩
          obtain ⟨r0, d', _, o1, o2, _⟩ := back d hd ho
          rw [o2, parseRec_of hs o1] at e
          simp at e
        | true =>
          obtain ⟨o1, rfl⟩ := q rfl
          by_cases h40 : l.length = 40
          · have e2 : impl_ParseData_l1 s (rlin r ++ 10 :: rest, l) = some (.done (.inr ([], false))) := by
              have : (goLen l == 40) = true := by simp only [goLen]; rw [beq_iff_eq]; omega
              simp only [impl_ParseData_l1, hne, cond_true, hcut, Option.bind_some, e, Bool.not_false, Bool.not_true, cond_false, this]
            rw [e2]
            refine ⟨_, rfl, rfl, fun d hd ho => ?_⟩
            obtain ⟨r0, d', rfl, _⟩ := back d hd ho
            simp
            omega
          · have e2 : impl_ParseData_l1 s (rlin r ++ 10 :: rest, l) = some (.next (rest, l ++ [r])) := by
              have : (goLen l == 40) = false := by simp only [goLen]; rw [beq_eq_false_iff_ne]; omega
              simp only [impl_ParseData_l1, hne, cond_true, hcut, Option.bind_some, e, Bool.not_false, Bool.not_true, cond_false, this, goApp_ok (show (l.length + [r].length) * 40 ≤ 140737488355328 by simp; omega)]
            rw [e2]
            obtain ⟨res, e3, h4⟩ := ih rest (l ++ [r]) (by omega) (by omega) (by simp; omega)
            refine ⟨res, e3, ?_⟩
            cases res with
            | inl L =>
              obtain ⟨d, h5, h6, h7, h8⟩ := h4
              refine ⟨r :: d, by rw [h5]; simp, by rw [dtx_cons, ← h6], fun x hx => ?_, h8⟩
              rcases List.mem_cons.1 hx with rfl | hx
              · exact o1
              · exact h7 x hx
            | inr o =>
              refine ⟨h4.1, fun d hd ho => ?_⟩
              obtain ⟨r0, d', rfl, _, _, o4, o5⟩ := back d hd ho
              have := h4.2 d' o4 o5
              simp only [List.length_append, List.length_cons, List.length_nil] at this ⊢
              omega

theorem iParse {s : List impl_Variable} {t : List UInt8} (hs : OkS s) (ht : TameS s) (hl : t.length ≤ 100000) : ∃ L b, impl_ParseData s t = some (L, b) ∧ (b = true → t = dtx L ∧ OkD s L) ∧ (b = false → L = [] ∧ ∀ d, t = dtx d → ¬ OkD s d) := by
  obtain ⟨res, e, h⟩ := parse_loop hs t.length t [] (Nat.le_refl _) hl (by simp)
  unfold impl_ParseData
  obtain ⟨c, e1, _, hc⟩ := schemas ht
  rw [e1, Option.bind_some, hc.2 hs]
  simp only [Bool.not_true, cond_false]
  rw [e, Option.bind_some]
  cases res with
  | inl L =>
    obtain ⟨d, h5, h6, h7, h8⟩ := h
    obtain rfl : d = L := by rw [h5]; rfl
    exact ⟨d, true, rfl, fun _ => ⟨h6, h8, h7⟩, fun h => (by cases h)⟩
  | inr o =>
    obtain ⟨rfl, h2⟩ := h
    exact ⟨[], false, rfl, fun h => (by cases h), fun _ => ⟨rfl, fun d hd ho => (by have h3 := h2 d hd ho.2; have h4 := ho.1; rw [List.nil_append] at h3; omega)⟩⟩

/-! the reference's writer -/
theorem num_v {v : Int} (h : 0 ≤ v ∧ v ≤ 7) : spec_l1Num v = some [UInt8.ofNat (48 + v.toNat)] := by
  have := l1Num_ok (u := v.toNat) (by omega)
  rw [show ((v.toNat : Nat) : Int) = v by omega, num_small (by omega)] at this
  exact this

theorem dText_v {r : impl_Record} {out : List UInt8} (h : r.Values.length ≤ 6 ∧ ∀ v ∈ r.Values, 0 ≤ v ∧ v ≤ 7) (ho : out.length ≤ 1000000) : loopC (spec_dText_l2 r) (out, 0) = some (out ++ vtx r.Values) := by
  refine tot_eq (tot_loop (fun s => ∃ k : Nat, k ≤ r.Values.length ∧ s = (out ++ vtx (r.Values.take k), (k : Int))) (fun s => r.Values.length - s.2.toNat) ⟨0, by omega, by simp [vtx]⟩ ?_)
  rintro s ⟨k, hk, rfl⟩
  by_cases hlt : k < r.Values.length
  · have hx : r.Values[k]? = some r.Values[k] := by simp [hlt]
    have hb := h.2 _ (List.getElem_mem hlt)
    generalize r.Values[k] = v at hx hb
    have hlen : (out ++ vtx (r.Values.take k)).length ≤ 1000010 := by
      unfold vtx
      rw [List.length_append, List.length_map, List.length_take]
      omega
    simp only [spec_dText_l2, lt_ok hx, cond_true, at_ok hx, Option.bind_some, num_v hb]
    rw [cat_ok (by simp only [List.length_cons, List.length_nil]; omega), Option.bind_some, wid (by omega) (by omega)]
    refine tot_some ⟨⟨k + 1, by omega, ?_⟩, by simp only; omega⟩
    rw [List.take_succ, hx]
    simp [vtx]
  · obtain rfl : k = r.Values.length := by omega
    simp only [spec_dText_l2, lt_end, cond_false]
    exact tot_some (by rw [List.take_length])

theorem dText_eq2 {s : List impl_Variable} {l : List impl_Record} (hs : OkS s) (h : OkD s l) : spec_dText l = some (dtx l) := by
  unfold spec_dText
  have e : loopC (spec_dText_l1 l) (([] : List UInt8), 0) = some (dtx l) := by
    refine tot_eq (tot_loop (fun s => ∃ k : Nat, k ≤ l.length ∧ s = (dtx (l.take k), (k : Int))) (fun s => l.length - s.2.toNat) ⟨0, by omega, by simp [dtx]⟩ ?_)
    rintro _ ⟨k, hk, rfl⟩
    by_cases hlt : k < l.length
    · have hx : l[k]? = some l[k] := by simp [hlt]
      have hr := h.2 _ (List.getElem_mem hlt)
      generalize l[k] = r at hx hr
      have hlen : (dtx (l.take k)).length ≤ 600 := by
        have h1 := dtx_len hs (l := l.take k) fun x hx => h.2 x (List.mem_of_mem_take hx)
        have h2 := h.1
        rw [List.length_take] at h1
        omega
      have hv := OkV.bd hs hr.2.2
      have d1 := dd_len (u := r.Area.toNat) (by have := hr.1; omega)
      have d2 := dd_len (u := r.House.toNat) (by have := hr.2.1; omega)
      have n1 := l1Num_ok (u := r.Area.toNat) (by have := hr.1; omega)
      have n2 := l1Num_ok (u := r.House.toNat) (by have := hr.2.1; omega)
      rw [show ((r.Area.toNat : Nat) : Int) = r.Area by have := hr.1; omega] at n1
      rw [show ((r.House.toNat : Nat) : Int) = r.House by have := hr.2.1; omega] at n2
      have vl : (vtx r.Values).length = r.Values.length := by simp [vtx]
      simp only [spec_dText_l1, lt_ok hx, cond_true, at_ok hx, Option.bind_some, n1, n2]
      rw [cat_ok (by simp; omega), Option.bind_some, cat_ok (by simp; omega), Option.bind_some, cat_ok (by simp; omega), Option.bind_some, cat_ok (by simp; omega), Option.bind_some, dText_v hv (by simp; omega), Option.bind_some, cat_ok (by simp [vl]; omega), Option.bind_some, wid (by have := h.1; omega) (by have := h.1; omega)]
      refine tot_some ⟨⟨k + 1, by omega, ?_⟩, by simp only; omega⟩
      rw [List.take_succ, hx, dtx_app]
      show _ = (dtx (l.take k) ++ dtx [r], _)
      rw [dtx_one]
      simp [rlin]
    · obtain rfl : k = l.length := by omega
      simp only [spec_dText_l1, lt_end, cond_false]
      exact tot_some (by rw [List.take_length])
  rw [e]; rfl

/-! the program's writer -/
theorem bld_ok {a b : List UInt8} (h : a.length + b.length ≤ 1000000000) : goBld a b = some (a ++ b) := by
  unfold goBld
  rw [decide_eq_true (by omega)]; rfl

theorem itoa_nn {n : Int} (h : 0 ≤ n ∧ n ≤ 1000000) : strconv_Itoa n = some (Go.Lib.decDigits n.toNat) := by
  rw [itoa_ok (by omega) (by omega)]
  unfold Go.Lib.itoa
  rw [if_neg (by omega)]

theorem byte_v {v : Int} (h : 0 ≤ v ∧ v ≤ 7) : UInt8.ofNat (IntKind.wrap .u8 (w64 (48 + v))).toNat = UInt8.ofNat (48 + v.toNat) := by
  rw [wid (by omega) (by omega), Go.IntWalk.u8_in _ ⟨by omega, by omega⟩]
  congr 1
  omega

theorem iText_v {r : impl_Record} {out : List UInt8} (h : r.Values.length ≤ 6 ∧ ∀ v ∈ r.Values, 0 ≤ v ∧ v ≤ 7) (ho : out.length ≤ 1000000) : loopC (impl_DataText_l2 r) (out, 0) = some (out ++ vtx r.Values) := by
  refine tot_eq (tot_loop (fun s => ∃ k : Nat, k ≤ r.Values.length ∧ s = (out ++ vtx (r.Values.take k), (k : Int))) (fun s => r.Values.length - s.2.toNat) ⟨0, by omega, by simp [vtx]⟩ ?_)
  rintro s ⟨k, hk, rfl⟩
  by_cases hlt : k < r.Values.length
  · have hx : r.Values[k]? = some r.Values[k] := by simp [hlt]
    have hb := h.2 _ (List.getElem_mem hlt)
    generalize r.Values[k] = v at hx hb
    have hlen : (out ++ vtx (r.Values.take k)).length ≤ 1000010 := by
      unfold vtx
      rw [List.length_append, List.length_map, List.length_take]
      omega
    simp only [impl_DataText_l2, lt_ok hx, cond_true, at_ok hx, Option.bind_some, byte_v hb]
    rw [bld_ok (by simp only [List.length_cons, List.length_nil]; omega), Option.bind_some, wid (by omega) (by omega)]
    refine tot_some ⟨⟨k + 1, by omega, ?_⟩, by simp only; omega⟩
    rw [List.take_succ, hx]
    simp [vtx]
  · obtain rfl : k = r.Values.length := by omega
    simp only [impl_DataText_l2, lt_end, cond_false]
    exact tot_some (by rw [List.take_length])

theorem DataText_ok {s : List impl_Variable} {l : List impl_Record} (hs : OkS s) (ht : TameS s) (h : OkD s l) : impl_DataText s l = some (dtx l, true) := by
  unfold impl_DataText
  obtain ⟨c, e1, _, hc⟩ := schemas ht
  have hT : TameD l := ⟨by have := h.1; omega, fun r hr => by have := (OkV.bd hs (h.2 r hr).2.2).1; unfold TameR; omega⟩
  obtain ⟨d, e2, hd⟩ := isData_bis (s := s) hT
  rw [e1, Option.bind_some, hc.2 hs]
  simp only [Bool.not_true, cond_false]
  rw [e2, Option.bind_some, hd.2 h]
  simp only [Bool.not_true, Option.bind_some, cond_false]
  have e : loopC (impl_DataText_l1 l) (([] : List UInt8), 0) = some (dtx l) := by
    refine tot_eq (tot_loop (fun s => ∃ k : Nat, k ≤ l.length ∧ s = (dtx (l.take k), (k : Int))) (fun s => l.length - s.2.toNat) ⟨0, by omega, by simp [dtx]⟩ ?_)
    rintro _ ⟨k, hk, rfl⟩
    by_cases hlt : k < l.length
    · have hx : l[k]? = some l[k] := by simp [hlt]
      have hr := h.2 _ (List.getElem_mem hlt)
      generalize l[k] = r at hx hr
      have hlen : (dtx (l.take k)).length ≤ 600 := by
        have h1 := dtx_len hs (l := l.take k) fun x hx => h.2 x (List.mem_of_mem_take hx)
        have h2 := h.1
        rw [List.length_take] at h1
        omega
      have hv := OkV.bd hs hr.2.2
      have d1 := dd_len (u := r.Area.toNat) (by have := hr.1; omega)
      have d2 := dd_len (u := r.House.toNat) (by have := hr.2.1; omega)
      have vl : (vtx r.Values).length = r.Values.length := by simp [vtx]
      simp only [impl_DataText_l1, lt_ok hx, cond_true, at_ok hx, Option.bind_some, itoa_nn (show 0 ≤ r.Area ∧ r.Area ≤ 1000000 by have := hr.1; omega), itoa_nn (show 0 ≤ r.House ∧ r.House ≤ 1000000 by have := hr.2.1; omega)]
      rw [bld_ok (by omega), Option.bind_some, bld_ok (by simp; omega), Option.bind_some, bld_ok (by simp; omega), Option.bind_some, bld_ok (by simp; omega), Option.bind_some, iText_v hv (by simp; omega), Option.bind_some, bld_ok (by simp [vl]; omega), Option.bind_some, wid (by have := h.1; omega) (by have := h.1; omega)]
      refine tot_some ⟨⟨k + 1, by omega, ?_⟩, by simp only; omega⟩
      rw [List.take_succ, hx, dtx_app]
      show _ = (dtx (l.take k) ++ dtx [r], _)
      rw [dtx_one]
      simp [rlin]
    · obtain rfl : k = l.length := by omega
      simp only [impl_DataText_l1, lt_end, cond_false]
      exact tot_some (by rw [List.take_length])
  rw [e]; rfl

end Go.Gx.F
