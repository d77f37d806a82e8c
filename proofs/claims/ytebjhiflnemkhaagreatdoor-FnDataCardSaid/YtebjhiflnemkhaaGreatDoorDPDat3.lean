/- Plain laws: data and their texts. -/
import Derived.Test.YtebjhiflnemkhaaGreatDoorDPDat2
namespace Go.Gx.F
open Go.Gx
set_option linter.all false

/-- the signs of values -/
def vtx (V : List Int) : List UInt8 := V.map fun v => UInt8.ofNat (48 + v.toNat)
/-- a record's line -/
def rlin (r : impl_Record) : List UInt8 := Go.Lib.decDigits r.Area.toNat ++ (32 : UInt8) :: (Go.Lib.decDigits r.House.toNat ++ (32 : UInt8) :: vtx r.Values)
def dtx (l : List impl_Record) : List UInt8 := l.flatMap fun r => rlin r ++ [(10 : UInt8)]

theorem dtx_cons (r : impl_Record) (l : List impl_Record) : dtx (r :: l) = rlin r ++ (10 : UInt8) :: dtx l := by simp [dtx]
theorem dtx_app (a b : List impl_Record) : dtx (a ++ b) = dtx a ++ dtx b := by simp [dtx]
theorem dtx_one (r : impl_Record) : dtx [r] = rlin r ++ [(10 : UInt8)] := by simp [dtx]

theorem OkV.bd {s : List impl_Variable} {V : List Int} (hs : OkS s) (h : OkV s V) : V.length ≤ 6 ∧ ∀ v ∈ V, 0 ≤ v ∧ v ≤ 7 := by
  have h1 := hs.2.1
  refine ⟨by rw [h.1]; exact h1, fun v hv => ?_⟩
  obtain ⟨k, hk, rfl⟩ := List.mem_iff_getElem.1 hv
  have hk' : k < s.length := by rw [← h.1]; exact hk
  have := h.2 k s[k] V[k] (by simp [hk']) (by simp [hk])
  have h2 := (hs.2.2 k s[k] (by simp [hk'])).1.2.2
  omega

theorem vtx_dig {V : List Int} (h : ∀ v ∈ V, 0 ≤ v ∧ v ≤ 7) : ∀ b ∈ vtx V, 48 ≤ b.toNat ∧ b.toNat ≤ 57 := by
  intro b hb
  obtain ⟨v, hv, rfl⟩ := List.mem_map.1 hb
  have := h v hv
  rw [dig_nat (by omega)]
  omega

theorem vtx_no {V : List Int} (h : ∀ v ∈ V, 0 ≤ v ∧ v ≤ 7) {c : UInt8} (hc : c.toNat < 48) : c ∉ vtx V := fun hb => by have := vtx_dig h c hb; omega

theorem rlin_no {s : List impl_Variable} {r : impl_Record} (hs : OkS s) (hr : OkR s r) : (10 : UInt8) ∉ rlin r := by
  have hv := (OkV.bd hs hr.2.2).2
  unfold rlin
  intro h
  simp only [List.mem_append, List.mem_cons] at h
  rcases h with h | h | h | h | h
  · exact dd_no (by decide) h
  · exact absurd h (by decide)
  · exact dd_no (by decide) h
  · exact absurd h (by decide)
  · exact vtx_no hv (by decide) h

theorem rlin_len {s : List impl_Variable} {r : impl_Record} (hs : OkS s) (hr : OkR s r) : (rlin r).length ≤ 14 := by
  have hv := (OkV.bd hs hr.2.2).1
  have h1 := (dd_len (u := r.Area.toNat) (by have := hr.1; omega)).2
  have h2 := (dd_len (u := r.House.toNat) (by have := hr.2.1; omega)).2
  unfold rlin vtx
  simp only [List.length_append, List.length_cons, List.length_map]
  omega

theorem dtx_len {s : List impl_Variable} (hs : OkS s) : ∀ {l : List impl_Record}, (∀ r ∈ l, OkR s r) → (dtx l).length ≤ l.length * 15
  | [], _ => by simp [dtx]
  | r :: l, h => by
    have h1 := rlin_len hs (h r (by simp))
    have h2 := dtx_len hs (l := l) fun x hx => h x (by simp [hx])
    rw [dtx_cons]
    simp only [List.length_append, List.length_cons]
    omega

/-- values read from signs -/
def rdv (w : List UInt8) : List Int := w.map fun b => (b.toNat : Int) - 48

theorem rdv_vtx {V : List Int} (h : ∀ v ∈ V, 0 ≤ v ∧ v ≤ 7) : rdv (vtx V) = V := by
  unfold rdv vtx
  rw [List.map_map]
  conv => rhs; rw [← List.map_id V]
  apply List.map_congr_left
  intro v hv
  have := h v hv
  simp only [Function.comp_apply, id]
  rw [dig_nat (by omega)]
  omega

theorem vtx_rdv {w : List UInt8} (h : ∀ v ∈ rdv w, 0 ≤ v ∧ v ≤ 7) : vtx (rdv w) = w := by
  unfold rdv vtx at *
  rw [List.map_map]
  conv => rhs; rw [← List.map_id w]
  apply List.map_congr_left
  intro b hb
  have := h _ (List.mem_map.2 ⟨b, hb, rfl⟩)
  simp only [Function.comp_apply, id]
  rw [show ((b.toNat : Int) - 48).toNat = b.toNat - 48 by omega, u8_of (by omega)]

theorem vals_loop {t3 : List (List UInt8)} {w : List UInt8} {n : Nat} (h2 : t3[2]? = some w) (hw : w.length = n) (hn : n ≤ 1000000) : loopC (impl_parseRecord_l1 t3 (List.replicate n 0)) (List.replicate n 0, 0) = some (rdv w) := by
  have h := loop_map (l := w) (fun b => (b.toNat : Int) - 48) (0 : Int) (impl_parseRecord_l1 t3 (List.replicate n 0)) (fun k b out hb ho => by
    have hk := (List.getElem?_eq_some_iff.1 hb).1
    have hb8 := UInt8.toNat_lt b
    have e : goAt out (k : Int) = some out[k] := at_ok (by simp [ho, hk])
    have e2 : goAt t3 2 = some w := at_ok (k := 2) h2
    have e3 : decide ((k : Int) < goLen (List.replicate n (0 : Int))) = true := decide_eq_true (by simp only [goLen, List.length_replicate]; omega)
    simp only [impl_parseRecord_l1, e3, cond_true, e2, Option.bind_some, strAt_k hb, e]
    rw [wid (n := (b.toNat : Int)) (by omega) (by omega), wid (n := (b.toNat : Int) - 48) (by omega) (by omega), wid (by omega) (by omega)]
    simp only [goSet, Int.toNat_natCast]
    rfl) (fun out => by
    have e3 : decide ((w.length : Int) < goLen (List.replicate n (0 : Int))) = false := decide_eq_false (by simp only [goLen, List.length_replicate]; omega)
    simp only [impl_parseRecord_l1, e3, cond_false])
  rw [hw] at h
  exact h

theorem three {x : List UInt8} {k : Nat} (h : (splitBN 32 k x).length = 3) (hk : k ≤ 2) : ∃ a b c, (32 : UInt8) ∉ a ∧ (32 : UInt8) ∉ b ∧ x = a ++ (32 : UInt8) :: (b ++ (32 : UInt8) :: c) ∧ splitBN 32 k x = [a, b, c] := by
  rcases firstC 32 x with h1 | ⟨a, r, rfl, h1⟩
  · rw [splitN_none h1] at h; simp at h
  · cases k with
    | zero => simp [splitBN] at h
    | succ k =>
      rw [splitN_at h1] at h ⊢
      rcases firstC 32 r with h2 | ⟨b, c, rfl, h2⟩
      · rw [splitN_none h2] at h; simp at h
      · cases k with
        | zero => simp [splitBN] at h
        | succ k =>
          obtain rfl : k = 0 := by omega
          rw [splitN_at h2]
          exact ⟨a, b, c, h1, h2, rfl, rfl⟩

theorem parseRec {s : List impl_Variable} {x : List UInt8} (hs : OkS s) (hx : x.length ≤ 100000) : ∃ r b, impl_parseRecord s x = some (r, b) ∧ (b = true → OkR s r ∧ x = rlin r) := by
  unfold impl_parseRecord strings_SplitN
  rw [decide_eq_true ⟨by omega, rfl, by omega, by omega⟩, cond_true, Option.bind_some]
  have hs6 := hs.2.1
  rw [show (([32] : List UInt8).headD 0) = 32 from rfl]
  generalize hk : min (3 : Int).toNat (x.length + 1) - 1 = k
  have hk2 : k ≤ 2 := by
    have : (3 : Int).toNat = 3 := rfl
    omega
  by_cases h3 : (splitBN 32 k x).length = 3
  · obtain ⟨a, b, c, ha, hb, rfl, e⟩ := three h3 hk2
    rw [e]
    simp only [List.length_append, List.length_cons] at hx
    have g0 : goAt [a, b, c] 0 = some a := rfl
    have g1 : goAt [a, b, c] 1 = some b := rfl
    have g2 : goAt [a, b, c] 2 = some c := rfl
    rw [show (goLen [a, b, c] != 3) = false from rfl, cond_false, g2, Option.bind_some, Option.bind_some]
    by_cases hl : c.length = s.length
    · rw [show (goLen c != goLen s) = false by simp only [goLen]; rw [bne_eq_false_iff_eq]; omega, cond_false, g0, Option.bind_some]
      obtain ⟨n0, b0, e0, q0⟩ := whole_back (x := a) (most := 29) (by omega) (by omega)
      rw [e0, Option.bind_some]
      cases b0 with
      | false => exact ⟨_, false, rfl, fun h => by cases h⟩
      | true =>
        obtain ⟨u0, rfl, hu0, rfl⟩ := q0 rfl
        simp only [Bool.not_true, cond_false]
        rw [g1, Option.bind_some]
        obtain ⟨n1, b1, e1, q1⟩ := whole_back (x := b) (most := 999) (by omega) (by omega)
        rw [e1, Option.bind_some]
        cases b1 with
        | false => exact ⟨_, false, rfl, fun h => by cases h⟩
        | true =>
          obtain ⟨u1, rfl, hu1, rfl⟩ := q1 rfl
          simp only [Bool.not_true, cond_false]
          rw [show goLen s = ((s.length : Nat) : Int) from rfl, goMake_ok (by omega) (by omega), Option.bind_some, vals_loop (w := c) (n := s.length) rfl hl (by omega), Option.bind_some]
          obtain ⟨d, e4, hd⟩ := areValues_bis (s := s) (l := rdv c) (by unfold rdv; rw [List.length_map]; omega)
          rw [e4, Option.bind_some]
          cases d with
          | false => exact ⟨_, false, rfl, fun h => by cases h⟩
          | true =>
            refine ⟨_, true, rfl, fun _ => ?_⟩
            have hV := hd.1 rfl
            refine ⟨⟨by simp only; omega, by simp only; omega, hV⟩, ?_⟩
            unfold rlin
            simp only [Int.toNat_natCast]
            rw [vtx_rdv (OkV.bd hs hV).2]
    · rw [show (goLen c != goLen s) = true by simp only [goLen]; rw [bne_iff_ne]; omega, cond_true]
      exact ⟨_, false, rfl, fun h => by cases h⟩
  · rw [show (goLen (splitBN 32 k x) != 3) = true by simp only [goLen]; rw [bne_iff_ne]; omega, cond_true, Option.bind_some, cond_true]
    exact ⟨_, false, rfl, fun h => by cases h⟩

theorem parseRec_of {s : List impl_Variable} {r : impl_Record} (hs : OkS s) (hr : OkR s r) : impl_parseRecord s (rlin r) = some (r, true) := by
  obtain ⟨hA, hH, hV⟩ := hr
  have hlen := rlin_len hs ⟨hA, hH, hV⟩
  have hv := OkV.bd hs hV
  have hs6 := hs.2.1
  have d1 := dd_len (u := r.Area.toNat) (by omega)
  have d2 := dd_len (u := r.House.toNat) (by omega)
  have hl2 : 2 ≤ (rlin r).length := by unfold rlin; simp only [List.length_append, List.length_cons]; omega
  unfold impl_parseRecord strings_SplitN
  rw [decide_eq_true ⟨by omega, rfl, by omega, by omega⟩, cond_true, Option.bind_some]
  rw [show min (3 : Int).toNat ((rlin r).length + 1) - 1 = 2 by have : (3 : Int).toNat = 3 := rfl; omega]
  have e : splitBN (([32] : List UInt8).headD 0) 2 (rlin r) = [Go.Lib.decDigits r.Area.toNat, Go.Lib.decDigits r.House.toNat, vtx r.Values] := by
    unfold rlin
    show splitBN 32 2 _ = _
    rw [splitN_at (dd_no (by decide)), splitN_at (dd_no (by decide))]
    rfl
  rw [e]
  have g0 : goAt [Go.Lib.decDigits r.Area.toNat, Go.Lib.decDigits r.House.toNat, vtx r.Values] 0 = some (Go.Lib.decDigits r.Area.toNat) := rfl
  have g1 : goAt [Go.Lib.decDigits r.Area.toNat, Go.Lib.decDigits r.House.toNat, vtx r.Values] 1 = some (Go.Lib.decDigits r.House.toNat) := rfl
  have g2 : goAt [Go.Lib.decDigits r.Area.toNat, Go.Lib.decDigits r.House.toNat, vtx r.Values] 2 = some (vtx r.Values) := rfl
  have hl : (vtx r.Values).length = s.length := by unfold vtx; rw [List.length_map]; exact hV.1
  rw [show (goLen [Go.Lib.decDigits r.Area.toNat, Go.Lib.decDigits r.House.toNat, vtx r.Values] != 3) = false from rfl, cond_false, g2, Option.bind_some, Option.bind_some]
  rw [show (goLen (vtx r.Values) != goLen s) = false by simp only [goLen]; rw [bne_eq_false_iff_eq]; omega, cond_false, g0, Option.bind_some, whole_of (by omega) (by omega), Option.bind_some]
  simp only [Bool.not_true, cond_false]
  rw [g1, Option.bind_some, whole_of (by omega) (by omega), Option.bind_some]
  simp only [Bool.not_true, cond_false]
  rw [show goLen s = ((s.length : Nat) : Int) from rfl, goMake_ok (by omega) (by omega), Option.bind_some, vals_loop (w := vtx r.Values) (n := s.length) rfl hl (by omega), Option.bind_some, rdv_vtx hv.2]
  obtain ⟨d, e4, hd⟩ := areValues_bis (s := s) (l := r.Values) (by omega)
  rw [e4, Option.bind_some, hd.2 hV]
  simp only [Bool.not_true, cond_false]
  rw [show ((r.Area.toNat : Nat) : Int) = r.Area by omega, show ((r.House.toNat : Nat) : Int) = r.House by omega]

theorem rlin_inj {s : List impl_Variable} {r r' : impl_Record} (hs : OkS s) (hr : OkR s r) (hr' : OkR s r') (h : rlin r = rlin r') : r = r' := by
  have h1 := parseRec_of hs hr
  have h2 := parseRec_of hs hr'
  rw [h, h2] at h1
  simpa using h1.symm

end Go.Gx.F
