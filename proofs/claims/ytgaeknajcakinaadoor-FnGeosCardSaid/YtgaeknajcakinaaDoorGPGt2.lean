/- Plain laws: the text of a tree of areas read back, by both parsers. -/
import Derived.Test.YtgaeknajcakinaaDoorGPGt1
import Derived.Test.YtgaeknajcakinaaDoorGPRp1
namespace Go.Gx.F
open Go.Gx
set_option linter.all false

section
variable {p : List Int} {g : impl_Geo}

theorem wrap_stops {l : List (List UInt8)} {z : List UInt8} (h : Stops z) : Stops (wrapK l ++ z) := by
  cases l with
  | nil => exact h
  | cons x l => exact .inr ⟨40, _, rfl, .inl (by decide)⟩

theorem last_at {α : Type} {o : List α} {q : α} (hl : o.length ≤ 100000) : goAt (o ++ [q]) (w64 (goLen (o ++ [q]) - 1)) = some q := by
  rw [show goLen (o ++ [q]) - 1 = (o.length : Int) by simp [goLen], wid (by omega) (by omega)]
  exact at_ok (by simp)

theorem pop_sub {α : Type} {o : List α} {q : α} (hl : o.length ≤ 100000) : goSub (o ++ [q]) 0 (w64 (goLen (o ++ [q]) - 1)) = some o := by
  rw [show goLen (o ++ [q]) - 1 = (o.length : Int) by simp [goLen], wid (by omega) (by omega)]
  refine tot_eq (tot_sub (by omega) (by omega) (by simp only [List.length_append, List.length_singleton]; omega) ?_)
  simp

theorem goLen_ne {α : Type} {o : List α} {q : α} : (goLen (o ++ [q]) == 0) = false := by
  rw [beq_eq_false_iff_ne]
  simp only [goLen, List.length_append, List.length_singleton]
  omega
theorem goLen_pos {α : Type} {o : List α} {q : α} : decide (0 < goLen (o ++ [q])) = true := by
  rw [decide_eq_true]
  simp only [goLen, List.length_append, List.length_singleton]
  omega

/-! ## the program's parser, step by step -/
/-- what an area's parent is said to be -/
def upv (l : List Int) : Int := l.getLastD (-1)

theorem upv_snoc (o : List Int) (q : Int) : upv (o ++ [q]) = q := by
  unfold upv
  rw [List.getLastD_eq_getLast?, List.getLast?_concat]; rfl

theorem op_cases (op : List Int) : op = [] ∨ ∃ o q, op = o ++ [q] := by
  rcases List.eq_nil_or_concat op with h | ⟨o, q, h⟩
  · exact .inl h
  · exact .inr ⟨o, q, by simpa using h⟩

theorem ig_num {P op : List Int} {n : Int} {i : Nat} {z : List UInt8} (hi : i < 30) (hP : P.length = 30) (hp : P[i]? = some (-2)) (hz : Stops z) (hzl : z.length ≤ 100000) (ho : op.length ≤ 100000) (h0 : op ≠ [] ∨ n = 0) (hn : 0 ≤ n ∧ n ≤ 1000) :
    impl_ParseGeo_l2 (P, op, -1, n, Go.Lib.decDigits i ++ z) = some (.next (P.set i (upv op), op, (i : Int), n + 1, z)) := by
  obtain ⟨b, r, e, b1, b2⟩ := digs_head i
  have hs : goStrAt (Go.Lib.decDigits i ++ z) 0 = some (b.toNat : Int) := by rw [e]; exact strAt0 b (r ++ z)
  simp only [impl_ParseGeo_l2]
  rw [show (Go.Lib.decDigits i ++ z != []) = true by rw [e]; rfl, cond_true, hs, Option.bind_some]
  rw [show (((b.toNat : Int)) == 40) = false by rw [beq_eq_false_iff_ne]; omega, show (((b.toNat : Int)) == 32) = false by rw [beq_eq_false_iff_ne]; omega, show (((b.toNat : Int)) == 41) = false by rw [beq_eq_false_iff_ne]; omega]
  simp only [cond_false, Option.bind_some]
  rw [readNat_ok (by omega) (by omega) hz (by omega), Option.bind_some]
  simp only [Bool.not_true, cond_false]
  rw [decide_eq_false (show ¬ (0 : Int) ≤ -1 by omega), cond_false, at_ok hp, Option.bind_some]
  rw [show ((-2 : Int) != -2) = false from rfl, cond_false]
  have hp1 : goAt (goSet P (i : Int) (-1)) (i : Int) = some (-1) := at_ok (by show (P.set i (-1))[i]? = _; rw [List.getElem?_set_self (by omega)])
  rw [wid (n := n + 1) (by omega) (by omega)]
  rcases op_cases op with rfl | ⟨o, q, rfl⟩
  · have hn0 := h0.resolve_left (fun h => h rfl)
    subst hn0
    simp only [goLen, List.length_nil]
    rw [show ((((0 : Nat) : Int)) == 0) = true from rfl, cond_true, decide_eq_false (show ¬ (0 : Int) < 0 by omega), Option.bind_some, cond_false, decide_eq_false (show ¬ (0 : Int) < ((0 : Nat) : Int) by omega)]
    rfl
  · have hol : o.length ≤ 100000 := by rw [List.length_append] at ho; omega
    rw [goLen_ne, cond_false, Option.bind_some, cond_false, goLen_pos, cond_true, Option.bind_some, last_at hol, Option.bind_some, hp1]
    simp only [Option.bind_some]
    rw [upv_snoc]
    show some (Stp.next ((P.set i (-1)).set i q, _)) = _
    rw [List.set_set]

theorem ig_open {P op : List Int} {n l : Int} {z : List UInt8} (hl : 0 ≤ l) (ho : op.length ≤ 100000) :
    impl_ParseGeo_l2 (P, op, l, n, 40 :: z) = some (.next (P, op ++ [l], -1, n, z)) := by
  simp only [impl_ParseGeo_l2]
  rw [show ((40 :: z : List UInt8) != []) = true from rfl, cond_true, strAt0, Option.bind_some, show (((40 : UInt8).toNat : Int) == 40) = true from rfl]
  simp only [cond_true, Option.bind_some]
  rw [decide_eq_false (show ¬ l < 0 by omega), cond_false, goApp_ok (by simp only [List.length_singleton]; omega)]
  simp only [Option.bind_some]
  rw [show (((40 : UInt8).toNat : Int) == 41) = false from rfl]
  simp only [cond_false, Option.bind_some]
  rw [sub1]
  rfl

theorem ig_sp {P o : List Int} {q n l : Int} {z : List UInt8} (hl : 0 ≤ l) :
    impl_ParseGeo_l2 (P, o ++ [q], l, n, 32 :: z) = some (.next (P, o ++ [q], -1, n, z)) := by
  simp only [impl_ParseGeo_l2]
  rw [show ((32 :: z : List UInt8) != []) = true from rfl, cond_true, strAt0, Option.bind_some, show (((32 : UInt8).toNat : Int) == 40) = false from rfl, show (((32 : UInt8).toNat : Int) == 32) = true from rfl]
  simp only [cond_true, cond_false, Option.bind_some]
  rw [decide_eq_false (show ¬ l < 0 by omega), cond_false]
  rw [goLen_ne]
  simp only [cond_false, Option.bind_some]
  rw [show (((32 : UInt8).toNat : Int) == 41) = false from rfl]
  simp only [cond_false, Option.bind_some]
  rw [sub1]
  rfl

theorem ig_cl {P o : List Int} {q n l : Int} {z : List UInt8} (hl : 0 ≤ l) (ho : o.length ≤ 100000) :
    impl_ParseGeo_l2 (P, o ++ [q], l, n, 41 :: z) = some (.next (P, o, q, n, z)) := by
  simp only [impl_ParseGeo_l2]
  rw [show ((41 :: z : List UInt8) != []) = true from rfl, cond_true, strAt0, Option.bind_some, show (((41 : UInt8).toNat : Int) == 40) = false from rfl, show (((41 : UInt8).toNat : Int) == 32) = false from rfl, show (((41 : UInt8).toNat : Int) == 41) = true from rfl]
  simp only [cond_true, cond_false, Option.bind_some]
  rw [decide_eq_false (show ¬ l < 0 by omega), cond_false]
  rw [goLen_ne]
  simp only [cond_true, cond_false, Option.bind_some]
  rw [show (((41 : UInt8).toNat : Int) == 40) = false from rfl, show (((41 : UInt8).toNat : Int) == 41) = true from rfl]
  simp only [cond_true, cond_false, Option.bind_some]
  rw [last_at ho, Option.bind_some, pop_sub ho]
  simp only [Option.bind_some]
  rw [sub1]
  rfl

/-! ## the program's parser over the text of an area -/
/-- P' is P with the parents of these areas -/
structure Put (p P P' : List Int) (l : List Nat) : Prop where
  len : P'.length = 30
  on : ∀ j ∈ l, P'[j]? = p[j]?
  off : ∀ j, j ∉ l → P'[j]? = P[j]?

theorem Put.trans {P P1 P2 : List Int} {l l' : List Nat} (h1 : Put p P P1 l) (h2 : Put p P1 P2 l') : Put p P P2 (l ++ l') := ⟨h2.len, fun j hj => by
    by_cases h : j ∈ l'
    · exact h2.on j h
    · rw [h2.off j h]
      exact h1.on j ((List.mem_append.1 hj).resolve_right h), fun j hj => by
    rw [h2.off j fun h => hj (List.mem_append_right _ h), h1.off j fun h => hj (List.mem_append_left _ h)]⟩

theorem Put.one {P : List Int} (hP : P.length = 30) {i : Nat} {v : Int} (hi : i < 30) (hv : p[i]? = some v) : Put p P (P.set i v) [i] := ⟨by rw [List.length_set]; exact hP, fun j hj => by
    obtain rfl := List.mem_singleton.1 hj
    rw [List.getElem?_set_self (by omega), hv], fun j hj => by
    rw [List.getElem?_set_ne (fun e => hj (List.mem_singleton.2 e.symm))]⟩

theorem Put.nil {P : List Int} (hP : P.length = 30) : Put p P P [] := ⟨hP, fun j hj => (by cases hj), fun j _ => rfl⟩

/-- the areas that are open, above area i -/
def Above (p : List Int) (op : List Int) (i : Nat) : Prop := (op = [] ∧ i = 0) ∨ ∃ o, op = o ++ [(par p i : Int)] ∧ 0 < i

theorem Above.up (h : GeoOk p) {op : List Int} {i : Nat} (hi : i < p.length) (ha : Above p op i) : p[i]? = some (upv op) := by
  rcases ha with ⟨rfl, rfl⟩ | ⟨o, rfl, h0⟩
  · exact h.rt
  · rw [upv_snoc]
    exact (par_at h hi h0).1

theorem nds_off (h : GeoOk p) {i a b j : Nat} (ha : a ∈ kids p i) (hb : b ∈ kids p i) (hab : a ≠ b) (h1 : j ∈ nds p a) : j ∉ nds p b := fun h2 => nodes_apart h ha hb hab h1 h2

def ndsL (p : List Int) (ks : List Nat) : List Nat := (ks.map (nds p)).flatten

theorem ig_run (h : GeoOk p) : ∀ (m i : Nat), p.length - i ≤ m → i < p.length → ∀ (P op : List Int) (n : Int) (z : List UInt8), P.length = 30 → (∀ j ∈ nds p i, P[j]? = some (-2)) → Above p op i → (op ≠ [] ∨ n = 0) → op.length ≤ 1000 - m → m ≤ 900 → 0 ≤ n ∧ n ≤ 500 - (nds p i).length → Stops z → z.length + (T p i).length ≤ 90000 →
    ∃ P', loopC impl_ParseGeo_l2 (P, op, -1, n, T p i ++ z) = loopC impl_ParseGeo_l2 (P', op, (i : Int), n + (nds p i).length, z) ∧ Put p P P' (nds p i)
  | 0, i, hm, hi, _, _, _, _, _, _, _, _, _, _, _, _, _ => by omega
  | m + 1, i, hm, hi, P, op, n, z, hP, hfree, hab, hop, hol, hm9, hn, hz, hzl => by
    have hl := h.l2
    have hT := T_eq h hi
    have hN := nds_eq h hi
    have hNl : (nds p i).length = 1 + (ndsL p (kids p i)).length := by rw [hN, List.length_cons]; unfold ndsL; omega
    have hTl : (T p i).length = (Go.Lib.decDigits i).length + (wrapK ((kids p i).map (T p))).length := by rw [hT, List.length_append]
    have h1 := ig_num (z := wrapK ((kids p i).map (T p)) ++ z) (n := n) (op := op) (show i < 30 by omega) hP (hfree i (by rw [hN]; exact List.mem_cons_self)) (wrap_stops hz) (by rw [List.length_append]; omega) (by omega) hop (by omega)
    have put1 := Put.one (p := p) hP (show i < 30 by omega) (hab.up h hi)
    have e0 : loopC impl_ParseGeo_l2 (P, op, -1, n, T p i ++ z) = loopC impl_ParseGeo_l2 (P.set i (upv op), op, (i : Int), n + 1, wrapK ((kids p i).map (T p)) ++ z) := by
      rw [hT, List.append_assoc]
      exact loopC_nx h1
    -- the areas below
    have key : ∀ (ks : List Nat), ks ≠ [] → ks.Nodup → (∀ a ∈ ks, a ∈ kids p i) → ∀ (P1 : List Int) (n1 : Int), P1.length = 30 → (∀ j ∈ ndsL p ks, P1[j]? = some (-2)) → 0 ≤ n1 ∧ n1 ≤ 500 - (ndsL p ks).length → z.length + (Go.Lib.join (ks.map (T p)) [32]).length + 1 ≤ 90000 →
        ∃ P', loopC impl_ParseGeo_l2 (P1, op ++ [(i : Int)], -1, n1, Go.Lib.join (ks.map (T p)) [32] ++ 41 :: z) = loopC impl_ParseGeo_l2 (P', op, (i : Int), n1 + (ndsL p ks).length, z) ∧ Put p P1 P' (ndsL p ks) := by
      intro ks
      induction ks with
      | nil => intro h0; exact absurd rfl h0
      | cons a ks ih =>
        intro _ hnd hks P1 n1 hP1 hfr hn1 hzl1
        obtain ⟨d1, d2⟩ := List.nodup_cons.1 hnd
        have hak := hks a List.mem_cons_self
        obtain ⟨a1, a2, a3, a4⟩ := kid_gt h hak
        have hnl : (ndsL p (a :: ks)).length = (nds p a).length + (ndsL p ks).length := by unfold ndsL; simp
        have hne : ndsL p (a :: ks) = nds p a ++ ndsL p ks := by unfold ndsL; simp
        have habv : Above p (op ++ [(i : Int)]) a := .inr ⟨op, by rw [a4], a3⟩
        have hfa : ∀ j ∈ nds p a, P1[j]? = some (-2) := fun j hj => hfr j (by rw [hne]; exact List.mem_append_left _ hj)
        cases ks with
        | nil =>
          have hj1 : Go.Lib.join ([a].map (T p)) [32] = T p a := by simp [Go.Lib.join]
          rw [hj1] at hzl1 ⊢
          obtain ⟨P2, e2, put2⟩ := ig_run h m a (by omega) a2 P1 (op ++ [(i : Int)]) n1 (41 :: z) hP1 hfa habv (.inl (by simp)) (by rw [List.length_append, List.length_singleton]; omega) (by omega) (by omega) (.inr ⟨41, z, rfl, .inl (by decide)⟩) (by simp only [List.length_cons]; omega)
          refine ⟨P2, ?_, by rw [hne]; simpa [ndsL] using put2⟩
          rw [e2, loopC_nx (ig_cl (by omega) (by omega))]
          rw [hnl]
          simp [ndsL]
        | cons b r =>
          have hj1 : Go.Lib.join ((a :: b :: r).map (T p)) [32] = T p a ++ (32 :: Go.Lib.join ((b :: r).map (T p)) [32]) := by
            rw [List.map_cons, List.map_cons, join_cons2]; rfl
          rw [hj1] at hzl1 ⊢
          simp only [List.length_append, List.length_cons] at hzl1
          obtain ⟨P2, e2, put2⟩ := ig_run h m a (by omega) a2 P1 (op ++ [(i : Int)]) n1 (32 :: (Go.Lib.join ((b :: r).map (T p)) [32] ++ 41 :: z)) hP1 hfa habv (.inl (by simp)) (by rw [List.length_append, List.length_singleton]; omega) (by omega) (by omega) (.inr ⟨32, _, rfl, .inl (by decide)⟩) (by simp only [List.length_cons, List.length_append]; omega)
          obtain ⟨P3, e3, put3⟩ := ih (by simp) d2 (fun c hc => hks c (List.mem_cons_of_mem _ hc)) P2 (n1 + (nds p a).length) put2.len (fun j hj => by
            have hja : j ∉ nds p a := by
              unfold ndsL at hj
              simp only [List.mem_flatten, List.mem_map] at hj
              obtain ⟨_, ⟨c, hc, rfl⟩, hj⟩ := hj
              exact nds_off h (hks c (List.mem_cons_of_mem _ hc)) hak (fun e => d1 (e ▸ hc)) hj
            rw [put2.off j hja]
            exact hfr j (by rw [hne]; exact List.mem_append_right _ hj)) (by omega) (by omega)
          refine ⟨P3, ?_, by rw [hne]; exact put2.trans put3⟩
          rw [List.append_assoc, List.cons_append, e2, loopC_nx (ig_sp (by omega)), e3, hnl]
          congr 5
          omega
    cases hks : kids p i with
    | nil =>
      rw [hks] at e0
      refine ⟨_, by rw [e0]; rw [hNl, hks]; rfl, ?_⟩
      rw [hN, hks]
      exact put1
    | cons a ks =>
      have hjl : (wrapK ((kids p i).map (T p))).length = 2 + (Go.Lib.join ((kids p i).map (T p)) [32]).length := by
        rw [hks, List.map_cons]
        simp only [wrapK, List.length_append, List.length_singleton]; omega
      have hndp := nodes_nodup h 30 i hi
      rw [show nodes p 30 i = nds p i from rfl, hN] at hndp
      obtain ⟨n1, n2⟩ := List.nodup_cons.1 hndp
      obtain ⟨P3, e3, put3⟩ := key (kids p i) (by rw [hks]; simp) (picks_nodup _ _) (fun a ha => ha) (P.set i (upv op)) (n + 1) put1.len (fun j hj => by
        rw [put1.off j (fun e => n1 ((List.mem_singleton.1 e) ▸ hj))]
        exact hfree j (by rw [hN]; exact List.mem_cons_of_mem _ hj)) (by omega) (by omega)
      refine ⟨P3, ?_, by rw [hN]; exact put1.trans put3⟩
      have e4 : wrapK ((kids p i).map (T p)) ++ z = 40 :: (Go.Lib.join ((kids p i).map (T p)) [32] ++ 41 :: z) := by
        rw [hks, List.map_cons]
        simp [wrapK]
      rw [e0, e4, loopC_nx (ig_open (by omega) (by omega)), e3, hNl]
      congr 5
      omega

theorem make30 : goMake 8 30 (0 : Int) = some (List.replicate 30 0) := rfl

theorem fill_neg : loopC (impl_ParseGeo_l1 (List.replicate 30 (0 : Int))) (List.replicate 30 (0 : Int), 0) = some (List.replicate 30 (-2 : Int)) := by
  have := loop_map (l := List.replicate 30 (0 : Int)) (fun _ => (-2 : Int)) 0 (impl_ParseGeo_l1 (List.replicate 30 (0 : Int))) (fun k x out hx ho => by
    have hk := (List.getElem?_eq_some_iff.1 hx).1
    have hok : out[k]? = some (out[k]'(by omega)) := by simp [show k < out.length by omega]
    generalize out[k]'(by omega) = z at hok
    simp only [impl_ParseGeo_l1, lt_ok hx, cond_true, at_ok hok, Option.bind_some, nx_ok hx (show (List.replicate 30 (0 : Int)).length ≤ 9223372036854775807 by simp)]
    rfl) (fun out => by simp only [impl_ParseGeo_l1, lt_end, cond_false])
  rw [List.length_replicate] at this
  rw [this]
  simp

theorem Put.all (h : GeoOk p) {P P' : List Int} (hp : Put p P P' (nds p 0)) : P'.take p.length = p := by
  have hl := h.l2
  refine List.ext_getElem? fun k => ?_
  rw [List.getElem?_take]
  by_cases hk : k < p.length
  · rw [if_pos hk]
    exact hp.on k (nodes_root h (by omega) k hk)
  · rw [if_neg hk, List.getElem?_eq_none (by omega)]

theorem parse_tree (h : gok p = true) : impl_ParseGeo (T p 0) = some (⟨p⟩, true) := by
  have hg := gok_ok h
  have hl := hg.l2
  have h1 := hg.l1
  have hT := T_len hg (i := 0) (by omega)
  have hn := nodes_all hg (n := 30) (by omega)
  obtain ⟨P', e, put⟩ := ig_run hg 30 0 (by omega) (by omega) (List.replicate 30 (-2)) [] 0 [] (by simp) (fun j hj => by
    have := (nodes_path hg 30 0 j (by omega) hj).2.1
    rw [List.getElem?_replicate, if_pos (by omega)]) (.inl ⟨rfl, rfl⟩) (.inr rfl) (by simp) (by omega) (by rw [show (nds p 0).length = p.length from hn]; omega) (.inl rfl) (by simp; omega)
  unfold impl_ParseGeo
  rw [make30, Option.bind_some, fill_neg, Option.bind_some]
  rw [List.append_nil] at e
  rw [e, show (nds p 0).length = p.length from hn, loopC_dn (r := .inl (P', (p.length : Int))) (by simp only [impl_ParseGeo_l2]; rw [show (([] : List UInt8) != []) = false from rfl, cond_false, Int.zero_add])]
  simp only [Option.bind_some]
  have hsub : goSub P' 0 (p.length : Int) = some p := by
    refine tot_eq (tot_sub (by omega) (by omega) (by rw [put.len]; omega) ?_)
    rw [show ((p.length : Int)).toNat - (0 : Int).toNat = p.length by omega]
    exact put.all hg
  rw [hsub, Option.bind_some, clone_eq (by omega), Option.bind_some, impl_IsGeo_eq, h, Option.bind_some, areaText_ok (g := ⟨p⟩) hg]
  simp

/-! ## any text comes to an end -/
def cN (P : List Int) : Nat := (P.filter fun v => v != -2).length

theorem cN_le (P : List Int) : cN P ≤ P.length := List.length_filter_le _ _

theorem cN_set : ∀ {P : List Int} {i : Nat} {v : Int}, P[i]? = some (-2) → v ≠ -2 → cN (P.set i v) = cN P + 1
  | [], i, v, h, _ => by simp at h
  | x :: P, 0, v, h, hv => by
    obtain rfl : x = -2 := by simpa using h
    unfold cN
    rw [List.set_cons_zero, List.filter_cons, List.filter_cons, if_pos (by simpa using hv), if_neg (by simp)]
    rfl
  | x :: P, i + 1, v, h, hv => by
    have ih := cN_set (P := P) (i := i) (by simpa using h) hv
    unfold cN at ih ⊢
    rw [List.set_cons_succ, List.filter_cons, List.filter_cons]
    split <;> (try simp only [List.length_cons]) <;> omega

structure IgI (L : Nat) (t : List Int × List Int × Int × Int × List UInt8) : Prop where
  p : t.1.length = 30
  c : t.2.2.2.1 = (cN t.1 : Int)
  o : t.2.1.length + t.2.2.2.2.length ≤ L
  q : ∀ x ∈ t.2.1, 0 ≤ x
  l : -1 ≤ t.2.2.1

theorem IsGeo_any (x : impl_Geo) : impl_IsGeo x = some (gok x.Parents) := impl_IsGeo_eq x

theorem ig_tot {s : List UInt8} (hs : s.length ≤ 1000) : Tot (loopC impl_ParseGeo_l2 (List.replicate 30 (-2), [], -1, 0, s)) (fun o => match o with | .inl (P, n) => P.length = 30 ∧ 0 ≤ n ∧ n ≤ 30 | .inr o => o = (⟨[]⟩, false)) := by
  refine tot_loop (IgI s.length) (fun t => t.2.2.2.2.length) ⟨by simp, (show (0 : Int) = ((cN (List.replicate 30 (-2)) : Nat) : Int) from rfl), by simp, fun x hx => (by cases hx), by simp⟩ ?_
  rintro ⟨P, op, l, n, x⟩ ⟨hP, hc, ho, hq, hl⟩
  simp only at hP hc ho hq hl
  subst hc
  have hcn := cN_le P
  simp only [impl_ParseGeo_l2]
  cases x with
  | nil =>
    rw [show (([] : List UInt8) != []) = false from rfl, cond_false]
    exact tot_some ⟨hP, by omega, by omega⟩
  | cons b x =>
    simp only [List.length_cons] at ho
    rw [show ((b :: x : List UInt8) != []) = true from rfl, cond_true, strAt0, Option.bind_some, sub1]
    refine tot_bind (Q := fun o => match o with | .inl t => IgI s.length t ∧ t.2.2.2.2.length < (b :: x).length | .inr o => o = .done (.inr (⟨[]⟩, false))) ?_ ?_
    · obtain ⟨z, hz⟩ : ∃ z : Bool, ((cond (((b.toNat : Int)) == 40) (some (((b.toNat : Int)) == 40)) (((cond (((b.toNat : Int)) == 32) (some (((b.toNat : Int)) == 32)) (some (((b.toNat : Int)) == 41))) : Option (Bool)).bind fun t_20 => some t_20)) : Option (Bool)) = some z := by
        cases (((b.toNat : Int)) == 40) <;> cases (((b.toNat : Int)) == 32) <;> exact ⟨_, rfl⟩
      rw [hz, Option.bind_some]
      refine tot_cond (fun _ => tot_cond (fun _ => tot_some rfl) fun hl0 => ?_) fun _ => ?_
      · have hl0 : ¬ l < 0 := of_decide_eq_false hl0
        rw [Option.bind_some]
        have hT : Tot ((cond (((b.toNat : Int)) == 40) ((goApp 8 op ([l] : List Int)).bind fun l_38 => some (.inl l_38)) (cond ((goLen op) == 0) (some (.inr (.inr (.done (.inr ((impl_Geo.mk ([] : List Int)), false)))))) (some (.inl op)))) : Option (((List Int)) ⊕ (((List Int) × (List Int) × Int × Int × (List UInt8)) ⊕ (Stp ((List Int) × (List Int) × Int × Int × (List UInt8)) (((List Int) × Int) ⊕ (impl_Geo × Bool)))))) (fun o => match o with | .inl op' => op' ≠ [] ∧ op'.length ≤ op.length + 1 ∧ (∀ y ∈ op', 0 ≤ y) | .inr o => o = .inr (.done (.inr (⟨[]⟩, false)))) := by
          refine tot_cond (fun _ => ?_) fun _ => tot_cond (fun _ => tot_some rfl) fun h0 => tot_some ⟨fun h => by subst h; simp [goLen] at h0, by omega, hq⟩
          rw [goApp_ok (by simp only [List.length_singleton]; omega), Option.bind_some]
          refine tot_some ⟨by simp, by simp, fun y hy => ?_⟩
          rcases List.mem_append.1 hy with hy | hy
          · exact hq y hy
          · obtain rfl := List.mem_singleton.1 hy; omega
        refine tot_bind hT fun o ho2 => ?_
        rcases o with op' | o
        · obtain ⟨o1, o2, o3⟩ := ho2
          obtain ⟨o', q, rfl⟩ := (op_cases op').resolve_left o1
          simp only [List.length_append, List.length_singleton] at o2
          simp only [Option.bind_some]
          refine tot_bind (Q := fun (r : List Int × Int) => r.1.length ≤ op.length + 1 ∧ (∀ y ∈ r.1, 0 ≤ y) ∧ -1 ≤ r.2) (tot_cond (fun _ => ?_) fun _ => tot_some ⟨by simp only [List.length_append, List.length_singleton]; omega, o3, by simp⟩) fun r ⟨r1, r2, r3⟩ => ?_
          · rw [last_at (by omega), Option.bind_some, pop_sub (by omega), Option.bind_some]
            exact tot_some ⟨by simp only; omega, fun y hy => o3 y (List.mem_append_left _ hy), by have := o3 q (by simp); simp only; omega⟩
          · exact tot_some ⟨⟨hP, rfl, by simp only; omega, r2, r3⟩, by simp⟩
        · subst ho2
          exact tot_some rfl
      · obtain ⟨u, r, b2, e, hb⟩ := readNat_inv (x := b :: x) (most := 29) (by simp only [List.length_cons]; omega) (by omega)
        rw [e, Option.bind_some]
        simp only
        cases b2 with
        | false => exact tot_some rfl
        | true =>
          obtain ⟨i, rfl, hi, hx⟩ := hb rfl
          have hil : i < 30 := by omega
          have hpi : P[i]? = some (P[i]'(by omega)) := by simp [show i < P.length by omega]
          generalize P[i]'(by omega) = v at hpi
          rw [at_ok hpi]
          simp only [Bool.not_true, cond_false]
          have hrl : r.length < (b :: x).length := by
            obtain ⟨c, q, e2, _⟩ := digs_head i
            rw [hx, e2]; simp; omega
          simp only [List.length_cons] at hrl
          obtain ⟨z2, hz2, hz3⟩ : ∃ z2 : Bool, ((cond (decide (0 ≤ l)) (some true) ((some v).bind fun e_23 => (cond (e_23 != (-2)) (some true) (cond ((goLen op) == 0) (some (decide (0 < ((cN P : Nat) : Int)))) (some false))))) : Option Bool) = some z2 ∧ (z2 = false → v = -2) := by
            cases decide (0 ≤ l) with
            | true => exact ⟨true, rfl, fun h => by cases h⟩
            | false =>
              simp only [cond_false, Option.bind_some]
              by_cases hv : v = -2
              · rw [show (v != -2) = false by simpa using hv, cond_false]
                cases (goLen op == 0) <;> exact ⟨_, rfl, fun _ => hv⟩
              · rw [show (v != -2) = true by simpa using hv, cond_true]
                exact ⟨true, rfl, fun h => by cases h⟩
          rw [hz2, Option.bind_some]
          cases z2 with
          | true => exact tot_some rfl
          | false =>
            have hv := hz3 rfl
            subst hv
            have hp1 : goAt (goSet P (i : Int) (-1)) (i : Int) = some (-1) := at_ok (by show (P.set i (-1))[i]? = _; rw [List.getElem?_set_self (by omega)])
            rw [cond_false, Option.bind_some, wid (n := ((cN P : Nat) : Int) + 1) (by omega) (by omega)]
            refine tot_bind (Q := fun P2 => ∃ v : Int, P2 = P.set i v ∧ v ≠ -2) (tot_cond (fun h0 => ?_) fun _ => tot_some ⟨-1, rfl, by omega⟩) fun P2 hP2 => ?_
            · obtain ⟨o', q, rfl⟩ := (op_cases op).resolve_left (fun h => by subst h; simp [goLen] at h0)
              simp only [List.length_append] at ho
              rw [last_at (by omega), Option.bind_some, hp1, Option.bind_some]
              exact tot_some ⟨q, by show (P.set i (-1)).set i q = _; rw [List.set_set], by have := hq q (by simp); omega⟩
            · obtain ⟨v, rfl, hv⟩ := hP2
              exact tot_some ⟨⟨by simp only; rw [List.length_set]; exact hP, by simp only; rw [cN_set hpi hv]; omega, by simp only; omega, hq, by simp only; omega⟩, by simp only [List.length_cons]; omega⟩
    · intro o ho2
      rcases o with t | o
      · exact tot_some ⟨ho2.1, ho2.2⟩
      · subst ho2
        exact tot_some rfl

theorem ParseGeo_eq {s : List UInt8} (hs : s.length ≤ 1000) :
    (∃ p, gok p = true ∧ s = T p 0 ∧ impl_ParseGeo s = some (⟨p⟩, true)) ∨ (impl_ParseGeo s = some (⟨[]⟩, false) ∧ ∀ p, gok p = true → s ≠ T p 0) := by
  have back : impl_ParseGeo s = some (⟨[]⟩, false) → ∀ p, gok p = true → s ≠ T p 0 := by
    rintro e p hp rfl
    rw [parse_tree hp] at e
    cases e
  obtain ⟨o, e, ho⟩ := ig_tot hs
  rcases o with ⟨P, n⟩ | o
  · have hd : impl_ParseGeo s = ((goSub P 0 n).bind fun l_61 => ((slices_Clone_int_int l_61).bind fun t_63 => ((((impl_IsGeo (impl_Geo.mk t_63)).bind fun t_68 => (cond (!t_68) (some true) ((impl_areaText (impl_Geo.mk t_63) 0).bind fun t_70 => some (t_70 != s)))) : Option (Bool)).bind fun t_72 => (cond t_72 (some ((impl_Geo.mk ([] : List Int)), false)) (some ((impl_Geo.mk t_63), true)))))) := by
      unfold impl_ParseGeo
      rw [make30, Option.bind_some, fill_neg, Option.bind_some, e]
      rfl
    obtain ⟨h1, h2, h3⟩ := ho
    obtain ⟨q, e2, hq⟩ : Tot (goSub P 0 n) (fun q => q.length ≤ 30) := tot_sub (by omega) h2 (by omega) (by rw [List.length_take]; omega)
    simp only [e2, Option.bind_some, clone_eq (show q.length ≤ 1000000 by omega), impl_IsGeo_eq] at hd
    cases hg : gok q with
    | false =>
      rw [hg] at hd
      exact .inr ⟨hd, back hd⟩
    | true =>
      rw [hg, areaText_ok (g := ⟨q⟩) (gok_ok hg)] at hd
      simp only [Option.bind_some, Bool.not_true, cond_false] at hd
      by_cases hx : T q 0 = s
      · left
        refine ⟨q, hg, hx.symm, ?_⟩
        rw [hd, show (T q 0 != s) = false by simpa using hx]
        rfl
      · right
        rw [show (T q 0 != s) = true by simpa using hx] at hd
        exact ⟨hd, back hd⟩
  · subst ho
    have hd : impl_ParseGeo s = some (⟨[]⟩, false) := by
      unfold impl_ParseGeo
      rw [make30, Option.bind_some, fill_neg, Option.bind_some, e]
      rfl
    exact .inr ⟨hd, back hd⟩

end
end Go.Gx.F
