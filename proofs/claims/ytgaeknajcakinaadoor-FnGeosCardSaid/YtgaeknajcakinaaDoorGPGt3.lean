/- Plain laws: the text of a tree of areas, read back by the reference. -/
import Derived.Test.YtgaeknajcakinaaDoorGPGt2
namespace Go.Gx.F
open Go.Gx
set_option linter.all false

section
variable {p : List Int} {g : impl_Geo} {s : List UInt8} {P st : List Int} {n l : Int} {k : Nat}

/-- no digit is at k -/
def NoDig (s : List UInt8) (k : Nat) : Prop := k = s.length ∨ ∃ b, s[k]? = some b ∧ (b.toNat < 48 ∨ 57 < b.toNat)

theorem digq_no (h : NoDig s k) : ((cond (decide ((k : Int) < (goLen s))) ((goStrAt s (k : Int)).bind fun t_12 => (cond (decide (48 ≤ t_12)) ((goStrAt s (k : Int)).bind fun t_13 => some (decide (t_13 ≤ 57))) (some false))) (some false)) : Option (Bool)) = some false := by
  rcases h with rfl | ⟨b, hb, h⟩
  · rw [decide_eq_false (by simp [goLen])]; rfl
  · have hk := (List.getElem?_eq_some_iff.1 hb).1
    rw [decide_eq_true (by simp only [goLen]; omega), cond_true, strAt_k hb, Option.bind_some, Option.bind_some]
    by_cases h1 : 48 ≤ b.toNat
    · rw [decide_eq_true (by omega), decide_eq_false (by omega)]; rfl
    · rw [decide_eq_false (by omega)]; rfl

theorem noDig_b {b : UInt8} (hb : s[k]? = some b) (h : b.toNat < 48 ∨ 57 < b.toNat) : NoDig s k := .inr ⟨b, hb, h⟩

theorem sg_flush {d : Nat} (h : NoDig s k) (hd : d < 30) (hP : P.length = 30) (hst : st.length ≤ 100000) (hn : 0 ≤ n ∧ n ≤ 100000) :
    spec_gParse_l1 s (P, n, st, l, (d : Int), (k : Int)) = spec_gParse_l1 s (P.set d (upv st), n + 1, st, (d : Int), -1, (k : Int)) := by
  have hpd : P[d]? = some (P[d]'(by omega)) := by simp [show d < P.length by omega]
  generalize P[d]'(by omega) = v at hpd
  simp only [spec_gParse_l1]
  have hkl : k ≤ s.length := by
    rcases h with rfl | ⟨b, hb, _⟩
    · exact Nat.le_refl _
    · have := (List.getElem?_eq_some_iff.1 hb).1; omega
  rw [decide_eq_true (show (k : Int) ≤ goLen s by simp only [goLen]; omega), cond_true, cond_true, digq_no h, decide_eq_true (show (0 : Int) ≤ (d : Int) by omega), decide_eq_false (show ¬ (0 : Int) ≤ -1 by omega)]
  simp only [Option.bind_some, cond_false, cond_true]
  have hup : ((cond (decide (0 < (goLen st))) ((goAt st (w64 ((goLen st) - 1))).bind fun e_15 => some e_15) (some (-1))) : Option (Int)) = some (upv st) := by
    rcases op_cases st with rfl | ⟨o, q, rfl⟩
    · rfl
    · rw [goLen_pos, cond_true, last_at (by rw [List.length_append] at hst; omega), upv_snoc]; rfl
  rw [hup, Option.bind_some, at_ok hpd, Option.bind_some, wid (n := n + 1) (by omega) (by omega)]
  rfl

theorem sg_dig {x : Nat} {d v : Int} (hb : s[k]? = some (UInt8.ofNat (48 + x))) (hx : x < 10) (hd : -1 ≤ d ∧ d < 30) (hv : v = 10 * max d 0 + x) (h30 : v < 30) (hk : k ≤ 100000) :
    spec_gParse_l1 s (P, n, st, l, d, (k : Int)) = some (.next (P, n, st, l, v, ((k + 1 : Nat) : Int))) := by
  have hlt := (List.getElem?_eq_some_iff.1 hb).1
  have hdn := dig_nat hx
  simp only [spec_gParse_l1]
  rw [decide_eq_true (show (k : Int) ≤ goLen s by simp only [goLen]; omega), cond_true, decide_eq_true (show (k : Int) < goLen s by simp only [goLen]; omega), cond_true, strAt_k hb, hdn]
  simp only [Option.bind_some]
  rw [decide_eq_true (show (48 : Int) ≤ ((48 + x : Nat) : Int) by omega), cond_true, decide_eq_true (show ((48 + x : Nat) : Int) ≤ 57 by omega)]
  simp only [Option.bind_some, cond_true]
  rw [lMost_eq]
  simp only [Option.bind_some]
  rw [u8_dig hx, wid (n := 10 * max d 0) (by omega) (by omega), wid (n := 10 * max d 0 + x) (by omega) (by omega), ← hv, decide_eq_false (by omega)]
  simp only [cond_false, Option.bind_some]
  rw [wid (n := (k : Int) + 1) (by omega) (by omega)]
  rfl

theorem sg_open (hb : s[k]? = some 40) (hk : k ≤ 100000) (hst : st.length ≤ 100000) : spec_gParse_l1 s (P, n, st, l, -1, (k : Int)) = some (.next (P, n, st ++ [l], l, -1, ((k + 1 : Nat) : Int))) := by
  have hlt := (List.getElem?_eq_some_iff.1 hb).1
  simp only [spec_gParse_l1]
  rw [decide_eq_true (show (k : Int) ≤ goLen s by simp only [goLen]; omega), cond_true, digq_no (noDig_b hb (.inl (by decide))), decide_eq_false (show ¬ (0 : Int) ≤ -1 by omega)]
  simp only [Option.bind_some, cond_false]
  rw [show ((k : Int) == goLen s) = false by rw [beq_eq_false_iff_ne]; simp only [goLen]; omega, cond_false, strAt_k hb, Option.bind_some, show (((40 : UInt8).toNat : Int) == 40) = true from rfl, cond_true, goApp_ok (by simp only [List.length_singleton]; omega)]
  simp only [Option.bind_some]
  rw [wid (n := (k : Int) + 1) (by omega) (by omega)]
  rfl

theorem sg_sp (hb : s[k]? = some 32) (hk : k ≤ 100000) : spec_gParse_l1 s (P, n, st, l, -1, (k : Int)) = some (.next (P, n, st, l, -1, ((k + 1 : Nat) : Int))) := by
  have hlt := (List.getElem?_eq_some_iff.1 hb).1
  simp only [spec_gParse_l1]
  rw [decide_eq_true (show (k : Int) ≤ goLen s by simp only [goLen]; omega), cond_true, digq_no (noDig_b hb (.inl (by decide))), decide_eq_false (show ¬ (0 : Int) ≤ -1 by omega)]
  simp only [Option.bind_some, cond_false]
  rw [show ((k : Int) == goLen s) = false by rw [beq_eq_false_iff_ne]; simp only [goLen]; omega, cond_false, strAt_k hb, Option.bind_some, show (((32 : UInt8).toNat : Int) == 40) = false from rfl, show (((32 : UInt8).toNat : Int) == 41) = false from rfl]
  simp only [Option.bind_some, cond_false]
  rw [wid (n := (k : Int) + 1) (by omega) (by omega)]
  rfl

theorem sg_cl {o : List Int} {q : Int} (hb : s[k]? = some 41) (hk : k ≤ 100000) (ho : o.length ≤ 100000) : spec_gParse_l1 s (P, n, o ++ [q], l, -1, (k : Int)) = some (.next (P, n, o, l, -1, ((k + 1 : Nat) : Int))) := by
  have hlt := (List.getElem?_eq_some_iff.1 hb).1
  simp only [spec_gParse_l1]
  rw [decide_eq_true (show (k : Int) ≤ goLen s by simp only [goLen]; omega), cond_true, digq_no (noDig_b hb (.inl (by decide))), decide_eq_false (show ¬ (0 : Int) ≤ -1 by omega)]
  simp only [Option.bind_some, cond_false]
  rw [show ((k : Int) == goLen s) = false by rw [beq_eq_false_iff_ne]; simp only [goLen]; omega, cond_false, strAt_k hb, Option.bind_some, show (((41 : UInt8).toNat : Int) == 40) = false from rfl, show (((41 : UInt8).toNat : Int) == 41) = true from rfl, goLen_ne, pop_sub ho]
  simp only [Option.bind_some, cond_false, cond_true]
  rw [wid (n := (k : Int) + 1) (by omega) (by omega)]
  rfl

theorem sg_end : spec_gParse_l1 s (P, n, st, l, -1, (s.length : Int)) = some (.done (.inl (P, n))) := by
  simp only [spec_gParse_l1]
  rw [decide_eq_true (show (s.length : Int) ≤ goLen s by simp only [goLen]; omega), cond_true, digq_no (.inl rfl), decide_eq_false (show ¬ (0 : Int) ≤ -1 by omega)]
  simp only [Option.bind_some, cond_false]
  rw [show ((s.length : Int) == goLen s) = true by rw [beq_iff_eq], cond_true]
  rfl

theorem loopC_same {σ ρ : Type} {body : σ → Option (Stp σ ρ)} {x y : σ} (h : body x = body y) : loopC body x = loopC body y := by rw [loopC_eq, h, ← loopC_eq]

theorem at_app {a z : List UInt8} {b : UInt8} : (a ++ b :: z)[a.length]? = some b := by
  rw [List.getElem?_append_right (Nat.le_refl _), Nat.sub_self]; rfl

theorem stops_no {a z : List UInt8} (h : Stops z) : NoDig (a ++ z) a.length := by
  rcases h with rfl | ⟨b, q, rfl, hb⟩
  · exact .inl (by simp)
  · exact .inr ⟨b, at_app, hb⟩

theorem go_same {n' : Int} {k' : Nat} (h1 : n = n') (h2 : k = k') : loopC (spec_gParse_l1 s) (P, n, st, l, -1, (k : Int)) = loopC (spec_gParse_l1 s) (P, n', st, l, -1, (k' : Int)) := by rw [h1, h2]

theorem sg_num {i : Nat} {a z : List UInt8} (hs : s = a ++ (Go.Lib.decDigits i ++ z)) (hi : i < 30) (hP : P.length = 30) (hz : Stops z) (hsl : s.length ≤ 90000) (hst : st.length ≤ 100000) (hn : 0 ≤ n ∧ n ≤ 100000) :
    loopC (spec_gParse_l1 s) (P, n, st, l, -1, (a.length : Int)) = loopC (spec_gParse_l1 s) (P.set i (upv st), n + 1, st, (i : Int), -1, ((a ++ Go.Lib.decDigits i).length : Int)) := by
  have hl : s.length = a.length + (Go.Lib.decDigits i).length + z.length := by rw [hs]; simp only [List.length_append]; omega
  have hno : NoDig s (a ++ Go.Lib.decDigits i).length := by rw [hs, ← List.append_assoc]; exact stops_no hz
  have fl := loopC_same (sg_flush (s := s) (P := P) (n := n) (st := st) (l := l) hno hi hP hst hn)
  rw [← fl]
  by_cases h : i < 10
  · have e := num_small h
    rw [e] at hs hl ⊢
    rw [loopC_nx (sg_dig (x := i) (v := (i : Int)) (by rw [hs]; exact at_app) h (by omega) (by omega) (by omega) (by omega))]
    simp only [List.length_append, List.length_singleton]
  · have e := num_big h
    rw [num_small (show i / 10 < 10 by omega)] at e
    rw [e] at hs hl ⊢
    simp only [List.length_append, List.length_singleton] at hl
    rw [loopC_nx (sg_dig (x := i / 10) (v := ((i / 10 : Nat) : Int)) (by rw [hs]; exact at_app) (by omega) (by omega) (by omega) (by omega) (by omega))]
    have h2 : s[a.length + 1]? = some (UInt8.ofNat (48 + i % 10)) := by
      have : s = (a ++ [UInt8.ofNat (48 + i / 10)]) ++ UInt8.ofNat (48 + i % 10) :: z := by rw [hs]; simp
      rw [this]
      have := at_app (a := a ++ [UInt8.ofNat (48 + i / 10)]) (z := z) (b := UInt8.ofNat (48 + i % 10))
      simpa using this
    rw [loopC_nx (sg_dig (x := i % 10) (v := (i : Int)) h2 (by omega) (by omega) (by omega) (by omega) (by omega))]
    simp only [List.length_append, List.length_singleton]

theorem sg_run (h : GeoOk p) (hsl : s.length ≤ 90000) : ∀ (m i : Nat), p.length - i ≤ m → i < p.length → ∀ (P st : List Int) (n l : Int) (a z : List UInt8), s = a ++ (T p i ++ z) → P.length = 30 → Above p st i → st.length ≤ 1000 - m → m ≤ 900 → 0 ≤ n ∧ n ≤ 500 - (nds p i).length → Stops z →
    ∃ P' l', loopC (spec_gParse_l1 s) (P, n, st, l, -1, (a.length : Int)) = loopC (spec_gParse_l1 s) (P', n + (nds p i).length, st, l', -1, ((a ++ T p i).length : Int)) ∧ Put p P P' (nds p i)
  | 0, i, hm, hi, _, _, _, _, _, _, _, _, _, _, _, _, _ => by omega
  | m + 1, i, hm, hi, P, st, n, l, a, z, hs, hP, hab, hol, hm9, hn, hz => by
    have hl := h.l2
    have hT := T_eq h hi
    have hN := nds_eq h hi
    have hNl : (nds p i).length = 1 + (ndsL p (kids p i)).length := by rw [hN, List.length_cons]; unfold ndsL; omega
    have hs1 : s = a ++ (Go.Lib.decDigits i ++ (wrapK ((kids p i).map (T p)) ++ z)) := by rw [hs, hT, List.append_assoc]
    have e0 := sg_num (P := P) (n := n) (st := st) (l := l) hs1 (show i < 30 by omega) hP (wrap_stops hz) hsl (by omega) (by omega)
    have put1 := Put.one (p := p) hP (show i < 30 by omega) (hab.up h hi)
    have key : ∀ (ks : List Nat), ks ≠ [] → ks.Nodup → (∀ c ∈ ks, c ∈ kids p i) → ∀ (P1 : List Int) (n1 l1 : Int) (a1 : List UInt8), P1.length = 30 → 0 ≤ n1 ∧ n1 ≤ 500 - (ndsL p ks).length → s = a1 ++ (Go.Lib.join (ks.map (T p)) [32] ++ 41 :: z) →
        ∃ P' l', loopC (spec_gParse_l1 s) (P1, n1, st ++ [(i : Int)], l1, -1, (a1.length : Int)) = loopC (spec_gParse_l1 s) (P', n1 + (ndsL p ks).length, st, l', -1, ((a1 ++ (Go.Lib.join (ks.map (T p)) [32] ++ [41])).length : Int)) ∧ Put p P1 P' (ndsL p ks) := by
      intro ks
      induction ks with
      | nil => intro h0; exact absurd rfl h0
      | cons c ks ih =>
        intro _ hnd hks P1 n1 l1 a1 hP1 hn1 hs2
        obtain ⟨d1, d2⟩ := List.nodup_cons.1 hnd
        have hck := hks c List.mem_cons_self
        obtain ⟨c1, c2, c3, c4⟩ := kid_gt h hck
        have hnl : (ndsL p (c :: ks)).length = (nds p c).length + (ndsL p ks).length := by unfold ndsL; simp
        have hne : ndsL p (c :: ks) = nds p c ++ ndsL p ks := by unfold ndsL; simp
        have habv : Above p (st ++ [(i : Int)]) c := .inr ⟨st, by rw [c4], c3⟩
        have hsl2 := congrArg List.length hs2
        cases ks with
        | nil =>
          have hj1 : Go.Lib.join ([c].map (T p)) [32] = T p c := by simp [Go.Lib.join]
          rw [hj1] at hs2 hsl2 ⊢
          simp only [List.length_append, List.length_cons] at hsl2
          obtain ⟨P2, l2, e2, put2⟩ := sg_run h hsl m c (by omega) c2 P1 (st ++ [(i : Int)]) n1 l1 a1 (41 :: z) hs2 hP1 habv (by rw [List.length_append, List.length_singleton]; omega) (by omega) (by omega) (.inr ⟨41, z, rfl, .inl (by decide)⟩)
          refine ⟨P2, l2, ?_, by rw [hne]; simpa [ndsL] using put2⟩
          have hat : s[(a1 ++ T p c).length]? = some 41 := by rw [hs2, ← List.append_assoc]; exact at_app
          rw [e2, loopC_nx (sg_cl hat (by rw [List.length_append]; omega) (by omega)), hnl]
          simp only [List.length_append, List.length_singleton, ndsL, List.map_nil, List.flatten_nil, List.length_nil, Nat.add_zero]
          rfl
        | cons b r =>
          have hj1 : Go.Lib.join ((c :: b :: r).map (T p)) [32] = T p c ++ (32 :: Go.Lib.join ((b :: r).map (T p)) [32]) := by
            rw [List.map_cons, List.map_cons, join_cons2]; rfl
          rw [hj1] at hs2 hsl2 ⊢
          simp only [List.length_append, List.length_cons] at hsl2
          have hs3 : s = a1 ++ (T p c ++ (32 :: (Go.Lib.join ((b :: r).map (T p)) [32] ++ 41 :: z))) := by rw [hs2]; simp only [List.append_assoc, List.cons_append]
          obtain ⟨P2, l2, e2, put2⟩ := sg_run h hsl m c (by omega) c2 P1 (st ++ [(i : Int)]) n1 l1 a1 _ hs3 hP1 habv (by rw [List.length_append, List.length_singleton]; omega) (by omega) (by omega) (.inr ⟨32, _, rfl, .inl (by decide)⟩)
          obtain ⟨P3, l3, e3, put3⟩ := ih (by simp) d2 (fun e he => hks e (List.mem_cons_of_mem _ he)) P2 (n1 + (nds p c).length) l2 ((a1 ++ T p c) ++ [32]) put2.len (by omega) (by rw [hs3]; simp only [List.append_assoc, List.cons_append, List.nil_append])
          refine ⟨P3, l3, ?_, by rw [hne]; exact put2.trans put3⟩
          have hat : s[(a1 ++ T p c).length]? = some 32 := by rw [hs3, ← List.append_assoc]; exact at_app
          rw [e2, loopC_nx (sg_sp hat (by rw [List.length_append]; omega))]
          rw [List.length_append, List.length_singleton] at e3
          rw [e3, hnl]
          exact go_same (by omega) (by simp only [List.length_append, List.length_cons, List.length_nil]; omega)
    cases hks : kids p i with
    | nil =>
      refine ⟨P.set i (upv st), (i : Int), ?_, by rw [hN, hks]; exact put1⟩
      rw [e0, hNl, hks, hT, hks]
      simp only [List.map_nil, wrapK, List.append_nil]
      rfl
    | cons c ks =>
      have e4 : wrapK ((kids p i).map (T p)) = 40 :: (Go.Lib.join ((kids p i).map (T p)) [32] ++ [41]) := by
        rw [hks, List.map_cons]
        simp [wrapK]
      have hs3 : s = (a ++ Go.Lib.decDigits i) ++ (40 :: (Go.Lib.join ((kids p i).map (T p)) [32] ++ 41 :: z)) := by
        rw [hs1, e4]; simp only [List.append_assoc, List.cons_append, List.nil_append]
      have hsl3 := congrArg List.length hs3
      simp only [List.length_append, List.length_cons] at hsl3
      obtain ⟨P3, l3, e3, put3⟩ := key (kids p i) (by rw [hks]; simp) (picks_nodup _ _) (fun c hc => hc) (P.set i (upv st)) (n + 1) (i : Int) ((a ++ Go.Lib.decDigits i) ++ [40]) put1.len (by omega) (by rw [hs3]; simp only [List.append_assoc, List.cons_append, List.nil_append])
      refine ⟨P3, l3, ?_, by rw [hN]; exact put1.trans put3⟩
      have hat : s[(a ++ Go.Lib.decDigits i).length]? = some 40 := by rw [hs3]; exact at_app
      rw [e0, loopC_nx (sg_open hat (by rw [List.length_append]; omega) (by omega))]
      rw [List.length_append (as := a ++ Go.Lib.decDigits i), List.length_singleton] at e3
      rw [e3, hNl, hT, e4]
      exact go_same (by omega) (by simp only [List.length_append, List.length_cons, List.length_nil]; omega)

theorem sparse_tree (h : gok p = true) : spec_ParseGeo (T p 0) = some (⟨p⟩, true) := by
  have hg := gok_ok h
  have hl := hg.l2
  have h1 := hg.l1
  have hT := T_len hg (i := 0) (by omega)
  have hn := nodes_all hg (n := 30) (by omega)
  obtain ⟨P', l', e, put⟩ := sg_run hg (s := T p 0) (by omega) 30 0 (by omega) (by omega) (List.replicate 30 0) [] 0 (-1) [] [] (by simp) (by simp) (.inl ⟨rfl, rfl⟩) (by simp) (by omega) (by rw [show (nds p 0).length = p.length from hn]; omega) (.inl rfl)
  rw [List.nil_append, show (nds p 0).length = p.length from hn, loopC_dn sg_end, Int.zero_add, show (([] : List UInt8).length : Int) = 0 from rfl] at e
  unfold spec_ParseGeo spec_gParse
  rw [make30, Option.bind_some, e]
  simp only [Option.bind_some]
  rw [decide_eq_false (show ¬ (p.length : Int) < 1 by omega), cond_false, decide_eq_false (show ¬ (30 : Int) < (p.length : Int) by omega)]
  have hsub : goSub P' 0 (p.length : Int) = some p := by
    refine tot_eq (tot_sub (by omega) (by omega) (by rw [put.len]; omega) ?_)
    rw [show ((p.length : Int)).toNat - (0 : Int).toNat = p.length by omega]
    exact put.all hg
  simp only [Option.bind_some, cond_false]
  rw [hsub, Option.bind_some, own_eq (by omega), Option.bind_some, spec_gGood_eq, h, Option.bind_some, gText_ok (g := ⟨p⟩) hg]
  simp

structure SgI (L : Nat) (t : List Int × Int × List Int × Int × Int × Int) : Prop where
  p : t.1.length = 30
  k : ∃ k : Nat, t.2.2.2.2.2 = (k : Int) ∧ k ≤ L + 1 ∧ t.2.2.1.length ≤ k ∧ 0 ≤ t.2.1 ∧ t.2.1 ≤ (k : Int)
  d : -1 ≤ t.2.2.2.2.1 ∧ t.2.2.2.2.1 < 30

theorem sg_tot (hs : s.length ≤ 1000) : Tot (loopC (spec_gParse_l1 s) (List.replicate 30 0, 0, [], -1, -1, 0)) (fun o => match o with | .inl (P, n) => P.length = 30 ∧ 0 ≤ n ∧ n ≤ 2000 | .inr o => o = (⟨[]⟩, false)) := by
  refine tot_loop (SgI s.length) (fun t => s.length + 1 - t.2.2.2.2.2.toNat) ⟨by simp, ⟨0, rfl, by omega, by simp, by simp, by simp⟩, by simp⟩ ?_
  rintro ⟨P, n, st, l, d, _⟩ ⟨hP, ⟨k, rfl, hk, hst, hn0, hn1⟩, hd⟩
  simp only at hP hst hn0 hn1 hd
  simp only [spec_gParse_l1]
  refine tot_cond (fun hkl => ?_) fun _ => tot_some ⟨hP, hn0, by omega⟩
  have hkl : (k : Int) ≤ goLen s := of_decide_eq_true hkl
  simp only [goLen] at hkl
  refine tot_bind (Q := fun o => match o with | .inl t => t.1.length = 30 ∧ t.2.2.1.length ≤ k + 1 ∧ (0 ≤ t.2.1 ∧ t.2.1 ≤ (k : Int) + 1) ∧ (-1 ≤ t.2.2.2.2 ∧ t.2.2.2.2 < 30) | .inr o => ∃ r, o = .done r ∧ (match r with | .inl (P, n) => P.length = 30 ∧ 0 ≤ n ∧ n ≤ 2000 | .inr o => o = (⟨[]⟩, false))) ?_ ?_
  · obtain ⟨z, hz, hz2⟩ : ∃ z : Bool, ((cond (decide ((k : Int) < (goLen s))) ((goStrAt s (k : Int)).bind fun t_12 => (cond (decide (48 ≤ t_12)) ((goStrAt s (k : Int)).bind fun t_13 => some (decide (t_13 ≤ 57))) (some false))) (some false)) : Option (Bool)) = some z ∧ (z = true → ∃ b, s[k]? = some b ∧ 48 ≤ b.toNat ∧ b.toNat ≤ 57) := by
      by_cases h1 : k < s.length
      · have hb : s[k]? = some s[k] := by simp [h1]
        generalize s[k] = b at hb
        rw [decide_eq_true (show (k : Int) < goLen s by simp only [goLen]; omega), cond_true, strAt_k hb, Option.bind_some, Option.bind_some]
        by_cases h2 : 48 ≤ b.toNat
        · rw [decide_eq_true (show (48 : Int) ≤ (b.toNat : Int) by omega), cond_true]
          exact ⟨_, rfl, fun h => ⟨b, hb, h2, by have := of_decide_eq_true h; omega⟩⟩
        · rw [decide_eq_false (show ¬ (48 : Int) ≤ (b.toNat : Int) by omega)]
          exact ⟨_, rfl, fun h => by cases h⟩
      · rw [decide_eq_false (show ¬ (k : Int) < goLen s by simp only [goLen]; omega)]
        exact ⟨_, rfl, fun h => by cases h⟩
    rw [hz, Option.bind_some]
    refine tot_cond (fun hzt => ?_) fun _ => ?_
    · obtain ⟨b, hb, b1, b2⟩ := hz2 hzt
      rw [strAt_k hb, Option.bind_some, lMost_eq, Option.bind_some, u8dig b1 b2, wid (n := 10 * max d 0) (by omega) (by omega), wid (n := 10 * max d 0 + ((b.toNat - 48 : Nat) : Int)) (by omega) (by omega)]
      refine tot_cond (fun _ => tot_some ⟨_, rfl, rfl⟩) fun h => tot_some ⟨hP, by simp only; omega, by simp only; omega, ?_⟩
      have := of_decide_eq_false h
      simp only
      omega
    · have hF : Tot ((cond (decide (0 ≤ d)) (((cond (decide (0 < (goLen st))) ((goAt st (w64 ((goLen st) - 1))).bind fun e_15 => some e_15) (some (-1))) : Option (Int)).bind fun up_17 => ((goAt P d).bind fun e_18 => some (goSet P d up_17, (w64 (n + 1)), d, -1))) (some (P, n, l, d))) : Option ((List Int) × Int × Int × Int)) (fun r => r.1.length = 30 ∧ (0 ≤ r.2.1 ∧ r.2.1 ≤ (k : Int) + 1) ∧ (-1 ≤ r.2.2.2 ∧ r.2.2.2 < 30)) := by
        refine tot_cond (fun h0 => ?_) fun _ => tot_some ⟨hP, ⟨hn0, by simp only; omega⟩, hd⟩
        have h0 : 0 ≤ d := of_decide_eq_true h0
        have hup : ((cond (decide (0 < (goLen st))) ((goAt st (w64 ((goLen st) - 1))).bind fun e_15 => some e_15) (some (-1))) : Option (Int)) = some (upv st) := by
          rcases op_cases st with rfl | ⟨o, q, rfl⟩
          · rfl
          · rw [goLen_pos, cond_true, last_at (by rw [List.length_append] at hst; omega), upv_snoc]; rfl
        rw [hup, Option.bind_some]
        refine tot_bind (tot_at (Q := fun _ => True) h0 (by omega) fun _ _ _ => trivial) fun _ _ => ?_
        rw [wid (n := n + 1) (by omega) (by omega)]
        exact tot_some ⟨by show (P.set _ _).length = _; rw [List.length_set]; exact hP, ⟨by simp only; omega, by simp only; omega⟩, by simp⟩
      refine tot_bind hF fun ⟨P2, n2, l2, d2⟩ ⟨p1, p2, p3⟩ => ?_
      simp only at p1 p2 p3
      refine tot_cond (fun _ => tot_some ⟨_, rfl, p1, p2.1, by have := p2.2; show n2 ≤ 2000; omega⟩) fun hke => ?_
      have hkn : k < s.length := by
        have : ((k : Int) == (s.length : Int)) = false := hke
        rw [beq_eq_false_iff_ne] at this
        omega
      have hb : s[k]? = some s[k] := by simp [hkn]
      generalize s[k] = b at hb
      rw [strAt_k hb, Option.bind_some]
      have hst2 : Tot ((cond (((b.toNat : Int)) == 40) ((goApp 8 st ([l2] : List Int)).bind fun l_32 => some (.inl l_32)) (((cond (((b.toNat : Int)) == 41) (cond ((goLen st) == 0) (some (.inr (.inr (.inr (.done (.inr ((impl_Geo.mk ([] : List Int)), false))))))) ((goSub st 0 (w64 ((goLen st) - 1))).bind fun l_27 => some (.inl l_27))) (some (.inl st))) : Option (((List Int)) ⊕ (((List Int)) ⊕ (((List Int) × Int × (List Int) × Int × Int) ⊕ (Stp ((List Int) × Int × (List Int) × Int × Int × Int) (((List Int) × Int) ⊕ (impl_Geo × Bool))))))).bind fun | .inl stack_29 => some (.inl stack_29) | .inr o => some o)) : Option (((List Int)) ⊕ (((List Int) × Int × (List Int) × Int × Int) ⊕ (Stp ((List Int) × Int × (List Int) × Int × Int × Int) (((List Int) × Int) ⊕ (impl_Geo × Bool)))))) (fun o => match o with | .inl x => x.length ≤ k + 1 | .inr o => o = .inr (.done (.inr (⟨[]⟩, false)))) := by
        refine tot_cond (fun _ => ?_) fun _ => ?_
        · rw [goApp_ok (by simp only [List.length_singleton]; omega), Option.bind_some]
          exact tot_some (by simp; omega)
        · refine tot_bind (Q := fun o => match o with | .inl x => x.length ≤ k + 1 | .inr o => o = .inr (.inr (.done (.inr (⟨[]⟩, false))))) (tot_cond (fun _ => tot_cond (fun _ => tot_some rfl) fun h0 => ?_) fun _ => tot_some (by simp only; omega)) fun o ho => ?_
          · obtain ⟨o', q, rfl⟩ := (op_cases st).resolve_left (fun h => by subst h; simp [goLen] at h0)
            simp only [List.length_append] at hst
            rw [pop_sub (by omega), Option.bind_some]
            exact tot_some (by simp only; omega)
          · rcases o with x | o
            · exact tot_some ho
            · subst ho; exact tot_some rfl
      refine tot_bind hst2 fun o ho => ?_
      rcases o with x | o
      · exact tot_some ⟨p1, ho, p2, p3⟩
      · subst ho
        exact tot_some ⟨_, rfl, rfl⟩
  · intro o ho
    rcases o with ⟨P2, n2, st2, l2, d2⟩ | o
    · obtain ⟨q1, q2, q3, q4⟩ := ho
      simp only at q1 q2 q3 q4
      simp only
      rw [wid (n := (k : Int) + 1) (by omega) (by omega)]
      exact tot_some ⟨⟨q1, ⟨k + 1, by simp only; omega, by omega, q2, q3.1, by simp only; omega⟩, q4⟩, by simp only; omega⟩
    · obtain ⟨r, rfl, hr⟩ := ho
      exact tot_some hr

theorem SpecGeo_eq (hs : s.length ≤ 1000) :
    (∃ p, gok p = true ∧ s = T p 0 ∧ spec_ParseGeo s = some (⟨p⟩, true)) ∨ (spec_ParseGeo s = some (⟨[]⟩, false) ∧ ∀ p, gok p = true → s ≠ T p 0) := by
  have back : spec_ParseGeo s = some (⟨[]⟩, false) → ∀ p, gok p = true → s ≠ T p 0 := by
    rintro e p hp rfl
    rw [sparse_tree hp] at e
    cases e
  obtain ⟨o, e, ho⟩ := sg_tot hs
  rcases o with ⟨P, n⟩ | o
  · have hd : spec_gParse s = (((cond (decide (n < 1)) (some true) (some (decide (30 < n)))) : Option (Bool)).bind fun t_53 => (cond t_53 (some ((impl_Geo.mk ([] : List Int)), false)) ((goSub P 0 n).bind fun l_54 => ((spec_l1Own l_54).bind fun t_56 => ((((spec_gGood (impl_Geo.mk t_56)).bind fun t_61 => (cond (!t_61) (some true) ((spec_gText (impl_Geo.mk t_56) 0).bind fun t_63 => some (t_63 != s)))) : Option (Bool)).bind fun t_65 => (cond t_65 (some ((impl_Geo.mk ([] : List Int)), false)) (some ((impl_Geo.mk t_56), true)))))))) := by
      unfold spec_gParse
      rw [make30, Option.bind_some, e]
      rfl
    obtain ⟨h1, h2, h3⟩ := ho
    have hd2 : spec_ParseGeo s = spec_gParse s := by
      unfold spec_ParseGeo
      cases spec_gParse s <;> rfl
    rw [← hd2] at hd
    by_cases hn : n < 1
    · rw [decide_eq_true hn] at hd
      exact .inr ⟨hd, back hd⟩
    · rw [decide_eq_false hn, cond_false, Option.bind_some] at hd
      by_cases hn2 : 30 < n
      · rw [decide_eq_true hn2] at hd
        exact .inr ⟨hd, back hd⟩
      · rw [decide_eq_false hn2, cond_false] at hd
        obtain ⟨q, e2, hq⟩ : Tot (goSub P 0 n) (fun q => q.length ≤ 30) := tot_sub (by omega) h2 (by omega) (by rw [List.length_take]; omega)
        simp only [e2, Option.bind_some, own_eq (show q.length ≤ 1000000 by omega), spec_gGood_eq] at hd
        cases hg : gok q with
        | false =>
          rw [hg] at hd
          exact .inr ⟨hd, back hd⟩
        | true =>
          rw [hg, gText_ok (g := ⟨q⟩) (gok_ok hg)] at hd
          simp only [Option.bind_some, Bool.not_true, cond_false] at hd
          by_cases hx : T q 0 = s
          · left
            refine ⟨q, hg, hx.symm, ?_⟩
            rw [hd, show (T q 0 != s) = false by simpa using hx]
            rfl
          · right
            rw [show (T q 0 != s) = true by simpa using hx] at hd
            exact ⟨hd, back hd⟩
  · subst ho
    have hd : spec_ParseGeo s = some (⟨[]⟩, false) := by
      unfold spec_ParseGeo spec_gParse
      rw [make30, Option.bind_some, e]
      rfl
    exact .inr ⟨hd, back hd⟩

theorem T_inj {q : List Int} (hp : gok p = true) (hq : gok q = true) (h : T p 0 = T q 0) : p = q := by
  have h1 := parse_tree hp
  rw [h, parse_tree hq] at h1
  have := (Prod.mk.inj (Option.some.inj h1)).1
  exact (congrArg impl_Geo.Parents this).symm

theorem ParseGeo_same (hs : s.length ≤ 1000) : ∃ r, impl_ParseGeo s = some r ∧ spec_ParseGeo s = some r ∧ r.1.Parents.length ≤ 30 := by
  rcases ParseGeo_eq hs with ⟨p, h1, h2, e1⟩ | ⟨e1, h1⟩ <;> rcases SpecGeo_eq hs with ⟨q, h3, h4, e2⟩ | ⟨e2, h3⟩
  · obtain rfl := T_inj h1 h3 (h2.symm.trans h4)
    exact ⟨_, e1, e2, (gok_ok h1).l2⟩
  · exact absurd h2 (h3 p h1)
  · exact absurd h4 (h1 q h3)
  · exact ⟨_, e1, e2, by simp⟩

end
end Go.Gx.F
