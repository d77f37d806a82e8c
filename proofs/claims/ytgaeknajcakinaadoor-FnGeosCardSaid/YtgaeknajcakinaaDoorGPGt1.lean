/- Plain laws: the text of a tree of areas, both writers. -/
import Derived.Test.YtgaeknajcakinaaDoorGPDrs
import Derived.Test.YtgaeknajcakinaaDoorGPSpl
namespace Go.Gx.F
open Go.Gx
set_option linter.all false

/-! ## the areas below an area -/
def kidB (p : List Int) (i k : Nat) : Bool := p[k]? == some (i : Int)
def kids (p : List Int) (i : Nat) : List Nat := picks (kidB p i) (fun k => k) p.length

theorem picks_up (sel : Nat → Bool) : ∀ n, picks sel (fun k => (k : Int)) n = up (picks sel (fun k => k) n)
  | 0 => rfl
  | n + 1 => by
    simp only [picks, picks_up sel n]
    cases sel n <;> simp [up]

theorem picks_nodup (sel : Nat → Bool) : ∀ n, (picks sel (fun k => k) n).Nodup
  | 0 => List.nodup_nil
  | n + 1 => by
    simp only [picks]
    cases sel n with
    | false => exact picks_nodup sel n
    | true =>
      simp only [cond_true]
      refine List.nodup_append.2 ⟨picks_nodup sel n, by simp, fun a ha b hb => ?_⟩
      obtain ⟨k, hk, _, e⟩ := mem_picks.1 ha
      obtain rfl := List.mem_singleton.1 hb
      omega

theorem mem_kids {p : List Int} {i j : Nat} : j ∈ kids p i ↔ j < p.length ∧ p[j]? = some (i : Int) := by
  unfold kids
  rw [mem_picks]
  constructor
  · rintro ⟨k, hk, h1, rfl⟩
    exact ⟨hk, by simpa [kidB] using h1⟩
  · rintro ⟨h1, h2⟩
    exact ⟨j, h1, by simpa [kidB] using h2, rfl⟩

section
variable {p : List Int} {g : impl_Geo}

theorem kid_gt (h : GeoOk p) {i j : Nat} (hj : j ∈ kids p i) : i < j ∧ j < p.length ∧ 0 < j ∧ par p j = i := by
  obtain ⟨h1, h2⟩ := mem_kids.1 hj
  have h0 : 0 < j := by
    rcases Nat.eq_zero_or_pos j with rfl | h0
    · rw [h.rt] at h2
      have := Option.some.inj h2
      omega
    · exact h0
  have h3 := h.up j _ h2 h0
  obtain ⟨h4, h5⟩ := par_at h h1 h0
  rw [h2] at h4
  have := Option.some.inj h4
  exact ⟨by omega, h1, h0, by omega⟩

theorem kids_len (p : List Int) (i : Nat) : (kids p i).length ≤ p.length := picks_len _

theorem kids_spec (hl : g.Parents.length ≤ 1000) (i : Nat) : spec_gChildren g (i : Int) = some (up (kids g.Parents i)) := by
  unfold spec_gChildren
  rw [loop_sel (n := g.Parents.length) (kidB g.Parents i) (fun k => (k : Int)) (fun out k hk ho => ?_) (fun out => by simp only [spec_gChildren_l1, lt_end, cond_false])]
  · rw [picks_up]; rfl
  · have hx : g.Parents[k]? = some g.Parents[k] := by simp [hk]
    generalize g.Parents[k] = x at hx
    simp only [spec_gChildren_l1, lt_ok hx, at_ok hx, cond_true, Option.bind_some, nx_ok hx (show g.Parents.length ≤ 9223372036854775807 by omega), kidB, hx]
    rw [show (some x == some (i : Int)) = (x == (i : Int)) from rfl]
    cases x == (i : Int)
    · rfl
    · rw [cond_true, goApp_ok (by simp; omega)]; rfl

theorem kids_impl (h : GeoOk g.Parents) (i : Nat) : impl_childrenOf g (i : Int) = some (up (kids g.Parents i)) := by
  have hl := h.l2
  unfold impl_childrenOf
  rw [loop_sel (n := g.Parents.length) (kidB g.Parents i) (fun k => (k : Int)) (fun out k hk ho => ?_) (fun out => by simp only [impl_childrenOf_l1, lt_end, cond_false])]
  · rw [picks_up]; rfl
  · have hx : g.Parents[k]? = some g.Parents[k] := by simp [hk]
    generalize g.Parents[k] = x at hx
    simp only [impl_childrenOf_l1, lt_ok hx, at_ok hx, cond_true, Option.bind_some, nx_ok hx (show g.Parents.length ≤ 9223372036854775807 by omega), kidB, hx]
    rw [show (some x == some (i : Int)) = (x == (i : Int)) from rfl]
    cases hxi : x == (i : Int)
    · rfl
    · have h0 : 0 < k := by
        rcases Nat.eq_zero_or_pos k with rfl | h0
        · rw [h.rt] at hx
          have := Option.some.inj hx
          simp only [beq_iff_eq] at hxi
          omega
        · exact h0
      rw [cond_true, decide_eq_true (show (0 : Int) < (k : Int) by omega)]
      simp only [Option.bind_some, cond_true]
      rw [goApp_ok (by simp; omega)]; rfl

/-! ## all areas below an area -/
def nodes (p : List Int) : Nat → Nat → List Nat
  | 0, _ => []
  | n + 1, i => i :: ((kids p i).map (nodes p n)).flatten

theorem mem_nodes_succ {n i j : Nat} : j ∈ nodes p (n + 1) i ↔ j = i ∨ ∃ a ∈ kids p i, j ∈ nodes p n a := by
  simp only [nodes, List.mem_cons, List.mem_flatten, List.mem_map]
  constructor
  · rintro (h | ⟨l, ⟨a, ha, rfl⟩, hj⟩)
    · exact .inl h
    · exact .inr ⟨a, ha, hj⟩
  · rintro (h | ⟨a, ha, hj⟩)
    · exact .inl h
    · exact .inr ⟨_, ⟨a, ha, rfl⟩, hj⟩

theorem gpath_self (p : List Int) (i : Nat) : (i : Int) ∈ gpath p i := List.mem_of_getLast? (gpath_last p i)

theorem nodes_path (h : GeoOk p) : ∀ (n i j : Nat), i < p.length → j ∈ nodes p n i → i ≤ j ∧ j < p.length ∧ (i : Int) ∈ gpath p j
  | 0, _, _, _, hj => by simp [nodes] at hj
  | n + 1, i, j, hi, hj => by
    rcases mem_nodes_succ.1 hj with rfl | ⟨a, ha, hj⟩
    · exact ⟨Nat.le_refl _, hi, gpath_self p j⟩
    · obtain ⟨h1, h2, h3, h4⟩ := kid_gt h ha
      obtain ⟨i1, i2, i3⟩ := nodes_path h n a j h2 hj
      refine ⟨by omega, i2, ?_⟩
      obtain ⟨k, hk⟩ := List.getElem?_of_mem i3
      obtain ⟨m, _, e, e2, _⟩ := gpath_at h j i2 k _ hk
      obtain rfl : a = m := by omega
      have : (i : Int) ∈ gpath p a := by
        rw [gpath_up h h2 h3, h4]
        exact List.mem_append_left _ (gpath_self p i)
      rw [e2] at this
      exact List.mem_of_mem_take this

theorem nodes_apart (h : GeoOk p) {n i a b j : Nat} (ha : a ∈ kids p i) (hb : b ∈ kids p i) (hab : a ≠ b) (h1 : j ∈ nodes p n a) (h2 : j ∈ nodes p n b) : False := by
  obtain ⟨a1, a2, a3, a4⟩ := kid_gt h ha
  obtain ⟨b1, b2, b3, b4⟩ := kid_gt h hb
  obtain ⟨_, hj, p1⟩ := nodes_path h n a j a2 h1
  obtain ⟨_, _, p2⟩ := nodes_path h n b j b2 h2
  obtain ⟨k, hk⟩ := List.getElem?_of_mem p1
  obtain ⟨k', hk'⟩ := List.getElem?_of_mem p2
  obtain ⟨m, _, e, _, l1⟩ := gpath_at h j hj k _ hk
  obtain ⟨m', _, e', _, l2⟩ := gpath_at h j hj k' _ hk'
  obtain rfl : a = m := by omega
  obtain rfl : b = m' := by omega
  rw [gpath_up h a2 a3, a4, List.length_append, List.length_singleton] at l1
  rw [gpath_up h b2 b3, b4, List.length_append, List.length_singleton] at l2
  obtain rfl : k = k' := by omega
  rw [hk] at hk'
  have := Option.some.inj hk'
  omega

theorem nodes_nodup (h : GeoOk p) : ∀ (n i : Nat), i < p.length → (nodes p n i).Nodup
  | 0, _, _ => List.nodup_nil
  | n + 1, i, hi => by
    simp only [nodes]
    refine List.nodup_cons.2 ⟨fun hm => ?_, ?_⟩
    · simp only [List.mem_flatten, List.mem_map] at hm
      obtain ⟨_, ⟨a, ha, rfl⟩, hj⟩ := hm
      obtain ⟨h1, h2, _, _⟩ := kid_gt h ha
      have := (nodes_path h n a i h2 hj).1
      omega
    · have key : ∀ ks : List Nat, ks.Nodup → (∀ a ∈ ks, a ∈ kids p i) → ((ks.map (nodes p n)).flatten).Nodup := by
        intro ks
        induction ks with
        | nil => intro _ _; exact List.nodup_nil
        | cons a ks ih =>
          intro hn hk
          obtain ⟨n1, n2⟩ := List.nodup_cons.1 hn
          rw [List.map_cons, List.flatten_cons]
          have ha := hk a List.mem_cons_self
          refine List.nodup_append.2 ⟨nodes_nodup h n a (kid_gt h ha).2.1, ih n2 fun b hb => hk b (List.mem_cons_of_mem _ hb), fun x hx y hy => ?_⟩
          rintro rfl
          simp only [List.mem_flatten, List.mem_map] at hy
          obtain ⟨_, ⟨b, hb, rfl⟩, hy⟩ := hy
          exact nodes_apart h ha (hk b (List.mem_cons_of_mem _ hb)) (fun e => n1 (e ▸ hb)) hx hy
      exact key (kids p i) (picks_nodup _ _) fun a ha => ha

theorem nodes_le (h : GeoOk p) {n i : Nat} (hi : i < p.length) : (nodes p n i).length ≤ p.length := by
  have := List.Nodup.length_le_of_subset (nodes_nodup h n i hi) (l₂ := List.range p.length) fun j hj => List.mem_range.2 (nodes_path h n i j hi hj).2.1
  simpa using this

theorem nodes_kid (h : GeoOk p) : ∀ (n i a j : Nat), p.length - i ≤ n → i < p.length → a ∈ nodes p n i → j ∈ kids p a → j ∈ nodes p n i
  | 0, i, _, _, hn, hi, _, _ => by omega
  | n + 1, i, a, j, hn, hi, ha, hj => by
    rcases mem_nodes_succ.1 ha with rfl | ⟨b, hb, ha⟩
    · refine mem_nodes_succ.2 (.inr ⟨j, hj, ?_⟩)
      obtain ⟨h1, h2, _, _⟩ := kid_gt h hj
      obtain ⟨m, rfl⟩ : ∃ m, n = m + 1 := ⟨n - 1, by omega⟩
      exact mem_nodes_succ.2 (.inl rfl)
    · obtain ⟨h1, h2, _, _⟩ := kid_gt h hb
      exact mem_nodes_succ.2 (.inr ⟨b, hb, nodes_kid h n b a j (by omega) h2 ha hj⟩)

theorem nodes_root (h : GeoOk p) {n : Nat} (hn : p.length ≤ n) (j : Nat) : j < p.length → j ∈ nodes p n 0 := by
  induction j using Nat.strongRecOn with
  | _ j ih =>
    intro hj
    have hl := h.l1
    rcases Nat.eq_zero_or_pos j with rfl | h0
    · obtain ⟨m, rfl⟩ : ∃ m, n = m + 1 := ⟨n - 1, by omega⟩
      exact mem_nodes_succ.2 (.inl rfl)
    · obtain ⟨e, h1⟩ := par_at h hj h0
      exact nodes_kid h n 0 _ j (by omega) (by omega) (ih _ h1 (by omega)) (mem_kids.2 ⟨hj, e⟩)

theorem nodes_all (h : GeoOk p) {n : Nat} (hn : p.length ≤ n) : (nodes p n 0).length = p.length := by
  have hl := h.l1
  have h1 := nodes_le h (n := n) (i := 0) (by omega)
  have := List.Nodup.length_le_of_subset (List.nodup_range (n := p.length)) (l₂ := nodes p n 0) fun j hj => nodes_root h hn j (List.mem_range.1 hj)
  simp only [List.length_range] at this
  omega

/-! ## the text -/
def wrapK : List (List UInt8) → List UInt8
  | [] => []
  | x :: l => ([40] ++ Go.Lib.join (x :: l) [32]) ++ [41]
def txt (p : List Int) : Nat → Nat → List UInt8
  | 0, _ => []
  | n + 1, i => Go.Lib.decDigits i ++ wrapK ((kids p i).map (txt p n))
def T (p : List Int) (i : Nat) : List UInt8 := txt p 30 i
def nds (p : List Int) (i : Nat) : List Nat := nodes p 30 i

theorem map_congr' {α β : Type} {l : List α} {f f' : α → β} (h : ∀ x ∈ l, f x = f' x) : l.map f = l.map f' := List.map_congr_left h

theorem txt_fuel (h : GeoOk p) : ∀ (n m i : Nat), i < p.length → p.length - i ≤ n → p.length - i ≤ m → txt p n i = txt p m i
  | 0, _, i, hi, hn, _ => by omega
  | _ + 1, 0, i, hi, _, hm => by omega
  | n + 1, m + 1, i, hi, hn, hm => by
    simp only [txt]
    rw [map_congr' fun j hj => txt_fuel h n m j (kid_gt h hj).2.1 (by have := (kid_gt h hj).1; omega) (by have := (kid_gt h hj).1; omega)]

theorem nodes_fuel (h : GeoOk p) : ∀ (n m i : Nat), i < p.length → p.length - i ≤ n → p.length - i ≤ m → nodes p n i = nodes p m i
  | 0, _, i, hi, hn, _ => by omega
  | _ + 1, 0, i, hi, _, hm => by omega
  | n + 1, m + 1, i, hi, hn, hm => by
    simp only [nodes]
    rw [map_congr' fun j hj => nodes_fuel h n m j (kid_gt h hj).2.1 (by have := (kid_gt h hj).1; omega) (by have := (kid_gt h hj).1; omega)]

theorem T_eq (h : GeoOk p) {i : Nat} (hi : i < p.length) : T p i = Go.Lib.decDigits i ++ wrapK ((kids p i).map (T p)) := by
  have hl := h.l2
  have e : T p i = Go.Lib.decDigits i ++ wrapK ((kids p i).map (txt p 29)) := rfl
  rw [e, map_congr' fun j hj => txt_fuel h 29 30 j (kid_gt h hj).2.1 (by have := (kid_gt h hj).1; omega) (by omega)]
  rfl

theorem nds_eq (h : GeoOk p) {i : Nat} (hi : i < p.length) : nds p i = i :: ((kids p i).map (nds p)).flatten := by
  have hl := h.l2
  have e : nds p i = i :: ((kids p i).map (nodes p 29)).flatten := rfl
  rw [e, map_congr' fun j hj => nodes_fuel h 29 30 j (kid_gt h hj).2.1 (by have := (kid_gt h hj).1; omega) (by omega)]
  rfl

theorem join_sum {sep : List UInt8} : ∀ (l : List (List UInt8)), (Go.Lib.join l sep).length ≤ (l.map fun x => x.length + sep.length).sum
  | [] => by simp [join_nil]
  | [x] => by
    have : Go.Lib.join [x] sep = x := by simp [Go.Lib.join]
    rw [this]; simp
  | x :: y :: r => by
    have ih := join_sum (sep := sep) (y :: r)
    rw [join_cons2]
    simp only [List.length_append, List.map_cons, List.sum_cons] at ih ⊢
    omega

theorem dig2 {i : Nat} (h : i ≤ 30) : 1 ≤ (Go.Lib.decDigits i).length ∧ (Go.Lib.decDigits i).length ≤ 2 := (read_small ⟨i, by omega⟩).1

theorem txt_nodes (h : GeoOk p) : ∀ (n i : Nat), i < p.length → p.length - i ≤ n → (txt p n i).length + 1 ≤ 5 * (nodes p n i).length
  | 0, _, _, _ => by omega
  | n + 1, i, hi, hn => by
    have hl := h.l2
    have hd := (dig2 (i := i) (by omega)).2
    have hs : ∀ ks : List Nat, (∀ a ∈ ks, a ∈ kids p i) → ((ks.map (txt p n)).map fun x => x.length + 1).sum ≤ 5 * ((ks.map (nodes p n)).flatten).length := by
      intro ks
      induction ks with
      | nil => intro _; simp
      | cons a ks ih =>
        intro hk
        have hg := kid_gt h (hk a List.mem_cons_self)
        have h1 := txt_nodes h n a hg.2.1 (by omega)
        have h2 := ih (fun b hb => hk b (List.mem_cons_of_mem _ hb))
        simp only [List.map_cons, List.sum_cons, List.flatten_cons, List.length_append] at h2 ⊢
        omega
    have hw : (wrapK ((kids p i).map (txt p n))).length ≤ 2 + 5 * (((kids p i).map (nodes p n)).flatten).length := by
      have h1 := hs (kids p i) (fun a ha => ha)
      have h2 := join_sum (sep := [32]) ((kids p i).map (txt p n))
      simp only [List.length_singleton] at h2
      cases hk : (kids p i).map (txt p n) with
      | nil => simp [wrapK]
      | cons x l =>
        rw [hk] at h1 h2
        simp only [wrapK, List.length_append, List.length_singleton]
        omega
    simp only [txt, nodes, List.length_append, List.length_cons]
    omega

theorem T_len (h : GeoOk p) {i : Nat} (hi : i < p.length) : (T p i).length ≤ 150 := by
  have hl := h.l2
  have h1 := txt_nodes h 30 i hi (by omega)
  have h2 := nodes_le h (n := 30) hi
  unfold T
  omega

/-! ## the program's writer -/
theorem up_nil_iff {l : List Nat} : (goLen (up l) == 0) = l.isEmpty := by
  cases l with
  | nil => rfl
  | cons a l => simp [up, goLen]; omega

theorem up_atn {l : List Nat} {k j : Nat} (h : l[k]? = some j) : (up l)[k]? = some (j : Int) := up_get h

theorem aText_all {rcf : impl_Geo → Int → Option (List UInt8)} {ks : List Nat} {parts : List (List UInt8)} (hl : ks.length ≤ 1000) : ∀ (m k : Nat) (out : List (List UInt8)), k + m = ks.length → out.length = ks.length → loopC (impl_areaText_l1 rcf g (up ks)) (out, (k : Int)) = some parts → ∀ (x j : Nat), k ≤ x → ks[x]? = some j → ∃ r, rcf g (j : Int) = some r
  | 0, k, out, hk, _, _, x, j, hx, hj => by
    have := (List.getElem?_eq_some_iff.1 hj).1
    omega
  | m + 1, k, out, hk, ho, hr, x, j, hx, hj => by
    have hkj : ks[k]? = some (ks[k]'(by omega)) := by simp [show k < ks.length by omega]
    generalize ks[k]'(by omega) = y at hkj
    have hu := up_get hkj
    have hok : out[k]? = some (out[k]'(by omega)) := by simp [show k < out.length by omega]
    generalize out[k]'(by omega) = z at hok
    rw [loopC_eq] at hr
    simp only [impl_areaText_l1, lt_ok hu, at_ok hu, cond_true, Option.bind_some] at hr
    cases hc : rcf g (y : Int) with
    | none => rw [hc] at hr; cases hr
    | some r =>
      rw [hc] at hr
      simp only [Option.bind_some, at_ok hok, nx_ok hu (show (up ks).length ≤ 9223372036854775807 by rw [up_len]; omega)] at hr
      by_cases hxk : x = k
      · subst hxk
        rw [hkj] at hj
        obtain rfl := Option.some.inj hj
        exact ⟨r, hc⟩
      · exact aText_all hl m (k + 1) (goSet out (k : Int) r) (by omega) (by show (out.set _ _).length = _; rw [List.length_set]; exact ho) hr x j (by omega) hj

theorem aText_run {rcf : impl_Geo → Int → Option (List UInt8)} {ks : List Nat} (hl : ks.length ≤ 1000) (h : ∀ j ∈ ks, rcf g (j : Int) = some (T p j)) : loopC (impl_areaText_l1 rcf g (up ks)) (List.replicate (up ks).length [], 0) = some (ks.map (T p)) := by
  rw [loop_map (fun x : Int => T p x.toNat) ([] : List UInt8) _ (fun k x out hx ho => ?_) (fun out => by simp only [impl_areaText_l1, lt_end, cond_false])]
  · simp only [up, List.map_map]
    congr 1
  · have hkl := (List.getElem?_eq_some_iff.1 hx).1
    rw [up_len] at hkl
    have hkj : ks[k]? = some (ks[k]'(by omega)) := by simp [show k < ks.length by omega]
    generalize ks[k]'(by omega) = y at hkj
    have hu := up_get hkj
    rw [hx] at hu
    obtain rfl := Option.some.inj hu
    have hok : out[k]? = some (out[k]'(by rw [up_len] at ho; omega)) := by simp [show k < out.length by rw [up_len] at ho; omega]
    generalize out[k]'(by rw [up_len] at ho; omega) = z at hok
    simp only [impl_areaText_l1, lt_ok hx, at_ok hx, cond_true, Option.bind_some, h y (List.mem_of_getElem? hkj), at_ok hok, nx_ok hx (show (up ks).length ≤ 9223372036854775807 by rw [up_len]; omega)]
    rfl

theorem parts_len (h : GeoOk p) {ks : List Nat} (hk : ∀ j ∈ ks, j < p.length) (hl : ks.length ≤ 30) : (Go.Lib.join (ks.map (T p)) [32]).length ≤ 30 * 151 := by
  have h1 := join_len_le (sep := [32]) (B := 150) (l := ks.map (T p)) fun x hx => by
    obtain ⟨j, hj, rfl⟩ := List.mem_map.1 hx
    exact T_len h (hk j hj)
  rw [List.length_map] at h1
  simp only [List.length_singleton] at h1
  have : ks.length * (150 + 1) ≤ 30 * 151 := Nat.mul_le_mul hl (by omega)
  omega

theorem aText_B (h : GeoOk g.Parents) {rcf : impl_Geo → Int → Option (List UInt8)} {i : Nat} (hi : i < g.Parents.length) (hr : ∀ j ∈ kids g.Parents i, ∀ r, rcf g (j : Int) = some r → r = T g.Parents j) :
    (∀ r, impl_areaText_B rcf g (i : Int) = some r → r = T g.Parents i) ∧ ((∀ j ∈ kids g.Parents i, rcf g (j : Int) = some (T g.Parents j)) → impl_areaText_B rcf g (i : Int) = some (T g.Parents i)) := by
  have hl := h.l2
  have hkl := kids_len g.Parents i
  have hd := (dig2 (i := i) (by omega)).2
  have hpl := parts_len h (ks := kids g.Parents i) (fun j hj => (kid_gt h hj).2.1) (by omega)
  have main : (∀ j ∈ kids g.Parents i, rcf g (j : Int) = some (T g.Parents j)) → impl_areaText_B rcf g (i : Int) = some (T g.Parents i) := by
    intro hall
    unfold impl_areaText_B
    rw [itoa_ok (by omega) (by omega), Option.bind_some, kids_impl h, Option.bind_some, up_nil_iff, show Go.Lib.itoa (i : Int) = Go.Lib.decDigits i by unfold Go.Lib.itoa; rw [if_neg (by omega)]; rfl, T_eq h hi]
    cases hks : kids g.Parents i with
    | nil => simp [wrapK]
    | cons a ks =>
      rw [← hks, show (kids g.Parents i).isEmpty = false by rw [hks]; rfl, cond_false]
      simp only [goLen]
      rw [goMake_ok (by rw [up_len]; omega) (by rw [up_len]; omega), Option.bind_some, aText_run (p := g.Parents) (by omega) hall, Option.bind_some, cat_ok (by simp only [List.length_singleton]; omega), Option.bind_some]
      have hj : strings_Join ((kids g.Parents i).map (T g.Parents)) [32] = some (Go.Lib.join ((kids g.Parents i).map (T g.Parents)) [32]) := by
        unfold strings_Join
        rw [decide_eq_true ⟨by rw [List.length_map]; omega, by omega⟩, cond_true]
      rw [hj, Option.bind_some, cat_ok (by simp only [List.length_append, List.length_singleton]; omega), Option.bind_some, cat_ok (by simp only [List.length_append, List.length_singleton]; omega), Option.bind_some]
      congr 1
      rw [hks, List.map_cons]
      simp only [wrapK, List.append_assoc]
  refine ⟨fun r hB => ?_, main⟩
  have hall : ∀ j ∈ kids g.Parents i, rcf g (j : Int) = some (T g.Parents j) := by
    unfold impl_areaText_B at hB
    rw [itoa_ok (by omega) (by omega), Option.bind_some, kids_impl h, Option.bind_some, up_nil_iff] at hB
    cases hks : kids g.Parents i with
    | nil => intro j hj; cases hj
    | cons a ks =>
      rw [← hks]
      rw [show (kids g.Parents i).isEmpty = false by rw [hks]; rfl, cond_false] at hB
      simp only [goLen] at hB
      rw [goMake_ok (by rw [up_len]; omega) (by rw [up_len]; omega), Option.bind_some] at hB
      cases hp : loopC (impl_areaText_l1 rcf g (up (kids g.Parents i))) (List.replicate (up (kids g.Parents i)).length [], 0) with
      | none => rw [hp] at hB; cases hB
      | some parts =>
        intro j hj
        obtain ⟨x, hx⟩ := List.getElem?_of_mem hj
        obtain ⟨r', hr'⟩ := aText_all (by omega) (kids g.Parents i).length 0 _ (by omega) (by rw [List.length_replicate, up_len]) hp x j (by omega) hx
        rw [hr', hr j hj r' hr']
  rw [main hall] at hB
  exact (Option.some.inj hB).symm

theorem aText_k (h : GeoOk g.Parents) : ∀ (k i : Nat), i < g.Parents.length → (∀ r, impl_areaText_k k g (i : Int) = some r → r = T g.Parents i) ∧ (g.Parents.length - i ≤ k → impl_areaText_k k g (i : Int) = some (T g.Parents i))
  | 0, i, hi => ⟨fun r hr => (by cases hr), fun hk => (by omega)⟩
  | k + 1, i, hi => by
    obtain ⟨h1, h2⟩ := aText_B h (rcf := impl_areaText_k k) hi fun j hj r hr => (aText_k h k j (kid_gt h hj).2.1).1 r hr
    refine ⟨h1, fun hk => h2 fun j hj => ?_⟩
    obtain ⟨g1, g2, _, _⟩ := kid_gt h hj
    exact (aText_k h k j g2).2 (by omega)

theorem areaText_ok (h : GeoOk g.Parents) : impl_areaText g 0 = some (T g.Parents 0) := by
  have hl := h.l1
  exact recO_of ((aText_k h g.Parents.length 0 (by omega)).2 (by omega)) fun k r hr => (aText_k h k 0 (by omega)).1 r hr

/-! ## the reference's writer -/
def preK (p : List Int) (ks : List Nat) (k : Nat) : List UInt8 := if k = 0 then [] else [40] ++ Go.Lib.join ((ks.take k).map (T p)) [32]

theorem preK_next {ks : List Nat} {k j : Nat} (h : ks[k]? = some j) : preK p ks (k + 1) = (preK p ks k ++ (if k = 0 then [40] else [32])) ++ T p j := by
  have hk := (List.getElem?_eq_some_iff.1 h).1
  unfold preK
  rw [if_neg (by omega), List.take_add_one, h]
  by_cases h0 : k = 0
  · subst h0
    simp [Go.Lib.join]
  · rw [if_neg h0, if_neg h0, List.map_append]
    simp only [Option.toList_some, List.map_cons, List.map_nil]
    rw [join_snoc]
    · simp only [List.append_assoc]
    · intro hc
      have := congrArg List.length hc
      simp only [List.length_map, List.length_take, List.length_nil] at this
      omega

theorem preK_len (h : GeoOk p) {ks : List Nat} (hk : ∀ j ∈ ks, j < p.length) (hl : ks.length ≤ 30) (k : Nat) : (preK p ks k).length ≤ 5000 := by
  unfold preK
  split
  · simp
  · have := parts_len h (ks := ks.take k) (fun j hj => hk j (List.mem_of_mem_take hj)) (by rw [List.length_take]; omega)
    simp only [List.length_append, List.length_singleton]
    omega

theorem gText_all {rcf : impl_Geo → Int → Option (List UInt8)} {ks : List Nat} {q : List UInt8} (hl : ks.length ≤ 1000) : ∀ (m k : Nat) (s : List UInt8), k + m = ks.length → loopC (spec_gText_l1 rcf g (up ks)) (s, (k : Int)) = some q → ∀ (x j : Nat), k ≤ x → ks[x]? = some j → ∃ r, rcf g (j : Int) = some r
  | 0, k, s, hk, _, x, j, hx, hj => by
    have := (List.getElem?_eq_some_iff.1 hj).1
    omega
  | m + 1, k, s, hk, hr, x, j, hx, hj => by
    have hkj : ks[k]? = some (ks[k]'(by omega)) := by simp [show k < ks.length by omega]
    generalize ks[k]'(by omega) = y at hkj
    have hu := up_get hkj
    rw [loopC_eq] at hr
    simp only [spec_gText_l1, lt_ok hu, at_ok hu, cond_true, Option.bind_some] at hr
    generalize ((cond ((k : Int) == 0) ((goCat s ([40] : List UInt8)).bind fun t_12 => some t_12) ((goCat s ([32] : List UInt8)).bind fun t_11 => some t_11)) : Option ((List UInt8))) = o at hr
    cases o with
    | none => cases hr
    | some s1 =>
      simp only [Option.bind_some] at hr
      cases hc : rcf g (y : Int) with
      | none => rw [hc] at hr; cases hr
      | some r =>
        rw [hc] at hr
        simp only [Option.bind_some] at hr
        cases hcat : goCat s1 r with
        | none => rw [hcat] at hr; cases hr
        | some s2 =>
          rw [hcat] at hr
          simp only [Option.bind_some, nx_ok hu (show (up ks).length ≤ 9223372036854775807 by rw [up_len]; omega)] at hr
          by_cases hxk : x = k
          · subst hxk
            rw [hkj] at hj
            obtain rfl := Option.some.inj hj
            exact ⟨r, hc⟩
          · exact gText_all hl m (k + 1) s2 (by omega) hr x j (by omega) hj

theorem gText_run (h : GeoOk p) {rcf : impl_Geo → Int → Option (List UInt8)} {ks : List Nat} (hk : ∀ j ∈ ks, j < p.length) (hl : ks.length ≤ 30) (hr : ∀ j ∈ ks, rcf g (j : Int) = some (T p j)) {d : List UInt8} (hd : d.length ≤ 10) : ∀ (m k : Nat), k + m = ks.length → loopC (spec_gText_l1 rcf g (up ks)) (d ++ preK p ks k, (k : Int)) = some (d ++ preK p ks ks.length)
  | 0, k, hm => by
    obtain rfl : k = ks.length := by omega
    refine loopC_dn ?_
    have e := lt_end (l := up ks)
    rw [up_len] at e
    simp only [spec_gText_l1, e, cond_false]
  | m + 1, k, hm => by
    have hkj : ks[k]? = some (ks[k]'(by omega)) := by simp [show k < ks.length by omega]
    generalize ks[k]'(by omega) = y at hkj
    have hu := up_get hkj
    have hy := hk y (List.mem_of_getElem? hkj)
    have hT := T_len h hy
    have hp := preK_len h hk hl k
    rw [loopC_nx (y := (d ++ preK p ks (k + 1), ((k + 1 : Nat) : Int)))]
    · exact gText_run h hk hl hr hd m (k + 1) (by omega)
    · simp only [spec_gText_l1, lt_ok hu, at_ok hu, cond_true, Option.bind_some]
      have e : ((cond ((k : Int) == 0) ((goCat (d ++ preK p ks k) ([40] : List UInt8)).bind fun t_12 => some t_12) ((goCat (d ++ preK p ks k) ([32] : List UInt8)).bind fun t_11 => some t_11)) : Option ((List UInt8))) = some ((d ++ preK p ks k) ++ (if k = 0 then [40] else [32])) := by
        by_cases h0 : k = 0
        · rw [show ((k : Int) == 0) = true by rw [beq_iff_eq]; omega, cond_true, cat_ok (by simp only [List.length_append, List.length_singleton]; omega), if_pos h0]; rfl
        · rw [show ((k : Int) == 0) = false by rw [beq_eq_false_iff_ne]; omega, cond_false, cat_ok (by simp only [List.length_append, List.length_singleton]; omega), if_neg h0]; rfl
      have e3 : ((if k = 0 then [40] else [32] : List UInt8)).length = 1 := by split <;> rfl
      rw [e, Option.bind_some, hr y (List.mem_of_getElem? hkj), Option.bind_some, cat_ok (by rw [List.length_append, List.length_append, e3]; omega), Option.bind_some, nx_ok hu (by rw [up_len]; omega), preK_next hkj]
      simp only [List.append_assoc]

theorem gText_B (h : GeoOk g.Parents) {rcf : impl_Geo → Int → Option (List UInt8)} {i : Nat} (hi : i < g.Parents.length) (hr : ∀ j ∈ kids g.Parents i, ∀ r, rcf g (j : Int) = some r → r = T g.Parents j) :
    (∀ r, spec_gText_B rcf g (i : Int) = some r → r = T g.Parents i) ∧ ((∀ j ∈ kids g.Parents i, rcf g (j : Int) = some (T g.Parents j)) → spec_gText_B rcf g (i : Int) = some (T g.Parents i)) := by
  have hl := h.l2
  have hkl := kids_len g.Parents i
  have hd := (dig2 (i := i) (by omega)).2
  have hkp : ∀ j ∈ kids g.Parents i, j < g.Parents.length := fun j hj => (kid_gt h hj).2.1
  have hpl := preK_len h (ks := kids g.Parents i) hkp (by omega) (kids g.Parents i).length
  have main : (∀ j ∈ kids g.Parents i, rcf g (j : Int) = some (T g.Parents j)) → spec_gText_B rcf g (i : Int) = some (T g.Parents i) := by
    intro hall
    unfold spec_gText_B
    have run := gText_run h (g := g) hkp (by omega) hall (d := Go.Lib.decDigits i) (by omega) (kids g.Parents i).length 0 (by omega)
    rw [show preK g.Parents (kids g.Parents i) 0 = [] from rfl, List.append_nil, show (((0 : Nat)) : Int) = 0 from rfl] at run
    rw [l1Num_ok (by omega), Option.bind_some, kids_spec (by omega), Option.bind_some, run, Option.bind_some, Option.bind_some, T_eq h hi]
    cases hks : kids g.Parents i with
    | nil =>
      rw [decide_eq_false (by simp [up, goLen])]
      simp [wrapK, preK]
    | cons a ks =>
      rw [decide_eq_true (by simp only [goLen, up_len, List.length_cons]; omega), cond_true, ← hks, cat_ok (by simp only [List.length_append, List.length_singleton]; omega)]
      simp only [Option.bind_some]
      congr 1
      unfold preK
      rw [if_neg (by rw [hks]; simp), List.take_length, hks, List.map_cons]
      simp only [wrapK, List.append_assoc]
  refine ⟨fun r hB => ?_, main⟩
  have hall : ∀ j ∈ kids g.Parents i, rcf g (j : Int) = some (T g.Parents j) := by
    unfold spec_gText_B at hB
    rw [l1Num_ok (by omega), Option.bind_some, kids_spec (by omega), Option.bind_some] at hB
    cases hp : loopC (spec_gText_l1 rcf g (up (kids g.Parents i))) (Go.Lib.decDigits i, 0) with
    | none => rw [hp] at hB; cases hB
    | some q =>
      intro j hj
      obtain ⟨x, hx⟩ := List.getElem?_of_mem hj
      obtain ⟨r', hr'⟩ := gText_all (by omega) (kids g.Parents i).length 0 _ (by omega) hp x j (by omega) hx
      rw [hr', hr j hj r' hr']
  rw [main hall] at hB
  exact (Option.some.inj hB).symm

theorem gText_k (h : GeoOk g.Parents) : ∀ (k i : Nat), i < g.Parents.length → (∀ r, spec_gText_k k g (i : Int) = some r → r = T g.Parents i) ∧ (g.Parents.length - i ≤ k → spec_gText_k k g (i : Int) = some (T g.Parents i))
  | 0, i, hi => ⟨fun r hr => (by cases hr), fun hk => (by omega)⟩
  | k + 1, i, hi => by
    obtain ⟨h1, h2⟩ := gText_B h (rcf := spec_gText_k k) hi fun j hj r hr => (gText_k h k j (kid_gt h hj).2.1).1 r hr
    refine ⟨h1, fun hk => h2 fun j hj => ?_⟩
    obtain ⟨g1, g2, _, _⟩ := kid_gt h hj
    exact (gText_k h k j g2).2 (by omega)

theorem gText_ok (h : GeoOk g.Parents) : spec_gText g 0 = some (T g.Parents 0) := by
  have hl := h.l1
  exact recO_of ((gText_k h g.Parents.length 0 (by omega)).2 (by omega)) fun k r hr => (gText_k h k 0 (by omega)).1 r hr

end
end Go.Gx.F
