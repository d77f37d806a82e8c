/- Plain laws: FnEdits. -/
import Derived.Test.YtebjhiflnemkhaaDoorEPEdt
namespace Go.Gx.F
open Go.Gx
set_option linter.all false

/-! failing -/
theorem FailsEdit_eq {s : List impl_Variable} {e : impl_Edit} {V : List Int} (ht : TameS s) (hV : V.length ≤ 1000000) : ∃ b : Bool, (b = true ↔ OkS s ∧ OkE s e ∧ OkV s V) ∧ impl_FailsEdit s e V = some (cond b (fl e V) false, b) := by
  obtain ⟨b1, e1, hb1⟩ := IsSchema_bis ht
  unfold impl_FailsEdit
  rw [e1]
  cases b1 with
  | false =>
    refine ⟨false, ?_, rfl⟩
    simp only [Bool.false_eq_true, false_iff]
    rintro ⟨h, _⟩
    have := hb1.2 h; simp at this
  | true =>
    have hs := hb1.1 rfl
    obtain ⟨b2, e2, hb2⟩ := isEdit_bis (e := e) hs
    rw [e2]
    cases b2 with
    | false =>
      refine ⟨false, ?_, rfl⟩
      simp only [Bool.false_eq_true, false_iff]
      rintro ⟨_, h, _⟩
      have := hb2.2 h; simp at this
    | true =>
      have he := hb2.1 rfl
      obtain ⟨b3, e3, hb3⟩ := areValues_bis (s := s) hV
      rw [e3]
      cases b3 with
      | false =>
        refine ⟨false, ?_, rfl⟩
        simp only [Bool.false_eq_true, false_iff]
        rintro ⟨_, _, h⟩
        have := hb3.2 h; simp at this
      | true =>
        have hv := hb3.1 rfl
        refine ⟨true, by simp only [true_iff]; exact ⟨hs, he, hv⟩, ?_⟩
        simp only [Option.bind_some, Bool.not_true, cond_false, fails_eq hs he hv, cond_true]

/-- two edits are fit -/
theorem two_ok {s : List impl_Variable} {e f : impl_Edit} (ht : TameS s) : ∃ b : Bool, (b = true ↔ OkS s ∧ OkE s e ∧ OkE s f) ∧
    (((impl_IsSchema s).bind fun t_6 => (cond (!t_6) (some true) ((impl_isEdit s e).bind fun t_7 => (cond (!t_7) (some true) ((impl_isEdit s f).bind fun t_8 => some (!t_8)))))) : Option Bool) = some (!b) ∧ spec_eList s [e, f] = some b := by
  obtain ⟨b0, e0, hb0⟩ := eList_bis (s := s) (l := [e, f]) ht
  obtain ⟨b1, e1, hb1⟩ := IsSchema_bis ht
  have hiff : b0 = true ↔ OkS s ∧ OkE s e ∧ OkE s f := by
    rw [hb0]
    constructor
    · rintro ⟨h1, _, h2⟩
      exact ⟨h1, h2 e (by simp), h2 f (by simp)⟩
    · rintro ⟨h1, h2, h3⟩
      exact ⟨h1, by simp, fun x hx => by
        simp only [List.mem_cons, List.not_mem_nil, or_false] at hx
        rcases hx with rfl | rfl
        · exact h2
        · exact h3⟩
  refine ⟨b0, hiff, ?_, e0⟩
  rw [e1]
  cases b1 with
  | false =>
    have : b0 = false := by
      cases b0 with
      | false => rfl
      | true => have := hb1.2 (hiff.1 rfl).1; simp at this
    rw [this]; rfl
  | true =>
    have hs := hb1.1 rfl
    obtain ⟨b2, e2, hb2⟩ := isEdit_bis (e := e) hs
    obtain ⟨b3, e3, hb3⟩ := isEdit_bis (e := f) hs
    rw [e2, e3]
    cases b2 with
    | false =>
      have : b0 = false := by
        cases b0 with
        | false => rfl
        | true => have := hb2.2 (hiff.1 rfl).2.1; simp at this
      rw [this]; rfl
    | true =>
      simp only [Option.bind_some, Bool.not_true, cond_false]
      congr 2
      rw [Bool.eq_iff_iff, hiff, hb3]
      exact ⟨fun h => ⟨hs, hb2.1 rfl, h⟩, fun h => h.2.2⟩

def Sub2 (e f : impl_Edit) : Prop := ∀ (k : Nat) (x y : Int), f.Sets[k]? = some x → e.Sets[k]? = some y → x.toNat &&& y.toNat = x.toNat

theorem set_bd {s : List impl_Variable} {e : impl_Edit} (hs : OkS s) (he : OkE s e) {k : Nat} {x : Int} (hx : e.Sets[k]? = some x) : 1 ≤ x ∧ x ≤ 255 := by
  have hk := (List.getElem?_eq_some_iff.1 hx).1
  obtain ⟨v, y, hv, hy, _, _, h1, _, h2⟩ := OkE.at_ hs he (k := k) (by have := he.1; omega)
  rw [hx] at hy
  obtain rfl := Option.some.inj hy
  exact ⟨h1, h2⟩

theorem Contains_eq {s : List impl_Variable} {e f : impl_Edit} (ht : TameS s) : ∃ b c : Bool, (b = true ↔ OkS s ∧ OkE s e ∧ OkE s f) ∧ (b = true → c = true → Sub2 e f) ∧ (b = false → c = false) ∧
    impl_ContainsEdit s e f = some (c, b) ∧ spec_ContainsEdit s e f = some (c, b) := by
  obtain ⟨b, hb, e1, e2⟩ := two_ok (e := e) (f := f) ht
  unfold impl_ContainsEdit spec_ContainsEdit
  rw [e1, e2]
  cases b with
  | false => exact ⟨false, false, hb, by simp, by simp, rfl, rfl⟩
  | true =>
    obtain ⟨hs, he, hf⟩ := hb.1 rfl
    have hl := hs.2.1; have h1 := he.1; have h2 := hf.1
    have ha : Bis (impl_contains e f) (∀ (k : Nat) (x : Int), f.Sets[k]? = some x → ∀ y, e.Sets[k]? = some y → x.toNat &&& y.toNat = x.toNat) := by
      unfold impl_contains
      refine bis_loop (l := f.Sets) (fun k x => ∀ y, e.Sets[k]? = some y → x.toNat &&& y.toNat = x.toNat) (fun k x hx => ?_) (by simp only [impl_contains_l1, lt_end, cond_false])
      have hk := (List.getElem?_eq_some_iff.1 hx).1
      have hy : e.Sets[k]? = some (e.Sets[k]'(by omega)) := by simp [show k < e.Sets.length by omega]
      generalize e.Sets[k]'(by omega) = y at hy
      have bx := set_bd hs hf hx
      have by_ := set_bd hs he hy
      have hz := andNot_zero (a := x.toNat) (b := y.toNat) (by omega) (by omega)
      rw [show ((x.toNat : Nat) : Int) = x by omega, show ((y.toNat : Nat) : Int) = y by omega] at hz
      refine ⟨decide (goBits .andNot .i64 x y = 0), ?_, ?_⟩
      · rw [decide_eq_true_eq, hz]
        exact ⟨fun h z hz' => by rw [hy] at hz'; obtain rfl := Option.some.inj hz'; exact h, fun h => h y hy⟩
      · simp only [impl_contains_l1, lt_ok hx, at_ok hx, at_ok hy, cond_true, Option.bind_some, nx_ok hx (show f.Sets.length ≤ 9223372036854775807 by omega)]
        by_cases h : goBits .andNot .i64 x y = 0
        · rw [h]; rfl
        · rw [decide_eq_false h, show (goBits .andNot .i64 x y != 0) = true by simpa using h]; rfl
    have hc : Bis (spec_eContains e f) (∀ (k : Nat) (x : Int), f.Sets[k]? = some x → ∀ y, e.Sets[k]? = some y → x.toNat &&& y.toNat = x.toNat) := by
      unfold spec_eContains
      refine bis_loop (l := f.Sets) (fun k x => ∀ y, e.Sets[k]? = some y → x.toNat &&& y.toNat = x.toNat) (fun k x hx => ?_) (by simp only [spec_eContains_l1, lt_end, cond_false])
      have hk := (List.getElem?_eq_some_iff.1 hx).1
      have hy : e.Sets[k]? = some (e.Sets[k]'(by omega)) := by simp [show k < e.Sets.length by omega]
      generalize e.Sets[k]'(by omega) = y at hy
      have bx := set_bd hs hf hx
      have by_ := set_bd hs he hy
      have hz := and_nat (a := x.toNat) (b := y.toNat) (by omega) (by omega)
      rw [show ((x.toNat : Nat) : Int) = x by omega, show ((y.toNat : Nat) : Int) = y by omega] at hz
      refine ⟨decide (x.toNat &&& y.toNat = x.toNat), ?_, ?_⟩
      · rw [decide_eq_true_eq]
        exact ⟨fun h z hz' => by rw [hy] at hz'; obtain rfl := Option.some.inj hz'; exact h, fun h => h y hy⟩
      · simp only [spec_eContains_l1, lt_ok hx, at_ok hx, at_ok hy, cond_true, Option.bind_some, nx_ok hx (show f.Sets.length ≤ 9223372036854775807 by omega), hz]
        by_cases h : x.toNat &&& y.toNat = x.toNat
        · rw [decide_eq_true h, show (((x.toNat &&& y.toNat : Nat) : Int) != x) = false by rw [bne_eq_false_iff_eq]; omega]; rfl
        · rw [decide_eq_false h, show (((x.toNat &&& y.toNat : Nat) : Int) != x) = true by rw [bne_iff_ne]; omega]; rfl
    obtain ⟨c, ec1, ec2, hcc⟩ := bis_same ha hc
    refine ⟨true, c, hb, fun _ h k x y hx hy => (hcc.1 h) k x hx y hy, by simp, ?_, ?_⟩
    · simp only [Bool.not_true, Option.bind_some, cond_false, ec1]
    · simp only [Bool.not_true, Option.bind_some, cond_false, ec2]

theorem fl_sub {s : List impl_Variable} {e f : impl_Edit} {V : List Int} (hs : OkS s) (he : OkE s e) (hf : OkE s f) (hV : OkV s V) (h : Sub2 e f) (hfl : fl f V = true) : fl e V = true := by
  have h1 : FailP f V := @of_decide_eq_true _ (Classical.propDecidable _) hfl
  refine @decide_eq_true _ (Classical.propDecidable _) ?_
  intro k v hv y hy
  have hk := (List.getElem?_eq_some_iff.1 hy).1
  have hx : f.Sets[k]? = some (f.Sets[k]'(by have := he.1; have := hf.1; omega)) := by simp [show k < f.Sets.length by have := he.1; have := hf.1; omega]
  generalize f.Sets[k]'(by have := he.1; have := hf.1; omega) = x at hx
  have h2 := h1 k v hv x hx
  have h3 := h k x y hx hy
  have bx := set_bd hs hf hx
  have by_ := set_bd hs he hy
  obtain ⟨w, _, hw, _, _, hlv, _⟩ := OkE.at_ hs he (k := k) (by have := he.1; omega)
  have hvb := hV.2 k w v hw hv
  have b1 := bit_nat (a := x.toNat) (x := v.toNat) (by omega) (by omega)
  have b2 := bit_nat (a := y.toNat) (x := v.toNat) (by omega) (by omega)
  rw [show ((x.toNat : Nat) : Int) = x by omega, show ((v.toNat : Nat) : Int) = v by omega] at b1
  rw [show ((y.toNat : Nat) : Int) = y by omega, show ((v.toNat : Nat) : Int) = v by omega] at b2
  rw [b1, ← h3, Nat.testBit_and, Bool.and_eq_true] at h2
  rw [b2]; exact h2.2

/-! the edit that two make together -/
def mtk (e f : impl_Edit) (k : Nat) : Int := match e.Sets[k]?, f.Sets[k]? with
  | some x, some y => ((x.toNat &&& y.toNat : Nat) : Int)
  | _, _ => 0

def mtl (s : List impl_Variable) (e f : impl_Edit) : List Int := (List.range s.length).map (mtk e f)

theorem mtl_at {s : List impl_Variable} {e f : impl_Edit} {k : Nat} (hk : k < s.length) : (mtl s e f)[k]? = some (mtk e f k) := by
  unfold mtl; rw [List.getElem?_map, List.getElem?_range hk]; rfl

theorem mtl_len (s : List impl_Variable) (e f : impl_Edit) : (mtl s e f).length = s.length := by unfold mtl; simp

theorem mt_bd {s : List impl_Variable} {e f : impl_Edit} (hs : OkS s) (he : OkE s e) (hf : OkE s f) {k : Nat} (hk : k < s.length) :
    ∃ v x y, s[k]? = some v ∧ e.Sets[k]? = some x ∧ f.Sets[k]? = some y ∧ goBits .and .i64 x y = mtk e f k ∧ 0 ≤ mtk e f k ∧ mtk e f k ≤ full v ∧ mtk e f k = ((x.toNat &&& y.toNat : Nat) : Int) ∧ (1 ≤ x ∧ x ≤ 255) ∧ (1 ≤ y ∧ y ≤ 255) := by
  obtain ⟨v, x, hv, hx, _, _, h1, h2, h3⟩ := OkE.at_ hs he hk
  obtain ⟨v', y, hv', hy, _, _, h4, h5, h6⟩ := OkE.at_ hs hf hk
  have e1 : mtk e f k = ((x.toNat &&& y.toNat : Nat) : Int) := by unfold mtk; rw [hx, hy]
  have hle : x.toNat &&& y.toNat ≤ x.toNat := Nat.and_le_left
  have hz := and_nat (a := x.toNat) (b := y.toNat) (by omega) (by omega)
  rw [show ((x.toNat : Nat) : Int) = x by omega, show ((y.toNat : Nat) : Int) = y by omega] at hz
  exact ⟨v, x, y, hv, hx, hy, by rw [hz, e1], by omega, by omega, e1, ⟨h1, h3⟩, ⟨h4, h6⟩⟩

theorem Meet_eq {s : List impl_Variable} {e f : impl_Edit} (ht : TameS s) : (impl_MeetEdits s e f = some (⟨[]⟩, false) ∧ spec_MeetEdits s e f = some (⟨[]⟩, false)) ∨
    (OkS s ∧ OkE s e ∧ OkE s f ∧ OkE s ⟨mtl s e f⟩ ∧ impl_MeetEdits s e f = some (⟨mtl s e f⟩, true) ∧ spec_MeetEdits s e f = some (⟨mtl s e f⟩, true)) := by
  obtain ⟨b, hb, e1, e2⟩ := two_ok (e := e) (f := f) ht
  unfold impl_MeetEdits spec_MeetEdits
  rw [e1, e2]
  cases b with
  | false => exact .inl ⟨rfl, rfl⟩
  | true =>
    obtain ⟨hs, he, hf⟩ := hb.1 rfl
    have hl := hs.2.1; have h1 := he.1; have h2 := hf.1
    have hsp : loopC (spec_MeetEdits_l1 e f) (0, ⟨[]⟩) = some ⟨mtl s e f⟩ := by
      refine tot_eq (tot_loop (fun t => ∃ k : Nat, k ≤ s.length ∧ t = ((k : Int), (⟨(mtl s e f).take k⟩ : impl_Edit))) (fun t => s.length - t.1.toNat) ⟨0, by omega, by simp⟩ ?_)
      rintro t ⟨k, hk, rfl⟩
      by_cases hlt : k < s.length
      · obtain ⟨v, x, y, hv, hx, hy, ha, _⟩ := mt_bd hs he hf hlt
        simp only [spec_MeetEdits_l1, lt_ok hx, at_ok hx, at_ok hy, cond_true, Option.bind_some, ha, nx_ok hx (show e.Sets.length ≤ 9223372036854775807 by omega)]
        rw [goApp_ok (by simp; omega), Option.bind_some]
        refine tot_some ⟨⟨k + 1, by omega, ?_⟩, by simp only; omega⟩
        rw [List.take_add_one, mtl_at hlt]; rfl
      · obtain rfl : k = s.length := by omega
        simp only [spec_MeetEdits_l1]
        rw [decide_eq_false (by simp [goLen, h1]), cond_false]
        exact tot_some (by rw [List.take_of_length_le (by rw [mtl_len]; omega)])
    obtain ⟨g, eg, hg⟩ := eGood_bis (e := ⟨mtl s e f⟩) hs
    have hgz : g = true ↔ ∀ k, k < s.length → mtk e f k ≠ 0 := by
      rw [hg]
      constructor
      · intro h k hk
        obtain ⟨v, x, y, hv, _⟩ := mt_bd hs he hf hk
        have := h.2 k v _ hv (mtl_at hk)
        omega
      · intro h
        refine ⟨mtl_len s e f, fun k v x hv hx => ?_⟩
        have hk := (List.getElem?_eq_some_iff.1 hv).1
        obtain ⟨v', _, _, hv', _, _, _, h3, h4, _⟩ := mt_bd hs he hf hk
        rw [hv] at hv'
        obtain rfl := Option.some.inj hv'
        rw [mtl_at hk] at hx
        obtain rfl := Option.some.inj hx
        have := h k hk
        omega
    simp only [Bool.not_true, Option.bind_some, cond_false, clone_eq (show e.Sets.length ≤ 1000000 by omega), hsp, eg]
    -- the loop of the program
    have him : ∀ (j k : Nat), k + j = s.length → (∀ i, i < k → mtk e f i ≠ 0) → loopC (impl_MeetEdits_l1 f) ((mtl s e f).take k ++ e.Sets.drop k, (k : Int)) = some (cond g (.inl (mtl s e f)) (.inr (⟨[]⟩, false))) := by
      intro j
      induction j with
      | zero =>
        intro k hk hall
        obtain rfl : k = s.length := by omega
        have : g = true := hgz.2 hall
        rw [loopC_eq]
        simp only [impl_MeetEdits_l1]
        rw [decide_eq_false (by simp [goLen, h2]), cond_false, this, List.take_of_length_le (by rw [mtl_len]; omega), List.drop_eq_nil_of_le (by omega), List.append_nil]
        rfl
      | succ j ih =>
        intro k hk hall
        have hlt : k < s.length := by omega
        obtain ⟨v, x, y, hv, hx, hy, ha, _⟩ := mt_bd hs he hf hlt
        have htl : ((mtl s e f).take k).length = k := by rw [List.length_take, mtl_len]; omega
        have hat : ((mtl s e f).take k ++ e.Sets.drop k)[k]? = some x := by
          rw [List.getElem?_append_right (by omega), htl, Nat.sub_self, List.getElem?_drop]
          simpa using hx
        have hset : goSet ((mtl s e f).take k ++ e.Sets.drop k) (k : Int) (mtk e f k) = (mtl s e f).take (k + 1) ++ e.Sets.drop (k + 1) := by
          unfold goSet
          rw [Int.toNat_natCast]
          apply List.ext_getElem?
          intro q
          by_cases hq : q = k
          · subst hq
            rw [List.getElem?_set_self (by simp [htl]; omega), List.getElem?_append_left (by rw [List.length_take, mtl_len]; omega), List.getElem?_take_of_lt (by omega), mtl_at hlt]
          · rw [List.getElem?_set_ne (Ne.symm hq)]
            by_cases hq2 : q < k
            · rw [List.getElem?_append_left (by omega), List.getElem?_append_left (by rw [List.length_take, mtl_len]; omega), List.getElem?_take_of_lt hq2, List.getElem?_take_of_lt (by omega)]
            · rw [List.getElem?_append_right (by omega), List.getElem?_append_right (by rw [List.length_take, mtl_len]; omega), htl, List.length_take, mtl_len, List.getElem?_drop, List.getElem?_drop]
              congr 1; omega
        have hat2 : ((mtl s e f).take (k + 1) ++ e.Sets.drop (k + 1))[k]? = some (mtk e f k) := by
          rw [List.getElem?_append_left (by rw [List.length_take, mtl_len]; omega), List.getElem?_take_of_lt (by omega), mtl_at hlt]
        rw [loopC_eq]
        simp only [impl_MeetEdits_l1, lt_ok hy, at_ok hy, at_ok hat, cond_true, Option.bind_some, ha, hset, at_ok hat2, nx_ok hy (show f.Sets.length ≤ 9223372036854775807 by omega)]
        by_cases h0 : mtk e f k = 0
        · have : g = false := by
            cases hgg : g with
            | false => rfl
            | true => exact absurd h0 (hgz.1 hgg k hlt)
          rw [h0, this]; rfl
        · rw [show (mtk e f k == 0) = false by rw [beq_eq_false_iff_ne]; exact h0, cond_false]
          exact ih (k + 1) (by omega) fun i hi => by
            by_cases hik : i = k
            · subst hik; exact h0
            · exact hall i (by omega)
    have hi0 := him s.length 0 (by omega) (fun i hi => by omega)
    rw [show (mtl s e f).take 0 ++ e.Sets.drop 0 = e.Sets from rfl] at hi0
    rw [show (((0 : Nat) : Int)) = 0 from rfl] at hi0
    rw [hi0]
    cases g with
    | false => exact .inl ⟨rfl, rfl⟩
    | true => exact .inr ⟨hs, he, hf, hg.1 rfl, rfl, rfl⟩

theorem fl_meet {s : List impl_Variable} {e f : impl_Edit} {V : List Int} (hs : OkS s) (he : OkE s e) (hf : OkE s f) (hV : OkV s V) : fl ⟨mtl s e f⟩ V = (fl e V && fl f V) := by
  rw [Bool.eq_iff_iff, Bool.and_eq_true]
  have hi : ∀ g : impl_Edit, fl g V = true ↔ FailP g V := fun g => ⟨fun h => @of_decide_eq_true _ (Classical.propDecidable _) h, fun h => @decide_eq_true _ (Classical.propDecidable _) h⟩
  rw [hi, hi, hi]
  have key : ∀ (k : Nat) (v : Int), V[k]? = some v → ∃ x y, e.Sets[k]? = some x ∧ f.Sets[k]? = some y ∧ (mtl s e f)[k]? = some (mtk e f k) ∧ bit (mtk e f k) v = (bit x v && bit y v) := by
    intro k v hv
    have hk : k < s.length := by have := (List.getElem?_eq_some_iff.1 hv).1; have := hV.1; omega
    obtain ⟨w, x, y, hw, hx, hy, _, _, _, em, bx, by_⟩ := mt_bd hs he hf hk
    have hvb := hV.2 k w v hw hv
    have hlv := (hs.2.2 k w hw).1.2
    refine ⟨x, y, hx, hy, mtl_at hk, ?_⟩
    have hle : x.toNat &&& y.toNat ≤ x.toNat := Nat.and_le_left
    have b0 := bit_nat (a := x.toNat &&& y.toNat) (x := v.toNat) (by omega) (by omega)
    have b1 := bit_nat (a := x.toNat) (x := v.toNat) (by omega) (by omega)
    have b2 := bit_nat (a := y.toNat) (x := v.toNat) (by omega) (by omega)
    rw [show ((x.toNat : Nat) : Int) = x by omega, show ((v.toNat : Nat) : Int) = v by omega] at b1
    rw [show ((y.toNat : Nat) : Int) = y by omega, show ((v.toNat : Nat) : Int) = v by omega] at b2
    rw [show ((v.toNat : Nat) : Int) = v by omega] at b0
    rw [em, b0, b1, b2, Nat.testBit_and]
  constructor
  · intro h
    constructor
    · intro k v hv x hx
      obtain ⟨x', y', hx', hy', hm, hbit⟩ := key k v hv
      rw [hx] at hx'; obtain rfl := Option.some.inj hx'
      have := h k v hv _ hm
      rw [hbit, Bool.and_eq_true] at this
      exact this.1
    · intro k v hv y hy
      obtain ⟨x', y', hx', hy', hm, hbit⟩ := key k v hv
      rw [hy] at hy'; obtain rfl := Option.some.inj hy'
      have := h k v hv _ hm
      rw [hbit, Bool.and_eq_true] at this
      exact this.2
  · rintro ⟨ha, hb⟩ k v hv z hz
    obtain ⟨x', y', hx', hy', hm, hbit⟩ := key k v hv
    have hz' : (mtl s e f)[k]? = some z := hz
    rw [hm] at hz'
    obtain rfl := Option.some.inj hz'
    rw [hbit, ha k v hv _ hx', hb k v hv _ hy']; rfl

/-! counting -/
theorem Count_eq {s : List impl_Variable} {e : impl_Edit} (hs : OkS s) (he : OkE s e) (ht : TameS s) : ∃ n, impl_CountFailing s e = some (n, true) ∧ spec_CountFailing s e = some (n, true) := by
  obtain ⟨b1, e1, hb1⟩ := IsSchema_bis ht
  obtain rfl := hb1.2 hs
  obtain ⟨b2, e2, hb2⟩ := isEdit_bis (e := e) hs
  obtain rfl := hb2.2 he
  obtain ⟨b3, e3, hb3⟩ := eList_bis (s := s) (l := [e]) ht
  obtain rfl := hb3.2 ⟨hs, by simp, fun x hx => by obtain rfl := List.mem_singleton.1 hx; exact he⟩
  have hl := hs.2.1; have hel := he.1
  unfold impl_CountFailing spec_CountFailing
  rw [e1, e2, e3]
  simp only [Option.bind_some, Bool.not_true, cond_false]
  have key : ∀ (j k : Nat) (n : Nat), k + j = e.Sets.length → n ≤ 8 ^ k → ∃ r, loopC (impl_CountFailing_l1 e) ((n : Int), (k : Int)) = some r ∧ loopC (spec_CountFailing_l1 e) ((n : Int), (k : Int)) = some r := by
    intro j
    induction j with
    | zero =>
      intro k n hk hn
      obtain rfl : k = e.Sets.length := by omega
      rw [loopC_eq, loopC_eq]
      simp only [impl_CountFailing_l1, spec_CountFailing_l1, lt_end, cond_false]
      exact ⟨_, rfl, rfl⟩
    | succ j ih =>
      intro k n hk hn
      have hx : e.Sets[k]? = some (e.Sets[k]'(by omega)) := by simp [show k < e.Sets.length by omega]
      generalize e.Sets[k]'(by omega) = x at hx
      have bx := set_bd hs he hx
      have ho := ones_all ⟨x.toNat, by omega⟩
      have hv := eLevels_ok (x := x.toNat) (by omega)
      have hc := (stx_len ⟨x.toNat, by omega⟩).2
      simp only at ho hc
      rw [show ((x.toNat : Nat) : Int) = x by omega] at ho hv
      have h8 : 8 ^ k ≤ 8 ^ 6 := Nat.pow_le_pow_right (by omega) (by omega)
      have hm : n * (lvs x.toNat).length ≤ 8 ^ (k + 1) := by rw [Nat.pow_succ]; exact Nat.mul_le_mul hn hc
      have hm2 : n * (lvs x.toNat).length ≤ 8 ^ 6 * 8 := Nat.mul_le_mul (by omega) hc
      have hw : w64 ((n : Int) * ((lvs x.toNat).length : Int)) = ((n * (lvs x.toNat).length : Nat) : Int) := by
        rw [← Int.natCast_mul, wid (by omega) (by omega)]
      rw [loopC_eq, loopC_eq]
      simp only [impl_CountFailing_l1, spec_CountFailing_l1, lt_ok hx, at_ok hx, cond_true, Option.bind_some, ho, hv, goLen, List.length_map, hw, nx_ok hx (show e.Sets.length ≤ 9223372036854775807 by omega)]
      exact ih (k + 1) _ (by omega) hm
  obtain ⟨r, h1, h2⟩ := key e.Sets.length 0 1 (by omega) (by simp)
  rw [show ((1 : Nat) : Int) = 1 from rfl, show ((0 : Nat) : Int) = 0 from rfl] at h1 h2
  rw [h1, h2]
  exact ⟨r, rfl, rfl⟩

theorem EditText_not {s : List impl_Variable} {e : impl_Edit} (ht : TameS s) (h : ¬ (OkS s ∧ OkE s e)) : impl_EditText s e = some ([], false) ∧ spec_EditText s e = some ([], false) := by
  obtain ⟨b1, e1, hb1⟩ := IsSchema_bis ht
  obtain ⟨b3, e3, hb3⟩ := eList_bis (s := s) (l := [e]) ht
  have h3 : b3 = false := by
    cases b3 with
    | false => rfl
    | true =>
      obtain ⟨q1, _, q2⟩ := hb3.1 rfl
      exact absurd ⟨q1, q2 e (by simp)⟩ h
  constructor
  · unfold impl_EditText
    rw [e1]
    cases b1 with
    | false => rfl
    | true =>
      have hs := hb1.1 rfl
      obtain ⟨b2, e2, hb2⟩ := isEdit_bis (e := e) hs
      have : b2 = false := by
        cases b2 with
        | false => rfl
        | true => exact absurd ⟨hs, hb2.1 rfl⟩ h
      rw [e2, this]; rfl
  · unfold spec_EditText
    rw [e3, h3]; rfl

/-! what is drawn -/
theorem tDrawContains {code : List (K .u8)} (ho : ∀ x ∈ code, Rng.ok x) : Tot (spec_DrawContainsEdit code) fun r => SmallS 8 r.1 ∧ SmallE r.2.1 ∧ r.2.2.Sets.length ≤ 1000 := by
  unfold spec_DrawContainsEdit
  refine tot_bind (tanySchema (cur0 ho)) fun ⟨s, c1⟩ ⟨hs, k1⟩ => ?_
  simp only at hs k1 ⊢
  refine tot_bind (tanyEdit k1 hs.tame) fun ⟨e, c2⟩ ⟨he, k2⟩ => ?_
  simp only at he k2 ⊢
  refine tot_bind (tanyEdit k2 hs.tame) fun ⟨f, c3⟩ ⟨hf, k3⟩ => ?_
  simp only at hf k3 ⊢
  refine tot_bind (Q := fun b => b = true → OkS s ∧ OkE s e ∧ OkE s f) ?_ fun b hb => ?_
  · refine tot_bind (tone k3) fun ⟨b, c4⟩ _ => ?_
    simp only
    refine tot_cond (fun _ => ?_) fun _ => tot_some (by simp)
    obtain ⟨b1, e1, hb1⟩ := sGood_bis hs.tame
    rw [e1, Option.bind_some]
    refine tot_cond (fun h1 => ?_) fun _ => tot_some (by simp)
    have hs' := hb1.1 h1
    obtain ⟨b2, e2, hb2⟩ := eGood_bis (e := e) hs'
    rw [e2, Option.bind_some]
    refine tot_cond (fun h2 => ?_) fun _ => tot_some (by simp)
    obtain ⟨b3, e3, hb3⟩ := eGood_bis (e := f) hs'
    rw [e3, Option.bind_some]
    exact tot_some fun h3 => ⟨hs', hb2.1 h2, hb3.1 h3⟩
  · refine tot_bind (Q := fun g => g.Sets.length ≤ 1000) (tot_cond (fun h => ?_) fun _ => tot_some (by unfold SmallE at hf; omega)) fun g hg => tot_some ⟨hs, he, hg⟩
    obtain ⟨hs', he', hf'⟩ := hb h
    have hl := hs'.2.1; have h1 := he'.1; have h2 := hf'.1
    refine tot_bind (Q := fun g => g.Sets.length ≤ 1000) (tot_loop (fun t => ∃ k : Nat, t.1 = (k : Int) ∧ k ≤ f.Sets.length ∧ t.2.Sets.length = f.Sets.length) (fun t => 20 - t.1.toNat) ⟨0, rfl, by omega, rfl⟩ ?_) fun r hr => tot_some hr
    rintro ⟨_, g⟩ ⟨k, rfl, hk, hgl⟩
    simp only at hgl
    simp only [spec_DrawContainsEdit_l1]
    refine tot_cond (fun hc => ?_) fun _ => tot_some (by omega)
    have hc' : (k : Int) < goLen f.Sets := by simpa using hc
    simp only [goLen] at hc'
    have hx : g.Sets[k]? = some (g.Sets[k]'(by omega)) := by simp [show k < g.Sets.length by omega]
    have hy : e.Sets[k]? = some (e.Sets[k]'(by omega)) := by simp [show k < e.Sets.length by omega]
    rw [at_ok hx, Option.bind_some, at_ok hy, Option.bind_some]
    refine tot_bind (Q := fun z => z.Sets.length = f.Sets.length) (tot_cond (fun _ => ?_) fun _ => tot_some hgl) fun z hz => ?_
    · simp only [Option.bind_some]
      exact tot_some (by simp only [goSet, List.length_set]; exact hgl)
    · rw [wid (by omega) (by omega)]
      exact tot_some ⟨⟨k + 1, by simp only; omega, by omega, hz⟩, by simp only; omega⟩

theorem tDrawIsEdit {code : List (K .u8)} (ho : ∀ x ∈ code, Rng.ok x) : Tot (spec_DrawIsEdit code) fun r => SmallS 8 r.1 ∧ SmallE r.2 := by
  unfold spec_DrawIsEdit
  refine tot_bind (tanySchema (cur0 ho)) fun ⟨s, c1⟩ ⟨hs, k1⟩ => ?_
  exact tot_bind (tanyEdit k1 hs.tame) fun ⟨e, c2⟩ ⟨he, k2⟩ => tot_some ⟨hs, he⟩

theorem tDrawFailsEdit {code : List (K .u8)} (ho : ∀ x ∈ code, Rng.ok x) : Tot (spec_DrawFailsEdit code) fun r => r.2.2.length ≤ 9 := by
  unfold spec_DrawFailsEdit
  refine tot_bind (tanySchema (cur0 ho)) fun ⟨s, c1⟩ ⟨hs, k1⟩ => ?_
  refine tot_bind (tanyEdit k1 hs.tame) fun ⟨e, c2⟩ ⟨he, k2⟩ => ?_
  exact tot_bind (tanyValues k2 hs) fun ⟨V, c3⟩ ⟨hV, k3⟩ => tot_some hV

theorem big_tot (a b : List (K .u8)) : ∃ t, laws_big a b = some t := by
  unfold laws_big
  cases decide (1048576 < goLen a) <;> exact ⟨_, rfl⟩

theorem laws_FnEdits_true (a b : List (K .u8)) (o1 : Rng.ok a) (o2 : Rng.ok b) : laws_FnEdits a b = some true := by
  refine tot_eq ?_
  unfold laws_FnEdits
  obtain ⟨t, et⟩ := big_tot a b
  rw [et, Option.bind_some]
  refine tot_cond (fun _ => tot_some rfl) fun _ => ?_
  unfold spec_DrawMeetEdits
  obtain ⟨⟨s, e, f⟩, q1, hs, he, hf⟩ := tDrawContains o1.2
  rw [q1]
  simp only [Option.bind_some]
  simp only at hs he hf
  obtain ⟨⟨s2, e2, V⟩, q2, hV⟩ := tDrawFailsEdit o2.2
  simp only at hV
  obtain ⟨ba, hba, qa⟩ := FailsEdit_eq (s := s) (e := e) (V := V) hs.tame (by omega)
  obtain ⟨bb, hbb, qb⟩ := FailsEdit_eq (s := s) (e := f) (V := V) hs.tame (by omega)
  obtain ⟨bc, c, hbc, hsub, hcf, qc, qd⟩ := Contains_eq (e := e) (f := f) hs.tame
  obtain ⟨⟨s3, e3⟩, q3, hs3, he3⟩ := tDrawIsEdit o2.2
  simp only at hs3 he3
  -- what stands behind
  have htail : Tot (((spec_DrawEditText b).bind fun t_43 => ((impl_EditText t_43.1 t_43.2).bind fun t_48 => ((spec_EditText t_43.1 t_43.2).bind fun t_50 => (((cond (t_48.2 != t_50.2) (some true) (some (t_48.1 != t_50.1))) : Option (Bool)).bind fun t_52 => (cond t_52 (some false) (cond t_48.2 ((impl_ParseEdit t_43.1 t_48.1).bind fun t_53 => ((impl_CountFailing t_43.1 t_43.2).bind fun t_58 => ((spec_CountFailing t_43.1 t_43.2).bind fun t_60 => (((cond t_53.2 (cond t_58.2 ((laws_sameInts t_53.1.Sets t_43.2.Sets).bind fun t_62 => (cond t_62 (some (t_58.1 == t_60.1)) (some false))) (some false)) (some false)) : Option (Bool)).bind fun t_64 => some t_64)))) (some true)))))))) (fun z => z = true) := by
    unfold spec_DrawEditText
    rw [q3]
    simp only [Option.bind_some]
    by_cases hok : OkS s3 ∧ OkE s3 e3
    · obtain ⟨h1, h2⟩ := hok
      obtain ⟨n, n1, n2⟩ := Count_eq h1 h2 hs3.tame
      rw [EditText_impl h1 h2 hs3.tame, EditText_spec h1 h2 hs3.tame]
      simp only [Option.bind_some, bne_self_eq_false, cond_false, cond_true, Edit_back h1 h2 hs3.tame, n1, n2, sameInts_same (l := e3.Sets) (by unfold SmallE at he3; omega), beq_self_eq_true]
      exact ⟨true, rfl, rfl⟩
    · obtain ⟨h1, h2⟩ := EditText_not hs3.tame hok
      rw [h1, h2]
      exact ⟨true, rfl, rfl⟩
  -- the middle
  have hC : ((cond c (cond ba (cond bb (cond (cond bb (fl f V) false) (some (!(cond ba (fl e V) false))) (some false)) (some false)) (some false)) (some false)) : Option (Bool)) = some false := by
    cases c with
    | false => rfl
    | true =>
      cases ba with
      | false => rfl
      | true =>
        cases bb with
        | false => rfl
        | true =>
          have hbt : bc = true := by
            cases bc with
            | true => rfl
            | false => have := hcf rfl; cases this
          obtain ⟨h1, h2, h3⟩ := hba.1 rfl
          obtain ⟨_, h4, _⟩ := hbb.1 rfl
          have hsb := hsub hbt rfl
          simp only [cond_true]
          cases hff : fl f V with
          | false => rfl
          | true => rw [fl_sub h1 h2 h4 h3 hsb hff]; rfl
  rcases Meet_eq (e := e) (f := f) hs.tame with ⟨m1, m2⟩ | ⟨g1, g2, g3, g4, m1, m2⟩
  · rw [m1, m2]
    simp only [Option.bind_some, bne_self_eq_false, cond_false, sameInts_same (l := []) (by simp), Bool.not_true, q2, qa, qb, qc, qd]
    rw [hC]
    simp only [Option.bind_some, cond_false]
    exact htail
  · have hml := mtl_len s e f
    have h6 := g1.2.1
    rw [m1, m2]
    simp only [Option.bind_some, bne_self_eq_false, cond_false, cond_true, sameInts_same (l := mtl s e f) (by omega), Bool.not_true, q2, qa, qb, qc, qd]
    have h34 : ((cond ba (some bb) (some false)) : Option Bool) = some (ba && bb) := by cases ba <;> rfl
    rw [h34, Option.bind_some]
    have hM : ((cond (ba && bb) ((impl_FailsEdit s ⟨mtl s e f⟩ V).bind fun t_35 => (((cond (!t_35.2) (some true) (cond (cond ba (fl e V) false) (some (t_35.1 != (cond bb (fl f V) false))) (some (t_35.1 != false)))) : Option (Bool)).bind fun t_37 => (cond t_37 (some (.inr false)) (some (.inl ()))))) (some (.inl ()))) : Option ((Unit) ⊕ (Bool))) = some (.inl ()) := by
      cases ba with
      | false => rfl
      | true =>
        cases bb with
        | false => rfl
        | true =>
          obtain ⟨h1, h2, h3⟩ := hba.1 rfl
          obtain ⟨bm, hbm, qm⟩ := FailsEdit_eq (s := s) (e := ⟨mtl s e f⟩) (V := V) hs.tame (by omega)
          obtain rfl := hbm.2 ⟨h1, g4, h3⟩
          rw [qm, fl_meet g1 g2 g3 h3]
          simp only [cond_true, Option.bind_some, Bool.not_true, cond_false]
          cases fl e V <;> cases fl f V <;> rfl
    rw [hM]
    simp only [Option.bind_some]
    rw [hC]
    simp only [Option.bind_some, cond_false]
    exact htail

end Go.Gx.F
