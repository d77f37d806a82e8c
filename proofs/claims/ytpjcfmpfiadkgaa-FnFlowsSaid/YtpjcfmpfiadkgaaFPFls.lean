/- Plain laws: FnFlows. -/
import Derived.Test.YtpjcfmpfiadkgaaFPFl18
namespace Go.Gx.F
open Go.Gx
set_option linter.all false
set_option maxRecDepth 10000

theorem sameInts_f {l : List Int} (h : l.length ≤ 1000) : laws_sameInts l l = some true := by
  unfold laws_sameInts
  rw [bne_self_eq_false, cond_false]
  have e : loopC (laws_sameInts_l1 l l) 0 = some (.inl ()) := runN (N := l.length) (by omega) (fun k hk => by
    have hx := vc_at hk
    simp only [laws_sameInts_l1, lt_ok hx, cond_true, at_ok hx, Option.bind_some, bne_self_eq_false, cond_false]) (by simp only [laws_sameInts_l1, lt_end, cond_false])
  rw [e]; rfl

theorem sameLists_f {x : List (List Int)} (h : x.length ≤ 1000) (h2 : ∀ r ∈ x, r.length ≤ 1000) : laws_sameLists x x = some true := by
  unfold laws_sameLists
  rw [bne_self_eq_false, cond_false]
  have e : loopC (laws_sameLists_l1 x x) 0 = some (.inl ()) := runN (N := x.length) (by omega) (fun k hk => by
    have hx : x[k]? = some x[k] := by simp [hk]
    simp only [laws_sameLists_l1, lt_ok hx, cond_true, at_ok hx, Option.bind_some]
    rw [sameInts_f (h2 _ (List.getElem_mem hk))]
    rfl) (by simp only [laws_sameLists_l1, lt_end, cond_false])
  rw [e]; rfl

theorem sameLists_s {n m : Nat} {x : List (List Int)} (h : Shp n m x) (hn : n ≤ 8) (hm : m ≤ 8) : laws_sameLists x x = some true :=
  sameLists_f (by have := h.len; omega) fun r hr => by have := h.row r hr; omega

theorem pSum_eq (l : List Int) : laws_pSum l = spec_tSum l := rfl

theorem hasFlow_ok {n m : Nat} {t : impl_Transport} (hT : Tr n m t) : ∃ b, impl_HasFlow t = some (b, true) ∧ (b = true ↔ ∃ y, IsF n m t y) := by
  unfold impl_HasFlow
  rw [isTr_ok hT]
  simp only [Option.bind_some, Bool.not_true, cond_false]
  obtain ⟨x, e, h⟩ := anyFlow_ok hT
  rw [e]
  rcases h with ⟨rfl, hno⟩ | ⟨hx, hF⟩
  · exact ⟨false, rfl, by simp only [Bool.false_eq_true, false_iff]; rintro ⟨y, hy⟩; exact hno y hy⟩
  · exact ⟨true, by simp only [Option.bind_some]; rw [(ne_ok hx hT.n1).2]; rfl, by simp only [true_iff]; exact ⟨_, hF⟩⟩

theorem cut_part {p_more : List (K .u8)} (ho : ∀ x ∈ p_more, Rng.ok x) : ((spec_DrawFindCut p_more).bind fun t_42 => ((impl_FindCut t_42).bind fun t_49 => ((spec_FindCut t_42).bind fun t_54 => (((cond (t_49.2.2 != t_54.2.2) (some true) ((laws_sameInts t_49.1 t_54.1).bind fun t_59 => (cond (!t_59) (some true) ((laws_sameInts t_49.2.1 t_54.2.1).bind fun t_61 => some (!t_61))))) : Option (Bool)).bind fun t_63 => (cond t_63 (some false) ((impl_HasFlow t_42).bind fun t_64 => (cond t_49.2.2 ((impl_CheckCut t_42 t_49.1 t_49.2.1).bind fun t_66 => (((cond t_64.2 (cond (!t_64.1) (cond t_66.2 (some t_66.1) (some false)) (some false)) (some false)) : Option (Bool)).bind fun t_68 => some t_68)) (((cond (!t_64.2) (some true) (cond t_64.1 (some true) ((laws_pSum t_42.Rows).bind fun t_70 => ((laws_pSum t_42.Cols).bind fun t_72 => some (t_70 != t_72))))) : Option (Bool)).bind fun t_74 => some t_74)))))))) = some true := by
  obtain ⟨t, ed, hd⟩ := tDrawTr ho
  have ed : spec_DrawFindCut p_more = some t := by unfold spec_DrawFindCut; rw [ed]; rfl
  rw [ed, Option.bind_some]
  obtain ⟨b, e1, e2, hb⟩ := good_ok hd.1 hd.2.1 hd.2.2.1 hd.2.2.2
  cases b with
  | false =>
    have i1 : impl_FindCut t = some ([], [], false) := by unfold impl_FindCut; rw [e1]; rfl
    have i2 : spec_FindCut t = some ([], [], false) := by unfold spec_FindCut; rw [e2]; rfl
    have i3 : impl_HasFlow t = some (false, false) := by unfold impl_HasFlow; rw [e1]; rfl
    rw [i1, i2, i3]
    simp only [Option.bind_some, bne_self_eq_false, cond_false, sameInts_f (l := []) (by simp), Bool.not_true, Bool.not_false, cond_true]
  | true =>
    obtain ⟨n, m, hT⟩ := hb rfl
    obtain ⟨r, c, b, i1, i2, l1, l2, g1, g2⟩ := findCut_ok hT
    obtain ⟨f, i3, hf⟩ := hasFlow_ok hT
    rw [i1, i2, i3]
    simp only [Option.bind_some, bne_self_eq_false, cond_false, sameInts_f (l := r) (by omega), sameInts_f (l := c) (by omega), Bool.not_true, Bool.not_false, cond_true]
    cases b with
    | true =>
      obtain ⟨S, T, rfl, rfl, hlt⟩ := g1 rfl
      have hff : f = false := by
        cases f with
        | false => rfl
        | true =>
          obtain ⟨y, hy⟩ := hf.1 rfl
          have := no_cut hy S T
          omega
      subst hff
      rw [checkCut_ok hT hlt]
      rfl
    | false =>
      simp only [cond_false]
      cases f with
      | true => rfl
      | false =>
        have h1 := hT.rl; have h2 := hT.cl; have h3 := hT.n8; have h4 := hT.m8
        have t3 := tSum_ok (l := t.Rows) (by omega) (fun i hi => by have := hT.rb i (by omega); omega)
        have t4 := tSum_ok (l := t.Cols) (by omega) (fun i hi => by have := hT.cb i (by omega); omega)
        rw [h1] at t3; rw [h2] at t4
        rw [pSum_eq, pSum_eq, t3, t4]
        simp only [Option.bind_some, cond_false]
        rcases g2 rfl with g | g
        · have := hf.2 g; cases this
        · rw [show (sm n (vc t.Rows) != sm m (vc t.Cols)) = true by rw [bne_iff_ne]; exact g]

theorem laws_FnFlows_true (a b : List (K .u8)) (o1 : Rng.ok a) (o2 : Rng.ok b) : laws_FnFlows a b = some true := by
  refine tot_eq ?_
  unfold laws_FnFlows
  refine tot_bind (Q := fun _ => True) ?_ fun c _ => tot_cond (fun _ => tot_some rfl) fun _ => ?_
  · unfold laws_big
    exact tot_bind (Q := fun _ => True) (tot_cond (fun _ => tot_some trivial) fun _ => tot_some trivial) fun _ _ => tot_some trivial
  obtain ⟨t, ed, hd⟩ := tDrawTr o1.2
  have ed : spec_DrawFirstFlow a = some t := by unfold spec_DrawFirstFlow; rw [ed]; rfl
  rw [ed, Option.bind_some]
  obtain ⟨b0, e1, e2, hb⟩ := good_ok hd.1 hd.2.1 hd.2.2.1 hd.2.2.2
  have s0 : laws_sameLists [] [] = some true := sameLists_f (by simp) (fun r hr => by cases hr)
  cases b0 with
  | false =>
    have i1 : impl_FirstFlow t = some ([], false) := by unfold impl_FirstFlow; rw [e1]; rfl
    have i2 : spec_FirstFlow t = some ([], false) := by unfold spec_FirstFlow; rw [e2]; rfl
    have i3 : impl_HasFlow t = some (false, false) := by unfold impl_HasFlow; rw [e1]; rfl
    rw [i1, i2, i3]
    simp only [Option.bind_some, bne_self_eq_false, cond_false, s0, Bool.not_true]
    rw [cut_part o2.2]
    exact tot_some rfl
  | true =>
    obtain ⟨n, m, hT⟩ := hb rfl
    have h3 := hT.n8; have h4 := hT.m8
    obtain ⟨f, i3, hf⟩ := hasFlow_ok hT
    by_cases hex : ∃ y, IsF n m t y
    · obtain ⟨x, q1, q2, hx, hF⟩ := firsts hT hex
      obtain rfl := hf.2 hex
      have i1 : impl_FirstFlow t = some (x, true) := by
        unfold impl_FirstFlow
        rw [e1]
        simp only [Option.bind_some, Bool.not_true, cond_false]
        rw [q1, Option.bind_some, (ne_ok hx hT.n1).2]; rfl
      have i2 : spec_FirstFlow t = some (x, true) := by
        unfold spec_FirstFlow
        rw [e2]
        simp only [Option.bind_some, Bool.not_true, cond_false]
        rw [q2]; rfl
      obtain ⟨y, j1, j2, hy⟩ := nexts hT hx hF
      rw [i1, i2, i3]
      simp only [Option.bind_some, bne_self_eq_false, cond_false, cond_true, sameLists_s hx h3 h4, Bool.not_true]
      rw [isFlow_ok hT hx hF, j1, j2]
      simp only [Option.bind_some, bne_self_eq_false, cond_false, cond_true, Bool.not_true]
      rcases hy with rfl | ⟨hys, k, hk⟩
      · simp only [s0, Option.bind_some, Bool.not_true, cond_false, List.isEmpty_nil]
        rw [cut_part o2.2]
        exact tot_some rfl
      · rw [(ne_ok hys hT.n1).2, sameLists_s hys h3 h4]
        simp only [Option.bind_some, Bool.not_true, Bool.not_false, cond_false, cond_true]
        rw [before_ok h3 h4 hx hys hk.lt hk.agr hk.one]
        simp only [Option.bind_some, Bool.not_true, cond_false]
        rw [cut_part o2.2]
        exact tot_some rfl
    · obtain ⟨x, q1, g⟩ := firstFlow_ok hT
      rcases g with ⟨rfl, _⟩ | ⟨_, g⟩
      · obtain ⟨z, b, q2, g1, g2⟩ := tFirst_ok hT
        cases b with
        | true => exact absurd ⟨_, (g1 rfl).2.isF⟩ hex
        | false =>
          obtain ⟨rfl, _⟩ := g2 rfl
          have hff : f = false := by
            cases f with
            | false => rfl
            | true => exact absurd (hf.1 rfl) hex
          subst hff
          have i1 : impl_FirstFlow t = some ([], false) := by
            unfold impl_FirstFlow
            rw [e1]
            simp only [Option.bind_some, Bool.not_true, cond_false]
            rw [q1]; rfl
          have i2 : spec_FirstFlow t = some ([], false) := by
            unfold spec_FirstFlow
            rw [e2]
            simp only [Option.bind_some, Bool.not_true, cond_false]
            rw [q2]; rfl
          rw [i1, i2, i3]
          simp only [Option.bind_some, bne_self_eq_false, cond_false, cond_true, s0, Bool.not_true]
          rw [cut_part o2.2]
          exact tot_some rfl
      · exact absurd ⟨_, g.isF⟩ hex

end Go.Gx.F
