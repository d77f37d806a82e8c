/- The walks of the functions: each returns what its plain function says. -/
import Derived.Test.YtiikfhfnkppeeaaCWalks1
namespace Go.Proofs.Ytiikfhfnkppeeaa
open Go.Gx Go.Gx.F Go.RowKit
set_option linter.all false
set_option maxRecDepth 10000


theorem c_spec_cbBroken (p_c : impl_Cube) (p_i : Int) (r : Bool) (hr : spec_cbBroken p_c p_i = some r) (w0 : World) (m : Mem) (hv : Vis m w0) (s1 : Sl) (h1 : Rd m s1 p_c.Sizes) (s2 : Sl) (h2 : Rd m s2 p_c.Cells) :
    Ret Try.prog 97 [(.agg #[s1.v, s2.v]), (.int .i64 p_i)] w0 (fun v _ => v = (.bool r)) := by
  unfold spec_cbBroken at hr
  refine ret_start Try.func97 rfl 53 rfl rfl m hv fun a hF hS => ?_
  refine q_seq ?_
  refine q_region ?_
  refine q_box (cs := [s1.v, s2.v]) hF hS rfl rfl rfl fun a w b3 hF hS => ?_
  refine q_x (v := (.bool false)) hF hS (ex_assign rfl) rfl rfl fun a hF => ?_
  refine q_end (n_sq ?_)
  refine q_seq ?_
  refine q_seq ?_
  refine q_region ?_
  refine q_x (v := (.pointer (some ⟨b3, 0, none⟩))) hF hS (ex_fieldAddr Try.underlying46 rfl sz33 rfl rfl) rfl rfl fun a hF => ?_
  refine q_x (v := s1.v) hF hS (ex_load1 0 0 Try.underlying33 rfl rfl rfl rfl) rfl rfl fun a hF => ?_
  refine q_x (v := (.int .i64 p_i)) hF hS (ex_move rfl) rfl rfl fun a hF => ?_
  obtain ⟨t_4, ht_4, hr⟩ := bindS hr
  refine q_call (vs := [s1.v, (.int .i64 p_i)]) hF hS Try.func82 (by kernel_rfl) rfl rfl rfl (c_spec_cbIndices p_c.Sizes p_i t_4 ht_4 _ m hS.vis s1 h1) ?_
  rintro a w _ ⟨q6, s6, rfl, hR5, h6⟩ hF hS2
  have hS : St _ _ _ _ [q6, [⟨b3, [s1.v, s2.v], 46⟩]] := hS.joinF hR5
  refine q_x (v := (.int .i64 (goLen t_4))) hF hS (ex_len Try.underlying33 rfl h6.len) rfl rfl fun a hF => ?_
  refine q_x (v := (.int .i64 0)) hF hS (ex_move rfl) rfl rfl fun a hF => ?_
  refine q_end (n_sq ?_)
  refine q_block ?_
  obtain ⟨o1, hl1, hr⟩ := bindS hr
  refine q_loop (fun (t_7 : Int) a w => Fr a 53 [(1, (.int .i64 p_i)), (2, (.pointer (some ⟨b3, 0, none⟩))), (13, s6.v), (14, (.int .i64 (goLen t_4))), (15, (.int .i64 t_7))] ∧ St [] w0 w m [q6, [⟨b3, [s1.v, s2.v], 46⟩]]) (fun (o : (Unit) ⊕ (Bool)) e a w => o = .inl () ∧ e = .exit 0 ∧ Fr a 53 [] ∧ St [] w0 w m []) hl1 ⟨hF.sub ⟨rfl, rfl, rfl, rfl, rfl, trivial⟩, hS⟩ ?_ ?_
  · clear hF hS
    rintro t_7 a w st ⟨hF, hS⟩ hb1
    unfold spec_cbBroken_l1 at hb1
    refine q_seq ?_
    refine q_region ?_
    refine q_x (v := (.bool (decide (t_7 < (goLen t_4))))) hF hS (ex_ibin rfl rfl rfl) rfl rfl fun a hF => ?_
    refine q_end (n_sq ?_)
    refine q_seq ?_
    rcases bcase (decide (t_7 < (goLen t_4))) with hc2 | hc2
    · have hb1 := cond_f hc2 hb1
      refine q_cond_f hF rfl hc2 ?_
      refine q_exit (x_sq ?_)
      obtain rfl := someI hb1
      exact ⟨nofun, .inl ⟨rfl, rfl, hF.sub trivial, hS.mask [false, false]⟩⟩
    · have hb1 := cond_t hc2 hb1
      refine q_cond_t hF rfl hc2 ?_
      refine q_skipc (n_sq ?_)
      refine q_seq ?_
      obtain ⟨j3, hj3, hb1⟩ := bindS hb1
      refine q_join (fun a w => j3 = .inl () ∧ Fr a 53 [(1, (.int .i64 p_i)), (2, (.pointer (some ⟨b3, 0, none⟩))), (13, s6.v), (14, (.int .i64 (goLen t_4))), (15, (.int .i64 t_7))] ∧ St [] w0 w m [q6, [⟨b3, [s1.v, s2.v], 46⟩]]) ?_ ?_
      · refine q_block ?_
        refine q_seq ?_
        refine q_region ?_
        refine q_x (v := (.int .i64 t_7)) hF hS (ex_move rfl) rfl rfl fun a hF => ?_
        obtain ⟨e_8, he_8, hj3⟩ := bindS hj3
        obtain ⟨vs9, at9, d9⟩ := h6.at he_8 1 rfl
        obtain rfl : vs9 = [(.int .i64 e_8)] := d9
        refine q_x (v := (elP s6 (t_7.toNat * 1))) hF hS (ex_indexAddr Try.underlying33 sz3 rfl rfl (h6.idx he_8)) rfl rfl fun a hF => ?_
        refine q_x (v := (.int .i64 e_8)) hF hS (ex_loadE1 0 Try.underlying3 rfl rfl (at9.at 0 rfl) rfl rfl) rfl rfl fun a hF => ?_
        refine q_x (v := (.int .i64 t_7)) hF hS (ex_assign rfl) rfl rfl fun a hF => ?_
        refine q_x (v := (.int .i64 e_8)) hF hS (ex_assign rfl) rfl rfl fun a hF => ?_
        refine q_end (n_sq ?_)
        refine q_seq ?_
        refine q_seq ?_
        refine q_region ?_
        refine q_x (v := (.int .i64 e_8)) hF hS (ex_move rfl) rfl rfl fun a hF => ?_
        refine q_x (v := (.pointer (some ⟨b3, 0, none⟩))) hF hS (ex_fieldAddr Try.underlying46 rfl sz33 rfl rfl) rfl rfl fun a hF => ?_
        refine q_x (v := s1.v) hF hS (ex_load1 1 0 Try.underlying33 rfl rfl rfl rfl) rfl rfl fun a hF => ?_
        refine q_x (v := (.int .i64 t_7)) hF hS (ex_move rfl) rfl rfl fun a hF => ?_
        obtain ⟨e_10, he_10, hj3⟩ := bindS hj3
        obtain ⟨vs11, at11, d11⟩ := h1.at he_10 1 rfl
        obtain rfl : vs11 = [(.int .i64 e_10)] := d11
        refine q_x (v := (elP s1 (t_7.toNat * 1))) hF hS (ex_indexAddr Try.underlying33 sz3 rfl rfl (h1.idx he_10)) rfl rfl fun a hF => ?_
        refine q_x (v := (.int .i64 e_10)) hF hS (ex_loadE1 0 Try.underlying3 rfl rfl ((at11).at) rfl rfl) rfl rfl fun a hF => ?_
        refine q_x (v := (.bool (e_8 != e_10))) hF hS (ex_ibin rfl rfl rfl) rfl rfl fun a hF => ?_
        refine q_end (n_sq ?_)
        rcases bcase (e_8 != e_10) with hc4 | hc4
        · have hj3 := cond_f hc4 hj3
          refine q_cond_f hF rfl hc4 ?_
          refine q_skipc (n_sq ?_)
          refine q_seq ?_
          refine q_region ?_
          refine q_x (v := (.int .i64 0)) hF hS (ex_assign rfl) rfl rfl fun a hF => ?_
          refine q_end (n_sq ?_)
          refine q_seq ?_
          refine q_seq ?_
          refine q_region ?_
          refine q_x (v := (.pointer (some ⟨b3, 0, none⟩))) hF hS (ex_fieldAddr Try.underlying46 rfl sz33 rfl rfl) rfl rfl fun a hF => ?_
          refine q_x (v := s1.v) hF hS (ex_load1 1 0 Try.underlying33 rfl rfl rfl rfl) rfl rfl fun a hF => ?_
          refine q_x (v := (.int .i64 p_i)) hF hS (ex_move rfl) rfl rfl fun a hF => ?_
          refine q_x (v := (.int .i64 t_7)) hF hS (ex_move rfl) rfl rfl fun a hF => ?_
          obtain ⟨t_12, ht_12, hj3⟩ := bindS hj3
          refine q_call (vs := [s1.v, (.int .i64 p_i), (.int .i64 t_7)]) hF hS Try.func99 (by kernel_rfl) rfl rfl rfl (c_spec_cbParts p_c.Sizes p_i t_7 t_12 ht_12 _ m hS.vis s1 h1) ?_
          rintro a w _ ⟨q14, s14, rfl, hR13, h14⟩ hF hS2
          have hS : St _ _ _ _ [q14, q6, [⟨b3, [s1.v, s2.v], 46⟩]] := hS.joinF hR13
          refine q_x (v := (.int .i64 (goLen t_12))) hF hS (ex_len Try.underlying33 rfl h14.len) rfl rfl fun a hF => ?_
          refine q_x (v := (.int .i64 0)) hF hS (ex_move rfl) rfl rfl fun a hF => ?_
          refine q_end (n_sq ?_)
          refine q_block ?_
          obtain ⟨sum_21, hl5, hj3⟩ := bindS hj3
          refine q_loop (fun (s : Int × Int) a w => ∃ sum_15, ∃ t_16, s = (sum_15, t_16) ∧ Fr a 53 [(1, (.int .i64 p_i)), (2, (.pointer (some ⟨b3, 0, none⟩))), (7, (.int .i64 sum_15)), (13, s6.v), (14, (.int .i64 (goLen t_4))), (15, (.int .i64 t_7)), (31, s14.v), (32, (.int .i64 (goLen t_12))), (33, (.int .i64 t_16))] ∧ St [] w0 w m [q14, q6, [⟨b3, [s1.v, s2.v], 46⟩]]) (fun (sum_21 : Int) e a w => e = .exit 2 ∧ Fr a 53 [(1, (.int .i64 p_i)), (2, (.pointer (some ⟨b3, 0, none⟩))), (7, (.int .i64 sum_21)), (13, s6.v), (14, (.int .i64 (goLen t_4))), (15, (.int .i64 t_7))] ∧ St [] w0 w m [q6, [⟨b3, [s1.v, s2.v], 46⟩]]) hl5 ⟨_, _, rfl, hF.sub ⟨rfl, rfl, rfl, rfl, rfl, rfl, rfl, rfl, rfl, trivial⟩, hS⟩ ?_ ?_
          · clear hF hS
            rintro s a w st ⟨sum_15, t_16, rfl, hF, hS⟩ hb5
            unfold spec_cbBroken_l2 at hb5
            refine q_seq ?_
            refine q_region ?_
            refine q_x (v := (.bool (decide (t_16 < (goLen t_12))))) hF hS (ex_ibin rfl rfl rfl) rfl rfl fun a hF => ?_
            refine q_end (n_sq ?_)
            refine q_seq ?_
            rcases bcase (decide (t_16 < (goLen t_12))) with hc6 | hc6
            · have hb5 := cond_f hc6 hb5
              refine q_cond_f hF rfl hc6 ?_
              refine q_exit (x_sq ?_)
              obtain rfl := someI hb5
              exact ⟨nofun, .inl ⟨rfl, hF.sub ⟨rfl, rfl, rfl, rfl, rfl, rfl, trivial⟩, hS.mask [false, true, true]⟩⟩
            · have hb5 := cond_t hc6 hb5
              refine q_cond_t hF rfl hc6 ?_
              refine q_skipc (n_sq ?_)
              refine q_seq ?_
              refine q_block ?_
              refine q_seq ?_
              refine q_region ?_
              obtain ⟨e_17, he_17, hb5⟩ := bindS hb5
              obtain ⟨vs18, at18, d18⟩ := h14.at he_17 1 rfl
              obtain rfl : vs18 = [(.int .i64 e_17)] := d18
              refine q_x (v := (elP s14 (t_16.toNat * 1))) hF hS (ex_indexAddr Try.underlying33 sz3 rfl rfl (h14.idx he_17)) rfl rfl fun a hF => ?_
              refine q_x (v := (.int .i64 e_17)) hF hS (ex_loadE1 0 Try.underlying3 rfl rfl (at18.at 0 rfl) rfl rfl) rfl rfl fun a hF => ?_
              refine q_x (v := (.int .i64 e_17)) hF hS (ex_assign rfl) rfl rfl fun a hF => ?_
              refine q_end (n_sq ?_)
              refine q_region ?_
              refine q_x (v := (.int .i64 sum_15)) hF hS (ex_move rfl) rfl rfl fun a hF => ?_
              refine q_x (v := (.pointer (some ⟨b3, 1, none⟩))) hF hS (ex_fieldAddr Try.underlying46 rfl sz33 rfl rfl) rfl rfl fun a hF => ?_
              refine q_x (v := s2.v) hF hS (ex_load1 2 0 Try.underlying33 rfl rfl rfl rfl) rfl rfl fun a hF => ?_
              refine q_x (v := (.int .i64 e_17)) hF hS (ex_move rfl) rfl rfl fun a hF => ?_
              obtain ⟨e_19, he_19, hb5⟩ := bindS hb5
              obtain ⟨vs20, at20, d20⟩ := h2.at he_19 1 rfl
              obtain rfl : vs20 = [(.int .i64 e_19)] := d20
              refine q_x (v := (elP s2 (e_17.toNat * 1))) hF hS (ex_indexAddr Try.underlying33 sz3 rfl rfl (h2.idx he_19)) rfl rfl fun a hF => ?_
              refine q_x (v := (.int .i64 e_19)) hF hS (ex_loadE1 0 Try.underlying3 rfl rfl ((at20).at) rfl rfl) rfl rfl fun a hF => ?_
              refine q_x (v := (.int .i64 (w64 (sum_15 + e_19)))) hF hS (ex_ibin rfl rfl rfl) rfl rfl fun a hF => ?_
              refine q_x (v := (.int .i64 (w64 (sum_15 + e_19)))) hF hS (ex_assign rfl) rfl rfl fun a hF => ?_
              refine q_end (n_ib (n_sq ?_))
              refine q_region ?_
              refine q_x (v := (.int .i64 (w64 (t_16 + 1)))) hF hS (ex_ibin rfl rfl rfl) rfl rfl fun a hF => ?_
              refine q_x (v := (.int .i64 (w64 (t_16 + 1)))) hF hS (ex_move rfl) rfl rfl fun a hF => ?_
              refine q_end ?_
              obtain rfl := someI hb5
              exact ⟨rfl, _, _, rfl, hF.sub ⟨rfl, rfl, rfl, rfl, rfl, rfl, rfl, rfl, rfl, trivial⟩, hS⟩
          · rintro e a w ⟨rfl, hF, hS⟩
            refine x_ib (n_sq ?_)
            refine q_seq ?_
            refine q_region ?_
            refine q_x (v := (.int .i64 sum_21)) hF hS (ex_move rfl) rfl rfl fun a hF => ?_
            refine q_x (v := (.pointer (some ⟨b3, 1, none⟩))) hF hS (ex_fieldAddr Try.underlying46 rfl sz33 rfl rfl) rfl rfl fun a hF => ?_
            refine q_x (v := s2.v) hF hS (ex_load1 1 0 Try.underlying33 rfl rfl rfl rfl) rfl rfl fun a hF => ?_
            refine q_x (v := (.int .i64 p_i)) hF hS (ex_move rfl) rfl rfl fun a hF => ?_
            obtain ⟨e_22, he_22, hj3⟩ := bindS hj3
            obtain ⟨vs23, at23, d23⟩ := h2.at he_22 1 rfl
            obtain rfl : vs23 = [(.int .i64 e_22)] := d23
            refine q_x (v := (elP s2 (p_i.toNat * 1))) hF hS (ex_indexAddr Try.underlying33 sz3 rfl rfl (h2.idx he_22)) rfl rfl fun a hF => ?_
            refine q_x (v := (.int .i64 e_22)) hF hS (ex_loadE1 0 Try.underlying3 rfl rfl ((at23).at) rfl rfl) rfl rfl fun a hF => ?_
            refine q_x (v := (.bool (sum_21 != e_22))) hF hS (ex_ibin rfl rfl rfl) rfl rfl fun a hF => ?_
            refine q_end (n_sq ?_)
            rcases bcase (sum_21 != e_22) with hc7 | hc7
            · have hj3 := cond_f hc7 hj3
              refine q_cond_f hF rfl hc7 ?_
              refine q_skipc (n_ib (n_jn ?_))
              obtain rfl := someI hj3
              exact ⟨rfl, hF.sub ⟨rfl, rfl, rfl, rfl, rfl, trivial⟩, hS⟩
            · have hj3 := cond_t hc7 hj3
              refine q_cond_t hF rfl hc7 ?_
              refine q_seq ?_
              refine q_region ?_
              refine q_x (v := (.bool true)) hF hS (ex_assign rfl) rfl rfl fun a hF => ?_
              refine q_end (n_sq (q_ret (r_ib (r_jn ?_))))
              obtain rfl := someI hj3
              refine r_sq ?_
              obtain rfl := someI hb1
              refine ⟨nofun, .inr fun ho => ?_⟩
              subst ho
              refine r_ib (r_sq ?_)
              obtain rfl := someI hr
              exact ret_of hF hS rfl (.tmp rfl .nil) rfl
        · have hj3 := cond_t hc4 hj3
          refine q_cond_t hF rfl hc4 ?_
          refine q_exit (x_sq (x_ib (n_jn ?_)))
          obtain rfl := someI hj3
          exact ⟨rfl, hF.sub ⟨rfl, rfl, rfl, rfl, rfl, trivial⟩, hS⟩
      · rintro a w ⟨rfl, hF, hS⟩
        refine n_sq ?_
        refine q_region ?_
        refine q_x (v := (.int .i64 (w64 (t_7 + 1)))) hF hS (ex_ibin rfl rfl rfl) rfl rfl fun a hF => ?_
        refine q_x (v := (.int .i64 (w64 (t_7 + 1)))) hF hS (ex_move rfl) rfl rfl fun a hF => ?_
        refine q_end ?_
        obtain rfl := someI hb1
        exact ⟨rfl, hF.sub ⟨rfl, rfl, rfl, rfl, rfl, trivial⟩, hS⟩
  · rintro e a w ⟨rfl, rfl, hF, hS⟩
    refine x_ib (n_sq ?_)
    refine q_seq ?_
    refine q_region ?_
    refine q_x (v := (.bool false)) hF hS (ex_assign rfl) rfl rfl fun a hF => ?_
    refine q_end (n_sq (q_ret ?_))
    obtain rfl := someI hr
    exact ret_of hF hS rfl (.tmp rfl .nil) rfl

theorem c_spec_cbFirst (p_c : impl_Cube) (r : Int) (hr : spec_cbFirst p_c = some r) (w0 : World) (m : Mem) (hv : Vis m w0) (s1 : Sl) (h1 : Rd m s1 p_c.Sizes) (s2 : Sl) (h2 : Rd m s2 p_c.Cells) :
    Ret Try.prog 92 [(.agg #[s1.v, s2.v])] w0 (fun v _ => v = (.int .i64 r)) := by
  unfold spec_cbFirst at hr
  refine ret_start Try.func92 rfl 18 rfl rfl m hv fun a hF hS => ?_
  refine q_seq ?_
  refine q_region ?_
  refine q_box (cs := [s1.v, s2.v]) hF hS rfl rfl rfl fun a w b3 hF hS => ?_
  refine q_x (v := (.int .i64 0)) hF hS (ex_assign rfl) rfl rfl fun a hF => ?_
  refine q_end (n_sq ?_)
  refine q_seq ?_
  refine q_seq ?_
  refine q_region ?_
  refine q_x (v := (.pointer (some ⟨b3, 1, none⟩))) hF hS (ex_fieldAddr Try.underlying46 rfl sz33 rfl rfl) rfl rfl fun a hF => ?_
  refine q_x (v := s2.v) hF hS (ex_load1 0 0 Try.underlying33 rfl rfl rfl rfl) rfl rfl fun a hF => ?_
  refine q_x (v := (.int .i64 (goLen p_c.Cells))) hF hS (ex_len Try.underlying33 rfl h2.len) rfl rfl fun a hF => ?_
  refine q_x (v := (.int .i64 0)) hF hS (ex_move rfl) rfl rfl fun a hF => ?_
  refine q_end (n_sq ?_)
  refine q_block ?_
  obtain ⟨o1, hl1, hr⟩ := bindS hr
  refine q_loop (fun (t_4 : Int) a w => Fr a 18 [(1, (.pointer (some ⟨b3, 0, none⟩))), (6, (.int .i64 (goLen p_c.Cells))), (7, (.int .i64 t_4))] ∧ St [] w0 w m [[⟨b3, [s1.v, s2.v], 46⟩]]) (fun (o : (Unit) ⊕ (Int)) e a w => o = .inl () ∧ e = .exit 0 ∧ Fr a 18 [(1, (.pointer (some ⟨b3, 0, none⟩)))] ∧ St [] w0 w m [[⟨b3, [s1.v, s2.v], 46⟩]]) hl1 ⟨hF.sub ⟨rfl, rfl, rfl, trivial⟩, hS⟩ ?_ ?_
  · clear hF hS
    rintro t_4 a w st ⟨hF, hS⟩ hb1
    unfold spec_cbFirst_l1 at hb1
    refine q_seq ?_
    refine q_region ?_
    refine q_x (v := (.bool (decide (t_4 < (goLen p_c.Cells))))) hF hS (ex_ibin rfl rfl rfl) rfl rfl fun a hF => ?_
    refine q_end (n_sq ?_)
    refine q_seq ?_
    rcases bcase (decide (t_4 < (goLen p_c.Cells))) with hc2 | hc2
    · have hb1 := cond_f hc2 hb1
      refine q_cond_f hF rfl hc2 ?_
      refine q_exit (x_sq ?_)
      obtain rfl := someI hb1
      exact ⟨nofun, .inl ⟨rfl, rfl, hF.sub ⟨rfl, trivial⟩, hS⟩⟩
    · have hb1 := cond_t hc2 hb1
      refine q_cond_t hF rfl hc2 ?_
      refine q_skipc (n_sq ?_)
      refine q_seq ?_
      refine q_block ?_
      refine q_seq ?_
      refine q_region ?_
      refine q_x (v := (.int .i64 t_4)) hF hS (ex_move rfl) rfl rfl fun a hF => ?_
      refine q_x (v := (.int .i64 t_4)) hF hS (ex_assign rfl) rfl rfl fun a hF => ?_
      refine q_end (n_sq ?_)
      refine q_seq ?_
      refine q_region ?_
      refine q_x (v := (.agg #[s1.v, s2.v])) hF hS (ex_loadA (vs := [s1.v, s2.v]) 0 0 Try.underlying46 rfl sz46 rfl rfl rfl rfl) rfl rfl fun a hF => ?_
      refine q_x (v := (.int .i64 t_4)) hF hS (ex_move rfl) rfl rfl fun a hF => ?_
      obtain ⟨t_5, ht_5, hb1⟩ := bindS hb1
      refine q_call (vs := [(.agg #[s1.v, s2.v]), (.int .i64 t_4)]) hF hS Try.func97 (by kernel_rfl) rfl rfl rfl (c_spec_cbBroken p_c t_4 t_5 ht_5 _ m hS.vis s1 h1 s2 h2) ?_
      rintro a w _ rfl hF hS
      refine q_end (n_sq ?_)
      rcases bcase (t_5) with hc3 | hc3
      · have hb1 := cond_f hc3 hb1
        refine q_cond_f hF rfl hc3 ?_
        refine q_skipc (n_ib (n_sq ?_))
        refine q_region ?_
        refine q_x (v := (.int .i64 (w64 (t_4 + 1)))) hF hS (ex_ibin rfl rfl rfl) rfl rfl fun a hF => ?_
        refine q_x (v := (.int .i64 (w64 (t_4 + 1)))) hF hS (ex_move rfl) rfl rfl fun a hF => ?_
        refine q_end ?_
        obtain rfl := someI hb1
        exact ⟨rfl, hF.sub ⟨rfl, rfl, rfl, trivial⟩, hS⟩
      · have hb1 := cond_t hc3 hb1
        refine q_cond_t hF rfl hc3 ?_
        refine q_seq ?_
        refine q_region ?_
        refine q_x (v := (.int .i64 t_4)) hF hS (ex_move rfl) rfl rfl fun a hF => ?_
        refine q_x (v := (.int .i64 t_4)) hF hS (ex_assign rfl) rfl rfl fun a hF => ?_
        refine q_end (n_sq (q_ret (r_ib (r_sq ?_))))
        obtain rfl := someI hb1
        refine ⟨nofun, .inr fun ho => ?_⟩
        subst ho
        refine r_ib (r_sq ?_)
        obtain rfl := someI hr
        exact ret_of hF hS rfl (.tmp rfl .nil) rfl
  · rintro e a w ⟨rfl, rfl, hF, hS⟩
    refine x_ib (n_sq ?_)
    refine q_seq ?_
    refine q_region ?_
    refine q_x (v := (.pointer (some ⟨b3, 1, none⟩))) hF hS (ex_fieldAddr Try.underlying46 rfl sz33 rfl rfl) rfl rfl fun a hF => ?_
    refine q_x (v := s2.v) hF hS (ex_load1 0 0 Try.underlying33 rfl rfl rfl rfl) rfl rfl fun a hF => ?_
    refine q_x (v := (.int .i64 (goLen p_c.Cells))) hF hS (ex_len Try.underlying33 rfl h2.len) rfl rfl fun a hF => ?_
    refine q_x (v := (.int .i64 (goLen p_c.Cells))) hF hS (ex_assign rfl) rfl rfl fun a hF => ?_
    refine q_end (n_sq (q_ret ?_))
    obtain rfl := someI hr
    exact ret_of hF hS rfl (.tmp rfl .nil) rfl

theorem c_spec_cbGood (p_c : impl_Cube) (r : Bool) (hr : spec_cbGood p_c = some r) (w0 : World) (m : Mem) (hv : Vis m w0) (s1 : Sl) (h1 : Rd m s1 p_c.Sizes) (s2 : Sl) (h2 : Rd m s2 p_c.Cells) :
    Ret Try.prog 67 [(.agg #[s1.v, s2.v])] w0 (fun v _ => v = (.bool r)) := by
  unfold spec_cbGood at hr
  refine ret_start Try.func67 rfl 13 rfl rfl m hv fun a hF hS => ?_
  refine q_seq ?_
  refine q_region ?_
  refine q_box (cs := [s1.v, s2.v]) hF hS rfl rfl rfl fun a w b3 hF hS => ?_
  refine q_x (v := (.bool false)) hF hS (ex_assign rfl) rfl rfl fun a hF => ?_
  refine q_end (n_sq ?_)
  refine q_seq ?_
  obtain ⟨t_9, hj1, hr⟩ := bindS hr
  refine q_join (fun a w => Fr a 13 [(2, (.bool t_9))] ∧ St [] w0 w m []) ?_ ?_
  · refine e_region [] mixed fun w' hw' => ?_
    have hS := hS.below hw'
    refine e_x (v := (.agg #[s1.v, s2.v])) 0 hF hS rfl (ex_loadA (vs := [s1.v, s2.v]) 0 0 Try.underlying46 rfl sz46 rfl rfl rfl rfl) rfl rfl (by kernel_rfl) (by kernel_rfl) (by kernel_rfl) (by kernel_rfl) fun a hF => ?_
    refine e_one 1 (by kernel_rfl) ?_
    obtain ⟨t_4, ht_4, hj1⟩ := bindS hj1
    refine e_call (vs := [(.agg #[s1.v, s2.v])]) hF hS rfl Try.func91 (by kernel_rfl) rfl rfl rfl (c_spec_cbForm p_c t_4 ht_4 _ m hS.vis s1 h1 s2 h2) ?_
    rintro a w _ rfl hF hS
    refine e_p (v := (.bool t_4)) 2 hF rfl (ex_move rfl) rfl rfl (by kernel_rfl) (by kernel_rfl) (by kernel_rfl) fun a hF => ?_
    rcases bcase (t_4) with hc2 | hc2
    · have hj1 := cond_f hc2 hj1
      refine e_skipP 3 hF rfl (wanted_f hF rfl rfl rfl hc2 rfl) rfl (by kernel_rfl) (by kernel_rfl) (by kernel_rfl) fun a hF => ?_
      refine e_skipP 4 hF rfl (wanted_f hF rfl rfl rfl hc2 rfl) rfl (by kernel_rfl) (by kernel_rfl) (by kernel_rfl) fun a hF => ?_
      refine e_skipP 5 hF rfl (wanted_f hF rfl rfl rfl hc2 rfl) rfl (by kernel_rfl) (by kernel_rfl) (by kernel_rfl) fun a hF => ?_
      refine e_skipP 6 hF rfl (wanted_f hF rfl rfl rfl hc2 rfl) rfl (by kernel_rfl) (by kernel_rfl) (by kernel_rfl) fun a hF => ?_
      refine e_skipP 7 hF rfl (wanted_f hF rfl rfl rfl hc2 rfl) rfl (by kernel_rfl) (by kernel_rfl) (by kernel_rfl) fun a hF => ?_
      refine e_skipP 8 hF rfl (wanted_f hF rfl rfl rfl hc2 rfl) rfl (by kernel_rfl) (by kernel_rfl) (by kernel_rfl) fun a hF => ?_
      refine e_p (v := (.bool false)) 9 hF rfl (ex_pick_f rfl rfl hc2) rfl rfl (by kernel_rfl) (by kernel_rfl) (by kernel_rfl) fun a hF => ?_
      refine e_p (v := (.bool false)) 10 hF rfl (ex_assign rfl) rfl rfl (by kernel_rfl) (by kernel_rfl) (by kernel_rfl) fun a hF => ?_
      refine e_end (by kernel_rfl) (n_jn ?_) _
      obtain rfl := someI hj1
      exact ⟨hF.sub ⟨rfl, trivial⟩, hS.mask [false]⟩
    · have hj1 := cond_t hc2 hj1
      refine e_xg (v := (.agg #[s1.v, s2.v])) 3 hF hS rfl (ex_loadA (vs := [s1.v, s2.v]) 0 0 Try.underlying46 rfl sz46 rfl rfl rfl rfl) (wanted_t hF rfl rfl rfl hc2) rfl (by kernel_rfl) (by kernel_rfl) (by kernel_rfl) (by kernel_rfl) fun a hF => ?_
      refine e_pg (v := (.pointer (some ⟨b3, 1, none⟩))) 5 hF rfl (ex_fieldAddr Try.underlying46 rfl sz33 rfl rfl) (wanted_t hF rfl rfl rfl hc2) rfl (by kernel_rfl) (by kernel_rfl) (by kernel_rfl) fun a hF => ?_
      refine e_xg (v := s2.v) 6 hF hS rfl (ex_load1 0 0 Try.underlying33 rfl rfl rfl rfl) (wanted_t hF rfl rfl rfl hc2) rfl (by kernel_rfl) (by kernel_rfl) (by kernel_rfl) (by kernel_rfl) fun a hF => ?_
      refine e_pg (v := (.int .i64 (goLen p_c.Cells))) 7 hF rfl (ex_len Try.underlying33 rfl h2.len) (wanted_t hF rfl rfl rfl hc2) rfl (by kernel_rfl) (by kernel_rfl) (by kernel_rfl) fun a hF => ?_
      refine e_one 4 (by kernel_rfl) ?_
      obtain ⟨t_8, ht_8, hj1⟩ := bindS hj1
      refine e_callg (vs := [(.agg #[s1.v, s2.v])]) hF hS rfl (wanted_t hF rfl rfl rfl hc2) Try.func92 (by kernel_rfl) rfl rfl rfl (c_spec_cbFirst p_c t_8 ht_8 _ m hS.vis s1 h1 s2 h2) ?_
      rintro a w _ rfl hF hS
      refine e_pg (v := (.bool (t_8 == (goLen p_c.Cells)))) 8 hF rfl (ex_ibin rfl rfl rfl) (wanted_t hF rfl rfl rfl hc2) rfl (by kernel_rfl) (by kernel_rfl) (by kernel_rfl) fun a hF => ?_
      refine e_p (v := (.bool (t_8 == (goLen p_c.Cells)))) 9 hF rfl (ex_pick_t rfl rfl hc2) rfl rfl (by kernel_rfl) (by kernel_rfl) (by kernel_rfl) fun a hF => ?_
      refine e_p (v := (.bool (t_8 == (goLen p_c.Cells)))) 10 hF rfl (ex_assign rfl) rfl rfl (by kernel_rfl) (by kernel_rfl) (by kernel_rfl) fun a hF => ?_
      refine e_end (by kernel_rfl) (n_jn ?_) _
      obtain rfl := someI hj1
      exact ⟨hF.sub ⟨rfl, trivial⟩, hS.mask [false]⟩
  · rintro a w ⟨hF, hS⟩
    refine n_sq (q_ret ?_)
    obtain rfl := someI hr
    exact ret_of hF hS rfl (.tmp rfl .nil) rfl

theorem c_spec_cbIf (p_c : impl_Cube) (r : impl_Cube × Bool) (hr : spec_cbIf p_c = some r) (w0 : World) (m : Mem) (hv : Vis m w0) (s1 : Sl) (h1 : Rd m s1 p_c.Sizes) (s2 : Sl) (h2 : Rd m s2 p_c.Cells) :
    Ret Try.prog 62 [(.agg #[s1.v, s2.v])] w0 (fun v w => ∃ (m' : Mem) (s0' : Sl) (s1' : Sl), v = (.tuple #[(.agg #[s0'.v, s1'.v]), (.bool r.2)]) ∧ MLe [] w0.heap.size m m' ∧ St [] w0 w m' [] ∧ Rd m' s0' r.1.Sizes ∧ Rd m' s1' r.1.Cells) := by
  unfold spec_cbIf at hr
  refine ret_start Try.func62 rfl 9 rfl rfl m hv fun a hF hS => ?_
  refine q_seq ?_
  refine q_region ?_
  refine q_box (cs := [s1.v, s2.v]) hF hS rfl rfl rfl fun a w b3 hF hS => ?_
  refine q_alloc (cs := [nilS.v, nilS.v]) hF hS rfl rfl rfl fun a w b4 hF hS => ?_
  refine q_x (v := (.bool false)) hF hS (ex_assign rfl) rfl rfl fun a hF => ?_
  refine q_end (n_sq ?_)
  refine q_seq ?_
  refine q_seq ?_
  refine q_region ?_
  refine q_x (v := (.agg #[s1.v, s2.v])) hF hS (ex_loadA (vs := [s1.v, s2.v]) 1 0 Try.underlying46 rfl sz46 rfl rfl rfl rfl) rfl rfl fun a hF => ?_
  obtain ⟨t_5, ht_5, hr⟩ := bindS hr
  refine q_call (vs := [(.agg #[s1.v, s2.v])]) hF hS Try.func67 (by kernel_rfl) rfl rfl rfl (c_spec_cbGood p_c t_5 ht_5 _ m hS.vis s1 h1 s2 h2) ?_
  rintro a w _ rfl hF hS
  refine q_x (v := (.bool (!t_5))) hF hS (ex_not rfl) rfl rfl fun a hF => ?_
  refine q_end (n_sq ?_)
  rcases bcase (!t_5) with hc1 | hc1
  · have hr := cond_f hc1 hr
    refine q_cond_f hF rfl hc1 ?_
    refine q_skipc (n_sq ?_)
    refine q_seq ?_
    refine q_region ?_
    refine q_x (v := (.agg #[s1.v, s2.v])) hF hS (ex_loadA (vs := [s1.v, s2.v]) 1 0 Try.underlying46 rfl sz46 rfl rfl rfl rfl) rfl rfl fun a hF => ?_
    refine q_store (vs := [s1.v, s2.v]) (cs' := [s1.v, s2.v]) 0 0 hF hS sz46 rfl rfl rfl rfl rfl rfl rfl rfl fun a w hF hS => ?_
    refine q_x (v := (.bool true)) hF hS (ex_assign rfl) rfl rfl fun a hF => ?_
    refine q_end (n_sq (q_ret ?_))
    obtain rfl := someI hr
    exact ret_of hF hS rfl (.cellA (us := [s1.v, s2.v]) 0 0 Try.underlying46 rfl sz46 rfl rfl rfl rfl (.tmp rfl .nil)) ⟨m, s1, s2, rfl, (MLe.refl _ _), hS.sel [] (by decide), h1, h2⟩
  · have hr := cond_t hc1 hr
    refine q_cond_t hF rfl hc1 ?_
    refine q_seq ?_
    refine q_region ?_
    refine q_x (v := (.agg #[nilS.v, nilS.v])) hF hS (ex_build (cells := [nilS.v, nilS.v]) rfl (by kernel_rfl)) rfl rfl fun a hF => ?_
    refine q_store (vs := [nilS.v, nilS.v]) (cs' := [nilS.v, nilS.v]) 0 0 hF hS sz46 rfl rfl rfl rfl rfl rfl rfl rfl fun a w hF hS => ?_
    refine q_x (v := (.bool false)) hF hS (ex_assign rfl) rfl rfl fun a hF => ?_
    refine q_end (n_sq (q_ret (r_sq ?_)))
    obtain rfl := someI hr
    exact ret_of hF hS rfl (.cellA (us := [nilS.v, nilS.v]) 0 0 Try.underlying46 rfl sz46 rfl rfl rfl rfl (.tmp rfl .nil)) ⟨m, nilS, nilS, rfl, (MLe.refl _ _), hS.sel [] (by decide), (Rd.nil0 (α := Int) m), (Rd.nil0 (α := Int) m)⟩

theorem c_spec_CubeOf (p_sizes : List Int) (p_base : List Int) (r : impl_Cube × Bool) (hr : spec_CubeOf p_sizes p_base = some r) (w0 : World) (m : Mem) (hv : Vis m w0) (s1 : Sl) (h1 : Rd m s1 p_sizes) (s2 : Sl) (h2 : Rd m s2 p_base) :
    Ret Try.prog 22 [s1.v, s2.v] w0 (fun v w => ∃ (m' : Mem) (s0' : Sl) (s1' : Sl), v = (.tuple #[(.agg #[s0'.v, s1'.v]), (.bool r.2)]) ∧ MLe [] w0.heap.size m m' ∧ St [] w0 w m' [] ∧ Rd m' s0' r.1.Sizes ∧ Rd m' s1' r.1.Cells) := by
  unfold spec_CubeOf at hr
  refine ret_start Try.func22 rfl 29 rfl rfl m hv fun a hF hS => ?_
  refine q_seq ?_
  refine q_region ?_
  refine q_alloc (cs := [nilS.v, nilS.v]) hF hS rfl rfl rfl fun a w b3 hF hS => ?_
  refine q_x (v := (.bool false)) hF hS (ex_assign rfl) rfl rfl fun a hF => ?_
  refine q_end (n_sq ?_)
  refine q_seq ?_
  refine q_seq ?_
  obtain ⟨t_9, hj1, hr⟩ := bindS hr
  refine q_join (fun a w => Fr a 29 [(0, s1.v), (1, s2.v), (4, (.pointer (some ⟨b3, 0, none⟩))), (21, (.bool t_9))] ∧ St [] w0 w m [[⟨b3, [nilS.v, nilS.v], 46⟩]]) ?_ ?_
  · refine q_region ?_
    refine q_x (v := s1.v) hF hS (ex_move rfl) rfl rfl fun a hF => ?_
    obtain ⟨t_4, ht_4, hj1⟩ := bindS hj1
    refine q_call (vs := [s1.v]) hF hS Try.func59 (by kernel_rfl) rfl rfl rfl (c_spec_cbCount p_sizes t_4 ht_4 _ m hS.vis s1 h1) ?_
    rintro a w _ rfl hF hS
    refine q_x (v := (.bool (t_4 == 0))) hF hS (ex_ibin rfl rfl rfl) rfl rfl fun a hF => ?_
    refine q_x (v := (.bool (t_4 == 0))) hF hS (ex_move rfl) rfl rfl fun a hF => ?_
    rcases bcase (t_4 == 0) with hc2 | hc2
    · have hj1 := cond_f hc2 hj1
      refine q_xg (v := s2.v) hF hS (ex_move rfl) (wanted_t hF rfl rfl rfl hc2) rfl fun a hF => ?_
      refine q_xg (v := (.int .i64 (goLen p_base))) hF hS (ex_len Try.underlying33 rfl h2.len) (wanted_t hF rfl rfl rfl hc2) rfl fun a hF => ?_
      refine q_xg (v := s1.v) hF hS (ex_move rfl) (wanted_t hF rfl rfl rfl hc2) rfl fun a hF => ?_
      obtain ⟨t_5, ht_5, hj1⟩ := bindS hj1
      refine q_callg (vs := [s1.v]) hF hS (wanted_t hF rfl rfl rfl hc2) Try.func60 (by kernel_rfl) rfl rfl rfl (c_spec_cbBase p_sizes t_5 ht_5 _ m hS.vis s1 h1) ?_
      rintro a w _ ⟨q7, s7, rfl, hR6, h7⟩ hF hS2
      have hS : St _ _ _ _ [q7, [⟨b3, [nilS.v, nilS.v], 46⟩]] := hS.joinF hR6
      refine q_xg (v := (.int .i64 (goLen t_5))) hF hS (ex_len Try.underlying33 rfl h7.len) (wanted_t hF rfl rfl rfl hc2) rfl fun a hF => ?_
      refine q_xg (v := (.bool ((goLen p_base) != (goLen t_5)))) hF hS (ex_ibin rfl rfl rfl) (wanted_t hF rfl rfl rfl hc2) rfl fun a hF => ?_
      refine q_x (v := (.bool ((goLen p_base) != (goLen t_5)))) hF hS (ex_pick_f rfl rfl hc2) rfl rfl fun a hF => ?_
      refine q_x (v := (.bool ((goLen p_base) != (goLen t_5)))) hF hS (ex_move rfl) rfl rfl fun a hF => ?_
      rcases bcase ((goLen p_base) != (goLen t_5)) with hc3 | hc3
      · have hj1 := cond_f hc3 hj1
        refine q_xg (v := s2.v) hF hS (ex_move rfl) (wanted_t hF rfl rfl rfl hc3) rfl fun a hF => ?_
        obtain ⟨t_8, ht_8, hj1⟩ := bindS hj1
        refine q_callg (vs := [s2.v, (.int .i64 (-1000000)), (.int .i64 1000000)]) hF hS (wanted_t hF rfl rfl rfl hc3) Try.func61 (by kernel_rfl) rfl rfl rfl (c_spec_l1All p_base (-1000000) 1000000 t_8 ht_8 _ m hS.vis s2 h2) ?_
        rintro a w _ rfl hF hS
        refine q_xg (v := (.bool (!t_8))) hF hS (ex_not rfl) (wanted_t hF rfl rfl rfl hc3) rfl fun a hF => ?_
        refine q_x (v := (.bool (!t_8))) hF hS (ex_pick_f rfl rfl hc3) rfl rfl fun a hF => ?_
        refine q_end (n_jn ?_)
        obtain rfl := someI hj1
        exact ⟨hF.sub ⟨rfl, rfl, rfl, rfl, trivial⟩, hS.mask [false, true]⟩
      · have hj1 := cond_t hc3 hj1
        refine q_skip hF (wanted_f hF rfl rfl rfl hc3 rfl) rfl fun a hF => ?_
        refine q_skip hF (wanted_f hF rfl rfl rfl hc3 rfl) rfl fun a hF => ?_
        refine q_skip hF (wanted_f hF rfl rfl rfl hc3 rfl) rfl fun a hF => ?_
        refine q_x (v := (.bool true)) hF hS (ex_pick_t rfl rfl hc3) rfl rfl fun a hF => ?_
        refine q_end (n_jn ?_)
        obtain rfl := someI hj1
        exact ⟨hF.sub ⟨rfl, rfl, rfl, rfl, trivial⟩, hS.mask [false, true]⟩
    · have hj1 := cond_t hc2 hj1
      refine q_skip hF (wanted_f hF rfl rfl rfl hc2 rfl) rfl fun a hF => ?_
      refine q_skip hF (wanted_f hF rfl rfl rfl hc2 rfl) rfl fun a hF => ?_
      refine q_skip hF (wanted_f hF rfl rfl rfl hc2 rfl) rfl fun a hF => ?_
      refine q_skip hF (wanted_f hF rfl rfl rfl hc2 rfl) rfl fun a hF => ?_
      refine q_skip hF (wanted_f hF rfl rfl rfl hc2 rfl) rfl fun a hF => ?_
      refine q_skip hF (wanted_f hF rfl rfl rfl hc2 rfl) rfl fun a hF => ?_
      refine q_x (v := (.bool true)) hF hS (ex_pick_t rfl rfl hc2) rfl rfl fun a hF => ?_
      refine q_x (v := (.bool true)) hF hS (ex_move rfl) rfl rfl fun a hF => ?_
      refine q_skip hF (wanted_f hF rfl rfl rfl rfl rfl) rfl fun a hF => ?_
      refine q_skip hF (wanted_f hF rfl rfl rfl rfl rfl) rfl fun a hF => ?_
      refine q_skip hF (wanted_f hF rfl rfl rfl rfl rfl) rfl fun a hF => ?_
      refine q_x (v := (.bool true)) hF hS (ex_pick_t rfl rfl rfl) rfl rfl fun a hF => ?_
      refine q_end (n_jn ?_)
      obtain rfl := someI hj1
      exact ⟨hF.sub ⟨rfl, rfl, rfl, rfl, trivial⟩, hS⟩
  · rintro a w ⟨hF, hS⟩
    refine n_sq ?_
    rcases bcase (t_9) with hc4 | hc4
    · have hr := cond_f hc4 hr
      refine q_cond_f hF rfl hc4 ?_
      refine q_skipc (n_sq ?_)
      refine q_seq ?_
      refine q_region ?_
      refine q_x (v := s1.v) hF hS (ex_move rfl) rfl rfl fun a hF => ?_
      refine q_x (v := s2.v) hF hS (ex_move rfl) rfl rfl fun a hF => ?_
      obtain ⟨t_10, ht_10, hr⟩ := bindS hr
      refine q_call (vs := [s1.v, s2.v]) hF hS Try.func63 (by kernel_rfl) rfl rfl rfl (c_spec_cbOf p_sizes p_base t_10 ht_10 _ m hS.vis s1 h1 s2 h2) ?_
      rintro a w _ ⟨q12, q13, s12, s13, rfl, hR11, h12, h13⟩ hF hS2
      have hS : St _ _ _ _ [q12, q13, [⟨b3, [nilS.v, nilS.v], 46⟩]] := hS.joinF hR11
      obtain ⟨m14, hm14, hS, hz14⟩ := hS.freeze
      have h14 := h12.froz hm14.le hz14
      obtain ⟨m15, hm15, hS, hz15⟩ := hS.freeze
      have h15 := (h13.mono hm14.le).froz hm15.le hz15
      obtain ⟨t_16, ht_16, hr⟩ := bindS hr
      refine q_call (vs := [(.agg #[s12.v, s13.v])]) hF hS Try.func62 (by kernel_rfl) rfl rfl rfl (c_spec_cbIf t_10 t_16 ht_16 _ m15 hS.vis s12 (h14.mono hm15.le) s13 h15) ?_
      have hT := hS
      rintro a w _ ⟨m17, s18, s19, rfl, hm17, hR17, h18, h19⟩ hF hS2
      have hS : St _ _ _ _ [[⟨b3, [nilS.v, nilS.v], 46⟩]] := hS.join hR17 hm17
      have hm17 := MLe.weakX (O0 := []) hT hm17
      refine q_x (v := (.agg #[s18.v, s19.v])) hF hS (ex_extract rfl rfl) rfl rfl fun a hF => ?_
      refine q_x (v := (.bool t_16.2)) hF hS (ex_extract rfl rfl) rfl rfl fun a hF => ?_
      refine q_store (vs := [s18.v, s19.v]) (cs' := [s18.v, s19.v]) 0 0 hF hS sz46 rfl rfl rfl rfl rfl rfl rfl rfl fun a w hF hS => ?_
      refine q_x (v := (.bool t_16.2)) hF hS (ex_assign rfl) rfl rfl fun a hF => ?_
      refine q_end (n_sq (q_ret ?_))
      obtain rfl := someI hr
      exact ret_of hF hS rfl (.cellA (us := [s18.v, s19.v]) 0 0 Try.underlying46 rfl sz46 rfl rfl rfl rfl (.tmp rfl .nil)) ⟨m17, s18, s19, rfl, ((hm14.trans hm15).trans hm17), hS.sel [] (by decide), h18, h19⟩
    · have hr := cond_t hc4 hr
      refine q_cond_t hF rfl hc4 ?_
      refine q_seq ?_
      refine q_region ?_
      refine q_x (v := (.agg #[nilS.v, nilS.v])) hF hS (ex_build (cells := [nilS.v, nilS.v]) rfl (by kernel_rfl)) rfl rfl fun a hF => ?_
      refine q_store (vs := [nilS.v, nilS.v]) (cs' := [nilS.v, nilS.v]) 0 0 hF hS sz46 rfl rfl rfl rfl rfl rfl rfl rfl fun a w hF hS => ?_
      refine q_x (v := (.bool false)) hF hS (ex_assign rfl) rfl rfl fun a hF => ?_
      refine q_end (n_sq (q_ret (r_sq ?_)))
      obtain rfl := someI hr
      exact ret_of hF hS rfl (.cellA (us := [nilS.v, nilS.v]) 0 0 Try.underlying46 rfl sz46 rfl rfl rfl rfl (.tmp rfl .nil)) ⟨m, nilS, nilS, rfl, (MLe.refl _ _), hS.sel [] (by decide), (Rd.nil0 (α := Int) m), (Rd.nil0 (α := Int) m)⟩

theorem c_spec_l1Cur_cube (p_c : spec_l1Cur) (r : impl_Cube × spec_l1Cur) (hr : spec_l1Cur_cube p_c = some r) (w0 : World) (m : Mem) (b_p_c : Nat) (s1 : Sl) (h1 : Rd m s1 p_c.code) (X : List Nat) (hS : St X w0 w0 m [[⟨b_p_c, [s1.v, (.int .i64 p_c.at_), (.int .u64 p_c.seed.v)], 69⟩]]) :
    RetX Try.prog 64 [(.pointer (some ⟨b_p_c, 0, none⟩))] w0 (fun v w => ∃ (m' : Mem) (q1' : Piece) (s0' : Sl) (s1' : Sl), v = (.agg #[s0'.v, s1'.v]) ∧ MLe X w0.heap.size m m' ∧ St X w0 w m' [[⟨b_p_c, [s1.v, (.int .i64 r.2.at_), (.int .u64 r.2.seed.v)], 69⟩], q1'] ∧ Rd m' s0' r.1.Sizes ∧ OwnL m' 3 q1' s1' r.1.Cells ∧ r.2.code = p_c.code) := by
  unfold spec_l1Cur_cube at hr
  refine ret_startX Try.func64 rfl 49 rfl rfl fun a hF => ?_
  refine q_seq ?_
  refine q_region ?_
  refine q_alloc (cs := [nilS.v, nilS.v]) hF hS rfl rfl rfl fun a w b2 hF hS => ?_
  refine q_end (n_sq ?_)
  refine q_seq ?_
  refine q_region ?_
  refine q_x (v := (.pointer (some ⟨b_p_c, 0, none⟩))) hF hS (ex_move rfl) rfl rfl fun a hF => ?_
  have hS : St _ _ _ _ [[⟨b_p_c, [s1.v, (.int .i64 p_c.at_), (.int .u64 p_c.seed.v)], 69⟩], [⟨b2, [nilS.v, nilS.v], 46⟩]] := hS.sel [1, 0] (by decide)
  have hS3 : St _ _ _ _ ([[⟨b_p_c, [s1.v, (.int .i64 p_c.at_), (.int .u64 p_c.seed.v)], 69⟩]] ++ [[⟨b2, [nilS.v, nilS.v], 46⟩]]) := hS
  have hE3 := hS3.enter
  obtain ⟨t_4, ht_4, hr⟩ := bindS hr
  refine q_do rfl fun _ hK => wp_callX (vs := [(.pointer (some ⟨b_p_c, 0, none⟩))]) hF Try.func55 (by kernel_rfl) rfl rfl rfl (c_spec_l1Cur_sizes p_c t_4 ht_4 _ m b_p_c s1 h1 _ hE3) fun a w _ hR hF => hK _ _ ?_
  obtain ⟨m3', s5, rfl, hm3, hR3, h5, hk6⟩ := hR
  have hS : St _ _ _ _ [[⟨b_p_c, [s1.v, (.int .i64 t_4.2.at_), (.int .u64 t_4.2.seed.v)], 69⟩], [⟨b2, [nilS.v, nilS.v], 46⟩]] := hS3.leave hR3 hm3
  have hm3 := MLe.weakX hS3 hm3
  have h6 : Rd m3' s1 t_4.2.code := by rw [hk6]; exact (h1.mono hm3.le)
  refine q_x (v := s5.v) hF hS (ex_assign rfl) rfl rfl fun a hF => ?_
  refine q_end (n_sq ?_)
  refine q_seq ?_
  refine q_seq ?_
  refine q_region ?_
  refine q_x (v := s5.v) hF hS (ex_move rfl) rfl rfl fun a hF => ?_
  obtain ⟨t_7, ht_7, hr⟩ := bindS hr
  refine q_call (vs := [s5.v]) hF hS Try.func59 (by kernel_rfl) rfl rfl rfl (c_spec_cbCount t_4.1 t_7 ht_7 _ m3' hS.vis s5 h5) ?_
  rintro a w _ rfl hF hS
  refine q_x (v := (.bool (t_7 == 0))) hF hS (ex_ibin rfl rfl rfl) rfl rfl fun a hF => ?_
  refine q_end (n_sq ?_)
  rcases bcase (t_7 == 0) with hc1 | hc1
  · have hr := cond_f hc1 hr
    refine q_cond_f hF rfl hc1 ?_
    refine q_skipc (n_sq ?_)
    refine q_seq ?_
    refine q_region ?_
    refine q_x (v := s5.v) hF hS (ex_move rfl) rfl rfl fun a hF => ?_
    refine q_x (v := (.pointer (some ⟨b_p_c, 0, none⟩))) hF hS (ex_move rfl) rfl rfl fun a hF => ?_
    refine q_x (v := s5.v) hF hS (ex_move rfl) rfl rfl fun a hF => ?_
    have hS8 : St _ _ _ _ ([[⟨b_p_c, [s1.v, (.int .i64 t_4.2.at_), (.int .u64 t_4.2.seed.v)], 69⟩]] ++ [[⟨b2, [nilS.v, nilS.v], 46⟩]]) := hS
    have hE8 := hS8.enter
    obtain ⟨t_9, ht_9, hr⟩ := bindS hr
    refine q_do rfl fun _ hK => wp_callX (vs := [(.pointer (some ⟨b_p_c, 0, none⟩)), s5.v]) hF Try.func56 (by kernel_rfl) rfl rfl rfl (c_spec_l1Cur_baseCells t_4.2 t_4.1 t_9 ht_9 _ m3' b_p_c s1 h6 s5 h5 _ hE8) fun a w _ hR hF => hK _ _ ?_
    obtain ⟨q10, s10, rfl, hR8, h10, hk11⟩ := hR
    have hS : St _ _ _ _ [[⟨b_p_c, [s1.v, (.int .i64 t_9.2.at_), (.int .u64 t_9.2.seed.v)], 69⟩], q10, [⟨b2, [nilS.v, nilS.v], 46⟩]] := hS8.leaveF hR8
    have h11 : Rd m3' s1 t_9.2.code := by rw [hk11]; exact h6
    obtain ⟨m13, hl13, hv13, hz13⟩ := hS.lend
    obtain ⟨t_12, ht_12, hr⟩ := bindS hr
    refine q_call (vs := [s5.v, s10.v]) hF hS Try.func63 (by kernel_rfl) rfl rfl rfl (c_spec_cbOf t_4.1 t_9.1 t_12 ht_12 _ m13 hv13 s5 (h5.mono hl13) s10 (h10.froz hl13 (hz13 1 _ rfl))) ?_
    rintro a w _ ⟨q15, q16, s15, s16, rfl, hR14, h15, h16⟩ hF hS2
    have hS : St _ _ _ _ [q15, q16, [⟨b_p_c, [s1.v, (.int .i64 t_9.2.at_), (.int .u64 t_9.2.seed.v)], 69⟩], q10, [⟨b2, [nilS.v, nilS.v], 46⟩]] := hS.joinF hR14
    have h15 := h15.any m3'
    have h16 := h16.any m3'
    refine q_alloc (cs := [nilS.v, nilS.v]) hF hS rfl rfl rfl fun a w b17 hF hS => ?_
    refine q_store (vs := [s15.v, s16.v]) (cs' := [s15.v, s16.v]) 0 0 hF hS sz46 rfl rfl rfl rfl rfl rfl rfl rfl fun a w hF hS => ?_
    refine q_end (n_sq ?_)
    refine q_seq ?_
    refine q_seq ?_
    refine q_region ?_
    refine q_x (v := (.pointer (some ⟨b_p_c, 0, none⟩))) hF hS (ex_move rfl) rfl rfl fun a hF => ?_
    have hS : St _ _ _ _ [[⟨b_p_c, [s1.v, (.int .i64 t_9.2.at_), (.int .u64 t_9.2.seed.v)], 69⟩], [⟨b17, [s15.v, s16.v], 46⟩], q15, q16, q10, [⟨b2, [nilS.v, nilS.v], 46⟩]] := hS.sel [3, 0, 1, 2, 4, 5] (by decide)
    have hS18 : St _ _ _ _ ([[⟨b_p_c, [s1.v, (.int .i64 t_9.2.at_), (.int .u64 t_9.2.seed.v)], 69⟩]] ++ [[⟨b17, [s15.v, s16.v], 46⟩], q15, q16, q10, [⟨b2, [nilS.v, nilS.v], 46⟩]]) := hS
    have hE18 := hS18.enter
    obtain ⟨t_19, ht_19, hr⟩ := bindS hr
    refine q_do rfl fun _ hK => wp_callX (vs := [(.pointer (some ⟨b_p_c, 0, none⟩)), (.int .i64 16)]) hF Try.func41 (by kernel_rfl) rfl rfl rfl (c_spec_l1Cur_pick t_9.2 16 t_19 ht_19 _ m3' b_p_c s1 h11 _ hE18) fun a w _ hR hF => hK _ _ ?_
    obtain ⟨rfl, hR18, hk20⟩ := hR
    have hS : St _ _ _ _ [[⟨b_p_c, [s1.v, (.int .i64 t_19.2.at_), (.int .u64 t_19.2.seed.v)], 69⟩], [⟨b17, [s15.v, s16.v], 46⟩], q15, q16, q10, [⟨b2, [nilS.v, nilS.v], 46⟩]] := hS18.leaveF hR18
    have h20 : Rd m3' s1 t_19.2.code := by rw [hk20]; exact h11
    refine q_end (n_sq ?_)
    refine q_block ?_
    refine q_seq ?_
    refine q_region ?_
    refine q_x (v := (.bool (t_19.1 == 0))) hF hS (ex_ibin rfl rfl rfl) rfl rfl fun a hF => ?_
    refine q_x (v := (.bool (t_19.1 == 0))) hF hS (ex_assign rfl) rfl rfl fun a hF => ?_
    refine q_end (n_sq ?_)
    obtain ⟨j2, hj2, hr⟩ := bindS hr
    refine q_join (fun a w => ∃ (q59 : Piece), ∃ (s59 : Sl), ∃ p_c_55, ∃ x_57, j2 = (p_c_55, x_57) ∧ Fr a 49 [(2, (.pointer (some ⟨b2, 0, none⟩))), (4, (.pointer (some ⟨b17, 0, none⟩)))] ∧ St X w0 w m3' [q15, q59, [⟨b_p_c, [s1.v, (.int .i64 p_c_55.at_), (.int .u64 p_c_55.seed.v)], 69⟩], [⟨b17, [s15.v, s59.v], 46⟩], [⟨b2, [nilS.v, nilS.v], 46⟩]] ∧ Rd m3' s1 p_c_55.code ∧ p_c_55.code = p_c.code ∧ OwnL m3' 3 q15 s15 x_57.Sizes ∧ OwnL m3' 3 q59 s59 x_57.Cells) ?_ ?_
    · rcases bcase (t_19.1 == 0) with hc3 | hc3
      · have hj2 := cond_f hc3 hj2
        refine q_cond_f hF rfl hc3 ?_
        refine q_seq ?_
        refine q_region ?_
        refine q_x (v := (.bool (t_19.1 == 1))) hF hS (ex_ibin rfl rfl rfl) rfl rfl fun a hF => ?_
        refine q_x (v := (.bool (t_19.1 == 1))) hF hS (ex_assign rfl) rfl rfl fun a hF => ?_
        refine q_end (n_sq ?_)
        obtain ⟨j4, hj4, hj2⟩ := bindS hj2
        refine q_join (fun a w => ∃ (q46 : Piece), ∃ (s46 : Sl), ∃ p_c_42, ∃ x_44, j4 = (p_c_42, x_44) ∧ Fr a 49 [(2, (.pointer (some ⟨b2, 0, none⟩))), (4, (.pointer (some ⟨b17, 0, none⟩)))] ∧ St X w0 w m3' [q15, q46, [⟨b_p_c, [s1.v, (.int .i64 p_c_42.at_), (.int .u64 p_c_42.seed.v)], 69⟩], [⟨b17, [s15.v, s46.v], 46⟩], [⟨b2, [nilS.v, nilS.v], 46⟩]] ∧ Rd m3' s1 p_c_42.code ∧ p_c_42.code = p_c.code ∧ OwnL m3' 3 q15 s15 x_44.Sizes ∧ OwnL m3' 3 q46 s46 x_44.Cells) ?_ ?_
        · rcases bcase (t_19.1 == 1) with hc5 | hc5
          · have hj4 := cond_f hc5 hj4
            refine q_cond_f hF rfl hc5 ?_
            refine q_seq ?_
            refine q_region ?_
            refine q_x (v := (.bool (t_19.1 == 2))) hF hS (ex_ibin rfl rfl rfl) rfl rfl fun a hF => ?_
            refine q_x (v := (.bool (t_19.1 == 2))) hF hS (ex_assign rfl) rfl rfl fun a hF => ?_
            refine q_end (n_sq ?_)
            obtain ⟨j6, hj6, hj4⟩ := bindS hj4
            refine q_join (fun a w => ∃ (q38 : Piece), ∃ p_c_34, ∃ x_36, j6 = (p_c_34, x_36) ∧ Fr a 49 [(2, (.pointer (some ⟨b2, 0, none⟩))), (4, (.pointer (some ⟨b17, 0, none⟩)))] ∧ St X w0 w m3' [q15, q38, [⟨b_p_c, [s1.v, (.int .i64 p_c_34.at_), (.int .u64 p_c_34.seed.v)], 69⟩], [⟨b17, [s15.v, s16.v], 46⟩], [⟨b2, [nilS.v, nilS.v], 46⟩]] ∧ Rd m3' s1 p_c_34.code ∧ p_c_34.code = p_c.code ∧ OwnL m3' 3 q15 s15 x_36.Sizes ∧ OwnL m3' 3 q38 s16 x_36.Cells) ?_ ?_
            · rcases bcase (t_19.1 == 2) with hc7 | hc7
              · have hj6 := cond_f hc7 hj6
                refine q_cond_f hF rfl hc7 ?_
                refine q_skipc (n_jn ?_)
                obtain rfl := someI hj6
                exact ⟨q16, _, _, rfl, hF.sub ⟨rfl, rfl, trivial⟩, hS.sel [2, 3, 0, 1, 5] (by decide), h20, (hk20.trans (hk11.trans hk6)), h15, h16⟩
              · have hj6 := cond_t hc7 hj6
                refine q_cond_t hF rfl hc7 ?_
                obtain ⟨j8, hj8, hj6⟩ := bindS hj6
                refine q_join (fun a w => ∃ (q33 : Piece), ∃ p_c_29, ∃ x_31, j8 = (p_c_29, x_31) ∧ Fr a 49 [(2, (.pointer (some ⟨b2, 0, none⟩))), (4, (.pointer (some ⟨b17, 0, none⟩)))] ∧ St X w0 w m3' [q15, q33, [⟨b_p_c, [s1.v, (.int .i64 p_c_29.at_), (.int .u64 p_c_29.seed.v)], 69⟩], [⟨b17, [s15.v, s16.v], 46⟩], [⟨b2, [nilS.v, nilS.v], 46⟩]] ∧ Rd m3' s1 p_c_29.code ∧ p_c_29.code = p_c.code ∧ OwnL m3' 3 q15 s15 x_31.Sizes ∧ OwnL m3' 3 q33 s16 x_31.Cells) ?_ ?_
                · refine e_region [4, 6] mixed fun w' hw' => ?_
                  have hS := hS.below hw'
                  refine e_p (v := (.pointer (some ⟨b17, 1, none⟩))) 0 hF rfl (ex_fieldAddr Try.underlying46 rfl sz33 rfl rfl) rfl rfl (by kernel_rfl) (by kernel_rfl) (by kernel_rfl) fun a hF => ?_
                  refine e_p (v := (.pointer (some ⟨b_p_c, 0, none⟩))) 2 hF rfl (ex_move rfl) rfl rfl (by kernel_rfl) (by kernel_rfl) (by kernel_rfl) fun a hF => ?_
                  obtain ⟨t_24, ht_24, hj8⟩ := bindS hj8
                  obtain ⟨e_26, he_26, hj8⟩ := bindS hj8
                  refine e_all [1, 3] (by kernel_rfl) rfl ⟨?_, ?_, trivial⟩
                  · refine e_lx (v := s16.v) hF hS rfl (ex_load1 1 0 Try.underlying33 rfl rfl rfl rfl) rfl rfl fun a hF => ?_
                    refine e_one 3 (by kernel_rfl) ?_
                    refine e_op rfl rfl fun _ hK => wp_buildSlice' (l := ([1000000, 1000001, -1000000] : List Int)) (cells := [(.int .i64 1000000), (.int .i64 1000001), (.int .i64 (-1000000))]) hF hS Try.underlying33 inf3 rfl rfl (by kernel_rfl) rfl rfl rfl ⟨rfl, rfl, rfl, rfl⟩ rfl rfl fun a w q22 s22 hF hS h22 hb => hK _ _ hb ?_
                    refine e_one 4 (by kernel_rfl) ?_
                    have hS : St _ _ _ _ [[⟨b_p_c, [s1.v, (.int .i64 t_19.2.at_), (.int .u64 t_19.2.seed.v)], 69⟩], q22, [⟨b17, [s15.v, s16.v], 46⟩], q15, q16, q10, [⟨b2, [nilS.v, nilS.v], 46⟩]] := hS.sel [1, 0, 2, 3, 4, 5, 6] (by decide)
                    have hS23 : St _ _ _ _ ([[⟨b_p_c, [s1.v, (.int .i64 t_19.2.at_), (.int .u64 t_19.2.seed.v)], 69⟩]] ++ [q22, [⟨b17, [s15.v, s16.v], 46⟩], q15, q16, q10, [⟨b2, [nilS.v, nilS.v], 46⟩]]) := hS
                    obtain ⟨m23, hl23, hE23, hz23⟩ := hS23.lendX
                    refine e_opl rfl rfl rfl fun _ hK => wp_callX (vs := [(.pointer (some ⟨b_p_c, 0, none⟩)), s22.v]) hF Try.func40 (by kernel_rfl) rfl rfl rfl (c_spec_l1Cur_among t_19.2 ([1000000, 1000001, -1000000] : List Int) t_24 ht_24 _ m23 b_p_c s1 (h20.mono hl23) s22 (h22.froz hl23 (hz23 0 _ rfl)) _ hE23) fun a w _ hR hF => hK _ _ ?_
                    obtain ⟨rfl, hR23, hk25⟩ := hR
                    have hS : St _ _ _ _ [[⟨b_p_c, [s1.v, (.int .i64 t_24.2.at_), (.int .u64 t_24.2.seed.v)], 69⟩], q22, [⟨b17, [s15.v, s16.v], 46⟩], q15, q16, q10, [⟨b2, [nilS.v, nilS.v], 46⟩]] := hS23.leaveF hR23
                    have h25 : Rd m3' s1 t_24.2.code := by rw [hk25]; exact h20
                    obtain ⟨vs27, at27, d27⟩ := h16.at he_26 1 rfl
                    obtain rfl : vs27 = [(.int .i64 e_26)] := d27
                    refine e_p (v := (elP s16 ((0 : Int).toNat * 1))) 5 hF rfl (ex_indexAddr Try.underlying33 sz3 rfl rfl (h16.idx he_26)) rfl rfl (by kernel_rfl) (by kernel_rfl) (by kernel_rfl) fun a hF => ?_
                    refine e_one 6 (by kernel_rfl) ?_
                    have hS : St _ _ _ _ [q16, [⟨b_p_c, [s1.v, (.int .i64 t_24.2.at_), (.int .u64 t_24.2.seed.v)], 69⟩], q22, [⟨b17, [s15.v, s16.v], 46⟩], q15, q10, [⟨b2, [nilS.v, nilS.v], 46⟩]] := hS.sel [4, 0, 1, 2, 3, 5, 6] (by decide)
                    refine e_opl rfl rfl rfl fun _ hK => wp_storeE (e' := t_24.1) (us := [(.int .i64 t_24.1)]) (vs := [(.int .i64 e_26)]) 0 hF hS h16 sz3 rfl rfl rfl rfl rfl rfl rfl he_26 at27 rfl rfl rfl fun w q28 hS h28 => hK _ _ ?_
                    refine e_end (by kernel_rfl) (n_jn ?_) _
                    obtain rfl := someI hj8
                    exact ⟨q28, _, _, rfl, hF.sub ⟨rfl, rfl, trivial⟩, hS.sel [4, 0, 1, 3, 6] (by decide), h25, (hk25.trans (hk20.trans (hk11.trans hk6))), h15, h28⟩
                  · refine e_op rfl rfl fun _ hK => wp_buildSlice' (l := ([1000000, 1000001, -1000000] : List Int)) (cells := [(.int .i64 1000000), (.int .i64 1000001), (.int .i64 (-1000000))]) hF hS Try.underlying33 inf3 rfl rfl (by kernel_rfl) rfl rfl rfl ⟨rfl, rfl, rfl, rfl⟩ rfl rfl fun a w q22 s22 hF hS h22 hb => hK _ _ hb ?_
                    refine e_all [1, 4] (by kernel_rfl) rfl ⟨?_, ?_, trivial⟩
                    · refine e_lx (v := s16.v) hF hS rfl (ex_load1 2 0 Try.underlying33 rfl rfl rfl rfl) rfl rfl fun a hF => ?_
                      refine e_one 4 (by kernel_rfl) ?_
                      have hS : St _ _ _ _ [[⟨b_p_c, [s1.v, (.int .i64 t_19.2.at_), (.int .u64 t_19.2.seed.v)], 69⟩], q22, [⟨b17, [s15.v, s16.v], 46⟩], q15, q16, q10, [⟨b2, [nilS.v, nilS.v], 46⟩]] := hS.sel [1, 0, 2, 3, 4, 5, 6] (by decide)
                      have hS23 : St _ _ _ _ ([[⟨b_p_c, [s1.v, (.int .i64 t_19.2.at_), (.int .u64 t_19.2.seed.v)], 69⟩]] ++ [q22, [⟨b17, [s15.v, s16.v], 46⟩], q15, q16, q10, [⟨b2, [nilS.v, nilS.v], 46⟩]]) := hS
                      obtain ⟨m23, hl23, hE23, hz23⟩ := hS23.lendX
                      refine e_opl rfl rfl rfl fun _ hK => wp_callX (vs := [(.pointer (some ⟨b_p_c, 0, none⟩)), s22.v]) hF Try.func40 (by kernel_rfl) rfl rfl rfl (c_spec_l1Cur_among t_19.2 ([1000000, 1000001, -1000000] : List Int) t_24 ht_24 _ m23 b_p_c s1 (h20.mono hl23) s22 (h22.froz hl23 (hz23 0 _ rfl)) _ hE23) fun a w _ hR hF => hK _ _ ?_
                      obtain ⟨rfl, hR23, hk25⟩ := hR
                      have hS : St _ _ _ _ [[⟨b_p_c, [s1.v, (.int .i64 t_24.2.at_), (.int .u64 t_24.2.seed.v)], 69⟩], q22, [⟨b17, [s15.v, s16.v], 46⟩], q15, q16, q10, [⟨b2, [nilS.v, nilS.v], 46⟩]] := hS23.leaveF hR23
                      have h25 : Rd m3' s1 t_24.2.code := by rw [hk25]; exact h20
                      obtain ⟨vs27, at27, d27⟩ := h16.at he_26 1 rfl
                      obtain rfl : vs27 = [(.int .i64 e_26)] := d27
                      refine e_p (v := (elP s16 ((0 : Int).toNat * 1))) 5 hF rfl (ex_indexAddr Try.underlying33 sz3 rfl rfl (h16.idx he_26)) rfl rfl (by kernel_rfl) (by kernel_rfl) (by kernel_rfl) fun a hF => ?_
                      refine e_one 6 (by kernel_rfl) ?_
                      have hS : St _ _ _ _ [q16, [⟨b_p_c, [s1.v, (.int .i64 t_24.2.at_), (.int .u64 t_24.2.seed.v)], 69⟩], q22, [⟨b17, [s15.v, s16.v], 46⟩], q15, q10, [⟨b2, [nilS.v, nilS.v], 46⟩]] := hS.sel [4, 0, 1, 2, 3, 5, 6] (by decide)
                      refine e_opl rfl rfl rfl fun _ hK => wp_storeE (e' := t_24.1) (us := [(.int .i64 t_24.1)]) (vs := [(.int .i64 e_26)]) 0 hF hS h16 sz3 rfl rfl rfl rfl rfl rfl rfl he_26 at27 rfl rfl rfl fun w q28 hS h28 => hK _ _ ?_
                      refine e_end (by kernel_rfl) (n_jn ?_) _
                      obtain rfl := someI hj8
                      exact ⟨q28, _, _, rfl, hF.sub ⟨rfl, rfl, trivial⟩, hS.sel [4, 0, 1, 3, 6] (by decide), h25, (hk25.trans (hk20.trans (hk11.trans hk6))), h15, h28⟩
                    · have hS : St _ _ _ _ [[⟨b_p_c, [s1.v, (.int .i64 t_19.2.at_), (.int .u64 t_19.2.seed.v)], 69⟩], q22, [⟨b17, [s15.v, s16.v], 46⟩], q15, q16, q10, [⟨b2, [nilS.v, nilS.v], 46⟩]] := hS.sel [1, 0, 2, 3, 4, 5, 6] (by decide)
                      have hS23 : St _ _ _ _ ([[⟨b_p_c, [s1.v, (.int .i64 t_19.2.at_), (.int .u64 t_19.2.seed.v)], 69⟩]] ++ [q22, [⟨b17, [s15.v, s16.v], 46⟩], q15, q16, q10, [⟨b2, [nilS.v, nilS.v], 46⟩]]) := hS
                      obtain ⟨m23, hl23, hE23, hz23⟩ := hS23.lendX
                      refine e_opl rfl rfl rfl fun _ hK => wp_callX (vs := [(.pointer (some ⟨b_p_c, 0, none⟩)), s22.v]) hF Try.func40 (by kernel_rfl) rfl rfl rfl (c_spec_l1Cur_among t_19.2 ([1000000, 1000001, -1000000] : List Int) t_24 ht_24 _ m23 b_p_c s1 (h20.mono hl23) s22 (h22.froz hl23 (hz23 0 _ rfl)) _ hE23) fun a w _ hR hF => hK _ _ ?_
                      obtain ⟨rfl, hR23, hk25⟩ := hR
                      have hS : St _ _ _ _ [[⟨b_p_c, [s1.v, (.int .i64 t_24.2.at_), (.int .u64 t_24.2.seed.v)], 69⟩], q22, [⟨b17, [s15.v, s16.v], 46⟩], q15, q16, q10, [⟨b2, [nilS.v, nilS.v], 46⟩]] := hS23.leaveF hR23
                      have h25 : Rd m3' s1 t_24.2.code := by rw [hk25]; exact h20
                      refine e_x (v := s16.v) 1 hF hS rfl (ex_load1 2 0 Try.underlying33 rfl rfl rfl rfl) rfl rfl (by kernel_rfl) (by kernel_rfl) (by kernel_rfl) (by kernel_rfl) fun a hF => ?_
                      obtain ⟨vs27, at27, d27⟩ := h16.at he_26 1 rfl
                      obtain rfl : vs27 = [(.int .i64 e_26)] := d27
                      refine e_p (v := (elP s16 ((0 : Int).toNat * 1))) 5 hF rfl (ex_indexAddr Try.underlying33 sz3 rfl rfl (h16.idx he_26)) rfl rfl (by kernel_rfl) (by kernel_rfl) (by kernel_rfl) fun a hF => ?_
                      refine e_one 6 (by kernel_rfl) ?_
                      have hS : St _ _ _ _ [q16, [⟨b_p_c, [s1.v, (.int .i64 t_24.2.at_), (.int .u64 t_24.2.seed.v)], 69⟩], q22, [⟨b17, [s15.v, s16.v], 46⟩], q15, q10, [⟨b2, [nilS.v, nilS.v], 46⟩]] := hS.sel [4, 0, 1, 2, 3, 5, 6] (by decide)
                      refine e_opl rfl rfl rfl fun _ hK => wp_storeE (e' := t_24.1) (us := [(.int .i64 t_24.1)]) (vs := [(.int .i64 e_26)]) 0 hF hS h16 sz3 rfl rfl rfl rfl rfl rfl rfl he_26 at27 rfl rfl rfl fun w q28 hS h28 => hK _ _ ?_
                      refine e_end (by kernel_rfl) (n_jn ?_) _
                      obtain rfl := someI hj8
                      exact ⟨q28, _, _, rfl, hF.sub ⟨rfl, rfl, trivial⟩, hS.sel [4, 0, 1, 3, 6] (by decide), h25, (hk25.trans (hk20.trans (hk11.trans hk6))), h15, h28⟩
                · rintro a w ⟨q33, p_c_29, x_31, rfl, hF, hS, h30, h30k, h32, h33⟩
                  refine n_jn ?_
                  obtain rfl := someI hj6
                  exact ⟨q33, _, _, rfl, hF.sub ⟨rfl, rfl, trivial⟩, hS, h30, h30k, h32, h33⟩
            · rintro a w ⟨q38, p_c_34, x_36, rfl, hF, hS, h35, h35k, h37, h38⟩
              refine n_jn ?_
              obtain rfl := someI hj4
              exact ⟨q38, s16, _, _, rfl, hF.sub ⟨rfl, rfl, trivial⟩, hS, h35, h35k, h37, h38⟩
          · have hj4 := cond_t hc5 hj4
            refine q_cond_t hF rfl hc5 ?_
            refine q_region ?_
            refine q_x (v := (.pointer (some ⟨b17, 1, none⟩))) hF hS (ex_fieldAddr Try.underlying46 rfl sz33 rfl rfl) rfl rfl fun a hF => ?_
            refine q_x (v := s16.v) hF hS (ex_load1 1 0 Try.underlying33 rfl rfl rfl rfl) rfl rfl fun a hF => ?_
            refine q_do rfl fun _ hK => wp_buildSlice' (l := ([0] : List Int)) (cells := [(.int .i64 0)]) hF hS Try.underlying33 inf3 rfl rfl (by kernel_rfl) rfl rfl rfl ⟨rfl, rfl⟩ rfl rfl fun a w q39 s39 hF hS h39 _ => hK _ _ ?_
            have hS : St _ _ _ _ [q16, q39, [⟨b_p_c, [s1.v, (.int .i64 t_19.2.at_), (.int .u64 t_19.2.seed.v)], 69⟩], [⟨b17, [s15.v, s16.v], 46⟩], q15, q10, [⟨b2, [nilS.v, nilS.v], 46⟩]] := hS.sel [4, 0, 1, 2, 3, 5, 6] (by decide)
            obtain ⟨l_40, hl_40, hj4⟩ := bindS hj4
            refine q_do rfl fun _ hK => wp_append hF hS h16 Try.underlying33 inf3 rfl rfl rfl rfl (h39.vw hS (j := 1) rfl) rfl (by decide) hl_40 rfl fun a w q41 s41 hF hS h41 => hK _ _ ?_
            refine q_x (v := (.pointer (some ⟨b17, 1, none⟩))) hF hS (ex_fieldAddr Try.underlying46 rfl sz33 rfl rfl) rfl rfl fun a hF => ?_
            refine q_store (vs := [s41.v]) (cs' := [s15.v, s41.v]) 3 0 hF hS sz33 rfl rfl rfl rfl rfl rfl rfl rfl fun a w hF hS => ?_
            refine q_end (n_jn ?_)
            obtain rfl := someI hj4
            exact ⟨q41, s41, _, _, rfl, hF.sub ⟨rfl, rfl, trivial⟩, hS.sel [4, 0, 2, 3, 6] (by decide), h20, (hk20.trans (hk11.trans hk6)), h15, h41⟩
        · rintro a w ⟨q46, s46, p_c_42, x_44, rfl, hF, hS, h43, h43k, h45, h46⟩
          refine n_jn ?_
          obtain rfl := someI hj2
          exact ⟨q46, s46, _, _, rfl, hF.sub ⟨rfl, rfl, trivial⟩, hS, h43, h43k, h45, h46⟩
      · have hj2 := cond_t hc3 hj2
        refine q_cond_t hF rfl hc3 ?_
        refine e_region [6, 11] mixed fun w' hw' => ?_
        have hS := hS.below hw'
        refine e_p (v := (.pointer (some ⟨b17, 1, none⟩))) 0 hF rfl (ex_fieldAddr Try.underlying46 rfl sz33 rfl rfl) rfl rfl (by kernel_rfl) (by kernel_rfl) (by kernel_rfl) fun a hF => ?_
        refine e_p (v := (.pointer (some ⟨b_p_c, 0, none⟩))) 2 hF rfl (ex_move rfl) rfl rfl (by kernel_rfl) (by kernel_rfl) (by kernel_rfl) fun a hF => ?_
        refine e_p (v := (.pointer (some ⟨b17, 1, none⟩))) 3 hF rfl (ex_fieldAddr Try.underlying46 rfl sz33 rfl rfl) rfl rfl (by kernel_rfl) (by kernel_rfl) (by kernel_rfl) fun a hF => ?_
        obtain ⟨t_48, ht_48, hj2⟩ := bindS hj2
        obtain ⟨e_50, he_50, hj2⟩ := bindS hj2
        obtain ⟨e_52, he_52, hj2⟩ := bindS hj2
        refine e_all [1, 4] (by kernel_rfl) rfl ⟨?_, ?_, trivial⟩
        · refine e_lx (v := s16.v) hF hS rfl (ex_load1 1 0 Try.underlying33 rfl rfl rfl rfl) rfl rfl fun a hF => ?_
          refine e_one 4 (by kernel_rfl) ?_
          refine e_lx (v := s16.v) hF hS rfl (ex_load1 1 0 Try.underlying33 rfl rfl rfl rfl) rfl rfl fun a hF => ?_
          refine e_p (v := (.int .i64 (goLen t_12.Cells))) 5 hF rfl (ex_len Try.underlying33 rfl h16.len) rfl rfl (by kernel_rfl) (by kernel_rfl) (by kernel_rfl) fun a hF => ?_
          refine e_one 6 (by kernel_rfl) ?_
          have hS47 : St _ _ _ _ ([[⟨b_p_c, [s1.v, (.int .i64 t_19.2.at_), (.int .u64 t_19.2.seed.v)], 69⟩]] ++ [[⟨b17, [s15.v, s16.v], 46⟩], q15, q16, q10, [⟨b2, [nilS.v, nilS.v], 46⟩]]) := hS
          have hE47 := hS47.enter
          refine e_opl rfl rfl rfl fun _ hK => wp_callX (vs := [(.pointer (some ⟨b_p_c, 0, none⟩)), (.int .i64 (goLen t_12.Cells))]) hF Try.func41 (by kernel_rfl) rfl rfl rfl (c_spec_l1Cur_pick t_19.2 (goLen t_12.Cells) t_48 ht_48 _ m3' b_p_c s1 h20 _ hE47) fun a w _ hR hF => hK _ _ ?_
          obtain ⟨rfl, hR47, hk49⟩ := hR
          have hS : St _ _ _ _ [[⟨b_p_c, [s1.v, (.int .i64 t_48.2.at_), (.int .u64 t_48.2.seed.v)], 69⟩], [⟨b17, [s15.v, s16.v], 46⟩], q15, q16, q10, [⟨b2, [nilS.v, nilS.v], 46⟩]] := hS47.leaveF hR47
          have h49 : Rd m3' s1 t_48.2.code := by rw [hk49]; exact h20
          obtain ⟨vs51, at51, d51⟩ := h16.at he_50 1 rfl
          obtain rfl : vs51 = [(.int .i64 e_50)] := d51
          refine e_p (v := (elP s16 (t_48.1.toNat * 1))) 7 hF rfl (ex_indexAddr Try.underlying33 sz3 rfl rfl (h16.idx he_50)) rfl rfl (by kernel_rfl) (by kernel_rfl) (by kernel_rfl) fun a hF => ?_
          refine e_x (v := (.int .i64 e_50)) 8 hF hS rfl (ex_loadE1 0 Try.underlying3 rfl rfl (at51.at 3 rfl) rfl rfl) rfl rfl (by kernel_rfl) (by kernel_rfl) (by kernel_rfl) (by kernel_rfl) fun a hF => ?_
          refine e_p (v := (.int .i64 (w64 (e_50 + 1)))) 9 hF rfl (ex_ibin rfl rfl rfl) rfl rfl (by kernel_rfl) (by kernel_rfl) (by kernel_rfl) fun a hF => ?_
          obtain ⟨vs53, at53, d53⟩ := h16.at he_52 1 rfl
          obtain rfl : vs53 = [(.int .i64 e_52)] := d53
          refine e_p (v := (elP s16 (t_48.1.toNat * 1))) 10 hF rfl (ex_indexAddr Try.underlying33 sz3 rfl rfl (h16.idx he_52)) rfl rfl (by kernel_rfl) (by kernel_rfl) (by kernel_rfl) fun a hF => ?_
          refine e_one 11 (by kernel_rfl) ?_
          have hS : St _ _ _ _ [q16, [⟨b_p_c, [s1.v, (.int .i64 t_48.2.at_), (.int .u64 t_48.2.seed.v)], 69⟩], [⟨b17, [s15.v, s16.v], 46⟩], q15, q10, [⟨b2, [nilS.v, nilS.v], 46⟩]] := hS.sel [3, 0, 1, 2, 4, 5] (by decide)
          refine e_opl rfl rfl rfl fun _ hK => wp_storeE (e' := (w64 (e_50 + 1))) (us := [(.int .i64 (w64 (e_50 + 1)))]) (vs := [(.int .i64 e_52)]) 0 hF hS h16 sz3 rfl rfl rfl rfl rfl rfl rfl he_52 at53 rfl rfl rfl fun w q54 hS h54 => hK _ _ ?_
          refine e_end (by kernel_rfl) (n_jn ?_) _
          obtain rfl := someI hj2
          exact ⟨q54, s16, _, _, rfl, hF.sub ⟨rfl, rfl, trivial⟩, hS.sel [3, 0, 1, 2, 5] (by decide), h49, (hk49.trans (hk20.trans (hk11.trans hk6))), h15, h54⟩
        · refine e_lx (v := s16.v) hF hS rfl (ex_load1 1 0 Try.underlying33 rfl rfl rfl rfl) rfl rfl fun a hF => ?_
          refine e_p (v := (.int .i64 (goLen t_12.Cells))) 5 hF rfl (ex_len Try.underlying33 rfl h16.len) rfl rfl (by kernel_rfl) (by kernel_rfl) (by kernel_rfl) fun a hF => ?_
          refine e_all [1, 6] (by kernel_rfl) rfl ⟨?_, ?_, trivial⟩
          · refine e_lx (v := s16.v) hF hS rfl (ex_load1 1 0 Try.underlying33 rfl rfl rfl rfl) rfl rfl fun a hF => ?_
            refine e_one 6 (by kernel_rfl) ?_
            have hS47 : St _ _ _ _ ([[⟨b_p_c, [s1.v, (.int .i64 t_19.2.at_), (.int .u64 t_19.2.seed.v)], 69⟩]] ++ [[⟨b17, [s15.v, s16.v], 46⟩], q15, q16, q10, [⟨b2, [nilS.v, nilS.v], 46⟩]]) := hS
            have hE47 := hS47.enter
            refine e_opl rfl rfl rfl fun _ hK => wp_callX (vs := [(.pointer (some ⟨b_p_c, 0, none⟩)), (.int .i64 (goLen t_12.Cells))]) hF Try.func41 (by kernel_rfl) rfl rfl rfl (c_spec_l1Cur_pick t_19.2 (goLen t_12.Cells) t_48 ht_48 _ m3' b_p_c s1 h20 _ hE47) fun a w _ hR hF => hK _ _ ?_
            obtain ⟨rfl, hR47, hk49⟩ := hR
            have hS : St _ _ _ _ [[⟨b_p_c, [s1.v, (.int .i64 t_48.2.at_), (.int .u64 t_48.2.seed.v)], 69⟩], [⟨b17, [s15.v, s16.v], 46⟩], q15, q16, q10, [⟨b2, [nilS.v, nilS.v], 46⟩]] := hS47.leaveF hR47
            have h49 : Rd m3' s1 t_48.2.code := by rw [hk49]; exact h20
            obtain ⟨vs51, at51, d51⟩ := h16.at he_50 1 rfl
            obtain rfl : vs51 = [(.int .i64 e_50)] := d51
            refine e_p (v := (elP s16 (t_48.1.toNat * 1))) 7 hF rfl (ex_indexAddr Try.underlying33 sz3 rfl rfl (h16.idx he_50)) rfl rfl (by kernel_rfl) (by kernel_rfl) (by kernel_rfl) fun a hF => ?_
            refine e_x (v := (.int .i64 e_50)) 8 hF hS rfl (ex_loadE1 0 Try.underlying3 rfl rfl (at51.at 3 rfl) rfl rfl) rfl rfl (by kernel_rfl) (by kernel_rfl) (by kernel_rfl) (by kernel_rfl) fun a hF => ?_
            refine e_p (v := (.int .i64 (w64 (e_50 + 1)))) 9 hF rfl (ex_ibin rfl rfl rfl) rfl rfl (by kernel_rfl) (by kernel_rfl) (by kernel_rfl) fun a hF => ?_
            obtain ⟨vs53, at53, d53⟩ := h16.at he_52 1 rfl
            obtain rfl : vs53 = [(.int .i64 e_52)] := d53
            refine e_p (v := (elP s16 (t_48.1.toNat * 1))) 10 hF rfl (ex_indexAddr Try.underlying33 sz3 rfl rfl (h16.idx he_52)) rfl rfl (by kernel_rfl) (by kernel_rfl) (by kernel_rfl) fun a hF => ?_
            refine e_one 11 (by kernel_rfl) ?_
            have hS : St _ _ _ _ [q16, [⟨b_p_c, [s1.v, (.int .i64 t_48.2.at_), (.int .u64 t_48.2.seed.v)], 69⟩], [⟨b17, [s15.v, s16.v], 46⟩], q15, q10, [⟨b2, [nilS.v, nilS.v], 46⟩]] := hS.sel [3, 0, 1, 2, 4, 5] (by decide)
            refine e_opl rfl rfl rfl fun _ hK => wp_storeE (e' := (w64 (e_50 + 1))) (us := [(.int .i64 (w64 (e_50 + 1)))]) (vs := [(.int .i64 e_52)]) 0 hF hS h16 sz3 rfl rfl rfl rfl rfl rfl rfl he_52 at53 rfl rfl rfl fun w q54 hS h54 => hK _ _ ?_
            refine e_end (by kernel_rfl) (n_jn ?_) _
            obtain rfl := someI hj2
            exact ⟨q54, s16, _, _, rfl, hF.sub ⟨rfl, rfl, trivial⟩, hS.sel [3, 0, 1, 2, 5] (by decide), h49, (hk49.trans (hk20.trans (hk11.trans hk6))), h15, h54⟩
          · have hS47 : St _ _ _ _ ([[⟨b_p_c, [s1.v, (.int .i64 t_19.2.at_), (.int .u64 t_19.2.seed.v)], 69⟩]] ++ [[⟨b17, [s15.v, s16.v], 46⟩], q15, q16, q10, [⟨b2, [nilS.v, nilS.v], 46⟩]]) := hS
            have hE47 := hS47.enter
            refine e_opl rfl rfl rfl fun _ hK => wp_callX (vs := [(.pointer (some ⟨b_p_c, 0, none⟩)), (.int .i64 (goLen t_12.Cells))]) hF Try.func41 (by kernel_rfl) rfl rfl rfl (c_spec_l1Cur_pick t_19.2 (goLen t_12.Cells) t_48 ht_48 _ m3' b_p_c s1 h20 _ hE47) fun a w _ hR hF => hK _ _ ?_
            obtain ⟨rfl, hR47, hk49⟩ := hR
            have hS : St _ _ _ _ [[⟨b_p_c, [s1.v, (.int .i64 t_48.2.at_), (.int .u64 t_48.2.seed.v)], 69⟩], [⟨b17, [s15.v, s16.v], 46⟩], q15, q16, q10, [⟨b2, [nilS.v, nilS.v], 46⟩]] := hS47.leaveF hR47
            have h49 : Rd m3' s1 t_48.2.code := by rw [hk49]; exact h20
            refine e_x (v := s16.v) 1 hF hS rfl (ex_load1 1 0 Try.underlying33 rfl rfl rfl rfl) rfl rfl (by kernel_rfl) (by kernel_rfl) (by kernel_rfl) (by kernel_rfl) fun a hF => ?_
            obtain ⟨vs51, at51, d51⟩ := h16.at he_50 1 rfl
            obtain rfl : vs51 = [(.int .i64 e_50)] := d51
            refine e_p (v := (elP s16 (t_48.1.toNat * 1))) 7 hF rfl (ex_indexAddr Try.underlying33 sz3 rfl rfl (h16.idx he_50)) rfl rfl (by kernel_rfl) (by kernel_rfl) (by kernel_rfl) fun a hF => ?_
            refine e_x (v := (.int .i64 e_50)) 8 hF hS rfl (ex_loadE1 0 Try.underlying3 rfl rfl (at51.at 3 rfl) rfl rfl) rfl rfl (by kernel_rfl) (by kernel_rfl) (by kernel_rfl) (by kernel_rfl) fun a hF => ?_
            refine e_p (v := (.int .i64 (w64 (e_50 + 1)))) 9 hF rfl (ex_ibin rfl rfl rfl) rfl rfl (by kernel_rfl) (by kernel_rfl) (by kernel_rfl) fun a hF => ?_
            obtain ⟨vs53, at53, d53⟩ := h16.at he_52 1 rfl
            obtain rfl : vs53 = [(.int .i64 e_52)] := d53
            refine e_p (v := (elP s16 (t_48.1.toNat * 1))) 10 hF rfl (ex_indexAddr Try.underlying33 sz3 rfl rfl (h16.idx he_52)) rfl rfl (by kernel_rfl) (by kernel_rfl) (by kernel_rfl) fun a hF => ?_
            refine e_one 11 (by kernel_rfl) ?_
            have hS : St _ _ _ _ [q16, [⟨b_p_c, [s1.v, (.int .i64 t_48.2.at_), (.int .u64 t_48.2.seed.v)], 69⟩], [⟨b17, [s15.v, s16.v], 46⟩], q15, q10, [⟨b2, [nilS.v, nilS.v], 46⟩]] := hS.sel [3, 0, 1, 2, 4, 5] (by decide)
            refine e_opl rfl rfl rfl fun _ hK => wp_storeE (e' := (w64 (e_50 + 1))) (us := [(.int .i64 (w64 (e_50 + 1)))]) (vs := [(.int .i64 e_52)]) 0 hF hS h16 sz3 rfl rfl rfl rfl rfl rfl rfl he_52 at53 rfl rfl rfl fun w q54 hS h54 => hK _ _ ?_
            refine e_end (by kernel_rfl) (n_jn ?_) _
            obtain rfl := someI hj2
            exact ⟨q54, s16, _, _, rfl, hF.sub ⟨rfl, rfl, trivial⟩, hS.sel [3, 0, 1, 2, 5] (by decide), h49, (hk49.trans (hk20.trans (hk11.trans hk6))), h15, h54⟩
    · rintro a w ⟨q59, s59, p_c_55, x_57, rfl, hF, hS, h56, h56k, h58, h59⟩
      refine n_ib (n_sq ?_)
      refine q_seq ?_
      refine q_region ?_
      refine q_x (v := (.agg #[s15.v, s59.v])) hF hS (ex_loadA (vs := [s15.v, s59.v]) 3 0 Try.underlying46 rfl sz46 rfl rfl rfl rfl) rfl rfl fun a hF => ?_
      refine q_store (vs := [s15.v, s59.v]) (cs' := [s15.v, s59.v]) 4 0 hF hS sz46 rfl rfl rfl rfl rfl rfl rfl rfl fun a w hF hS => ?_
      refine q_end (n_sq (q_ret ?_))
      obtain rfl := someI hr
      obtain ⟨m60, hm60, hS, hz60⟩ := hS.freeze
      have h60 := h58.froz hm60.le hz60
      exact ret_ofX hF hS rfl (.cellA (us := [s15.v, s59.v]) 3 0 Try.underlying46 rfl sz46 rfl rfl rfl rfl .nil) ⟨m60, q59, s15, s59, rfl, (hm3.trans hm60), hS.sel [1, 0] (by decide), h60, (h59.mono hm60.le), h56k⟩
  · have hr := cond_t hc1 hr
    refine q_cond_t hF rfl hc1 ?_
    refine q_seq ?_
    refine q_region ?_
    refine q_x (v := s5.v) hF hS (ex_move rfl) rfl rfl fun a hF => ?_
    refine q_do rfl fun _ hK => wp_buildSlice' (l := ([1] : List Int)) (cells := [(.int .i64 1)]) hF hS Try.underlying33 inf3 rfl rfl (by kernel_rfl) rfl rfl rfl ⟨rfl, rfl⟩ rfl rfl fun a w q61 s61 hF hS h61 _ => hK _ _ ?_
    refine q_x (v := (.agg #[s5.v, s61.v])) hF hS (ex_build (cells := [s5.v, s61.v]) rfl (by kernel_rfl)) rfl rfl fun a hF => ?_
    refine q_store (vs := [s5.v, s61.v]) (cs' := [s5.v, s61.v]) 2 0 hF hS sz46 rfl rfl rfl rfl rfl rfl rfl rfl fun a w hF hS => ?_
    refine q_end (n_sq (q_ret (r_sq ?_)))
    obtain rfl := someI hr
    exact ret_ofX hF hS rfl (.cellA (us := [s5.v, s61.v]) 2 0 Try.underlying46 rfl sz46 rfl rfl rfl rfl .nil) ⟨m3', q61, s5, s61, rfl, hm3, hS.sel [1, 0] (by decide), h5, h61, hk6⟩

theorem c_spec_DrawMarginOf (p_code : List (K .u8)) (r : impl_Cube × (List Int)) (hr : spec_DrawMarginOf p_code = some r) (w0 : World) (m : Mem) (hv : Vis m w0) (s1 : Sl) (h1 : Rd m s1 p_code) :
    Ret Try.prog 23 [s1.v] w0 (fun v w => ∃ (m' : Mem) (q1' : Piece) (q2' : Piece) (s0' : Sl) (s1' : Sl) (s2' : Sl), v = (.tuple #[(.agg #[s0'.v, s1'.v]), s2'.v]) ∧ MLe [] w0.heap.size m m' ∧ St [] w0 w m' [q1', q2'] ∧ Rd m' s0' r.1.Sizes ∧ OwnL m' 3 q1' s1' r.1.Cells ∧ OwnL m' 3 q2' s2' r.2) := by
  unfold spec_DrawMarginOf at hr
  refine ret_start Try.func23 rfl 36 rfl rfl m hv fun a hF hS => ?_
  refine q_seq ?_
  refine q_region ?_
  refine q_alloc (cs := [nilS.v, nilS.v]) hF hS rfl rfl rfl fun a w b2 hF hS => ?_
  refine q_x (v := nilS.v) hF hS (ex_assign rfl) rfl rfl fun a hF => ?_
  refine q_end (n_sq ?_)
  refine q_seq ?_
  refine q_region ?_
  refine q_x (v := s1.v) hF hS (ex_move rfl) rfl rfl fun a hF => ?_
  refine q_x (v := (.agg #[s1.v, (.int .i64 0), (.int .u64 0)])) hF hS (ex_build (cells := [s1.v, (.int .i64 0), (.int .u64 0)]) rfl (by kernel_rfl)) rfl rfl fun a hF => ?_
  refine q_box (cs := [s1.v, (.int .i64 0), (.int .u64 0)]) hF hS rfl rfl rfl fun a w b3 hF hS => ?_
  refine q_x (v := (.pointer (some ⟨b3, 0, none⟩))) hF hS (ex_assign rfl) rfl rfl fun a hF => ?_
  refine q_end (n_sq ?_)
  refine q_seq ?_
  refine q_region ?_
  refine q_x (v := (.pointer (some ⟨b3, 0, none⟩))) hF hS (ex_move rfl) rfl rfl fun a hF => ?_
  have hS4 : St _ _ _ _ ([[⟨b3, [s1.v, (.int .i64 0), (.int .u64 0)], 69⟩]] ++ [[⟨b2, [nilS.v, nilS.v], 46⟩]]) := hS
  have hE4 := hS4.enter
  obtain ⟨t_5, ht_5, hr⟩ := bindS hr
  refine q_do rfl fun _ hK => wp_callX (vs := [(.pointer (some ⟨b3, 0, none⟩))]) hF Try.func64 (by kernel_rfl) rfl rfl rfl (c_spec_l1Cur_cube (spec_l1Cur.mk p_code 0 (⟨0⟩ : K .u64)) t_5 ht_5 _ m b3 s1 h1 _ hE4) fun a w _ hR hF => hK _ _ ?_
  obtain ⟨m4', q7, s6, s7, rfl, hm4, hR4, h6, h7, hk8⟩ := hR
  have hS : St _ _ _ _ [[⟨b3, [s1.v, (.int .i64 t_5.2.at_), (.int .u64 t_5.2.seed.v)], 69⟩], q7, [⟨b2, [nilS.v, nilS.v], 46⟩]] := hS4.leave hR4 hm4
  have hm4 := MLe.weakX hS4 hm4
  have h8 : Rd m4' s1 t_5.2.code := by rw [hk8]; exact (h1.mono hm4.le)
  refine q_alloc (cs := [nilS.v, nilS.v]) hF hS rfl rfl rfl fun a w b9 hF hS => ?_
  refine q_store (vs := [s6.v, s7.v]) (cs' := [s6.v, s7.v]) 0 0 hF hS sz46 rfl rfl rfl rfl rfl rfl rfl rfl fun a w hF hS => ?_
  refine q_end (n_sq ?_)
  refine q_seq ?_
  refine q_region ?_
  refine q_x (v := nilS.v) hF hS (ex_assign rfl) rfl rfl fun a hF => ?_
  refine q_end (n_sq ?_)
  refine q_seq ?_
  refine q_seq ?_
  refine q_region ?_
  refine q_x (v := (.pointer (some ⟨b9, 0, none⟩))) hF hS (ex_fieldAddr Try.underlying46 rfl sz33 rfl rfl) rfl rfl fun a hF => ?_
  refine q_x (v := s6.v) hF hS (ex_load1 0 0 Try.underlying33 rfl rfl rfl rfl) rfl rfl fun a hF => ?_
  refine q_x (v := (.int .i64 (goLen t_5.1.Sizes))) hF hS (ex_len Try.underlying33 rfl h6.len) rfl rfl fun a hF => ?_
  refine q_x (v := (.int .i64 0)) hF hS (ex_move rfl) rfl rfl fun a hF => ?_
  refine q_end (n_sq ?_)
  refine q_block ?_
  obtain ⟨o1, hl1, hr⟩ := bindS hr
  refine q_loop (fun (s : (List Int) × Int × spec_l1Cur) a w => ∃ (q11 : Piece), ∃ (s11 : Sl), ∃ dims_10, ∃ t_12, ∃ t_13, s = (dims_10, t_12, t_13) ∧ Fr a 36 [(2, (.pointer (some ⟨b2, 0, none⟩))), (4, (.pointer (some ⟨b3, 0, none⟩))), (5, (.pointer (some ⟨b9, 0, none⟩))), (6, s11.v), (15, (.int .i64 (goLen t_5.1.Sizes))), (16, (.int .i64 t_12))] ∧ St [] w0 w m4' [q11, [⟨b9, [s6.v, s7.v], 46⟩], [⟨b3, [s1.v, (.int .i64 t_13.at_), (.int .u64 t_13.seed.v)], 69⟩], q7, [⟨b2, [nilS.v, nilS.v], 46⟩]] ∧ OwnL m4' 3 q11 s11 dims_10 ∧ Rd m4' s1 t_13.code ∧ t_13.code = p_code) (fun (o : (List Int) × spec_l1Cur) e a w => ∃ (q24 : Piece), ∃ (s24 : Sl), ∃ dims_23, ∃ t_25, o = (dims_23, t_25) ∧ e = .exit 0 ∧ Fr a 36 [(2, (.pointer (some ⟨b2, 0, none⟩))), (4, (.pointer (some ⟨b3, 0, none⟩))), (5, (.pointer (some ⟨b9, 0, none⟩))), (6, s24.v)] ∧ St [] w0 w m4' [q24, q7, [⟨b9, [s6.v, s7.v], 46⟩], [⟨b3, [s1.v, (.int .i64 t_25.at_), (.int .u64 t_25.seed.v)], 69⟩], [⟨b2, [nilS.v, nilS.v], 46⟩]] ∧ OwnL m4' 3 q24 s24 dims_23 ∧ Rd m4' s1 t_25.code ∧ t_25.code = p_code) hl1 ⟨[], nilS, _, _, _, rfl, hF.sub ⟨rfl, rfl, rfl, rfl, rfl, rfl, trivial⟩, hS.sel [4, 0, 1, 2, 3] (by decide), (OwnL.nil (α := Int) m4' 3), h8, hk8⟩ ?_ ?_
  · clear hF hS
    rintro s a w st ⟨q11, s11, dims_10, t_12, t_13, rfl, hF, hS, h11, h14, h14k⟩ hb1
    unfold spec_DrawMarginOf_l1 at hb1
    refine q_seq ?_
    refine q_region ?_
    refine q_x (v := (.bool (decide (t_12 < (goLen t_5.1.Sizes))))) hF hS (ex_ibin rfl rfl rfl) rfl rfl fun a hF => ?_
    refine q_end (n_sq ?_)
    refine q_seq ?_
    rcases bcase (decide (t_12 < (goLen t_5.1.Sizes))) with hc2 | hc2
    · have hb1 := cond_f hc2 hb1
      refine q_cond_f hF rfl hc2 ?_
      refine q_exit (x_sq ?_)
      obtain rfl := someI hb1
      exact ⟨nofun, .inl ⟨q11, s11, _, _, rfl, rfl, hF.sub ⟨rfl, rfl, rfl, rfl, trivial⟩, hS.sel [0, 3, 1, 2, 4] (by decide), h11, h14, h14k⟩⟩
    · have hb1 := cond_t hc2 hb1
      refine q_cond_t hF rfl hc2 ?_
      refine q_skipc (n_sq ?_)
      refine q_seq ?_
      refine q_block ?_
      refine q_seq ?_
      refine q_region ?_
      refine q_x (v := (.int .i64 t_12)) hF hS (ex_move rfl) rfl rfl fun a hF => ?_
      refine q_x (v := (.int .i64 t_12)) hF hS (ex_assign rfl) rfl rfl fun a hF => ?_
      refine q_end (n_sq ?_)
      refine q_seq ?_
      refine q_region ?_
      refine q_x (v := (.pointer (some ⟨b3, 0, none⟩))) hF hS (ex_move rfl) rfl rfl fun a hF => ?_
      have hS : St _ _ _ _ [[⟨b3, [s1.v, (.int .i64 t_13.at_), (.int .u64 t_13.seed.v)], 69⟩], q11, [⟨b9, [s6.v, s7.v], 46⟩], q7, [⟨b2, [nilS.v, nilS.v], 46⟩]] := hS.sel [2, 0, 1, 3, 4] (by decide)
      have hS15 : St _ _ _ _ ([[⟨b3, [s1.v, (.int .i64 t_13.at_), (.int .u64 t_13.seed.v)], 69⟩]] ++ [q11, [⟨b9, [s6.v, s7.v], 46⟩], q7, [⟨b2, [nilS.v, nilS.v], 46⟩]]) := hS
      have hE15 := hS15.enter
      obtain ⟨t_16, ht_16, hb1⟩ := bindS hb1
      refine q_do rfl fun _ hK => wp_callX (vs := [(.pointer (some ⟨b3, 0, none⟩)), (.int .i64 2)]) hF Try.func65 (by kernel_rfl) rfl rfl rfl (c_spec_l1Cur_one t_13 2 t_16 ht_16 _ m4' b3 s1 h14 _ hE15) fun a w _ hR hF => hK _ _ ?_
      obtain ⟨rfl, hR15, hk17⟩ := hR
      have hS : St _ _ _ _ [[⟨b3, [s1.v, (.int .i64 t_16.2.at_), (.int .u64 t_16.2.seed.v)], 69⟩], q11, [⟨b9, [s6.v, s7.v], 46⟩], q7, [⟨b2, [nilS.v, nilS.v], 46⟩]] := hS15.leaveF hR15
      have h17 : Rd m4' s1 t_16.2.code := by rw [hk17]; exact h14
      refine q_end (n_sq ?_)
      obtain ⟨dims_21, hj3, hb1⟩ := bindS hb1
      refine q_join (fun a w => ∃ (q22 : Piece), ∃ (s22 : Sl), Fr a 36 [(2, (.pointer (some ⟨b2, 0, none⟩))), (4, (.pointer (some ⟨b3, 0, none⟩))), (5, (.pointer (some ⟨b9, 0, none⟩))), (6, s22.v), (15, (.int .i64 (goLen t_5.1.Sizes))), (16, (.int .i64 t_12))] ∧ St [] w0 w m4' [q22, q7, [⟨b3, [s1.v, (.int .i64 t_16.2.at_), (.int .u64 t_16.2.seed.v)], 69⟩], [⟨b9, [s6.v, s7.v], 46⟩], [⟨b2, [nilS.v, nilS.v], 46⟩]] ∧ OwnL m4' 3 q22 s22 dims_21) ?_ ?_
      · rcases bcase (t_16.1) with hc4 | hc4
        · have hj3 := cond_f hc4 hj3
          refine q_cond_f hF rfl hc4 ?_
          refine q_skipc (n_jn ?_)
          obtain rfl := someI hj3
          exact ⟨q11, s11, hF.sub ⟨rfl, rfl, rfl, rfl, rfl, rfl, trivial⟩, hS.sel [1, 3, 0, 2, 4] (by decide), h11⟩
        · have hj3 := cond_t hc4 hj3
          refine q_cond_t hF rfl hc4 ?_
          refine q_region ?_
          refine q_x (v := s11.v) hF hS (ex_move rfl) rfl rfl fun a hF => ?_
          refine q_x (v := (.int .i64 t_12)) hF hS (ex_move rfl) rfl rfl fun a hF => ?_
          refine q_do rfl fun _ hK => wp_buildSlice' (l := ([t_12] : List Int)) (cells := [(.int .i64 t_12)]) hF hS Try.underlying33 inf3 rfl rfl (by kernel_rfl) rfl rfl rfl ⟨rfl, rfl⟩ rfl rfl fun a w q18 s18 hF hS h18 _ => hK _ _ ?_
          have hS : St _ _ _ _ [q11, q18, [⟨b3, [s1.v, (.int .i64 t_16.2.at_), (.int .u64 t_16.2.seed.v)], 69⟩], [⟨b9, [s6.v, s7.v], 46⟩], q7, [⟨b2, [nilS.v, nilS.v], 46⟩]] := hS.sel [2, 0, 1, 3, 4, 5] (by decide)
          obtain ⟨l_19, hl_19, hj3⟩ := bindS hj3
          refine q_do rfl fun _ hK => wp_append hF hS h11 Try.underlying33 inf3 rfl rfl rfl rfl (h18.vw hS (j := 1) rfl) rfl (by decide) hl_19 rfl fun a w q20 s20 hF hS h20 => hK _ _ ?_
          refine q_x (v := s20.v) hF hS (ex_assign rfl) rfl rfl fun a hF => ?_
          refine q_end (n_jn ?_)
          obtain rfl := someI hj3
          exact ⟨q20, s20, hF.sub ⟨rfl, rfl, rfl, rfl, rfl, rfl, trivial⟩, hS.sel [0, 4, 2, 3, 5] (by decide), h20⟩
      · rintro a w ⟨q22, s22, hF, hS, h22⟩
        refine n_ib (n_sq ?_)
        refine q_region ?_
        refine q_x (v := (.int .i64 (w64 (t_12 + 1)))) hF hS (ex_ibin rfl rfl rfl) rfl rfl fun a hF => ?_
        refine q_x (v := (.int .i64 (w64 (t_12 + 1)))) hF hS (ex_move rfl) rfl rfl fun a hF => ?_
        refine q_end ?_
        obtain rfl := someI hb1
        exact ⟨rfl, q22, s22, _, _, _, rfl, hF.sub ⟨rfl, rfl, rfl, rfl, rfl, rfl, trivial⟩, hS.sel [0, 3, 2, 1, 4] (by decide), h22, h17, (hk17.trans h14k)⟩
  · rintro e a w ⟨q24, s24, dims_23, t_25, rfl, rfl, hF, hS, h24, h26, h26k⟩
    refine x_ib (n_sq ?_)
    refine q_seq ?_
    refine q_seq ?_
    refine q_region ?_
    refine q_x (v := (.pointer (some ⟨b3, 0, none⟩))) hF hS (ex_move rfl) rfl rfl fun a hF => ?_
    have hS : St _ _ _ _ [[⟨b3, [s1.v, (.int .i64 t_25.at_), (.int .u64 t_25.seed.v)], 69⟩], q24, q7, [⟨b9, [s6.v, s7.v], 46⟩], [⟨b2, [nilS.v, nilS.v], 46⟩]] := hS.sel [3, 0, 1, 2, 4] (by decide)
    have hS27 : St _ _ _ _ ([[⟨b3, [s1.v, (.int .i64 t_25.at_), (.int .u64 t_25.seed.v)], 69⟩]] ++ [q24, q7, [⟨b9, [s6.v, s7.v], 46⟩], [⟨b2, [nilS.v, nilS.v], 46⟩]]) := hS
    have hE27 := hS27.enter
    obtain ⟨t_28, ht_28, hr⟩ := bindS hr
    refine q_do rfl fun _ hK => wp_callX (vs := [(.pointer (some ⟨b3, 0, none⟩)), (.int .i64 12)]) hF Try.func65 (by kernel_rfl) rfl rfl rfl (c_spec_l1Cur_one t_25 12 t_28 ht_28 _ m4' b3 s1 h26 _ hE27) fun a w _ hR hF => hK _ _ ?_
    obtain ⟨rfl, hR27, hk29⟩ := hR
    have hS : St _ _ _ _ [[⟨b3, [s1.v, (.int .i64 t_28.2.at_), (.int .u64 t_28.2.seed.v)], 69⟩], q24, q7, [⟨b9, [s6.v, s7.v], 46⟩], [⟨b2, [nilS.v, nilS.v], 46⟩]] := hS27.leaveF hR27
    have h29 : Rd m4' s1 t_28.2.code := by rw [hk29]; exact h26
    refine q_end (n_sq ?_)
    obtain ⟨dims_37, hj5, hr⟩ := bindS hr
    refine q_join (fun a w => ∃ (q38 : Piece), ∃ (s38 : Sl), Fr a 36 [(2, (.pointer (some ⟨b2, 0, none⟩))), (5, (.pointer (some ⟨b9, 0, none⟩))), (6, s38.v)] ∧ St [] w0 w m4' [q38, q7, [⟨b9, [s6.v, s7.v], 46⟩], [⟨b2, [nilS.v, nilS.v], 46⟩]] ∧ OwnL m4' 3 q38 s38 dims_37) ?_ ?_
    · rcases bcase (t_28.1) with hc6 | hc6
      · have hj5 := cond_f hc6 hj5
        refine q_cond_f hF rfl hc6 ?_
        refine q_skipc (n_jn ?_)
        obtain rfl := someI hj5
        exact ⟨q24, s24, hF.sub ⟨rfl, rfl, rfl, trivial⟩, hS.mask [false, true, true, true, true], h24⟩
      · have hj5 := cond_t hc6 hj5
        refine q_cond_t hF rfl hc6 ?_
        refine q_region ?_
        refine q_x (v := s24.v) hF hS (ex_move rfl) rfl rfl fun a hF => ?_
        refine q_x (v := (.pointer (some ⟨b3, 0, none⟩))) hF hS (ex_move rfl) rfl rfl fun a hF => ?_
        refine q_do rfl fun _ hK => wp_buildSlice' (l := ([-1, 0, 4] : List Int)) (cells := [(.int .i64 (-1)), (.int .i64 0), (.int .i64 4)]) hF hS Try.underlying33 inf3 rfl rfl (by kernel_rfl) rfl rfl rfl ⟨rfl, rfl, rfl, rfl⟩ rfl rfl fun a w q30 s30 hF hS h30 _ => hK _ _ ?_
        have hS : St _ _ _ _ [[⟨b3, [s1.v, (.int .i64 t_28.2.at_), (.int .u64 t_28.2.seed.v)], 69⟩], q30, q24, q7, [⟨b9, [s6.v, s7.v], 46⟩], [⟨b2, [nilS.v, nilS.v], 46⟩]] := hS.sel [1, 0, 2, 3, 4, 5] (by decide)
        have hS31 : St _ _ _ _ ([[⟨b3, [s1.v, (.int .i64 t_28.2.at_), (.int .u64 t_28.2.seed.v)], 69⟩]] ++ [q30, q24, q7, [⟨b9, [s6.v, s7.v], 46⟩], [⟨b2, [nilS.v, nilS.v], 46⟩]]) := hS
        obtain ⟨m31, hl31, hE31, hz31⟩ := hS31.lendX
        obtain ⟨t_32, ht_32, hj5⟩ := bindS hj5
        refine q_do rfl fun _ hK => wp_callX (vs := [(.pointer (some ⟨b3, 0, none⟩)), s30.v]) hF Try.func40 (by kernel_rfl) rfl rfl rfl (c_spec_l1Cur_among t_28.2 ([-1, 0, 4] : List Int) t_32 ht_32 _ m31 b3 s1 (h29.mono hl31) s30 (h30.froz hl31 (hz31 0 _ rfl)) _ hE31) fun a w _ hR hF => hK _ _ ?_
        obtain ⟨rfl, hR31, hk33⟩ := hR
        have hS : St _ _ _ _ [[⟨b3, [s1.v, (.int .i64 t_32.2.at_), (.int .u64 t_32.2.seed.v)], 69⟩], q30, q24, q7, [⟨b9, [s6.v, s7.v], 46⟩], [⟨b2, [nilS.v, nilS.v], 46⟩]] := hS31.leaveF hR31
        have h33 : Rd m4' s1 t_32.2.code := by rw [hk33]; exact h29
        refine q_do rfl fun _ hK => wp_buildSlice' (l := ([t_32.1] : List Int)) (cells := [(.int .i64 t_32.1)]) hF hS Try.underlying33 inf3 rfl rfl (by kernel_rfl) rfl rfl rfl ⟨rfl, rfl⟩ rfl rfl fun a w q34 s34 hF hS h34 _ => hK _ _ ?_
        have hS : St _ _ _ _ [q24, q34, [⟨b3, [s1.v, (.int .i64 t_32.2.at_), (.int .u64 t_32.2.seed.v)], 69⟩], q30, q7, [⟨b9, [s6.v, s7.v], 46⟩], [⟨b2, [nilS.v, nilS.v], 46⟩]] := hS.sel [3, 0, 1, 2, 4, 5, 6] (by decide)
        obtain ⟨l_35, hl_35, hj5⟩ := bindS hj5
        refine q_do rfl fun _ hK => wp_append hF hS h24 Try.underlying33 inf3 rfl rfl rfl rfl (h34.vw hS (j := 1) rfl) rfl (by decide) hl_35 rfl fun a w q36 s36 hF hS h36 => hK _ _ ?_
        refine q_x (v := s36.v) hF hS (ex_assign rfl) rfl rfl fun a hF => ?_
        refine q_end (n_jn ?_)
        obtain rfl := someI hj5
        exact ⟨q36, s36, hF.sub ⟨rfl, rfl, rfl, trivial⟩, hS.mask [true, false, false, false, true, true, true], h36⟩
    · rintro a w ⟨q38, s38, hF, hS, h38⟩
      refine n_sq ?_
      refine q_seq ?_
      refine q_region ?_
      refine q_x (v := (.agg #[s6.v, s7.v])) hF hS (ex_loadA (vs := [s6.v, s7.v]) 2 0 Try.underlying46 rfl sz46 rfl rfl rfl rfl) rfl rfl fun a hF => ?_
      refine q_x (v := s38.v) hF hS (ex_move rfl) rfl rfl fun a hF => ?_
      refine q_store (vs := [s6.v, s7.v]) (cs' := [s6.v, s7.v]) 3 0 hF hS sz46 rfl rfl rfl rfl rfl rfl rfl rfl fun a w hF hS => ?_
      refine q_x (v := s38.v) hF hS (ex_assign rfl) rfl rfl fun a hF => ?_
      refine q_end (n_sq (q_ret ?_))
      obtain rfl := someI hr
      exact ret_of hF hS rfl (.cellA (us := [s6.v, s7.v]) 3 0 Try.underlying46 rfl sz46 rfl rfl rfl rfl (.tmp rfl .nil)) ⟨m4', q7, q38, s6, s7, s38, rfl, hm4, hS.sel [1, 0] (by decide), h6, h7, h38⟩

theorem c_impl_hasRightForm (p_c : impl_Cube) (r : Bool) (hr : impl_hasRightForm p_c = some r) (w0 : World) (m : Mem) (hv : Vis m w0) (s1 : Sl) (h1 : Rd m s1 p_c.Sizes) (s2 : Sl) (h2 : Rd m s2 p_c.Cells) :
    Ret Try.prog 70 [(.agg #[s1.v, s2.v])] w0 (fun v _ => v = (.bool r)) := by
  unfold impl_hasRightForm at hr
  refine ret_start Try.func70 rfl 21 rfl rfl m hv fun a hF hS => ?_
  refine q_seq ?_
  refine q_region ?_
  refine q_box (cs := [s1.v, s2.v]) hF hS rfl rfl rfl fun a w b3 hF hS => ?_
  refine q_x (v := (.bool false)) hF hS (ex_assign rfl) rfl rfl fun a hF => ?_
  refine q_end (n_sq ?_)
  refine q_seq ?_
  refine q_region ?_
  refine q_x (v := (.pointer (some ⟨b3, 0, none⟩))) hF hS (ex_fieldAddr Try.underlying46 rfl sz33 rfl rfl) rfl rfl fun a hF => ?_
  refine q_x (v := s1.v) hF hS (ex_load1 0 0 Try.underlying33 rfl rfl rfl rfl) rfl rfl fun a hF => ?_
  obtain ⟨t_4, ht_4, hr⟩ := bindS hr
  refine q_call (vs := [s1.v]) hF hS Try.func57 (by kernel_rfl) rfl rfl rfl (c_impl_cubeCells p_c.Sizes t_4 ht_4 _ m hS.vis s1 h1) ?_
  rintro a w _ rfl hF hS
  refine q_x (v := (.int .i64 t_4)) hF hS (ex_assign rfl) rfl rfl fun a hF => ?_
  refine q_end (n_sq ?_)
  refine q_seq ?_
  obtain ⟨t_6, hj1, hr⟩ := bindS hr
  refine q_join (fun a w => Fr a 21 [(2, (.bool t_6))] ∧ St [] w0 w m []) ?_ ?_
  · refine q_region ?_
    refine q_x (v := (.int .i64 t_4)) hF hS (ex_move rfl) rfl rfl fun a hF => ?_
    refine q_x (v := (.bool (decide (0 < t_4)))) hF hS (ex_ibin rfl rfl rfl) rfl rfl fun a hF => ?_
    refine q_x (v := (.bool (decide (0 < t_4)))) hF hS (ex_move rfl) rfl rfl fun a hF => ?_
    rcases bcase (decide (0 < t_4)) with hc2 | hc2
    · have hj1 := cond_f hc2 hj1
      refine q_skip hF (wanted_f hF rfl rfl rfl hc2 rfl) rfl fun a hF => ?_
      refine q_skip hF (wanted_f hF rfl rfl rfl hc2 rfl) rfl fun a hF => ?_
      refine q_skip hF (wanted_f hF rfl rfl rfl hc2 rfl) rfl fun a hF => ?_
      refine q_skip hF (wanted_f hF rfl rfl rfl hc2 rfl) rfl fun a hF => ?_
      refine q_skip hF (wanted_f hF rfl rfl rfl hc2 rfl) rfl fun a hF => ?_
      refine q_x (v := (.bool false)) hF hS (ex_pick_f rfl rfl hc2) rfl rfl fun a hF => ?_
      refine q_x (v := (.bool false)) hF hS (ex_move rfl) rfl rfl fun a hF => ?_
      refine q_skip hF (wanted_f hF rfl rfl rfl rfl rfl) rfl fun a hF => ?_
      refine q_skip hF (wanted_f hF rfl rfl rfl rfl rfl) rfl fun a hF => ?_
      refine q_skip hF (wanted_f hF rfl rfl rfl rfl rfl) rfl fun a hF => ?_
      refine q_x (v := (.bool false)) hF hS (ex_pick_f rfl rfl rfl) rfl rfl fun a hF => ?_
      refine q_x (v := (.bool false)) hF hS (ex_assign rfl) rfl rfl fun a hF => ?_
      refine q_end (n_jn ?_)
      obtain rfl := someI hj1
      exact ⟨hF.sub ⟨rfl, trivial⟩, hS.mask [false]⟩
    · have hj1 := cond_t hc2 hj1
      refine q_xg (v := (.pointer (some ⟨b3, 1, none⟩))) hF hS (ex_fieldAddr Try.underlying46 rfl sz33 rfl rfl) (wanted_t hF rfl rfl rfl hc2) rfl fun a hF => ?_
      refine q_xg (v := s2.v) hF hS (ex_load1 0 0 Try.underlying33 rfl rfl rfl rfl) (wanted_t hF rfl rfl rfl hc2) rfl fun a hF => ?_
      refine q_xg (v := (.int .i64 (goLen p_c.Cells))) hF hS (ex_len Try.underlying33 rfl h2.len) (wanted_t hF rfl rfl rfl hc2) rfl fun a hF => ?_
      refine q_xg (v := (.int .i64 t_4)) hF hS (ex_move rfl) (wanted_t hF rfl rfl rfl hc2) rfl fun a hF => ?_
      refine q_xg (v := (.bool ((goLen p_c.Cells) == t_4))) hF hS (ex_ibin rfl rfl rfl) (wanted_t hF rfl rfl rfl hc2) rfl fun a hF => ?_
      refine q_x (v := (.bool ((goLen p_c.Cells) == t_4))) hF hS (ex_pick_t rfl rfl hc2) rfl rfl fun a hF => ?_
      refine q_x (v := (.bool ((goLen p_c.Cells) == t_4))) hF hS (ex_move rfl) rfl rfl fun a hF => ?_
      rcases bcase ((goLen p_c.Cells) == t_4) with hc3 | hc3
      · have hj1 := cond_f hc3 hj1
        refine q_skip hF (wanted_f hF rfl rfl rfl hc3 rfl) rfl fun a hF => ?_
        refine q_skip hF (wanted_f hF rfl rfl rfl hc3 rfl) rfl fun a hF => ?_
        refine q_skip hF (wanted_f hF rfl rfl rfl hc3 rfl) rfl fun a hF => ?_
        refine q_x (v := (.bool false)) hF hS (ex_pick_f rfl rfl hc3) rfl rfl fun a hF => ?_
        refine q_x (v := (.bool false)) hF hS (ex_assign rfl) rfl rfl fun a hF => ?_
        refine q_end (n_jn ?_)
        obtain rfl := someI hj1
        exact ⟨hF.sub ⟨rfl, trivial⟩, hS.mask [false]⟩
      · have hj1 := cond_t hc3 hj1
        refine q_xg (v := (.pointer (some ⟨b3, 1, none⟩))) hF hS (ex_fieldAddr Try.underlying46 rfl sz33 rfl rfl) (wanted_t hF rfl rfl rfl hc3) rfl fun a hF => ?_
        refine q_xg (v := s2.v) hF hS (ex_load1 0 0 Try.underlying33 rfl rfl rfl rfl) (wanted_t hF rfl rfl rfl hc3) rfl fun a hF => ?_
        obtain ⟨t_5, ht_5, hj1⟩ := bindS hj1
        refine q_callg (vs := [s2.v]) hF hS (wanted_t hF rfl rfl rfl hc3) Try.func80 (by kernel_rfl) rfl rfl rfl (c_impl_areCubeValues p_c.Cells t_5 ht_5 _ m hS.vis s2 h2) ?_
        rintro a w _ rfl hF hS
        refine q_x (v := (.bool t_5)) hF hS (ex_pick_t rfl rfl hc3) rfl rfl fun a hF => ?_
        refine q_x (v := (.bool t_5)) hF hS (ex_assign rfl) rfl rfl fun a hF => ?_
        refine q_end (n_jn ?_)
        obtain rfl := someI hj1
        exact ⟨hF.sub ⟨rfl, trivial⟩, hS.mask [false]⟩
  · rintro a w ⟨hF, hS⟩
    refine n_sq (q_ret ?_)
    obtain rfl := someI hr
    exact ret_of hF hS rfl (.tmp rfl .nil) rfl

theorem c_impl_firstBreak (p_c : impl_Cube) (r : Int) (hr : impl_firstBreak p_c = some r) (w0 : World) (m : Mem) (hv : Vis m w0) (s1 : Sl) (h1 : Rd m s1 p_c.Sizes) (s2 : Sl) (h2 : Rd m s2 p_c.Cells) :
    Ret Try.prog 71 [(.agg #[s1.v, s2.v])] w0 (fun v _ => v = (.int .i64 r)) := by
  unfold impl_firstBreak at hr
  refine ret_start Try.func71 rfl 66 rfl rfl m hv fun a hF hS => ?_
  refine q_seq ?_
  refine q_region ?_
  refine q_box (cs := [s1.v, s2.v]) hF hS rfl rfl rfl fun a w b3 hF hS => ?_
  refine q_x (v := (.int .i64 0)) hF hS (ex_assign rfl) rfl rfl fun a hF => ?_
  refine q_end (n_sq ?_)
  refine q_seq ?_
  refine q_region ?_
  refine q_x (v := (.pointer (some ⟨b3, 0, none⟩))) hF hS (ex_fieldAddr Try.underlying46 rfl sz33 rfl rfl) rfl rfl fun a hF => ?_
  refine q_x (v := s1.v) hF hS (ex_load1 0 0 Try.underlying33 rfl rfl rfl rfl) rfl rfl fun a hF => ?_
  obtain ⟨t_4, ht_4, hr⟩ := bindS hr
  refine q_call (vs := [s1.v]) hF hS Try.func90 (by kernel_rfl) rfl rfl rfl (c_impl_strides p_c.Sizes t_4 ht_4 _ m hS.vis s1 h1) ?_
  rintro a w _ ⟨q6, s6, rfl, hR5, h6⟩ hF hS2
  have hS : St _ _ _ _ [q6, [⟨b3, [s1.v, s2.v], 46⟩]] := hS.joinF hR5
  refine q_x (v := s6.v) hF hS (ex_assign rfl) rfl rfl fun a hF => ?_
  refine q_end (n_sq ?_)
  refine q_seq ?_
  refine q_seq ?_
  refine q_region ?_
  refine q_x (v := (.pointer (some ⟨b3, 1, none⟩))) hF hS (ex_fieldAddr Try.underlying46 rfl sz33 rfl rfl) rfl rfl fun a hF => ?_
  refine q_x (v := s2.v) hF hS (ex_load1 1 0 Try.underlying33 rfl rfl rfl rfl) rfl rfl fun a hF => ?_
  refine q_x (v := (.int .i64 (goLen p_c.Cells))) hF hS (ex_len Try.underlying33 rfl h2.len) rfl rfl fun a hF => ?_
  refine q_x (v := (.int .i64 0)) hF hS (ex_move rfl) rfl rfl fun a hF => ?_
  refine q_end (n_sq ?_)
  refine q_block ?_
  obtain ⟨o1, hl1, hr⟩ := bindS hr
  refine q_loop (fun (t_7 : Int) a w => Fr a 66 [(1, (.pointer (some ⟨b3, 0, none⟩))), (3, s6.v), (14, s2.v), (15, (.int .i64 (goLen p_c.Cells))), (16, (.int .i64 t_7))] ∧ St [] w0 w m [q6, [⟨b3, [s1.v, s2.v], 46⟩]]) (fun (o : (Unit) ⊕ (Int)) e a w => o = .inl () ∧ e = .exit 0 ∧ Fr a 66 [(1, (.pointer (some ⟨b3, 0, none⟩)))] ∧ St [] w0 w m [[⟨b3, [s1.v, s2.v], 46⟩]]) hl1 ⟨hF.sub ⟨rfl, rfl, rfl, rfl, rfl, trivial⟩, hS⟩ ?_ ?_
  · clear hF hS
    rintro t_7 a w st ⟨hF, hS⟩ hb1
    unfold impl_firstBreak_l1 at hb1
    refine q_seq ?_
    refine q_region ?_
    refine q_x (v := (.bool (decide (t_7 < (goLen p_c.Cells))))) hF hS (ex_ibin rfl rfl rfl) rfl rfl fun a hF => ?_
    refine q_end (n_sq ?_)
    refine q_seq ?_
    rcases bcase (decide (t_7 < (goLen p_c.Cells))) with hc2 | hc2
    · have hb1 := cond_f hc2 hb1
      refine q_cond_f hF rfl hc2 ?_
      refine q_exit (x_sq ?_)
      obtain rfl := someI hb1
      exact ⟨nofun, .inl ⟨rfl, rfl, hF.sub ⟨rfl, trivial⟩, hS.mask [false, true]⟩⟩
    · have hb1 := cond_t hc2 hb1
      refine q_cond_t hF rfl hc2 ?_
      refine q_skipc (n_sq ?_)
      refine q_seq ?_
      refine q_block ?_
      refine q_seq ?_
      refine q_region ?_
      refine q_x (v := (.int .i64 t_7)) hF hS (ex_move rfl) rfl rfl fun a hF => ?_
      obtain ⟨e_8, he_8, hb1⟩ := bindS hb1
      obtain ⟨vs9, at9, d9⟩ := h2.at he_8 1 rfl
      obtain rfl : vs9 = [(.int .i64 e_8)] := d9
      refine q_x (v := (elP s2 (t_7.toNat * 1))) hF hS (ex_indexAddr Try.underlying33 sz3 rfl rfl (h2.idx he_8)) rfl rfl fun a hF => ?_
      refine q_x (v := (.int .i64 e_8)) hF hS (ex_loadE1 0 Try.underlying3 rfl rfl ((at9).at) rfl rfl) rfl rfl fun a hF => ?_
      refine q_x (v := (.int .i64 t_7)) hF hS (ex_assign rfl) rfl rfl fun a hF => ?_
      refine q_x (v := (.int .i64 e_8)) hF hS (ex_assign rfl) rfl rfl fun a hF => ?_
      refine q_end (n_sq ?_)
      refine q_seq ?_
      refine q_region ?_
      refine q_x (v := (.pointer (some ⟨b3, 0, none⟩))) hF hS (ex_fieldAddr Try.underlying46 rfl sz33 rfl rfl) rfl rfl fun a hF => ?_
      refine q_x (v := s1.v) hF hS (ex_load1 1 0 Try.underlying33 rfl rfl rfl rfl) rfl rfl fun a hF => ?_
      refine q_x (v := (.int .i64 t_7)) hF hS (ex_move rfl) rfl rfl fun a hF => ?_
      obtain ⟨t_10, ht_10, hb1⟩ := bindS hb1
      refine q_call (vs := [s1.v, (.int .i64 t_7)]) hF hS Try.func79 (by kernel_rfl) rfl rfl rfl (c_impl_indexOf p_c.Sizes t_7 t_10 ht_10 _ m hS.vis s1 h1) ?_
      rintro a w _ ⟨q12, s12, rfl, hR11, h12⟩ hF hS2
      have hS : St _ _ _ _ [q12, q6, [⟨b3, [s1.v, s2.v], 46⟩]] := hS.joinF hR11
      refine q_x (v := (.int .i64 (goLen t_10))) hF hS (ex_len Try.underlying33 rfl h12.len) rfl rfl fun a hF => ?_
      refine q_x (v := (.int .i64 0)) hF hS (ex_move rfl) rfl rfl fun a hF => ?_
      refine q_end (n_sq ?_)
      refine q_block ?_
      obtain ⟨o3, hl3, hb1⟩ := bindS hb1
      refine q_loop (fun (t_13 : Int) a w => Fr a 66 [(1, (.pointer (some ⟨b3, 0, none⟩))), (3, s6.v), (4, (.int .i64 t_7)), (5, (.int .i64 e_8)), (14, s2.v), (15, (.int .i64 (goLen p_c.Cells))), (16, (.int .i64 t_7)), (24, s12.v), (25, (.int .i64 (goLen t_10))), (26, (.int .i64 t_13))] ∧ St [] w0 w m [q12, q6, [⟨b3, [s1.v, s2.v], 46⟩]]) (fun (o : (Unit) ⊕ (Stp (Int) ((Unit) ⊕ (Int)))) e a w => o = .inl () ∧ e = .exit 2 ∧ Fr a 66 [(1, (.pointer (some ⟨b3, 0, none⟩))), (3, s6.v), (14, s2.v), (15, (.int .i64 (goLen p_c.Cells))), (16, (.int .i64 t_7))] ∧ St [] w0 w m [q6, [⟨b3, [s1.v, s2.v], 46⟩]]) hl3 ⟨hF.sub ⟨rfl, rfl, rfl, rfl, rfl, rfl, rfl, rfl, rfl, rfl, trivial⟩, hS⟩ ?_ ?_
      · clear hF hS
        rintro t_13 a w st ⟨hF, hS⟩ hb3
        unfold impl_firstBreak_l2 at hb3
        refine q_seq ?_
        refine q_region ?_
        refine q_x (v := (.bool (decide (t_13 < (goLen t_10))))) hF hS (ex_ibin rfl rfl rfl) rfl rfl fun a hF => ?_
        refine q_end (n_sq ?_)
        refine q_seq ?_
        rcases bcase (decide (t_13 < (goLen t_10))) with hc4 | hc4
        · have hb3 := cond_f hc4 hb3
          refine q_cond_f hF rfl hc4 ?_
          refine q_exit (x_sq ?_)
          obtain rfl := someI hb3
          exact ⟨nofun, .inl ⟨rfl, rfl, hF.sub ⟨rfl, rfl, rfl, rfl, rfl, trivial⟩, hS.mask [false, true, true]⟩⟩
        · have hb3 := cond_t hc4 hb3
          refine q_cond_t hF rfl hc4 ?_
          refine q_skipc (n_sq ?_)
          refine q_seq ?_
          obtain ⟨j5, hj5, hb3⟩ := bindS hb3
          refine q_join (fun a w => j5 = .inl () ∧ Fr a 66 [(1, (.pointer (some ⟨b3, 0, none⟩))), (3, s6.v), (4, (.int .i64 t_7)), (5, (.int .i64 e_8)), (14, s2.v), (15, (.int .i64 (goLen p_c.Cells))), (16, (.int .i64 t_7)), (24, s12.v), (25, (.int .i64 (goLen t_10))), (26, (.int .i64 t_13))] ∧ St [] w0 w m [q6, q12, [⟨b3, [s1.v, s2.v], 46⟩]]) ?_ ?_
          · refine q_block ?_
            refine q_seq ?_
            refine q_region ?_
            refine q_x (v := (.int .i64 t_13)) hF hS (ex_move rfl) rfl rfl fun a hF => ?_
            obtain ⟨e_14, he_14, hj5⟩ := bindS hj5
            obtain ⟨vs15, at15, d15⟩ := h12.at he_14 1 rfl
            obtain rfl : vs15 = [(.int .i64 e_14)] := d15
            refine q_x (v := (elP s12 (t_13.toNat * 1))) hF hS (ex_indexAddr Try.underlying33 sz3 rfl rfl (h12.idx he_14)) rfl rfl fun a hF => ?_
            refine q_x (v := (.int .i64 e_14)) hF hS (ex_loadE1 0 Try.underlying3 rfl rfl (at15.at 0 rfl) rfl rfl) rfl rfl fun a hF => ?_
            refine q_x (v := (.int .i64 t_13)) hF hS (ex_assign rfl) rfl rfl fun a hF => ?_
            refine q_x (v := (.int .i64 e_14)) hF hS (ex_assign rfl) rfl rfl fun a hF => ?_
            refine q_end (n_sq ?_)
            refine q_seq ?_
            refine q_seq ?_
            refine q_region ?_
            refine q_x (v := (.int .i64 e_14)) hF hS (ex_move rfl) rfl rfl fun a hF => ?_
            refine q_x (v := (.pointer (some ⟨b3, 0, none⟩))) hF hS (ex_fieldAddr Try.underlying46 rfl sz33 rfl rfl) rfl rfl fun a hF => ?_
            refine q_x (v := s1.v) hF hS (ex_load1 2 0 Try.underlying33 rfl rfl rfl rfl) rfl rfl fun a hF => ?_
            refine q_x (v := (.int .i64 t_13)) hF hS (ex_move rfl) rfl rfl fun a hF => ?_
            obtain ⟨e_16, he_16, hj5⟩ := bindS hj5
            obtain ⟨vs17, at17, d17⟩ := h1.at he_16 1 rfl
            obtain rfl : vs17 = [(.int .i64 e_16)] := d17
            refine q_x (v := (elP s1 (t_13.toNat * 1))) hF hS (ex_indexAddr Try.underlying33 sz3 rfl rfl (h1.idx he_16)) rfl rfl fun a hF => ?_
            refine q_x (v := (.int .i64 e_16)) hF hS (ex_loadE1 0 Try.underlying3 rfl rfl ((at17).at) rfl rfl) rfl rfl fun a hF => ?_
            refine q_x (v := (.bool (e_14 != e_16))) hF hS (ex_ibin rfl rfl rfl) rfl rfl fun a hF => ?_
            refine q_end (n_sq ?_)
            rcases bcase (e_14 != e_16) with hc6 | hc6
            · have hj5 := cond_f hc6 hj5
              refine q_cond_f hF rfl hc6 ?_
              refine q_skipc (n_sq ?_)
              refine q_seq ?_
              refine q_region ?_
              refine q_x (v := (.int .i64 0)) hF hS (ex_assign rfl) rfl rfl fun a hF => ?_
              refine q_end (n_sq ?_)
              refine q_seq ?_
              refine q_seq ?_
              refine q_region ?_
              refine q_x (v := (.int .i64 1)) hF hS (ex_assign rfl) rfl rfl fun a hF => ?_
              refine q_end (n_sq ?_)
              refine q_block ?_
              obtain ⟨sum_24, hl7, hj5⟩ := bindS hj5
              refine q_loop (fun (s : Int × Int) a w => ∃ sum_18, ∃ k_19, s = (sum_18, k_19) ∧ Fr a 66 [(1, (.pointer (some ⟨b3, 0, none⟩))), (3, s6.v), (4, (.int .i64 t_7)), (5, (.int .i64 e_8)), (6, (.int .i64 t_13)), (7, (.int .i64 e_14)), (8, (.int .i64 sum_18)), (9, (.int .i64 k_19)), (14, s2.v), (15, (.int .i64 (goLen p_c.Cells))), (16, (.int .i64 t_7)), (24, s12.v), (25, (.int .i64 (goLen t_10))), (26, (.int .i64 t_13))] ∧ St [] w0 w m [q12, q6, [⟨b3, [s1.v, s2.v], 46⟩]]) (fun (sum_24 : Int) e a w => e = .exit 4 ∧ Fr a 66 [(1, (.pointer (some ⟨b3, 0, none⟩))), (3, s6.v), (4, (.int .i64 t_7)), (5, (.int .i64 e_8)), (8, (.int .i64 sum_24)), (14, s2.v), (15, (.int .i64 (goLen p_c.Cells))), (16, (.int .i64 t_7)), (24, s12.v), (25, (.int .i64 (goLen t_10))), (26, (.int .i64 t_13))] ∧ St [] w0 w m [q6, q12, [⟨b3, [s1.v, s2.v], 46⟩]]) hl7 ⟨_, _, rfl, hF.sub ⟨rfl, rfl, rfl, rfl, rfl, rfl, rfl, rfl, rfl, rfl, rfl, rfl, rfl, rfl, trivial⟩, hS⟩ ?_ ?_
              · clear hF hS
                rintro s a w st ⟨sum_18, k_19, rfl, hF, hS⟩ hb7
                unfold impl_firstBreak_l3 at hb7
                refine q_seq ?_
                refine q_seq ?_
                refine q_region ?_
                refine q_x (v := (.int .i64 k_19)) hF hS (ex_move rfl) rfl rfl fun a hF => ?_
                refine q_x (v := (.int .i64 e_14)) hF hS (ex_move rfl) rfl rfl fun a hF => ?_
                refine q_x (v := (.bool (decide (k_19 ≤ e_14)))) hF hS (ex_ibin rfl rfl rfl) rfl rfl fun a hF => ?_
                refine q_end (n_sq ?_)
                rcases bcase (decide (k_19 ≤ e_14)) with hc8 | hc8
                · have hb7 := cond_f hc8 hb7
                  refine q_cond_f hF rfl hc8 ?_
                  refine q_exit (x_sq ?_)
                  obtain rfl := someI hb7
                  exact ⟨nofun, .inl ⟨rfl, hF.sub ⟨rfl, rfl, rfl, rfl, rfl, rfl, rfl, rfl, rfl, rfl, rfl, trivial⟩, hS.sel [1, 0, 2] (by decide)⟩⟩
                · have hb7 := cond_t hc8 hb7
                  refine q_cond_t hF rfl hc8 ?_
                  refine q_skipc (n_sq ?_)
                  refine q_seq ?_
                  refine q_block ?_
                  refine e_region [] mixed fun w' hw' => ?_
                  have hS := hS.below hw'
                  refine e_p (v := (.int .i64 sum_18)) 0 hF rfl (ex_move rfl) rfl rfl (by kernel_rfl) (by kernel_rfl) (by kernel_rfl) fun a hF => ?_
                  refine e_p (v := (.pointer (some ⟨b3, 1, none⟩))) 1 hF rfl (ex_fieldAddr Try.underlying46 rfl sz33 rfl rfl) rfl rfl (by kernel_rfl) (by kernel_rfl) (by kernel_rfl) fun a hF => ?_
                  refine e_x (v := s2.v) 2 hF hS rfl (ex_load1 2 0 Try.underlying33 rfl rfl rfl rfl) rfl rfl (by kernel_rfl) (by kernel_rfl) (by kernel_rfl) (by kernel_rfl) fun a hF => ?_
                  refine e_p (v := (.int .i64 t_7)) 3 hF rfl (ex_move rfl) rfl rfl (by kernel_rfl) (by kernel_rfl) (by kernel_rfl) fun a hF => ?_
                  refine e_p (v := (.int .i64 k_19)) 4 hF rfl (ex_move rfl) rfl rfl (by kernel_rfl) (by kernel_rfl) (by kernel_rfl) fun a hF => ?_
                  refine e_p (v := s6.v) 5 hF rfl (ex_move rfl) rfl rfl (by kernel_rfl) (by kernel_rfl) (by kernel_rfl) fun a hF => ?_
                  refine e_p (v := (.int .i64 t_13)) 6 hF rfl (ex_move rfl) rfl rfl (by kernel_rfl) (by kernel_rfl) (by kernel_rfl) fun a hF => ?_
                  obtain ⟨e_20, he_20, hb7⟩ := bindS hb7
                  obtain ⟨vs21, at21, d21⟩ := h6.at he_20 1 rfl
                  obtain rfl : vs21 = [(.int .i64 e_20)] := d21
                  refine e_p (v := (elP s6 (t_13.toNat * 1))) 7 hF rfl (ex_indexAddr Try.underlying33 sz3 rfl rfl (h6.idx he_20)) rfl rfl (by kernel_rfl) (by kernel_rfl) (by kernel_rfl) fun a hF => ?_
                  refine e_x (v := (.int .i64 e_20)) 8 hF hS rfl (ex_loadE1 0 Try.underlying3 rfl rfl (at21.at 1 rfl) rfl rfl) rfl rfl (by kernel_rfl) (by kernel_rfl) (by kernel_rfl) (by kernel_rfl) fun a hF => ?_
                  refine e_p (v := (.int .i64 (w64 (k_19 * e_20)))) 9 hF rfl (ex_ibin rfl rfl rfl) rfl rfl (by kernel_rfl) (by kernel_rfl) (by kernel_rfl) fun a hF => ?_
                  refine e_p (v := (.int .i64 (w64 (t_7 - (w64 (k_19 * e_20)))))) 10 hF rfl (ex_ibin rfl rfl rfl) rfl rfl (by kernel_rfl) (by kernel_rfl) (by kernel_rfl) fun a hF => ?_
                  obtain ⟨e_22, he_22, hb7⟩ := bindS hb7
                  obtain ⟨vs23, at23, d23⟩ := h2.at he_22 1 rfl
                  obtain rfl : vs23 = [(.int .i64 e_22)] := d23
                  refine e_p (v := (elP s2 ((w64 (t_7 - (w64 (k_19 * e_20)))).toNat * 1))) 11 hF rfl (ex_indexAddr Try.underlying33 sz3 rfl rfl (h2.idx he_22)) rfl rfl (by kernel_rfl) (by kernel_rfl) (by kernel_rfl) fun a hF => ?_
                  refine e_x (v := (.int .i64 e_22)) 12 hF hS rfl (ex_loadE1 0 Try.underlying3 rfl rfl ((at23).at) rfl rfl) rfl rfl (by kernel_rfl) (by kernel_rfl) (by kernel_rfl) (by kernel_rfl) fun a hF => ?_
                  refine e_p (v := (.int .i64 (w64 (sum_18 + e_22)))) 13 hF rfl (ex_ibin rfl rfl rfl) rfl rfl (by kernel_rfl) (by kernel_rfl) (by kernel_rfl) fun a hF => ?_
                  refine e_p (v := (.int .i64 (w64 (sum_18 + e_22)))) 14 hF rfl (ex_assign rfl) rfl rfl (by kernel_rfl) (by kernel_rfl) (by kernel_rfl) fun a hF => ?_
                  refine e_end (by kernel_rfl) (n_ib (n_sq ?_)) _
                  refine q_region ?_
                  refine q_x (v := (.int .i64 k_19)) hF hS (ex_move rfl) rfl rfl fun a hF => ?_
                  refine q_x (v := (.int .i64 (w64 (k_19 + 1)))) hF hS (ex_ibin rfl rfl rfl) rfl rfl fun a hF => ?_
                  refine q_x (v := (.int .i64 (w64 (k_19 + 1)))) hF hS (ex_assign rfl) rfl rfl fun a hF => ?_
                  refine q_end ?_
                  obtain rfl := someI hb7
                  exact ⟨rfl, _, _, rfl, hF.sub ⟨rfl, rfl, rfl, rfl, rfl, rfl, rfl, rfl, rfl, rfl, rfl, rfl, rfl, rfl, trivial⟩, hS⟩
              · rintro e a w ⟨rfl, hF, hS⟩
                refine x_ib (n_sq ?_)
                refine q_seq ?_
                refine q_region ?_
                refine q_x (v := (.int .i64 sum_24)) hF hS (ex_move rfl) rfl rfl fun a hF => ?_
                refine q_x (v := (.int .i64 e_8)) hF hS (ex_move rfl) rfl rfl fun a hF => ?_
                refine q_x (v := (.bool (sum_24 != e_8))) hF hS (ex_ibin rfl rfl rfl) rfl rfl fun a hF => ?_
                refine q_end (n_sq ?_)
                rcases bcase (sum_24 != e_8) with hc9 | hc9
                · have hj5 := cond_f hc9 hj5
                  refine q_cond_f hF rfl hc9 ?_
                  refine q_skipc (n_ib (n_jn ?_))
                  obtain rfl := someI hj5
                  exact ⟨rfl, hF.sub ⟨rfl, rfl, rfl, rfl, rfl, rfl, rfl, rfl, rfl, rfl, trivial⟩, hS⟩
                · have hj5 := cond_t hc9 hj5
                  refine q_cond_t hF rfl hc9 ?_
                  refine q_seq ?_
                  refine q_region ?_
                  refine q_x (v := (.int .i64 t_7)) hF hS (ex_move rfl) rfl rfl fun a hF => ?_
                  refine q_x (v := (.int .i64 t_7)) hF hS (ex_assign rfl) rfl rfl fun a hF => ?_
                  refine q_end (n_sq (q_ret (r_ib (r_jn ?_))))
                  obtain rfl := someI hj5
                  refine r_sq ?_
                  obtain rfl := someI hb3
                  refine ⟨nofun, .inr fun ho => ?_⟩
                  subst ho
                  refine r_ib (r_ib (r_sq ?_))
                  obtain rfl := someI hb1
                  refine ⟨nofun, .inr fun ho => ?_⟩
                  subst ho
                  refine r_ib (r_sq ?_)
                  obtain rfl := someI hr
                  exact ret_of hF hS rfl (.tmp rfl .nil) rfl
            · have hj5 := cond_t hc6 hj5
              refine q_cond_t hF rfl hc6 ?_
              refine q_exit (x_sq (x_ib (n_jn ?_)))
              obtain rfl := someI hj5
              exact ⟨rfl, hF.sub ⟨rfl, rfl, rfl, rfl, rfl, rfl, rfl, rfl, rfl, rfl, trivial⟩, hS.sel [1, 0, 2] (by decide)⟩
          · rintro a w ⟨rfl, hF, hS⟩
            refine n_sq ?_
            refine q_region ?_
            refine q_x (v := (.int .i64 (w64 (t_13 + 1)))) hF hS (ex_ibin rfl rfl rfl) rfl rfl fun a hF => ?_
            refine q_x (v := (.int .i64 (w64 (t_13 + 1)))) hF hS (ex_move rfl) rfl rfl fun a hF => ?_
            refine q_end ?_
            obtain rfl := someI hb3
            exact ⟨rfl, hF.sub ⟨rfl, rfl, rfl, rfl, rfl, rfl, rfl, rfl, rfl, rfl, trivial⟩, hS.sel [1, 0, 2] (by decide)⟩
      · rintro e a w ⟨rfl, rfl, hF, hS⟩
        refine x_ib (n_ib (n_sq ?_))
        refine q_region ?_
        refine q_x (v := (.int .i64 (w64 (t_7 + 1)))) hF hS (ex_ibin rfl rfl rfl) rfl rfl fun a hF => ?_
        refine q_x (v := (.int .i64 (w64 (t_7 + 1)))) hF hS (ex_move rfl) rfl rfl fun a hF => ?_
        refine q_end ?_
        obtain rfl := someI hb1
        exact ⟨rfl, hF.sub ⟨rfl, rfl, rfl, rfl, rfl, trivial⟩, hS⟩
  · rintro e a w ⟨rfl, rfl, hF, hS⟩
    refine x_ib (n_sq ?_)
    refine q_seq ?_
    refine q_region ?_
    refine q_x (v := (.pointer (some ⟨b3, 1, none⟩))) hF hS (ex_fieldAddr Try.underlying46 rfl sz33 rfl rfl) rfl rfl fun a hF => ?_
    refine q_x (v := s2.v) hF hS (ex_load1 0 0 Try.underlying33 rfl rfl rfl rfl) rfl rfl fun a hF => ?_
    refine q_x (v := (.int .i64 (goLen p_c.Cells))) hF hS (ex_len Try.underlying33 rfl h2.len) rfl rfl fun a hF => ?_
    refine q_x (v := (.int .i64 (goLen p_c.Cells))) hF hS (ex_assign rfl) rfl rfl fun a hF => ?_
    refine q_end (n_sq (q_ret ?_))
    obtain rfl := someI hr
    exact ret_of hF hS rfl (.tmp rfl .nil) rfl

theorem c_impl_IsCube (p_c : impl_Cube) (r : Bool) (hr : impl_IsCube p_c = some r) (w0 : World) (m : Mem) (hv : Vis m w0) (s1 : Sl) (h1 : Rd m s1 p_c.Sizes) (s2 : Sl) (h2 : Rd m s2 p_c.Cells) :
    Ret Try.prog 27 [(.agg #[s1.v, s2.v])] w0 (fun v _ => v = (.bool r)) := by
  unfold impl_IsCube at hr
  refine ret_start Try.func27 rfl 13 rfl rfl m hv fun a hF hS => ?_
  refine q_seq ?_
  refine q_region ?_
  refine q_box (cs := [s1.v, s2.v]) hF hS rfl rfl rfl fun a w b3 hF hS => ?_
  refine q_x (v := (.bool false)) hF hS (ex_assign rfl) rfl rfl fun a hF => ?_
  refine q_end (n_sq ?_)
  refine q_seq ?_
  obtain ⟨t_9, hj1, hr⟩ := bindS hr
  refine q_join (fun a w => Fr a 13 [(2, (.bool t_9))] ∧ St [] w0 w m []) ?_ ?_
  · refine e_region [] mixed fun w' hw' => ?_
    have hS := hS.below hw'
    refine e_x (v := (.agg #[s1.v, s2.v])) 0 hF hS rfl (ex_loadA (vs := [s1.v, s2.v]) 0 0 Try.underlying46 rfl sz46 rfl rfl rfl rfl) rfl rfl (by kernel_rfl) (by kernel_rfl) (by kernel_rfl) (by kernel_rfl) fun a hF => ?_
    refine e_one 1 (by kernel_rfl) ?_
    obtain ⟨t_4, ht_4, hj1⟩ := bindS hj1
    refine e_call (vs := [(.agg #[s1.v, s2.v])]) hF hS rfl Try.func70 (by kernel_rfl) rfl rfl rfl (c_impl_hasRightForm p_c t_4 ht_4 _ m hS.vis s1 h1 s2 h2) ?_
    rintro a w _ rfl hF hS
    refine e_p (v := (.bool t_4)) 2 hF rfl (ex_move rfl) rfl rfl (by kernel_rfl) (by kernel_rfl) (by kernel_rfl) fun a hF => ?_
    rcases bcase (t_4) with hc2 | hc2
    · have hj1 := cond_f hc2 hj1
      refine e_skipP 3 hF rfl (wanted_f hF rfl rfl rfl hc2 rfl) rfl (by kernel_rfl) (by kernel_rfl) (by kernel_rfl) fun a hF => ?_
      refine e_skipP 4 hF rfl (wanted_f hF rfl rfl rfl hc2 rfl) rfl (by kernel_rfl) (by kernel_rfl) (by kernel_rfl) fun a hF => ?_
      refine e_skipP 5 hF rfl (wanted_f hF rfl rfl rfl hc2 rfl) rfl (by kernel_rfl) (by kernel_rfl) (by kernel_rfl) fun a hF => ?_
      refine e_skipP 6 hF rfl (wanted_f hF rfl rfl rfl hc2 rfl) rfl (by kernel_rfl) (by kernel_rfl) (by kernel_rfl) fun a hF => ?_
      refine e_skipP 7 hF rfl (wanted_f hF rfl rfl rfl hc2 rfl) rfl (by kernel_rfl) (by kernel_rfl) (by kernel_rfl) fun a hF => ?_
      refine e_skipP 8 hF rfl (wanted_f hF rfl rfl rfl hc2 rfl) rfl (by kernel_rfl) (by kernel_rfl) (by kernel_rfl) fun a hF => ?_
      refine e_p (v := (.bool false)) 9 hF rfl (ex_pick_f rfl rfl hc2) rfl rfl (by kernel_rfl) (by kernel_rfl) (by kernel_rfl) fun a hF => ?_
      refine e_p (v := (.bool false)) 10 hF rfl (ex_assign rfl) rfl rfl (by kernel_rfl) (by kernel_rfl) (by kernel_rfl) fun a hF => ?_
      refine e_end (by kernel_rfl) (n_jn ?_) _
      obtain rfl := someI hj1
      exact ⟨hF.sub ⟨rfl, trivial⟩, hS.mask [false]⟩
    · have hj1 := cond_t hc2 hj1
      refine e_xg (v := (.agg #[s1.v, s2.v])) 3 hF hS rfl (ex_loadA (vs := [s1.v, s2.v]) 0 0 Try.underlying46 rfl sz46 rfl rfl rfl rfl) (wanted_t hF rfl rfl rfl hc2) rfl (by kernel_rfl) (by kernel_rfl) (by kernel_rfl) (by kernel_rfl) fun a hF => ?_
      refine e_pg (v := (.pointer (some ⟨b3, 1, none⟩))) 5 hF rfl (ex_fieldAddr Try.underlying46 rfl sz33 rfl rfl) (wanted_t hF rfl rfl rfl hc2) rfl (by kernel_rfl) (by kernel_rfl) (by kernel_rfl) fun a hF => ?_
      refine e_xg (v := s2.v) 6 hF hS rfl (ex_load1 0 0 Try.underlying33 rfl rfl rfl rfl) (wanted_t hF rfl rfl rfl hc2) rfl (by kernel_rfl) (by kernel_rfl) (by kernel_rfl) (by kernel_rfl) fun a hF => ?_
      refine e_pg (v := (.int .i64 (goLen p_c.Cells))) 7 hF rfl (ex_len Try.underlying33 rfl h2.len) (wanted_t hF rfl rfl rfl hc2) rfl (by kernel_rfl) (by kernel_rfl) (by kernel_rfl) fun a hF => ?_
      refine e_one 4 (by kernel_rfl) ?_
      obtain ⟨t_8, ht_8, hj1⟩ := bindS hj1
      refine e_callg (vs := [(.agg #[s1.v, s2.v])]) hF hS rfl (wanted_t hF rfl rfl rfl hc2) Try.func71 (by kernel_rfl) rfl rfl rfl (c_impl_firstBreak p_c t_8 ht_8 _ m hS.vis s1 h1 s2 h2) ?_
      rintro a w _ rfl hF hS
      refine e_pg (v := (.bool (t_8 == (goLen p_c.Cells)))) 8 hF rfl (ex_ibin rfl rfl rfl) (wanted_t hF rfl rfl rfl hc2) rfl (by kernel_rfl) (by kernel_rfl) (by kernel_rfl) fun a hF => ?_
      refine e_p (v := (.bool (t_8 == (goLen p_c.Cells)))) 9 hF rfl (ex_pick_t rfl rfl hc2) rfl rfl (by kernel_rfl) (by kernel_rfl) (by kernel_rfl) fun a hF => ?_
      refine e_p (v := (.bool (t_8 == (goLen p_c.Cells)))) 10 hF rfl (ex_assign rfl) rfl rfl (by kernel_rfl) (by kernel_rfl) (by kernel_rfl) fun a hF => ?_
      refine e_end (by kernel_rfl) (n_jn ?_) _
      obtain rfl := someI hj1
      exact ⟨hF.sub ⟨rfl, trivial⟩, hS.mask [false]⟩
  · rintro a w ⟨hF, hS⟩
    refine n_sq (q_ret ?_)
    obtain rfl := someI hr
    exact ret_of hF hS rfl (.tmp rfl .nil) rfl

theorem c_impl_cellOf (p_sizes : List Int) (p_index : List Int) (r : Int) (hr : impl_cellOf p_sizes p_index = some r) (w0 : World) (m : Mem) (hv : Vis m w0) (s1 : Sl) (h1 : Rd m s1 p_sizes) (s2 : Sl) (h2 : Rd m s2 p_index) :
    Ret Try.prog 73 [s1.v, s2.v] w0 (fun v _ => v = (.int .i64 r)) := by
  unfold impl_cellOf at hr
  refine ret_start Try.func73 rfl 26 rfl rfl m hv fun a hF hS => ?_
  refine q_seq ?_
  refine q_region ?_
  refine q_x (v := (.int .i64 0)) hF hS (ex_assign rfl) rfl rfl fun a hF => ?_
  refine q_end (n_sq ?_)
  refine q_seq ?_
  refine q_region ?_
  refine q_x (v := (.int .i64 0)) hF hS (ex_assign rfl) rfl rfl fun a hF => ?_
  refine q_end (n_sq ?_)
  refine q_seq ?_
  refine q_seq ?_
  refine q_region ?_
  refine q_x (v := s1.v) hF hS (ex_move rfl) rfl rfl fun a hF => ?_
  obtain ⟨t_3, ht_3, hr⟩ := bindS hr
  refine q_call (vs := [s1.v]) hF hS Try.func90 (by kernel_rfl) rfl rfl rfl (c_impl_strides p_sizes t_3 ht_3 _ m hS.vis s1 h1) ?_
  rintro a w _ ⟨q5, s5, rfl, hR4, h5⟩ hF hS2
  have hS : St _ _ _ _ [q5] := hS.joinF hR4
  refine q_x (v := (.int .i64 (goLen t_3))) hF hS (ex_len Try.underlying33 rfl h5.len) rfl rfl fun a hF => ?_
  refine q_x (v := (.int .i64 0)) hF hS (ex_move rfl) rfl rfl fun a hF => ?_
  refine q_end (n_sq ?_)
  refine q_block ?_
  obtain ⟨i_12, hl1, hr⟩ := bindS hr
  refine q_loop (fun (s : Int × Int) a w => ∃ i_6, ∃ t_7, s = (i_6, t_7) ∧ Fr a 26 [(1, s2.v), (5, (.int .i64 i_6)), (9, s5.v), (10, (.int .i64 (goLen t_3))), (11, (.int .i64 t_7))] ∧ St [] w0 w m [q5]) (fun (i_12 : Int) e a w => e = .exit 0 ∧ Fr a 26 [(5, (.int .i64 i_12))] ∧ St [] w0 w m []) hl1 ⟨_, _, rfl, hF.sub ⟨rfl, rfl, rfl, rfl, rfl, trivial⟩, hS⟩ ?_ ?_
  · clear hF hS
    rintro s a w st ⟨i_6, t_7, rfl, hF, hS⟩ hb1
    unfold impl_cellOf_l1 at hb1
    refine q_seq ?_
    refine q_region ?_
    refine q_x (v := (.bool (decide (t_7 < (goLen t_3))))) hF hS (ex_ibin rfl rfl rfl) rfl rfl fun a hF => ?_
    refine q_end (n_sq ?_)
    refine q_seq ?_
    rcases bcase (decide (t_7 < (goLen t_3))) with hc2 | hc2
    · have hb1 := cond_f hc2 hb1
      refine q_cond_f hF rfl hc2 ?_
      refine q_exit (x_sq ?_)
      obtain rfl := someI hb1
      exact ⟨nofun, .inl ⟨rfl, hF.sub ⟨rfl, trivial⟩, hS.mask [false]⟩⟩
    · have hb1 := cond_t hc2 hb1
      refine q_cond_t hF rfl hc2 ?_
      refine q_skipc (n_sq ?_)
      refine q_seq ?_
      refine q_block ?_
      refine q_seq ?_
      refine q_region ?_
      refine q_x (v := (.int .i64 t_7)) hF hS (ex_move rfl) rfl rfl fun a hF => ?_
      obtain ⟨e_8, he_8, hb1⟩ := bindS hb1
      obtain ⟨vs9, at9, d9⟩ := h5.at he_8 1 rfl
      obtain rfl : vs9 = [(.int .i64 e_8)] := d9
      refine q_x (v := (elP s5 (t_7.toNat * 1))) hF hS (ex_indexAddr Try.underlying33 sz3 rfl rfl (h5.idx he_8)) rfl rfl fun a hF => ?_
      refine q_x (v := (.int .i64 e_8)) hF hS (ex_loadE1 0 Try.underlying3 rfl rfl (at9.at 0 rfl) rfl rfl) rfl rfl fun a hF => ?_
      refine q_x (v := (.int .i64 t_7)) hF hS (ex_assign rfl) rfl rfl fun a hF => ?_
      refine q_x (v := (.int .i64 e_8)) hF hS (ex_assign rfl) rfl rfl fun a hF => ?_
      refine q_end (n_sq ?_)
      refine q_region ?_
      refine q_x (v := (.int .i64 i_6)) hF hS (ex_move rfl) rfl rfl fun a hF => ?_
      refine q_x (v := s2.v) hF hS (ex_move rfl) rfl rfl fun a hF => ?_
      refine q_x (v := (.int .i64 t_7)) hF hS (ex_move rfl) rfl rfl fun a hF => ?_
      obtain ⟨e_10, he_10, hb1⟩ := bindS hb1
      obtain ⟨vs11, at11, d11⟩ := h2.at he_10 1 rfl
      obtain rfl : vs11 = [(.int .i64 e_10)] := d11
      refine q_x (v := (elP s2 (t_7.toNat * 1))) hF hS (ex_indexAddr Try.underlying33 sz3 rfl rfl (h2.idx he_10)) rfl rfl fun a hF => ?_
      refine q_x (v := (.int .i64 e_10)) hF hS (ex_loadE1 0 Try.underlying3 rfl rfl ((at11).at) rfl rfl) rfl rfl fun a hF => ?_
      refine q_x (v := (.int .i64 e_8)) hF hS (ex_move rfl) rfl rfl fun a hF => ?_
      refine q_x (v := (.int .i64 (w64 (e_10 * e_8)))) hF hS (ex_ibin rfl rfl rfl) rfl rfl fun a hF => ?_
      refine q_x (v := (.int .i64 (w64 (i_6 + (w64 (e_10 * e_8)))))) hF hS (ex_ibin rfl rfl rfl) rfl rfl fun a hF => ?_
      refine q_x (v := (.int .i64 (w64 (i_6 + (w64 (e_10 * e_8)))))) hF hS (ex_assign rfl) rfl rfl fun a hF => ?_
      refine q_end (n_ib (n_sq ?_))
      refine q_region ?_
      refine q_x (v := (.int .i64 (w64 (t_7 + 1)))) hF hS (ex_ibin rfl rfl rfl) rfl rfl fun a hF => ?_
      refine q_x (v := (.int .i64 (w64 (t_7 + 1)))) hF hS (ex_move rfl) rfl rfl fun a hF => ?_
      refine q_end ?_
      obtain rfl := someI hb1
      exact ⟨rfl, _, _, rfl, hF.sub ⟨rfl, rfl, rfl, rfl, rfl, trivial⟩, hS⟩
  · rintro e a w ⟨rfl, hF, hS⟩
    refine x_ib (n_sq ?_)
    refine q_seq ?_
    refine q_region ?_
    refine q_x (v := (.int .i64 i_12)) hF hS (ex_move rfl) rfl rfl fun a hF => ?_
    refine q_x (v := (.int .i64 i_12)) hF hS (ex_assign rfl) rfl rfl fun a hF => ?_
    refine q_end (n_sq (q_ret ?_))
    obtain rfl := someI hr
    exact ret_of hF hS rfl (.tmp rfl .nil) rfl

theorem c_impl_taken (p_c : impl_Cube) (p_dims : List Int) (p_fixed : List Int) (r : impl_Cube) (hr : impl_taken p_c p_dims p_fixed = some r) (w0 : World) (m : Mem) (hv : Vis m w0) (s1 : Sl) (h1 : Rd m s1 p_c.Sizes) (s2 : Sl) (h2 : Rd m s2 p_c.Cells) (s3 : Sl) (h3 : Rd m s3 p_dims) (s4 : Sl) (h4 : Rd m s4 p_fixed) :
    Ret Try.prog 66 [(.agg #[s1.v, s2.v]), s3.v, s4.v] w0 (fun v w => ∃ (q0' : Piece) (q1' : Piece) (s0' : Sl) (s1' : Sl), v = (.agg #[s0'.v, s1'.v]) ∧ St [] w0 w m [q0', q1'] ∧ OwnL m 3 q0' s0' r.Sizes ∧ OwnL m 3 q1' s1' r.Cells) := by
  unfold impl_taken at hr
  refine ret_start Try.func66 rfl 76 rfl rfl m hv fun a hF hS => ?_
  refine q_seq ?_
  refine q_region ?_
  refine q_box (cs := [s1.v, s2.v]) hF hS rfl rfl rfl fun a w b5 hF hS => ?_
  refine q_alloc (cs := [nilS.v, nilS.v]) hF hS rfl rfl rfl fun a w b6 hF hS => ?_
  refine q_end (n_sq ?_)
  refine q_seq ?_
  refine q_region ?_
  refine q_alloc (cs := [nilS.v, nilS.v]) hF hS rfl rfl rfl fun a w b7 hF hS => ?_
  refine q_end (n_sq ?_)
  refine q_seq ?_
  refine q_seq ?_
  refine q_region ?_
  refine q_x (v := s3.v) hF hS (ex_move rfl) rfl rfl fun a hF => ?_
  refine q_x (v := (.int .i64 (goLen p_dims))) hF hS (ex_len Try.underlying33 rfl h3.len) rfl rfl fun a hF => ?_
  refine q_x (v := (.int .i64 0)) hF hS (ex_move rfl) rfl rfl fun a hF => ?_
  refine q_end (n_sq ?_)
  refine q_block ?_
  obtain ⟨out_19, hl1, hr⟩ := bindS hr
  refine q_loop (fun (s : Int × impl_Cube) a w => ∃ (q10 : Piece), ∃ (s10 : Sl), ∃ t_8, ∃ out_9, s = (t_8, out_9) ∧ Fr a 76 [(1, s3.v), (2, s4.v), (3, (.pointer (some ⟨b5, 0, none⟩))), (6, (.pointer (some ⟨b6, 0, none⟩))), (7, (.pointer (some ⟨b7, 0, none⟩))), (14, s3.v), (15, (.int .i64 (goLen p_dims))), (16, (.int .i64 t_8))] ∧ St [] w0 w m [q10, [⟨b7, [s10.v, nilS.v], 46⟩], [⟨b6, [nilS.v, nilS.v], 46⟩], [⟨b5, [s1.v, s2.v], 46⟩]] ∧ OwnL m 3 q10 s10 out_9.Sizes ∧ Rd m nilS out_9.Cells) (fun (out_19 : impl_Cube) e a w => ∃ (q20 : Piece), ∃ (s20 : Sl), e = .exit 0 ∧ Fr a 76 [(1, s3.v), (2, s4.v), (3, (.pointer (some ⟨b5, 0, none⟩))), (6, (.pointer (some ⟨b6, 0, none⟩))), (7, (.pointer (some ⟨b7, 0, none⟩)))] ∧ St [] w0 w m [q20, [⟨b7, [s20.v, nilS.v], 46⟩], [⟨b6, [nilS.v, nilS.v], 46⟩], [⟨b5, [s1.v, s2.v], 46⟩]] ∧ OwnL m 3 q20 s20 out_19.Sizes ∧ Rd m nilS out_19.Cells) hl1 ⟨[], nilS, _, _, rfl, hF.sub ⟨rfl, rfl, rfl, rfl, rfl, rfl, rfl, rfl, trivial⟩, hS.sel [3, 0, 1, 2] (by decide), (OwnL.nil (α := Int) m 3), (Rd.nil0 (α := Int) m)⟩ ?_ ?_
  · clear hF hS
    rintro s a w st ⟨q10, s10, t_8, out_9, rfl, hF, hS, h10, h11⟩ hb1
    unfold impl_taken_l1 at hb1
    refine q_seq ?_
    refine q_region ?_
    refine q_x (v := (.bool (decide (t_8 < (goLen p_dims))))) hF hS (ex_ibin rfl rfl rfl) rfl rfl fun a hF => ?_
    refine q_end (n_sq ?_)
    refine q_seq ?_
    rcases bcase (decide (t_8 < (goLen p_dims))) with hc2 | hc2
    · have hb1 := cond_f hc2 hb1
      refine q_cond_f hF rfl hc2 ?_
      refine q_exit (x_sq ?_)
      obtain rfl := someI hb1
      exact ⟨nofun, .inl ⟨q10, s10, rfl, hF.sub ⟨rfl, rfl, rfl, rfl, rfl, trivial⟩, hS, h10, h11⟩⟩
    · have hb1 := cond_t hc2 hb1
      refine q_cond_t hF rfl hc2 ?_
      refine q_skipc (n_sq ?_)
      refine q_seq ?_
      refine q_block ?_
      refine q_seq ?_
      refine q_region ?_
      obtain ⟨e_12, he_12, hb1⟩ := bindS hb1
      obtain ⟨vs13, at13, d13⟩ := h3.at he_12 1 rfl
      obtain rfl : vs13 = [(.int .i64 e_12)] := d13
      refine q_x (v := (elP s3 (t_8.toNat * 1))) hF hS (ex_indexAddr Try.underlying33 sz3 rfl rfl (h3.idx he_12)) rfl rfl fun a hF => ?_
      refine q_x (v := (.int .i64 e_12)) hF hS (ex_loadE1 0 Try.underlying3 rfl rfl ((at13).at) rfl rfl) rfl rfl fun a hF => ?_
      refine q_x (v := (.int .i64 e_12)) hF hS (ex_assign rfl) rfl rfl fun a hF => ?_
      refine q_end (n_sq ?_)
      refine e_region [8, 10] mixed fun w' hw' => ?_
      have hS := hS.below hw'
      refine e_p (v := (.pointer (some ⟨b7, 0, none⟩))) 0 hF rfl (ex_fieldAddr Try.underlying46 rfl sz33 rfl rfl) rfl rfl (by kernel_rfl) (by kernel_rfl) (by kernel_rfl) fun a hF => ?_
      refine e_x (v := s10.v) 1 hF hS rfl (ex_load1 1 0 Try.underlying33 rfl rfl rfl rfl) rfl rfl (by kernel_rfl) (by kernel_rfl) (by kernel_rfl) (by kernel_rfl) fun a hF => ?_
      refine e_p (v := (.pointer (some ⟨b5, 0, none⟩))) 2 hF rfl (ex_fieldAddr Try.underlying46 rfl sz33 rfl rfl) rfl rfl (by kernel_rfl) (by kernel_rfl) (by kernel_rfl) fun a hF => ?_
      refine e_p (v := (.int .i64 e_12)) 4 hF rfl (ex_move rfl) rfl rfl (by kernel_rfl) (by kernel_rfl) (by kernel_rfl) fun a hF => ?_
      refine e_one 3 (by kernel_rfl) ?_
      refine e_lx (v := s1.v) hF hS rfl (ex_load1 3 0 Try.underlying33 rfl rfl rfl rfl) rfl rfl fun a hF => ?_
      obtain ⟨e_14, he_14, hb1⟩ := bindS hb1
      obtain ⟨vs15, at15, d15⟩ := h1.at he_14 1 rfl
      obtain rfl : vs15 = [(.int .i64 e_14)] := d15
      refine e_p (v := (elP s1 (e_12.toNat * 1))) 5 hF rfl (ex_indexAddr Try.underlying33 sz3 rfl rfl (h1.idx he_14)) rfl rfl (by kernel_rfl) (by kernel_rfl) (by kernel_rfl) fun a hF => ?_
      refine e_one 6 (by kernel_rfl) ?_
      refine e_lx (v := (.int .i64 e_14)) hF hS rfl (ex_loadE1 0 Try.underlying3 rfl rfl ((at15).at) rfl rfl) rfl rfl fun a hF => ?_
      refine e_one 7 (by kernel_rfl) ?_
      refine e_op rfl rfl fun _ hK => wp_buildSlice' (l := ([e_14] : List Int)) (cells := [(.int .i64 e_14)]) hF hS Try.underlying33 inf3 rfl rfl (by kernel_rfl) rfl rfl rfl ⟨rfl, rfl⟩ rfl rfl fun a w q16 s16 hF hS h16 hb => hK _ _ hb ?_
      refine e_one 8 (by kernel_rfl) ?_
      have hS : St _ _ _ _ [q10, q16, [⟨b7, [s10.v, nilS.v], 46⟩], [⟨b6, [nilS.v, nilS.v], 46⟩], [⟨b5, [s1.v, s2.v], 46⟩]] := hS.sel [1, 0, 2, 3, 4] (by decide)
      obtain ⟨l_17, hl_17, hb1⟩ := bindS hb1
      refine e_opl rfl rfl rfl fun _ hK => wp_append hF hS h10 Try.underlying33 inf3 rfl rfl rfl rfl (h16.vw hS (j := 1) rfl) rfl (by decide) hl_17 rfl fun a w q18 s18 hF hS h18 => hK _ _ ?_
      refine e_p (v := (.pointer (some ⟨b7, 0, none⟩))) 9 hF rfl (ex_fieldAddr Try.underlying46 rfl sz33 rfl rfl) rfl rfl (by kernel_rfl) (by kernel_rfl) (by kernel_rfl) fun a hF => ?_
      refine e_one 10 (by kernel_rfl) ?_
      refine e_store (vs := [s18.v]) (cs' := [s18.v, nilS.v]) 2 0 hF hS rfl rfl sz33 rfl rfl rfl rfl rfl rfl rfl rfl fun a w hF hS => ?_
      refine e_end (by kernel_rfl) (n_ib (n_sq ?_)) _
      refine q_region ?_
      refine q_x (v := (.int .i64 (w64 (t_8 + 1)))) hF hS (ex_ibin rfl rfl rfl) rfl rfl fun a hF => ?_
      refine q_x (v := (.int .i64 (w64 (t_8 + 1)))) hF hS (ex_move rfl) rfl rfl fun a hF => ?_
      refine q_end ?_
      obtain rfl := someI hb1
      exact ⟨rfl, q18, s18, _, _, rfl, hF.sub ⟨rfl, rfl, rfl, rfl, rfl, rfl, rfl, rfl, trivial⟩, hS.mask [true, false, true, true, true], h18, h11⟩
  · rintro e a w ⟨q20, s20, rfl, hF, hS, h20, h21⟩
    refine x_ib (n_sq ?_)
    refine q_seq ?_
    refine q_region ?_
    refine q_x (v := (.pointer (some ⟨b7, 0, none⟩))) hF hS (ex_fieldAddr Try.underlying46 rfl sz33 rfl rfl) rfl rfl fun a hF => ?_
    refine q_x (v := s20.v) hF hS (ex_load1 1 0 Try.underlying33 rfl rfl rfl rfl) rfl rfl fun a hF => ?_
    obtain ⟨m23, hl23, hv23, hz23⟩ := hS.lend
    obtain ⟨t_22, ht_22, hr⟩ := bindS hr
    refine q_call (vs := [s20.v]) hF hS Try.func57 (by kernel_rfl) rfl rfl rfl (c_impl_cubeCells out_19.Sizes t_22 ht_22 _ m23 hv23 s20 (h20.froz hl23 (hz23 0 _ rfl))) ?_
    rintro a w _ rfl hF hS
    obtain ⟨l_24, hl_24, hr⟩ := bindS hr
    refine q_do rfl fun _ hK => wp_make (z := (0 : Int)) hF hS Try.underlying33 inf3 rfl rfl rfl rfl rfl (by decide) hl_24 rfl fun a w q25 s25 hF hS h25 _ => hK _ _ ?_
    refine q_x (v := (.pointer (some ⟨b7, 1, none⟩))) hF hS (ex_fieldAddr Try.underlying46 rfl sz33 rfl rfl) rfl rfl fun a hF => ?_
    refine q_store (vs := [s25.v]) (cs' := [s20.v, s25.v]) 2 0 hF hS sz33 rfl rfl rfl rfl rfl rfl rfl rfl fun a w hF hS => ?_
    refine q_end (n_sq ?_)
    refine q_seq ?_
    refine q_seq ?_
    refine q_region ?_
    refine q_x (v := (.pointer (some ⟨b7, 1, none⟩))) hF hS (ex_fieldAddr Try.underlying46 rfl sz33 rfl rfl) rfl rfl fun a hF => ?_
    refine q_x (v := s25.v) hF hS (ex_load1 2 0 Try.underlying33 rfl rfl rfl rfl) rfl rfl fun a hF => ?_
    refine q_x (v := (.int .i64 (goLen l_24))) hF hS (ex_len Try.underlying33 rfl h25.len) rfl rfl fun a hF => ?_
    refine q_x (v := (.int .i64 0)) hF hS (ex_move rfl) rfl rfl fun a hF => ?_
    refine q_end (n_sq ?_)
    refine q_block ?_
    obtain ⟨out_56, hl3, hr⟩ := bindS hr
    refine q_loop (fun (s : Int × impl_Cube) a w => ∃ (q29 : Piece), ∃ t_26, ∃ out_27, s = (t_26, out_27) ∧ Fr a 76 [(1, s3.v), (2, s4.v), (3, (.pointer (some ⟨b5, 0, none⟩))), (6, (.pointer (some ⟨b6, 0, none⟩))), (7, (.pointer (some ⟨b7, 0, none⟩))), (38, (.int .i64 (goLen l_24))), (39, (.int .i64 t_26))] ∧ St [] w0 w m [q29, q20, [⟨b7, [s20.v, s25.v], 46⟩], [⟨b6, [nilS.v, nilS.v], 46⟩], [⟨b5, [s1.v, s2.v], 46⟩]] ∧ OwnL m 3 q20 s20 out_27.Sizes ∧ out_27.Sizes = out_19.Sizes ∧ OwnL m 3 q29 s25 out_27.Cells) (fun (out_56 : impl_Cube) e a w => ∃ (q58 : Piece), e = .exit 2 ∧ Fr a 76 [(6, (.pointer (some ⟨b6, 0, none⟩))), (7, (.pointer (some ⟨b7, 0, none⟩)))] ∧ St [] w0 w m [q20, q58, [⟨b7, [s20.v, s25.v], 46⟩], [⟨b6, [nilS.v, nilS.v], 46⟩]] ∧ OwnL m 3 q20 s20 out_56.Sizes ∧ out_56.Sizes = out_19.Sizes ∧ OwnL m 3 q58 s25 out_56.Cells) hl3 ⟨q25, _, _, rfl, hF.sub ⟨rfl, rfl, rfl, rfl, rfl, rfl, rfl, trivial⟩, hS, h20, rfl, h25⟩ ?_ ?_
    · clear hF hS
      rintro s a w st ⟨q29, t_26, out_27, rfl, hF, hS, h28, h28k, h29⟩ hb3
      unfold impl_taken_l2 at hb3
      refine q_seq ?_
      refine q_region ?_
      refine q_x (v := (.bool (decide (t_26 < (goLen l_24))))) hF hS (ex_ibin rfl rfl rfl) rfl rfl fun a hF => ?_
      refine q_end (n_sq ?_)
      refine q_seq ?_
      rcases bcase (decide (t_26 < (goLen l_24))) with hc4 | hc4
      · have hb3 := cond_f hc4 hb3
        refine q_cond_f hF rfl hc4 ?_
        refine q_exit (x_sq ?_)
        obtain rfl := someI hb3
        exact ⟨nofun, .inl ⟨q29, rfl, hF.sub ⟨rfl, rfl, trivial⟩, hS.sel [1, 0, 2, 3] (by decide), h28, h28k, h29⟩⟩
      · have hb3 := cond_t hc4 hb3
        refine q_cond_t hF rfl hc4 ?_
        refine q_skipc (n_sq ?_)
        refine q_seq ?_
        refine q_block ?_
        refine q_seq ?_
        refine q_region ?_
        refine q_x (v := (.int .i64 t_26)) hF hS (ex_move rfl) rfl rfl fun a hF => ?_
        refine q_x (v := (.int .i64 t_26)) hF hS (ex_assign rfl) rfl rfl fun a hF => ?_
        refine q_end (n_sq ?_)
        refine q_seq ?_
        refine q_region ?_
        refine q_x (v := s4.v) hF hS (ex_move rfl) rfl rfl fun a hF => ?_
        obtain ⟨t_30, ht_30, hb3⟩ := bindS hb3
        refine q_call (vs := [s4.v]) hF hS Try.func74 (by kernel_rfl) rfl rfl rfl (c_slices_Clone_int_int p_fixed t_30 ht_30 _ m hS.vis s4 h4) ?_
        rintro a w _ ⟨q32, s32, rfl, hR31, h32⟩ hF hS2
        have hS : St _ _ _ _ [q32, q29, q20, [⟨b7, [s20.v, s25.v], 46⟩], [⟨b6, [nilS.v, nilS.v], 46⟩], [⟨b5, [s1.v, s2.v], 46⟩]] := hS.joinF hR31
        refine q_x (v := s32.v) hF hS (ex_assign rfl) rfl rfl fun a hF => ?_
        refine q_end (n_sq ?_)
        refine q_seq ?_
        refine q_seq ?_
        refine q_region ?_
        refine q_x (v := (.pointer (some ⟨b7, 0, none⟩))) hF hS (ex_fieldAddr Try.underlying46 rfl sz33 rfl rfl) rfl rfl fun a hF => ?_
        refine q_x (v := s20.v) hF hS (ex_load1 3 0 Try.underlying33 rfl rfl rfl rfl) rfl rfl fun a hF => ?_
        refine q_x (v := (.int .i64 t_26)) hF hS (ex_move rfl) rfl rfl fun a hF => ?_
        obtain ⟨m34, hl34, hv34, hz34⟩ := hS.lend
        obtain ⟨t_33, ht_33, hb3⟩ := bindS hb3
        refine q_call (vs := [s20.v, (.int .i64 t_26)]) hF hS Try.func79 (by kernel_rfl) rfl rfl rfl (c_impl_indexOf out_27.Sizes t_26 t_33 ht_33 _ m34 hv34 s20 (h28.froz hl34 (hz34 2 _ rfl))) ?_
        rintro a w _ ⟨q36, s36, rfl, hR35, h36⟩ hF hS2
        have hS : St _ _ _ _ [q36, q32, q29, q20, [⟨b7, [s20.v, s25.v], 46⟩], [⟨b6, [nilS.v, nilS.v], 46⟩], [⟨b5, [s1.v, s2.v], 46⟩]] := hS.joinF hR35
        have h36 := h36.any m
        refine q_x (v := (.int .i64 (goLen t_33))) hF hS (ex_len Try.underlying33 rfl h36.len) rfl rfl fun a hF => ?_
        refine q_x (v := (.int .i64 0)) hF hS (ex_move rfl) rfl rfl fun a hF => ?_
        refine q_end (n_sq ?_)
        refine q_block ?_
        obtain ⟨index_47, hl5, hb3⟩ := bindS hb3
        refine q_loop (fun (s : (List Int) × Int) a w => ∃ (q38 : Piece), ∃ index_37, ∃ t_39, s = (index_37, t_39) ∧ Fr a 76 [(1, s3.v), (2, s4.v), (3, (.pointer (some ⟨b5, 0, none⟩))), (6, (.pointer (some ⟨b6, 0, none⟩))), (7, (.pointer (some ⟨b7, 0, none⟩))), (10, (.int .i64 t_26)), (11, s32.v), (38, (.int .i64 (goLen l_24))), (39, (.int .i64 t_26)), (47, s36.v), (48, (.int .i64 (goLen t_33))), (49, (.int .i64 t_39))] ∧ St [] w0 w m [q38, q36, q29, q20, [⟨b7, [s20.v, s25.v], 46⟩], [⟨b6, [nilS.v, nilS.v], 46⟩], [⟨b5, [s1.v, s2.v], 46⟩]] ∧ OwnL m 3 q38 s32 index_37) (fun (index_47 : (List Int)) e a w => ∃ (q48 : Piece), e = .exit 4 ∧ Fr a 76 [(1, s3.v), (2, s4.v), (3, (.pointer (some ⟨b5, 0, none⟩))), (6, (.pointer (some ⟨b6, 0, none⟩))), (7, (.pointer (some ⟨b7, 0, none⟩))), (10, (.int .i64 t_26)), (11, s32.v), (38, (.int .i64 (goLen l_24))), (39, (.int .i64 t_26))] ∧ St [] w0 w m [q48, q20, q29, [⟨b7, [s20.v, s25.v], 46⟩], [⟨b6, [nilS.v, nilS.v], 46⟩], [⟨b5, [s1.v, s2.v], 46⟩]] ∧ OwnL m 3 q48 s32 index_47) hl5 ⟨q32, _, _, rfl, hF.sub ⟨rfl, rfl, rfl, rfl, rfl, rfl, rfl, rfl, rfl, rfl, rfl, rfl, trivial⟩, hS.sel [1, 0, 2, 3, 4, 5, 6] (by decide), h32⟩ ?_ ?_
        · clear hF hS
          rintro s a w st ⟨q38, index_37, t_39, rfl, hF, hS, h38⟩ hb5
          unfold impl_taken_l3 at hb5
          refine q_seq ?_
          refine q_region ?_
          refine q_x (v := (.bool (decide (t_39 < (goLen t_33))))) hF hS (ex_ibin rfl rfl rfl) rfl rfl fun a hF => ?_
          refine q_end (n_sq ?_)
          refine q_seq ?_
          rcases bcase (decide (t_39 < (goLen t_33))) with hc6 | hc6
          · have hb5 := cond_f hc6 hb5
            refine q_cond_f hF rfl hc6 ?_
            refine q_exit (x_sq ?_)
            obtain rfl := someI hb5
            exact ⟨nofun, .inl ⟨q38, rfl, hF.sub ⟨rfl, rfl, rfl, rfl, rfl, rfl, rfl, rfl, rfl, trivial⟩, hS.sel [0, 3, 2, 4, 5, 6] (by decide), h38⟩⟩
          · have hb5 := cond_t hc6 hb5
            refine q_cond_t hF rfl hc6 ?_
            refine q_skipc (n_sq ?_)
            refine q_seq ?_
            refine q_block ?_
            refine q_seq ?_
            refine q_region ?_
            refine q_x (v := (.int .i64 t_39)) hF hS (ex_move rfl) rfl rfl fun a hF => ?_
            obtain ⟨e_40, he_40, hb5⟩ := bindS hb5
            obtain ⟨vs41, at41, d41⟩ := h36.at he_40 1 rfl
            obtain rfl : vs41 = [(.int .i64 e_40)] := d41
            refine q_x (v := (elP s36 (t_39.toNat * 1))) hF hS (ex_indexAddr Try.underlying33 sz3 rfl rfl (h36.idx he_40)) rfl rfl fun a hF => ?_
            refine q_x (v := (.int .i64 e_40)) hF hS (ex_loadE1 0 Try.underlying3 rfl rfl (at41.at 1 rfl) rfl rfl) rfl rfl fun a hF => ?_
            refine q_x (v := (.int .i64 t_39)) hF hS (ex_assign rfl) rfl rfl fun a hF => ?_
            refine q_x (v := (.int .i64 e_40)) hF hS (ex_assign rfl) rfl rfl fun a hF => ?_
            refine q_end (n_sq ?_)
            refine q_region ?_
            refine q_x (v := s32.v) hF hS (ex_move rfl) rfl rfl fun a hF => ?_
            refine q_x (v := s3.v) hF hS (ex_move rfl) rfl rfl fun a hF => ?_
            refine q_x (v := (.int .i64 t_39)) hF hS (ex_move rfl) rfl rfl fun a hF => ?_
            obtain ⟨e_42, he_42, hb5⟩ := bindS hb5
            obtain ⟨vs43, at43, d43⟩ := h3.at he_42 1 rfl
            obtain rfl : vs43 = [(.int .i64 e_42)] := d43
            refine q_x (v := (elP s3 (t_39.toNat * 1))) hF hS (ex_indexAddr Try.underlying33 sz3 rfl rfl (h3.idx he_42)) rfl rfl fun a hF => ?_
            refine q_x (v := (.int .i64 e_42)) hF hS (ex_loadE1 0 Try.underlying3 rfl rfl ((at43).at) rfl rfl) rfl rfl fun a hF => ?_
            refine q_x (v := (.int .i64 e_40)) hF hS (ex_move rfl) rfl rfl fun a hF => ?_
            obtain ⟨e_44, he_44, hb5⟩ := bindS hb5
            obtain ⟨vs45, at45, d45⟩ := h38.at he_44 1 rfl
            obtain rfl : vs45 = [(.int .i64 e_44)] := d45
            refine q_x (v := (elP s32 (e_42.toNat * 1))) hF hS (ex_indexAddr Try.underlying33 sz3 rfl rfl (h38.idx he_44)) rfl rfl fun a hF => ?_
            refine q_do rfl fun _ hK => wp_storeE (e' := e_40) (us := [(.int .i64 e_40)]) (vs := [(.int .i64 e_44)]) 0 hF hS h38 sz3 rfl rfl rfl rfl rfl rfl rfl he_44 at45 rfl rfl rfl fun w q46 hS h46 => hK _ _ ?_
            refine q_end (n_ib (n_sq ?_))
            refine q_region ?_
            refine q_x (v := (.int .i64 (w64 (t_39 + 1)))) hF hS (ex_ibin rfl rfl rfl) rfl rfl fun a hF => ?_
            refine q_x (v := (.int .i64 (w64 (t_39 + 1)))) hF hS (ex_move rfl) rfl rfl fun a hF => ?_
            refine q_end ?_
            obtain rfl := someI hb5
            exact ⟨rfl, q46, _, _, rfl, hF.sub ⟨rfl, rfl, rfl, rfl, rfl, rfl, rfl, rfl, rfl, rfl, rfl, rfl, trivial⟩, hS, h46⟩
        · rintro e a w ⟨q48, rfl, hF, hS, h48⟩
          refine x_ib (n_sq ?_)
          refine e_region [12] mixed fun w' hw' => ?_
          have hS := hS.below hw'
          refine e_p (v := (.pointer (some ⟨b7, 1, none⟩))) 0 hF rfl (ex_fieldAddr Try.underlying46 rfl sz33 rfl rfl) rfl rfl (by kernel_rfl) (by kernel_rfl) (by kernel_rfl) fun a hF => ?_
          refine e_x (v := s25.v) 1 hF hS rfl (ex_load1 3 0 Try.underlying33 rfl rfl rfl rfl) rfl rfl (by kernel_rfl) (by kernel_rfl) (by kernel_rfl) (by kernel_rfl) fun a hF => ?_
          refine e_p (v := (.int .i64 t_26)) 2 hF rfl (ex_move rfl) rfl rfl (by kernel_rfl) (by kernel_rfl) (by kernel_rfl) fun a hF => ?_
          refine e_p (v := (.pointer (some ⟨b5, 1, none⟩))) 3 hF rfl (ex_fieldAddr Try.underlying46 rfl sz33 rfl rfl) rfl rfl (by kernel_rfl) (by kernel_rfl) (by kernel_rfl) fun a hF => ?_
          refine e_x (v := s2.v) 4 hF hS rfl (ex_load1 5 0 Try.underlying33 rfl rfl rfl rfl) rfl rfl (by kernel_rfl) (by kernel_rfl) (by kernel_rfl) (by kernel_rfl) fun a hF => ?_
          refine e_p (v := (.pointer (some ⟨b5, 0, none⟩))) 5 hF rfl (ex_fieldAddr Try.underlying46 rfl sz33 rfl rfl) rfl rfl (by kernel_rfl) (by kernel_rfl) (by kernel_rfl) fun a hF => ?_
          refine e_x (v := s1.v) 6 hF hS rfl (ex_load1 5 0 Try.underlying33 rfl rfl rfl rfl) rfl rfl (by kernel_rfl) (by kernel_rfl) (by kernel_rfl) (by kernel_rfl) fun a hF => ?_
          refine e_p (v := s32.v) 7 hF rfl (ex_move rfl) rfl rfl (by kernel_rfl) (by kernel_rfl) (by kernel_rfl) fun a hF => ?_
          refine e_one 8 (by kernel_rfl) ?_
          obtain ⟨m50, hl50, hv50, hz50⟩ := hS.lend
          obtain ⟨t_49, ht_49, hb3⟩ := bindS hb3
          refine e_call (vs := [s1.v, s32.v]) hF hS rfl Try.func73 (by kernel_rfl) rfl rfl rfl (c_impl_cellOf p_c.Sizes index_47 t_49 ht_49 _ m50 hv50 s1 (h1.mono hl50) s32 (h48.froz hl50 (hz50 0 _ rfl))) ?_
          rintro a w _ rfl hF hS
          obtain ⟨e_51, he_51, hb3⟩ := bindS hb3
          obtain ⟨vs52, at52, d52⟩ := h2.at he_51 1 rfl
          obtain rfl : vs52 = [(.int .i64 e_51)] := d52
          refine e_p (v := (elP s2 (t_49.toNat * 1))) 9 hF rfl (ex_indexAddr Try.underlying33 sz3 rfl rfl (h2.idx he_51)) rfl rfl (by kernel_rfl) (by kernel_rfl) (by kernel_rfl) fun a hF => ?_
          refine e_x (v := (.int .i64 e_51)) 10 hF hS rfl (ex_loadE1 0 Try.underlying3 rfl rfl ((at52).at) rfl rfl) rfl rfl (by kernel_rfl) (by kernel_rfl) (by kernel_rfl) (by kernel_rfl) fun a hF => ?_
          obtain ⟨e_53, he_53, hb3⟩ := bindS hb3
          obtain ⟨vs54, at54, d54⟩ := h29.at he_53 1 rfl
          obtain rfl : vs54 = [(.int .i64 e_53)] := d54
          refine e_p (v := (elP s25 (t_26.toNat * 1))) 11 hF rfl (ex_indexAddr Try.underlying33 sz3 rfl rfl (h29.idx he_53)) rfl rfl (by kernel_rfl) (by kernel_rfl) (by kernel_rfl) fun a hF => ?_
          refine e_one 12 (by kernel_rfl) ?_
          have hS : St _ _ _ _ [q29, q48, q20, [⟨b7, [s20.v, s25.v], 46⟩], [⟨b6, [nilS.v, nilS.v], 46⟩], [⟨b5, [s1.v, s2.v], 46⟩]] := hS.sel [2, 0, 1, 3, 4, 5] (by decide)
          refine e_opl rfl rfl rfl fun _ hK => wp_storeE (e' := e_51) (us := [(.int .i64 e_51)]) (vs := [(.int .i64 e_53)]) 0 hF hS h29 sz3 rfl rfl rfl rfl rfl rfl rfl he_53 at54 rfl rfl rfl fun w q55 hS h55 => hK _ _ ?_
          refine e_end (by kernel_rfl) (n_ib (n_sq ?_)) _
          refine q_region ?_
          refine q_x (v := (.int .i64 (w64 (t_26 + 1)))) hF hS (ex_ibin rfl rfl rfl) rfl rfl fun a hF => ?_
          refine q_x (v := (.int .i64 (w64 (t_26 + 1)))) hF hS (ex_move rfl) rfl rfl fun a hF => ?_
          refine q_end ?_
          obtain rfl := someI hb3
          exact ⟨rfl, q55, _, _, rfl, hF.sub ⟨rfl, rfl, rfl, rfl, rfl, rfl, rfl, trivial⟩, hS.mask [true, false, true, true, true, true], h28, h28k, h55⟩
    · rintro e a w ⟨q58, rfl, hF, hS, h57, h57k, h58⟩
      refine x_ib (n_sq ?_)
      refine q_seq ?_
      refine q_region ?_
      refine q_x (v := (.agg #[s20.v, s25.v])) hF hS (ex_loadA (vs := [s20.v, s25.v]) 2 0 Try.underlying46 rfl sz46 rfl rfl rfl rfl) rfl rfl fun a hF => ?_
      refine q_store (vs := [s20.v, s25.v]) (cs' := [s20.v, s25.v]) 3 0 hF hS sz46 rfl rfl rfl rfl rfl rfl rfl rfl fun a w hF hS => ?_
      refine q_end (n_sq (q_ret ?_))
      obtain rfl := someI hr
      exact ret_of hF hS rfl (.cellA (us := [s20.v, s25.v]) 3 0 Try.underlying46 rfl sz46 rfl rfl rfl rfl .nil) ⟨q20, q58, s20, s25, rfl, hS.sel [0, 1] (by decide), h57, h58⟩

theorem c_impl_MarginOf (p_c : impl_Cube) (p_dims : List Int) (r : impl_Cube × Bool) (hr : impl_MarginOf p_c p_dims = some r) (w0 : World) (m : Mem) (hv : Vis m w0) (s1 : Sl) (h1 : Rd m s1 p_c.Sizes) (s2 : Sl) (h2 : Rd m s2 p_c.Cells) (s3 : Sl) (h3 : Rd m s3 p_dims) :
    Ret Try.prog 24 [(.agg #[s1.v, s2.v]), s3.v] w0 (fun v w => ∃ (q0' : Piece) (q1' : Piece) (s0' : Sl) (s1' : Sl), v = (.tuple #[(.agg #[s0'.v, s1'.v]), (.bool r.2)]) ∧ St [] w0 w m [q0', q1'] ∧ OwnL m 3 q0' s0' r.1.Sizes ∧ OwnL m 3 q1' s1' r.1.Cells) := by
  unfold impl_MarginOf at hr
  refine ret_start Try.func24 rfl 37 rfl rfl m hv fun a hF hS => ?_
  refine q_seq ?_
  refine q_region ?_
  refine q_box (cs := [s1.v, s2.v]) hF hS rfl rfl rfl fun a w b4 hF hS => ?_
  refine q_alloc (cs := [nilS.v, nilS.v]) hF hS rfl rfl rfl fun a w b5 hF hS => ?_
  refine q_x (v := (.bool false)) hF hS (ex_assign rfl) rfl rfl fun a hF => ?_
  refine q_end (n_sq ?_)
  refine q_seq ?_
  refine q_region ?_
  refine q_x (v := (.int .i64 (-1))) hF hS (ex_assign rfl) rfl rfl fun a hF => ?_
  refine q_end (n_sq ?_)
  refine q_seq ?_
  refine q_seq ?_
  refine q_region ?_
  refine q_x (v := s3.v) hF hS (ex_move rfl) rfl rfl fun a hF => ?_
  refine q_x (v := (.int .i64 (goLen p_dims))) hF hS (ex_len Try.underlying33 rfl h3.len) rfl rfl fun a hF => ?_
  refine q_x (v := (.int .i64 0)) hF hS (ex_move rfl) rfl rfl fun a hF => ?_
  refine q_end (n_sq ?_)
  refine q_block ?_
  obtain ⟨o1, hl1, hr⟩ := bindS hr
  refine q_loop (fun (s : Int × Int) a w => ∃ last_6, ∃ t_7, s = (last_6, t_7) ∧ Fr a 37 [(1, s3.v), (2, (.pointer (some ⟨b4, 0, none⟩))), (4, (.pointer (some ⟨b5, 0, none⟩))), (6, (.int .i64 last_6)), (9, s3.v), (10, (.int .i64 (goLen p_dims))), (11, (.int .i64 t_7))] ∧ St [] w0 w m [[⟨b5, [nilS.v, nilS.v], 46⟩], [⟨b4, [s1.v, s2.v], 46⟩]]) (fun (o : (Unit) ⊕ (impl_Cube × Bool)) e a w => o = .inl () ∧ e = .exit 0 ∧ Fr a 37 [(1, s3.v), (2, (.pointer (some ⟨b4, 0, none⟩))), (4, (.pointer (some ⟨b5, 0, none⟩)))] ∧ St [] w0 w m [[⟨b5, [nilS.v, nilS.v], 46⟩], [⟨b4, [s1.v, s2.v], 46⟩]]) hl1 ⟨_, _, rfl, hF.sub ⟨rfl, rfl, rfl, rfl, rfl, rfl, rfl, trivial⟩, hS⟩ ?_ ?_
  · clear hF hS
    rintro s a w st ⟨last_6, t_7, rfl, hF, hS⟩ hb1
    unfold impl_MarginOf_l1 at hb1
    refine q_seq ?_
    refine q_region ?_
    refine q_x (v := (.bool (decide (t_7 < (goLen p_dims))))) hF hS (ex_ibin rfl rfl rfl) rfl rfl fun a hF => ?_
    refine q_end (n_sq ?_)
    refine q_seq ?_
    rcases bcase (decide (t_7 < (goLen p_dims))) with hc2 | hc2
    · have hb1 := cond_f hc2 hb1
      refine q_cond_f hF rfl hc2 ?_
      refine q_exit (x_sq ?_)
      obtain rfl := someI hb1
      exact ⟨nofun, .inl ⟨rfl, rfl, hF.sub ⟨rfl, rfl, rfl, trivial⟩, hS⟩⟩
    · have hb1 := cond_t hc2 hb1
      refine q_cond_t hF rfl hc2 ?_
      refine q_skipc (n_sq ?_)
      refine q_seq ?_
      refine q_block ?_
      refine q_seq ?_
      refine q_region ?_
      obtain ⟨e_8, he_8, hb1⟩ := bindS hb1
      obtain ⟨vs9, at9, d9⟩ := h3.at he_8 1 rfl
      obtain rfl : vs9 = [(.int .i64 e_8)] := d9
      refine q_x (v := (elP s3 (t_7.toNat * 1))) hF hS (ex_indexAddr Try.underlying33 sz3 rfl rfl (h3.idx he_8)) rfl rfl fun a hF => ?_
      refine q_x (v := (.int .i64 e_8)) hF hS (ex_loadE1 0 Try.underlying3 rfl rfl ((at9).at) rfl rfl) rfl rfl fun a hF => ?_
      refine q_x (v := (.int .i64 e_8)) hF hS (ex_assign rfl) rfl rfl fun a hF => ?_
      refine q_end (n_sq ?_)
      refine q_seq ?_
      refine q_seq ?_
      obtain ⟨t_10, hj3, hb1⟩ := bindS hb1
      refine q_join (fun a w => Fr a 37 [(1, s3.v), (2, (.pointer (some ⟨b4, 0, none⟩))), (4, (.pointer (some ⟨b5, 0, none⟩))), (8, (.int .i64 e_8)), (9, s3.v), (10, (.int .i64 (goLen p_dims))), (11, (.int .i64 t_7)), (24, (.bool t_10))] ∧ St [] w0 w m [[⟨b5, [nilS.v, nilS.v], 46⟩], [⟨b4, [s1.v, s2.v], 46⟩]]) ?_ ?_
      · refine q_region ?_
        refine q_x (v := (.int .i64 e_8)) hF hS (ex_move rfl) rfl rfl fun a hF => ?_
        refine q_x (v := (.int .i64 last_6)) hF hS (ex_move rfl) rfl rfl fun a hF => ?_
        refine q_x (v := (.bool (decide (e_8 ≤ last_6)))) hF hS (ex_ibin rfl rfl rfl) rfl rfl fun a hF => ?_
        refine q_x (v := (.bool (decide (e_8 ≤ last_6)))) hF hS (ex_move rfl) rfl rfl fun a hF => ?_
        rcases bcase (decide (e_8 ≤ last_6)) with hc4 | hc4
        · have hj3 := cond_f hc4 hj3
          refine q_xg (v := (.int .i64 e_8)) hF hS (ex_move rfl) (wanted_t hF rfl rfl rfl hc4) rfl fun a hF => ?_
          refine q_xg (v := (.pointer (some ⟨b4, 0, none⟩))) hF hS (ex_fieldAddr Try.underlying46 rfl sz33 rfl rfl) (wanted_t hF rfl rfl rfl hc4) rfl fun a hF => ?_
          refine q_xg (v := s1.v) hF hS (ex_load1 1 0 Try.underlying33 rfl rfl rfl rfl) (wanted_t hF rfl rfl rfl hc4) rfl fun a hF => ?_
          refine q_xg (v := (.int .i64 (goLen p_c.Sizes))) hF hS (ex_len Try.underlying33 rfl h1.len) (wanted_t hF rfl rfl rfl hc4) rfl fun a hF => ?_
          refine q_xg (v := (.bool (decide ((goLen p_c.Sizes) ≤ e_8)))) hF hS (ex_ibin rfl rfl rfl) (wanted_t hF rfl rfl rfl hc4) rfl fun a hF => ?_
          refine q_x (v := (.bool (decide ((goLen p_c.Sizes) ≤ e_8)))) hF hS (ex_pick_f rfl rfl hc4) rfl rfl fun a hF => ?_
          refine q_end (n_jn ?_)
          obtain rfl := someI hj3
          exact ⟨hF.sub ⟨rfl, rfl, rfl, rfl, rfl, rfl, rfl, rfl, trivial⟩, hS⟩
        · have hj3 := cond_t hc4 hj3
          refine q_skip hF (wanted_f hF rfl rfl rfl hc4 rfl) rfl fun a hF => ?_
          refine q_skip hF (wanted_f hF rfl rfl rfl hc4 rfl) rfl fun a hF => ?_
          refine q_skip hF (wanted_f hF rfl rfl rfl hc4 rfl) rfl fun a hF => ?_
          refine q_skip hF (wanted_f hF rfl rfl rfl hc4 rfl) rfl fun a hF => ?_
          refine q_skip hF (wanted_f hF rfl rfl rfl hc4 rfl) rfl fun a hF => ?_
          refine q_x (v := (.bool true)) hF hS (ex_pick_t rfl rfl hc4) rfl rfl fun a hF => ?_
          refine q_end (n_jn ?_)
          obtain rfl := someI hj3
          exact ⟨hF.sub ⟨rfl, rfl, rfl, rfl, rfl, rfl, rfl, rfl, trivial⟩, hS⟩
      · rintro a w ⟨hF, hS⟩
        refine n_sq ?_
        rcases bcase (t_10) with hc5 | hc5
        · have hb1 := cond_f hc5 hb1
          refine q_cond_f hF rfl hc5 ?_
          refine q_skipc (n_sq ?_)
          refine q_region ?_
          refine q_x (v := (.int .i64 e_8)) hF hS (ex_move rfl) rfl rfl fun a hF => ?_
          refine q_x (v := (.int .i64 e_8)) hF hS (ex_assign rfl) rfl rfl fun a hF => ?_
          refine q_end (n_ib (n_sq ?_))
          refine q_region ?_
          refine q_x (v := (.int .i64 (w64 (t_7 + 1)))) hF hS (ex_ibin rfl rfl rfl) rfl rfl fun a hF => ?_
          refine q_x (v := (.int .i64 (w64 (t_7 + 1)))) hF hS (ex_move rfl) rfl rfl fun a hF => ?_
          refine q_end ?_
          obtain rfl := someI hb1
          exact ⟨rfl, _, _, rfl, hF.sub ⟨rfl, rfl, rfl, rfl, rfl, rfl, rfl, trivial⟩, hS⟩
        · have hb1 := cond_t hc5 hb1
          refine q_cond_t hF rfl hc5 ?_
          refine q_seq ?_
          refine q_region ?_
          refine q_x (v := (.agg #[nilS.v, nilS.v])) hF hS (ex_build (cells := [nilS.v, nilS.v]) rfl (by kernel_rfl)) rfl rfl fun a hF => ?_
          refine q_store (vs := [nilS.v, nilS.v]) (cs' := [nilS.v, nilS.v]) 0 0 hF hS sz46 rfl rfl rfl rfl rfl rfl rfl rfl fun a w hF hS => ?_
          refine q_x (v := (.bool false)) hF hS (ex_assign rfl) rfl rfl fun a hF => ?_
          refine q_end (n_sq (q_ret (r_sq (r_ib (r_sq ?_)))))
          obtain rfl := someI hb1
          refine ⟨nofun, .inr fun ho => ?_⟩
          subst ho
          refine r_ib (r_sq ?_)
          obtain rfl := someI hr
          exact ret_of hF hS rfl (.cellA (us := [nilS.v, nilS.v]) 0 0 Try.underlying46 rfl sz46 rfl rfl rfl rfl (.tmp rfl .nil)) ⟨[], [], nilS, nilS, rfl, hS.sel [2, 3] (by decide), (OwnL.nil (α := Int) m 3), (OwnL.nil (α := Int) m 3)⟩
  · rintro e a w ⟨rfl, rfl, hF, hS⟩
    refine x_ib (n_sq ?_)
    refine q_seq ?_
    refine q_seq ?_
    refine q_region ?_
    refine q_x (v := (.agg #[s1.v, s2.v])) hF hS (ex_loadA (vs := [s1.v, s2.v]) 1 0 Try.underlying46 rfl sz46 rfl rfl rfl rfl) rfl rfl fun a hF => ?_
    obtain ⟨t_11, ht_11, hr⟩ := bindS hr
    refine q_call (vs := [(.agg #[s1.v, s2.v])]) hF hS Try.func27 (by kernel_rfl) rfl rfl rfl (c_impl_IsCube p_c t_11 ht_11 _ m hS.vis s1 h1 s2 h2) ?_
    rintro a w _ rfl hF hS
    refine q_x (v := (.bool (!t_11))) hF hS (ex_not rfl) rfl rfl fun a hF => ?_
    refine q_end (n_sq ?_)
    rcases bcase (!t_11) with hc6 | hc6
    · have hr := cond_f hc6 hr
      refine q_cond_f hF rfl hc6 ?_
      refine q_skipc (n_sq ?_)
      refine q_seq ?_
      refine q_region ?_
      refine q_x (v := (.agg #[s1.v, s2.v])) hF hS (ex_loadA (vs := [s1.v, s2.v]) 1 0 Try.underlying46 rfl sz46 rfl rfl rfl rfl) rfl rfl fun a hF => ?_
      refine q_x (v := s3.v) hF hS (ex_move rfl) rfl rfl fun a hF => ?_
      refine q_x (v := (.pointer (some ⟨b4, 0, none⟩))) hF hS (ex_fieldAddr Try.underlying46 rfl sz33 rfl rfl) rfl rfl fun a hF => ?_
      refine q_x (v := s1.v) hF hS (ex_load1 1 0 Try.underlying33 rfl rfl rfl rfl) rfl rfl fun a hF => ?_
      obtain ⟨t_12, ht_12, hr⟩ := bindS hr
      refine q_call (vs := [(.agg #[s1.v, s2.v]), s3.v, s1.v]) hF hS Try.func66 (by kernel_rfl) rfl rfl rfl (c_impl_taken p_c p_dims p_c.Sizes t_12 ht_12 _ m hS.vis s1 h1 s2 h2 s3 h3 s1 h1) ?_
      rintro a w _ ⟨q14, q15, s14, s15, rfl, hR13, h14, h15⟩ hF hS2
      have hS : St _ _ _ _ [q14, q15, [⟨b5, [nilS.v, nilS.v], 46⟩], [⟨b4, [s1.v, s2.v], 46⟩]] := hS.joinF hR13
      refine q_store (vs := [s14.v, s15.v]) (cs' := [s14.v, s15.v]) 2 0 hF hS sz46 rfl rfl rfl rfl rfl rfl rfl rfl fun a w hF hS => ?_
      refine q_x (v := (.bool true)) hF hS (ex_assign rfl) rfl rfl fun a hF => ?_
      refine q_end (n_sq (q_ret ?_))
      obtain rfl := someI hr
      exact ret_of hF hS rfl (.cellA (us := [s14.v, s15.v]) 2 0 Try.underlying46 rfl sz46 rfl rfl rfl rfl (.tmp rfl .nil)) ⟨q14, q15, s14, s15, rfl, hS.sel [0, 1] (by decide), h14, h15⟩
    · have hr := cond_t hc6 hr
      refine q_cond_t hF rfl hc6 ?_
      refine q_seq ?_
      refine q_region ?_
      refine q_x (v := (.agg #[nilS.v, nilS.v])) hF hS (ex_build (cells := [nilS.v, nilS.v]) rfl (by kernel_rfl)) rfl rfl fun a hF => ?_
      refine q_store (vs := [nilS.v, nilS.v]) (cs' := [nilS.v, nilS.v]) 0 0 hF hS sz46 rfl rfl rfl rfl rfl rfl rfl rfl fun a w hF hS => ?_
      refine q_x (v := (.bool false)) hF hS (ex_assign rfl) rfl rfl fun a hF => ?_
      refine q_end (n_sq (q_ret (r_sq ?_)))
      obtain rfl := someI hr
      exact ret_of hF hS rfl (.cellA (us := [nilS.v, nilS.v]) 0 0 Try.underlying46 rfl sz46 rfl rfl rfl rfl (.tmp rfl .nil)) ⟨[], [], nilS, nilS, rfl, hS.sel [2, 3] (by decide), (OwnL.nil (α := Int) m 3), (OwnL.nil (α := Int) m 3)⟩

theorem c_spec_l1Rising (p_l : List Int) (p_lo : Int) (p_hi : Int) (r : Bool) (hr : spec_l1Rising p_l p_lo p_hi = some r) (w0 : World) (m : Mem) (hv : Vis m w0) (s1 : Sl) (h1 : Rd m s1 p_l) :
    Ret Try.prog 68 [s1.v, (.int .i64 p_lo), (.int .i64 p_hi)] w0 (fun v _ => v = (.bool r)) := by
  unfold spec_l1Rising at hr
  refine ret_start Try.func68 rfl 35 rfl rfl m hv fun a hF hS => ?_
  refine q_seq ?_
  refine q_region ?_
  refine q_x (v := (.bool false)) hF hS (ex_assign rfl) rfl rfl fun a hF => ?_
  refine q_end (n_sq ?_)
  refine q_seq ?_
  refine q_seq ?_
  refine q_region ?_
  refine q_x (v := s1.v) hF hS (ex_move rfl) rfl rfl fun a hF => ?_
  refine q_x (v := (.int .i64 (goLen p_l))) hF hS (ex_len Try.underlying33 rfl h1.len) rfl rfl fun a hF => ?_
  refine q_x (v := (.int .i64 0)) hF hS (ex_move rfl) rfl rfl fun a hF => ?_
  refine q_end (n_sq ?_)
  refine q_block ?_
  obtain ⟨o1, hl1, hr⟩ := bindS hr
  refine q_loop (fun (t_2 : Int) a w => Fr a 35 [(0, s1.v), (1, (.int .i64 p_lo)), (2, (.int .i64 p_hi)), (9, s1.v), (10, (.int .i64 (goLen p_l))), (11, (.int .i64 t_2))] ∧ St [] w0 w m []) (fun (o : (Unit) ⊕ (Bool)) e a w => o = .inl () ∧ e = .exit 0 ∧ Fr a 35 [] ∧ St [] w0 w m []) hl1 ⟨hF.sub ⟨rfl, rfl, rfl, rfl, rfl, rfl, trivial⟩, hS⟩ ?_ ?_
  · clear hF hS
    rintro t_2 a w st ⟨hF, hS⟩ hb1
    unfold spec_l1Rising_l1 at hb1
    refine q_seq ?_
    refine q_region ?_
    refine q_x (v := (.bool (decide (t_2 < (goLen p_l))))) hF hS (ex_ibin rfl rfl rfl) rfl rfl fun a hF => ?_
    refine q_end (n_sq ?_)
    refine q_seq ?_
    rcases bcase (decide (t_2 < (goLen p_l))) with hc2 | hc2
    · have hb1 := cond_f hc2 hb1
      refine q_cond_f hF rfl hc2 ?_
      refine q_exit (x_sq ?_)
      obtain rfl := someI hb1
      exact ⟨nofun, .inl ⟨rfl, rfl, hF.sub trivial, hS⟩⟩
    · have hb1 := cond_t hc2 hb1
      refine q_cond_t hF rfl hc2 ?_
      refine q_skipc (n_sq ?_)
      refine q_seq ?_
      refine q_block ?_
      refine q_seq ?_
      refine q_region ?_
      refine q_x (v := (.int .i64 t_2)) hF hS (ex_move rfl) rfl rfl fun a hF => ?_
      obtain ⟨e_3, he_3, hb1⟩ := bindS hb1
      obtain ⟨vs4, at4, d4⟩ := h1.at he_3 1 rfl
      obtain rfl : vs4 = [(.int .i64 e_3)] := d4
      refine q_x (v := (elP s1 (t_2.toNat * 1))) hF hS (ex_indexAddr Try.underlying33 sz3 rfl rfl (h1.idx he_3)) rfl rfl fun a hF => ?_
      refine q_x (v := (.int .i64 e_3)) hF hS (ex_loadE1 0 Try.underlying3 rfl rfl ((at4).at) rfl rfl) rfl rfl fun a hF => ?_
      refine q_x (v := (.int .i64 t_2)) hF hS (ex_assign rfl) rfl rfl fun a hF => ?_
      refine q_x (v := (.int .i64 e_3)) hF hS (ex_assign rfl) rfl rfl fun a hF => ?_
      refine q_end (n_sq ?_)
      refine q_seq ?_
      obtain ⟨t_8, hj3, hb1⟩ := bindS hb1
      refine q_join (fun a w => Fr a 35 [(0, s1.v), (1, (.int .i64 p_lo)), (2, (.int .i64 p_hi)), (9, s1.v), (10, (.int .i64 (goLen p_l))), (11, (.int .i64 t_2)), (33, (.bool t_8))] ∧ St [] w0 w m []) ?_ ?_
      · refine q_region ?_
        refine q_x (v := (.int .i64 e_3)) hF hS (ex_move rfl) rfl rfl fun a hF => ?_
        refine q_x (v := (.int .i64 p_lo)) hF hS (ex_move rfl) rfl rfl fun a hF => ?_
        refine q_x (v := (.int .i64 p_hi)) hF hS (ex_move rfl) rfl rfl fun a hF => ?_
        obtain ⟨t_5, ht_5, hj3⟩ := bindS hj3
        refine q_call (vs := [(.int .i64 e_3), (.int .i64 p_lo), (.int .i64 p_hi)]) hF hS Try.func44 (by kernel_rfl) rfl rfl rfl (c_spec_l1In e_3 p_lo p_hi t_5 ht_5 _ m hS.vis) ?_
        rintro a w _ rfl hF hS
        refine q_x (v := (.bool (!t_5))) hF hS (ex_not rfl) rfl rfl fun a hF => ?_
        refine q_x (v := (.bool (!t_5))) hF hS (ex_move rfl) rfl rfl fun a hF => ?_
        rcases bcase (!t_5) with hc4 | hc4
        · have hj3 := cond_f hc4 hj3
          refine q_xg (v := (.int .i64 t_2)) hF hS (ex_move rfl) (wanted_t hF rfl rfl rfl hc4) rfl fun a hF => ?_
          refine q_xg (v := (.bool (decide (0 < t_2)))) hF hS (ex_ibin rfl rfl rfl) (wanted_t hF rfl rfl rfl hc4) rfl fun a hF => ?_
          refine q_xg (v := (.bool (decide (0 < t_2)))) hF hS (ex_move rfl) (wanted_t hF rfl rfl rfl hc4) rfl fun a hF => ?_
          rcases bcase (decide (0 < t_2)) with hc5 | hc5
          · have hj3 := cond_f hc5 hj3
            refine q_skip hF (wanted_f hF rfl rfl rfl hc5 rfl) rfl fun a hF => ?_
            refine q_skip hF (wanted_f hF rfl rfl rfl hc5 rfl) rfl fun a hF => ?_
            refine q_skip hF (wanted_f hF rfl rfl rfl hc5 rfl) rfl fun a hF => ?_
            refine q_skip hF (wanted_f hF rfl rfl rfl hc5 rfl) rfl fun a hF => ?_
            refine q_skip hF (wanted_f hF rfl rfl rfl hc5 rfl) rfl fun a hF => ?_
            refine q_skip hF (wanted_f hF rfl rfl rfl hc5 rfl) rfl fun a hF => ?_
            refine q_skip hF (wanted_f hF rfl rfl rfl hc5 rfl) rfl fun a hF => ?_
            refine q_xg (v := (.bool false)) hF hS (ex_pick_f rfl rfl hc5) (wanted_t hF rfl rfl rfl hc4) rfl fun a hF => ?_
            refine q_x (v := (.bool false)) hF hS (ex_pick_f rfl rfl hc4) rfl rfl fun a hF => ?_
            refine q_end (n_jn ?_)
            obtain rfl := someI hj3
            exact ⟨hF.sub ⟨rfl, rfl, rfl, rfl, rfl, rfl, rfl, trivial⟩, hS⟩
          · have hj3 := cond_t hc5 hj3
            refine q_xg (v := s1.v) hF hS (ex_move rfl) (wanted_t hF rfl rfl rfl hc5) rfl fun a hF => ?_
            refine q_xg (v := (.int .i64 t_2)) hF hS (ex_move rfl) (wanted_t hF rfl rfl rfl hc5) rfl fun a hF => ?_
            refine q_xg (v := (.int .i64 (w64 (t_2 - 1)))) hF hS (ex_ibin rfl rfl rfl) (wanted_t hF rfl rfl rfl hc5) rfl fun a hF => ?_
            obtain ⟨e_6, he_6, hj3⟩ := bindS hj3
            obtain ⟨vs7, at7, d7⟩ := h1.at he_6 1 rfl
            obtain rfl : vs7 = [(.int .i64 e_6)] := d7
            refine q_xg (v := (elP s1 ((w64 (t_2 - 1)).toNat * 1))) hF hS (ex_indexAddr Try.underlying33 sz3 rfl rfl (h1.idx he_6)) (wanted_t hF rfl rfl rfl hc5) rfl fun a hF => ?_
            refine q_xg (v := (.int .i64 e_6)) hF hS (ex_loadE1 0 Try.underlying3 rfl rfl ((at7).at) rfl rfl) (wanted_t hF rfl rfl rfl hc5) rfl fun a hF => ?_
            refine q_xg (v := (.int .i64 e_3)) hF hS (ex_move rfl) (wanted_t hF rfl rfl rfl hc5) rfl fun a hF => ?_
            refine q_xg (v := (.bool (decide (e_3 ≤ e_6)))) hF hS (ex_ibin rfl rfl rfl) (wanted_t hF rfl rfl rfl hc5) rfl fun a hF => ?_
            refine q_xg (v := (.bool (decide (e_3 ≤ e_6)))) hF hS (ex_pick_t rfl rfl hc5) (wanted_t hF rfl rfl rfl hc4) rfl fun a hF => ?_
            refine q_x (v := (.bool (decide (e_3 ≤ e_6)))) hF hS (ex_pick_f rfl rfl hc4) rfl rfl fun a hF => ?_
            refine q_end (n_jn ?_)
            obtain rfl := someI hj3
            exact ⟨hF.sub ⟨rfl, rfl, rfl, rfl, rfl, rfl, rfl, trivial⟩, hS⟩
        · have hj3 := cond_t hc4 hj3
          refine q_skip hF (wanted_f hF rfl rfl rfl hc4 rfl) rfl fun a hF => ?_
          refine q_skip hF (wanted_f hF rfl rfl rfl hc4 rfl) rfl fun a hF => ?_
          refine q_skip hF (wanted_f hF rfl rfl rfl hc4 rfl) rfl fun a hF => ?_
          refine q_skip hF (wanted_u hF rfl rfl rfl) rfl fun a hF => ?_
          refine q_skip hF (wanted_u hF rfl rfl rfl) rfl fun a hF => ?_
          refine q_skip hF (wanted_u hF rfl rfl rfl) rfl fun a hF => ?_
          refine q_skip hF (wanted_u hF rfl rfl rfl) rfl fun a hF => ?_
          refine q_skip hF (wanted_u hF rfl rfl rfl) rfl fun a hF => ?_
          refine q_skip hF (wanted_u hF rfl rfl rfl) rfl fun a hF => ?_
          refine q_skip hF (wanted_u hF rfl rfl rfl) rfl fun a hF => ?_
          refine q_skip hF (wanted_f hF rfl rfl rfl hc4 rfl) rfl fun a hF => ?_
          refine q_x (v := (.bool true)) hF hS (ex_pick_t rfl rfl hc4) rfl rfl fun a hF => ?_
          refine q_end (n_jn ?_)
          obtain rfl := someI hj3
          exact ⟨hF.sub ⟨rfl, rfl, rfl, rfl, rfl, rfl, rfl, trivial⟩, hS⟩
      · rintro a w ⟨hF, hS⟩
        refine n_sq ?_
        rcases bcase (t_8) with hc6 | hc6
        · have hb1 := cond_f hc6 hb1
          refine q_cond_f hF rfl hc6 ?_
          refine q_skipc (n_ib (n_sq ?_))
          refine q_region ?_
          refine q_x (v := (.int .i64 (w64 (t_2 + 1)))) hF hS (ex_ibin rfl rfl rfl) rfl rfl fun a hF => ?_
          refine q_x (v := (.int .i64 (w64 (t_2 + 1)))) hF hS (ex_move rfl) rfl rfl fun a hF => ?_
          refine q_end ?_
          obtain rfl := someI hb1
          exact ⟨rfl, hF.sub ⟨rfl, rfl, rfl, rfl, rfl, rfl, trivial⟩, hS⟩
        · have hb1 := cond_t hc6 hb1
          refine q_cond_t hF rfl hc6 ?_
          refine q_seq ?_
          refine q_region ?_
          refine q_x (v := (.bool false)) hF hS (ex_assign rfl) rfl rfl fun a hF => ?_
          refine q_end (n_sq (q_ret (r_ib (r_sq ?_))))
          obtain rfl := someI hb1
          refine ⟨nofun, .inr fun ho => ?_⟩
          subst ho
          refine r_ib (r_sq ?_)
          obtain rfl := someI hr
          exact ret_of hF hS rfl (.tmp rfl .nil) rfl
  · rintro e a w ⟨rfl, rfl, hF, hS⟩
    refine x_ib (n_sq ?_)
    refine q_seq ?_
    refine q_region ?_
    refine q_x (v := (.bool true)) hF hS (ex_assign rfl) rfl rfl fun a hF => ?_
    refine q_end (n_sq (q_ret ?_))
    obtain rfl := someI hr
    exact ret_of hF hS rfl (.tmp rfl .nil) rfl

theorem c_spec_sPick (p_values : List Int) (p_vars : List Int) (r : (List Int)) (hr : spec_sPick p_values p_vars = some r) (w0 : World) (m : Mem) (hv : Vis m w0) (s1 : Sl) (h1 : Rd m s1 p_values) (s2 : Sl) (h2 : Rd m s2 p_vars) :
    Ret Try.prog 93 [s1.v, s2.v] w0 (fun v w => ∃ (q0' : Piece) (s0' : Sl), v = s0'.v ∧ St [] w0 w m [q0'] ∧ OwnL m 3 q0' s0' r) := by
  unfold spec_sPick at hr
  refine ret_start Try.func93 rfl 23 rfl rfl m hv fun a hF hS => ?_
  refine q_seq ?_
  refine q_region ?_
  refine q_x (v := nilS.v) hF hS (ex_assign rfl) rfl rfl fun a hF => ?_
  refine q_end (n_sq ?_)
  refine q_seq ?_
  refine q_region ?_
  refine q_x (v := nilS.v) hF hS (ex_assign rfl) rfl rfl fun a hF => ?_
  refine q_end (n_sq ?_)
  refine q_seq ?_
  refine q_seq ?_
  refine q_region ?_
  refine q_x (v := s2.v) hF hS (ex_move rfl) rfl rfl fun a hF => ?_
  refine q_x (v := (.int .i64 (goLen p_vars))) hF hS (ex_len Try.underlying33 rfl h2.len) rfl rfl fun a hF => ?_
  refine q_x (v := (.int .i64 0)) hF hS (ex_move rfl) rfl rfl fun a hF => ?_
  refine q_end (n_sq ?_)
  refine q_block ?_
  obtain ⟨out_13, hl1, hr⟩ := bindS hr
  refine q_loop (fun (s : (List Int) × Int) a w => ∃ (q4 : Piece), ∃ (s4 : Sl), ∃ out_3, ∃ t_5, s = (out_3, t_5) ∧ Fr a 23 [(0, s1.v), (5, s4.v), (8, s2.v), (9, (.int .i64 (goLen p_vars))), (10, (.int .i64 t_5))] ∧ St [] w0 w m [q4] ∧ OwnL m 3 q4 s4 out_3) (fun (out_13 : (List Int)) e a w => ∃ (q14 : Piece), ∃ (s14 : Sl), e = .exit 0 ∧ Fr a 23 [(5, s14.v)] ∧ St [] w0 w m [q14] ∧ OwnL m 3 q14 s14 out_13) hl1 ⟨[], nilS, _, _, rfl, hF.sub ⟨rfl, rfl, rfl, rfl, rfl, trivial⟩, hS.sel [0] (by decide), (OwnL.nil (α := Int) m 3)⟩ ?_ ?_
  · clear hF hS
    rintro s a w st ⟨q4, s4, out_3, t_5, rfl, hF, hS, h4⟩ hb1
    unfold spec_sPick_l1 at hb1
    refine q_seq ?_
    refine q_region ?_
    refine q_x (v := (.bool (decide (t_5 < (goLen p_vars))))) hF hS (ex_ibin rfl rfl rfl) rfl rfl fun a hF => ?_
    refine q_end (n_sq ?_)
    refine q_seq ?_
    rcases bcase (decide (t_5 < (goLen p_vars))) with hc2 | hc2
    · have hb1 := cond_f hc2 hb1
      refine q_cond_f hF rfl hc2 ?_
      refine q_exit (x_sq ?_)
      obtain rfl := someI hb1
      exact ⟨nofun, .inl ⟨q4, s4, rfl, hF.sub ⟨rfl, trivial⟩, hS, h4⟩⟩
    · have hb1 := cond_t hc2 hb1
      refine q_cond_t hF rfl hc2 ?_
      refine q_skipc (n_sq ?_)
      refine q_seq ?_
      refine q_block ?_
      refine q_seq ?_
      refine q_region ?_
      obtain ⟨e_6, he_6, hb1⟩ := bindS hb1
      obtain ⟨vs7, at7, d7⟩ := h2.at he_6 1 rfl
      obtain rfl : vs7 = [(.int .i64 e_6)] := d7
      refine q_x (v := (elP s2 (t_5.toNat * 1))) hF hS (ex_indexAddr Try.underlying33 sz3 rfl rfl (h2.idx he_6)) rfl rfl fun a hF => ?_
      refine q_x (v := (.int .i64 e_6)) hF hS (ex_loadE1 0 Try.underlying3 rfl rfl ((at7).at) rfl rfl) rfl rfl fun a hF => ?_
      refine q_x (v := (.int .i64 e_6)) hF hS (ex_assign rfl) rfl rfl fun a hF => ?_
      refine q_end (n_sq ?_)
      refine q_region ?_
      refine q_x (v := s4.v) hF hS (ex_move rfl) rfl rfl fun a hF => ?_
      refine q_x (v := s1.v) hF hS (ex_move rfl) rfl rfl fun a hF => ?_
      refine q_x (v := (.int .i64 e_6)) hF hS (ex_move rfl) rfl rfl fun a hF => ?_
      obtain ⟨e_8, he_8, hb1⟩ := bindS hb1
      obtain ⟨vs9, at9, d9⟩ := h1.at he_8 1 rfl
      obtain rfl : vs9 = [(.int .i64 e_8)] := d9
      refine q_x (v := (elP s1 (e_6.toNat * 1))) hF hS (ex_indexAddr Try.underlying33 sz3 rfl rfl (h1.idx he_8)) rfl rfl fun a hF => ?_
      refine q_x (v := (.int .i64 e_8)) hF hS (ex_loadE1 0 Try.underlying3 rfl rfl ((at9).at) rfl rfl) rfl rfl fun a hF => ?_
      refine q_do rfl fun _ hK => wp_buildSlice' (l := ([e_8] : List Int)) (cells := [(.int .i64 e_8)]) hF hS Try.underlying33 inf3 rfl rfl (by kernel_rfl) rfl rfl rfl ⟨rfl, rfl⟩ rfl rfl fun a w q10 s10 hF hS h10 _ => hK _ _ ?_
      have hS : St _ _ _ _ [q4, q10] := hS.sel [1, 0] (by decide)
      obtain ⟨l_11, hl_11, hb1⟩ := bindS hb1
      refine q_do rfl fun _ hK => wp_append hF hS h4 Try.underlying33 inf3 rfl rfl rfl rfl (h10.vw hS (j := 1) rfl) rfl (by decide) hl_11 rfl fun a w q12 s12 hF hS h12 => hK _ _ ?_
      refine q_x (v := s12.v) hF hS (ex_assign rfl) rfl rfl fun a hF => ?_
      refine q_end (n_ib (n_sq ?_))
      refine q_region ?_
      refine q_x (v := (.int .i64 (w64 (t_5 + 1)))) hF hS (ex_ibin rfl rfl rfl) rfl rfl fun a hF => ?_
      refine q_x (v := (.int .i64 (w64 (t_5 + 1)))) hF hS (ex_move rfl) rfl rfl fun a hF => ?_
      refine q_end ?_
      obtain rfl := someI hb1
      exact ⟨rfl, q12, s12, _, _, rfl, hF.sub ⟨rfl, rfl, rfl, rfl, rfl, trivial⟩, hS.mask [true, false], h12⟩
  · rintro e a w ⟨q14, s14, rfl, hF, hS, h14⟩
    refine x_ib (n_sq ?_)
    refine q_seq ?_
    refine q_region ?_
    refine q_x (v := s14.v) hF hS (ex_move rfl) rfl rfl fun a hF => ?_
    refine q_x (v := s14.v) hF hS (ex_assign rfl) rfl rfl fun a hF => ?_
    refine q_end (n_sq (q_ret ?_))
    obtain rfl := someI hr
    exact ret_of hF hS rfl (.tmp rfl .nil) ⟨q14, s14, rfl, hS.sel [0] (by decide), h14⟩

theorem c_spec_cbFrom (p_c : impl_Cube) (p_dims : List Int) (p_fixed : List Int) (r : impl_Cube) (hr : spec_cbFrom p_c p_dims p_fixed = some r) (w0 : World) (m : Mem) (hv : Vis m w0) (s1 : Sl) (h1 : Rd m s1 p_c.Sizes) (s2 : Sl) (h2 : Rd m s2 p_c.Cells) (s3 : Sl) (h3 : Rd m s3 p_dims) (s4 : Sl) (h4 : Rd m s4 p_fixed) :
    Ret Try.prog 69 [(.agg #[s1.v, s2.v]), s3.v, s4.v] w0 (fun v w => ∃ (q0' : Piece) (q1' : Piece) (s0' : Sl) (s1' : Sl), v = (.agg #[s0'.v, s1'.v]) ∧ St [] w0 w m [q0', q1'] ∧ OwnL m 3 q0' s0' r.Sizes ∧ OwnL m 3 q1' s1' r.Cells) := by
  unfold spec_cbFrom at hr
  refine ret_start Try.func69 rfl 58 rfl rfl m hv fun a hF hS => ?_
  refine q_seq ?_
  refine q_region ?_
  refine q_box (cs := [s1.v, s2.v]) hF hS rfl rfl rfl fun a w b5 hF hS => ?_
  refine q_alloc (cs := [nilS.v, nilS.v]) hF hS rfl rfl rfl fun a w b6 hF hS => ?_
  refine q_end (n_sq ?_)
  refine q_seq ?_
  refine q_region ?_
  refine q_x (v := (.pointer (some ⟨b5, 0, none⟩))) hF hS (ex_fieldAddr Try.underlying46 rfl sz33 rfl rfl) rfl rfl fun a hF => ?_
  refine q_x (v := s1.v) hF hS (ex_load1 1 0 Try.underlying33 rfl rfl rfl rfl) rfl rfl fun a hF => ?_
  refine q_x (v := s3.v) hF hS (ex_move rfl) rfl rfl fun a hF => ?_
  obtain ⟨t_7, ht_7, hr⟩ := bindS hr
  refine q_call (vs := [s1.v, s3.v]) hF hS Try.func93 (by kernel_rfl) rfl rfl rfl (c_spec_sPick p_c.Sizes p_dims t_7 ht_7 _ m hS.vis s1 h1 s3 h3) ?_
  rintro a w _ ⟨q9, s9, rfl, hR8, h9⟩ hF hS2
  have hS : St _ _ _ _ [q9, [⟨b6, [nilS.v, nilS.v], 46⟩], [⟨b5, [s1.v, s2.v], 46⟩]] := hS.joinF hR8
  refine q_x (v := (.agg #[s9.v, nilS.v])) hF hS (ex_build (cells := [s9.v, nilS.v]) rfl (by kernel_rfl)) rfl rfl fun a hF => ?_
  refine q_alloc (cs := [nilS.v, nilS.v]) hF hS rfl rfl rfl fun a w b10 hF hS => ?_
  refine q_store (vs := [s9.v, nilS.v]) (cs' := [s9.v, nilS.v]) 0 0 hF hS sz46 rfl rfl rfl rfl rfl rfl rfl rfl fun a w hF hS => ?_
  refine q_end (n_sq ?_)
  refine q_seq ?_
  refine q_seq ?_
  refine q_region ?_
  refine q_x (v := (.int .i64 0)) hF hS (ex_assign rfl) rfl rfl fun a hF => ?_
  refine q_end (n_sq ?_)
  refine q_block ?_
  obtain ⟨out_46, hl1, hr⟩ := bindS hr
  refine q_loop (fun (s : Int × impl_Cube) a w => ∃ (q14 : Piece), ∃ (s14 : Sl), ∃ i_11, ∃ out_12, s = (i_11, out_12) ∧ Fr a 58 [(1, s3.v), (2, s4.v), (3, (.pointer (some ⟨b5, 0, none⟩))), (6, (.pointer (some ⟨b6, 0, none⟩))), (7, (.pointer (some ⟨b10, 0, none⟩))), (8, (.int .i64 i_11))] ∧ St [] w0 w m [q14, [⟨b10, [s9.v, s14.v], 46⟩], q9, [⟨b6, [nilS.v, nilS.v], 46⟩], [⟨b5, [s1.v, s2.v], 46⟩]] ∧ OwnL m 3 q9 s9 out_12.Sizes ∧ out_12.Sizes = t_7 ∧ OwnL m 3 q14 s14 out_12.Cells) (fun (out_46 : impl_Cube) e a w => ∃ (q48 : Piece), ∃ (s48 : Sl), e = .exit 0 ∧ Fr a 58 [(6, (.pointer (some ⟨b6, 0, none⟩))), (7, (.pointer (some ⟨b10, 0, none⟩)))] ∧ St [] w0 w m [q9, q48, [⟨b10, [s9.v, s48.v], 46⟩], [⟨b6, [nilS.v, nilS.v], 46⟩]] ∧ OwnL m 3 q9 s9 out_46.Sizes ∧ out_46.Sizes = t_7 ∧ OwnL m 3 q48 s48 out_46.Cells) hl1 ⟨[], nilS, _, _, rfl, hF.sub ⟨rfl, rfl, rfl, rfl, rfl, rfl, trivial⟩, hS.sel [4, 0, 1, 2, 3] (by decide), h9, rfl, (OwnL.nil (α := Int) m 3)⟩ ?_ ?_
  · clear hF hS
    rintro s a w st ⟨q14, s14, i_11, out_12, rfl, hF, hS, h13, h13k, h14⟩ hb1
    unfold spec_cbFrom_l1 at hb1
    refine q_seq ?_
    refine q_seq ?_
    refine q_region ?_
    refine q_x (v := (.int .i64 i_11)) hF hS (ex_move rfl) rfl rfl fun a hF => ?_
    refine q_x (v := (.pointer (some ⟨b10, 0, none⟩))) hF hS (ex_fieldAddr Try.underlying46 rfl sz33 rfl rfl) rfl rfl fun a hF => ?_
    refine q_x (v := s9.v) hF hS (ex_load1 1 0 Try.underlying33 rfl rfl rfl rfl) rfl rfl fun a hF => ?_
    obtain ⟨m16, hl16, hv16, hz16⟩ := hS.lend
    obtain ⟨t_15, ht_15, hb1⟩ := bindS hb1
    refine q_call (vs := [s9.v]) hF hS Try.func59 (by kernel_rfl) rfl rfl rfl (c_spec_cbCount out_12.Sizes t_15 ht_15 _ m16 hv16 s9 (h13.froz hl16 (hz16 2 _ rfl))) ?_
    rintro a w _ rfl hF hS
    refine q_x (v := (.bool (decide (i_11 < t_15)))) hF hS (ex_ibin rfl rfl rfl) rfl rfl fun a hF => ?_
    refine q_end (n_sq ?_)
    rcases bcase (decide (i_11 < t_15)) with hc2 | hc2
    · have hb1 := cond_f hc2 hb1
      refine q_cond_f hF rfl hc2 ?_
      refine q_exit (x_sq ?_)
      obtain rfl := someI hb1
      exact ⟨nofun, .inl ⟨q14, s14, rfl, hF.sub ⟨rfl, rfl, trivial⟩, hS.sel [2, 0, 1, 3] (by decide), h13, h13k, h14⟩⟩
    · have hb1 := cond_t hc2 hb1
      refine q_cond_t hF rfl hc2 ?_
      refine q_skipc (n_sq ?_)
      refine q_seq ?_
      refine q_block ?_
      refine q_seq ?_
      refine q_region ?_
      refine q_x (v := s4.v) hF hS (ex_move rfl) rfl rfl fun a hF => ?_
      obtain ⟨t_17, ht_17, hb1⟩ := bindS hb1
      refine q_call (vs := [s4.v]) hF hS Try.func75 (by kernel_rfl) rfl rfl rfl (c_spec_l1Own p_fixed t_17 ht_17 _ m hS.vis s4 h4) ?_
      rintro a w _ ⟨q19, s19, rfl, hR18, h19⟩ hF hS2
      have hS : St _ _ _ _ [q19, q14, [⟨b10, [s9.v, s14.v], 46⟩], q9, [⟨b6, [nilS.v, nilS.v], 46⟩], [⟨b5, [s1.v, s2.v], 46⟩]] := hS.joinF hR18
      refine q_x (v := s19.v) hF hS (ex_assign rfl) rfl rfl fun a hF => ?_
      refine q_end (n_sq ?_)
      refine q_seq ?_
      refine q_seq ?_
      refine q_region ?_
      refine q_x (v := (.pointer (some ⟨b10, 0, none⟩))) hF hS (ex_fieldAddr Try.underlying46 rfl sz33 rfl rfl) rfl rfl fun a hF => ?_
      refine q_x (v := s9.v) hF hS (ex_load1 2 0 Try.underlying33 rfl rfl rfl rfl) rfl rfl fun a hF => ?_
      refine q_x (v := (.int .i64 i_11)) hF hS (ex_move rfl) rfl rfl fun a hF => ?_
      obtain ⟨m21, hl21, hv21, hz21⟩ := hS.lend
      obtain ⟨t_20, ht_20, hb1⟩ := bindS hb1
      refine q_call (vs := [s9.v, (.int .i64 i_11)]) hF hS Try.func82 (by kernel_rfl) rfl rfl rfl (c_spec_cbIndices out_12.Sizes i_11 t_20 ht_20 _ m21 hv21 s9 (h13.froz hl21 (hz21 3 _ rfl))) ?_
      rintro a w _ ⟨q23, s23, rfl, hR22, h23⟩ hF hS2
      have hS : St _ _ _ _ [q23, q19, q14, [⟨b10, [s9.v, s14.v], 46⟩], q9, [⟨b6, [nilS.v, nilS.v], 46⟩], [⟨b5, [s1.v, s2.v], 46⟩]] := hS.joinF hR22
      have h23 := h23.any m
      refine q_x (v := (.int .i64 (goLen t_20))) hF hS (ex_len Try.underlying33 rfl h23.len) rfl rfl fun a hF => ?_
      refine q_x (v := (.int .i64 0)) hF hS (ex_move rfl) rfl rfl fun a hF => ?_
      refine q_end (n_sq ?_)
      refine q_block ?_
      obtain ⟨at_34, hl3, hb1⟩ := bindS hb1
      refine q_loop (fun (s : (List Int) × Int) a w => ∃ (q25 : Piece), ∃ at_24, ∃ t_26, s = (at_24, t_26) ∧ Fr a 58 [(1, s3.v), (2, s4.v), (3, (.pointer (some ⟨b5, 0, none⟩))), (6, (.pointer (some ⟨b6, 0, none⟩))), (7, (.pointer (some ⟨b10, 0, none⟩))), (8, (.int .i64 i_11)), (9, s19.v), (29, s23.v), (30, (.int .i64 (goLen t_20))), (31, (.int .i64 t_26))] ∧ St [] w0 w m [q25, q23, q14, [⟨b10, [s9.v, s14.v], 46⟩], q9, [⟨b6, [nilS.v, nilS.v], 46⟩], [⟨b5, [s1.v, s2.v], 46⟩]] ∧ OwnL m 3 q25 s19 at_24) (fun (at_34 : (List Int)) e a w => ∃ (q35 : Piece), e = .exit 2 ∧ Fr a 58 [(1, s3.v), (2, s4.v), (3, (.pointer (some ⟨b5, 0, none⟩))), (6, (.pointer (some ⟨b6, 0, none⟩))), (7, (.pointer (some ⟨b10, 0, none⟩))), (8, (.int .i64 i_11)), (9, s19.v)] ∧ St [] w0 w m [q35, q9, q14, [⟨b10, [s9.v, s14.v], 46⟩], [⟨b6, [nilS.v, nilS.v], 46⟩], [⟨b5, [s1.v, s2.v], 46⟩]] ∧ OwnL m 3 q35 s19 at_34) hl3 ⟨q19, _, _, rfl, hF.sub ⟨rfl, rfl, rfl, rfl, rfl, rfl, rfl, rfl, rfl, rfl, trivial⟩, hS.sel [1, 0, 2, 3, 4, 5, 6] (by decide), h19⟩ ?_ ?_
      · clear hF hS
        rintro s a w st ⟨q25, at_24, t_26, rfl, hF, hS, h25⟩ hb3
        unfold spec_cbFrom_l2 at hb3
        refine q_seq ?_
        refine q_region ?_
        refine q_x (v := (.bool (decide (t_26 < (goLen t_20))))) hF hS (ex_ibin rfl rfl rfl) rfl rfl fun a hF => ?_
        refine q_end (n_sq ?_)
        refine q_seq ?_
        rcases bcase (decide (t_26 < (goLen t_20))) with hc4 | hc4
        · have hb3 := cond_f hc4 hb3
          refine q_cond_f hF rfl hc4 ?_
          refine q_exit (x_sq ?_)
          obtain rfl := someI hb3
          exact ⟨nofun, .inl ⟨q25, rfl, hF.sub ⟨rfl, rfl, rfl, rfl, rfl, rfl, rfl, trivial⟩, hS.sel [0, 4, 2, 3, 5, 6] (by decide), h25⟩⟩
        · have hb3 := cond_t hc4 hb3
          refine q_cond_t hF rfl hc4 ?_
          refine q_skipc (n_sq ?_)
          refine q_seq ?_
          refine q_block ?_
          refine q_seq ?_
          refine q_region ?_
          refine q_x (v := (.int .i64 t_26)) hF hS (ex_move rfl) rfl rfl fun a hF => ?_
          obtain ⟨e_27, he_27, hb3⟩ := bindS hb3
          obtain ⟨vs28, at28, d28⟩ := h23.at he_27 1 rfl
          obtain rfl : vs28 = [(.int .i64 e_27)] := d28
          refine q_x (v := (elP s23 (t_26.toNat * 1))) hF hS (ex_indexAddr Try.underlying33 sz3 rfl rfl (h23.idx he_27)) rfl rfl fun a hF => ?_
          refine q_x (v := (.int .i64 e_27)) hF hS (ex_loadE1 0 Try.underlying3 rfl rfl (at28.at 1 rfl) rfl rfl) rfl rfl fun a hF => ?_
          refine q_x (v := (.int .i64 t_26)) hF hS (ex_assign rfl) rfl rfl fun a hF => ?_
          refine q_x (v := (.int .i64 e_27)) hF hS (ex_assign rfl) rfl rfl fun a hF => ?_
          refine q_end (n_sq ?_)
          refine q_region ?_
          refine q_x (v := s19.v) hF hS (ex_move rfl) rfl rfl fun a hF => ?_
          refine q_x (v := s3.v) hF hS (ex_move rfl) rfl rfl fun a hF => ?_
          refine q_x (v := (.int .i64 t_26)) hF hS (ex_move rfl) rfl rfl fun a hF => ?_
          obtain ⟨e_29, he_29, hb3⟩ := bindS hb3
          obtain ⟨vs30, at30, d30⟩ := h3.at he_29 1 rfl
          obtain rfl : vs30 = [(.int .i64 e_29)] := d30
          refine q_x (v := (elP s3 (t_26.toNat * 1))) hF hS (ex_indexAddr Try.underlying33 sz3 rfl rfl (h3.idx he_29)) rfl rfl fun a hF => ?_
          refine q_x (v := (.int .i64 e_29)) hF hS (ex_loadE1 0 Try.underlying3 rfl rfl ((at30).at) rfl rfl) rfl rfl fun a hF => ?_
          refine q_x (v := (.int .i64 e_27)) hF hS (ex_move rfl) rfl rfl fun a hF => ?_
          obtain ⟨e_31, he_31, hb3⟩ := bindS hb3
          obtain ⟨vs32, at32, d32⟩ := h25.at he_31 1 rfl
          obtain rfl : vs32 = [(.int .i64 e_31)] := d32
          refine q_x (v := (elP s19 (e_29.toNat * 1))) hF hS (ex_indexAddr Try.underlying33 sz3 rfl rfl (h25.idx he_31)) rfl rfl fun a hF => ?_
          refine q_do rfl fun _ hK => wp_storeE (e' := e_27) (us := [(.int .i64 e_27)]) (vs := [(.int .i64 e_31)]) 0 hF hS h25 sz3 rfl rfl rfl rfl rfl rfl rfl he_31 at32 rfl rfl rfl fun w q33 hS h33 => hK _ _ ?_
          refine q_end (n_ib (n_sq ?_))
          refine q_region ?_
          refine q_x (v := (.int .i64 (w64 (t_26 + 1)))) hF hS (ex_ibin rfl rfl rfl) rfl rfl fun a hF => ?_
          refine q_x (v := (.int .i64 (w64 (t_26 + 1)))) hF hS (ex_move rfl) rfl rfl fun a hF => ?_
          refine q_end ?_
          obtain rfl := someI hb3
          exact ⟨rfl, q33, _, _, rfl, hF.sub ⟨rfl, rfl, rfl, rfl, rfl, rfl, rfl, rfl, rfl, rfl, trivial⟩, hS, h33⟩
      · rintro e a w ⟨q35, rfl, hF, hS, h35⟩
        refine x_ib (n_sq ?_)
        obtain ⟨out_43, hj5, hb1⟩ := bindS hb1
        refine q_join (fun a w => ∃ (q45 : Piece), ∃ (s45 : Sl), Fr a 58 [(1, s3.v), (2, s4.v), (3, (.pointer (some ⟨b5, 0, none⟩))), (6, (.pointer (some ⟨b6, 0, none⟩))), (7, (.pointer (some ⟨b10, 0, none⟩))), (8, (.int .i64 i_11))] ∧ St [] w0 w m [q9, q45, [⟨b10, [s9.v, s45.v], 46⟩], [⟨b6, [nilS.v, nilS.v], 46⟩], [⟨b5, [s1.v, s2.v], 46⟩]] ∧ OwnL m 3 q9 s9 out_43.Sizes ∧ out_43.Sizes = t_7 ∧ OwnL m 3 q45 s45 out_43.Cells) ?_ ?_
        · refine e_region [11, 13] mixed fun w' hw' => ?_
          have hS := hS.below hw'
          refine e_p (v := (.pointer (some ⟨b10, 1, none⟩))) 0 hF rfl (ex_fieldAddr Try.underlying46 rfl sz33 rfl rfl) rfl rfl (by kernel_rfl) (by kernel_rfl) (by kernel_rfl) fun a hF => ?_
          refine e_x (v := s14.v) 1 hF hS rfl (ex_load1 3 0 Try.underlying33 rfl rfl rfl rfl) rfl rfl (by kernel_rfl) (by kernel_rfl) (by kernel_rfl) (by kernel_rfl) fun a hF => ?_
          refine e_p (v := (.pointer (some ⟨b5, 1, none⟩))) 2 hF rfl (ex_fieldAddr Try.underlying46 rfl sz33 rfl rfl) rfl rfl (by kernel_rfl) (by kernel_rfl) (by kernel_rfl) fun a hF => ?_
          refine e_p (v := (.pointer (some ⟨b5, 0, none⟩))) 4 hF rfl (ex_fieldAddr Try.underlying46 rfl sz33 rfl rfl) rfl rfl (by kernel_rfl) (by kernel_rfl) (by kernel_rfl) fun a hF => ?_
          refine e_p (v := s19.v) 6 hF rfl (ex_move rfl) rfl rfl (by kernel_rfl) (by kernel_rfl) (by kernel_rfl) fun a hF => ?_
          obtain ⟨t_36, ht_36, hj5⟩ := bindS hj5
          obtain ⟨e_38, he_38, hj5⟩ := bindS hj5
          obtain ⟨l_41, hl_41, hj5⟩ := bindS hj5
          refine e_all [3, 5] (by kernel_rfl) rfl ⟨?_, ?_, trivial⟩
          · refine e_lx (v := s2.v) hF hS rfl (ex_load1 5 0 Try.underlying33 rfl rfl rfl rfl) rfl rfl fun a hF => ?_
            refine e_one 5 (by kernel_rfl) ?_
            refine e_lx (v := s1.v) hF hS rfl (ex_load1 5 0 Try.underlying33 rfl rfl rfl rfl) rfl rfl fun a hF => ?_
            refine e_one 7 (by kernel_rfl) ?_
            obtain ⟨m37, hl37, hv37, hz37⟩ := hS.lend
            refine e_call (vs := [s1.v, s19.v]) hF hS rfl Try.func83 (by kernel_rfl) rfl rfl rfl (c_spec_cbAt p_c.Sizes at_34 t_36 ht_36 _ m37 hv37 s1 (h1.mono hl37) s19 (h35.froz hl37 (hz37 0 _ rfl))) ?_
            rintro a w _ rfl hF hS
            obtain ⟨vs39, at39, d39⟩ := h2.at he_38 1 rfl
            obtain rfl : vs39 = [(.int .i64 e_38)] := d39
            refine e_p (v := (elP s2 (t_36.toNat * 1))) 8 hF rfl (ex_indexAddr Try.underlying33 sz3 rfl rfl (h2.idx he_38)) rfl rfl (by kernel_rfl) (by kernel_rfl) (by kernel_rfl) fun a hF => ?_
            refine e_one 9 (by kernel_rfl) ?_
            refine e_lx (v := (.int .i64 e_38)) hF hS rfl (ex_loadE1 0 Try.underlying3 rfl rfl ((at39).at) rfl rfl) rfl rfl fun a hF => ?_
            refine e_one 10 (by kernel_rfl) ?_
            refine e_op rfl rfl fun _ hK => wp_buildSlice' (l := ([e_38] : List Int)) (cells := [(.int .i64 e_38)]) hF hS Try.underlying33 inf3 rfl rfl (by kernel_rfl) rfl rfl rfl ⟨rfl, rfl⟩ rfl rfl fun a w q40 s40 hF hS h40 hb => hK _ _ hb ?_
            refine e_one 11 (by kernel_rfl) ?_
            have hS : St _ _ _ _ [q14, q40, q35, q9, [⟨b10, [s9.v, s14.v], 46⟩], [⟨b6, [nilS.v, nilS.v], 46⟩], [⟨b5, [s1.v, s2.v], 46⟩]] := hS.sel [3, 0, 1, 2, 4, 5, 6] (by decide)
            refine e_opl rfl rfl rfl fun _ hK => wp_append hF hS h14 Try.underlying33 inf3 rfl rfl rfl rfl (h40.vw hS (j := 1) rfl) rfl (by decide) hl_41 rfl fun a w q42 s42 hF hS h42 => hK _ _ ?_
            refine e_p (v := (.pointer (some ⟨b10, 1, none⟩))) 12 hF rfl (ex_fieldAddr Try.underlying46 rfl sz33 rfl rfl) rfl rfl (by kernel_rfl) (by kernel_rfl) (by kernel_rfl) fun a hF => ?_
            refine e_one 13 (by kernel_rfl) ?_
            refine e_store (vs := [s42.v]) (cs' := [s9.v, s42.v]) 4 0 hF hS rfl rfl sz33 rfl rfl rfl rfl rfl rfl rfl rfl fun a w hF hS => ?_
            refine e_end (by kernel_rfl) (n_jn ?_) _
            obtain rfl := someI hj5
            exact ⟨q42, s42, hF.sub ⟨rfl, rfl, rfl, rfl, rfl, rfl, trivial⟩, hS.sel [3, 0, 4, 5, 6] (by decide), h13, h13k, h42⟩
          · refine e_lx (v := s1.v) hF hS rfl (ex_load1 5 0 Try.underlying33 rfl rfl rfl rfl) rfl rfl fun a hF => ?_
            refine e_all [3, 7] (by kernel_rfl) rfl ⟨?_, ?_, trivial⟩
            · refine e_lx (v := s2.v) hF hS rfl (ex_load1 5 0 Try.underlying33 rfl rfl rfl rfl) rfl rfl fun a hF => ?_
              refine e_one 7 (by kernel_rfl) ?_
              obtain ⟨m37, hl37, hv37, hz37⟩ := hS.lend
              refine e_call (vs := [s1.v, s19.v]) hF hS rfl Try.func83 (by kernel_rfl) rfl rfl rfl (c_spec_cbAt p_c.Sizes at_34 t_36 ht_36 _ m37 hv37 s1 (h1.mono hl37) s19 (h35.froz hl37 (hz37 0 _ rfl))) ?_
              rintro a w _ rfl hF hS
              obtain ⟨vs39, at39, d39⟩ := h2.at he_38 1 rfl
              obtain rfl : vs39 = [(.int .i64 e_38)] := d39
              refine e_p (v := (elP s2 (t_36.toNat * 1))) 8 hF rfl (ex_indexAddr Try.underlying33 sz3 rfl rfl (h2.idx he_38)) rfl rfl (by kernel_rfl) (by kernel_rfl) (by kernel_rfl) fun a hF => ?_
              refine e_one 9 (by kernel_rfl) ?_
              refine e_lx (v := (.int .i64 e_38)) hF hS rfl (ex_loadE1 0 Try.underlying3 rfl rfl ((at39).at) rfl rfl) rfl rfl fun a hF => ?_
              refine e_one 10 (by kernel_rfl) ?_
              refine e_op rfl rfl fun _ hK => wp_buildSlice' (l := ([e_38] : List Int)) (cells := [(.int .i64 e_38)]) hF hS Try.underlying33 inf3 rfl rfl (by kernel_rfl) rfl rfl rfl ⟨rfl, rfl⟩ rfl rfl fun a w q40 s40 hF hS h40 hb => hK _ _ hb ?_
              refine e_one 11 (by kernel_rfl) ?_
              have hS : St _ _ _ _ [q14, q40, q35, q9, [⟨b10, [s9.v, s14.v], 46⟩], [⟨b6, [nilS.v, nilS.v], 46⟩], [⟨b5, [s1.v, s2.v], 46⟩]] := hS.sel [3, 0, 1, 2, 4, 5, 6] (by decide)
              refine e_opl rfl rfl rfl fun _ hK => wp_append hF hS h14 Try.underlying33 inf3 rfl rfl rfl rfl (h40.vw hS (j := 1) rfl) rfl (by decide) hl_41 rfl fun a w q42 s42 hF hS h42 => hK _ _ ?_
              refine e_p (v := (.pointer (some ⟨b10, 1, none⟩))) 12 hF rfl (ex_fieldAddr Try.underlying46 rfl sz33 rfl rfl) rfl rfl (by kernel_rfl) (by kernel_rfl) (by kernel_rfl) fun a hF => ?_
              refine e_one 13 (by kernel_rfl) ?_
              refine e_store (vs := [s42.v]) (cs' := [s9.v, s42.v]) 4 0 hF hS rfl rfl sz33 rfl rfl rfl rfl rfl rfl rfl rfl fun a w hF hS => ?_
              refine e_end (by kernel_rfl) (n_jn ?_) _
              obtain rfl := someI hj5
              exact ⟨q42, s42, hF.sub ⟨rfl, rfl, rfl, rfl, rfl, rfl, trivial⟩, hS.sel [3, 0, 4, 5, 6] (by decide), h13, h13k, h42⟩
            · obtain ⟨m37, hl37, hv37, hz37⟩ := hS.lend
              refine e_call (vs := [s1.v, s19.v]) hF hS rfl Try.func83 (by kernel_rfl) rfl rfl rfl (c_spec_cbAt p_c.Sizes at_34 t_36 ht_36 _ m37 hv37 s1 (h1.mono hl37) s19 (h35.froz hl37 (hz37 0 _ rfl))) ?_
              rintro a w _ rfl hF hS
              refine e_one 3 (by kernel_rfl) ?_
              refine e_lx (v := s2.v) hF hS rfl (ex_load1 5 0 Try.underlying33 rfl rfl rfl rfl) rfl rfl fun a hF => ?_
              obtain ⟨vs39, at39, d39⟩ := h2.at he_38 1 rfl
              obtain rfl : vs39 = [(.int .i64 e_38)] := d39
              refine e_p (v := (elP s2 (t_36.toNat * 1))) 8 hF rfl (ex_indexAddr Try.underlying33 sz3 rfl rfl (h2.idx he_38)) rfl rfl (by kernel_rfl) (by kernel_rfl) (by kernel_rfl) fun a hF => ?_
              refine e_one 9 (by kernel_rfl) ?_
              refine e_lx (v := (.int .i64 e_38)) hF hS rfl (ex_loadE1 0 Try.underlying3 rfl rfl ((at39).at) rfl rfl) rfl rfl fun a hF => ?_
              refine e_one 10 (by kernel_rfl) ?_
              refine e_op rfl rfl fun _ hK => wp_buildSlice' (l := ([e_38] : List Int)) (cells := [(.int .i64 e_38)]) hF hS Try.underlying33 inf3 rfl rfl (by kernel_rfl) rfl rfl rfl ⟨rfl, rfl⟩ rfl rfl fun a w q40 s40 hF hS h40 hb => hK _ _ hb ?_
              refine e_one 11 (by kernel_rfl) ?_
              have hS : St _ _ _ _ [q14, q40, q35, q9, [⟨b10, [s9.v, s14.v], 46⟩], [⟨b6, [nilS.v, nilS.v], 46⟩], [⟨b5, [s1.v, s2.v], 46⟩]] := hS.sel [3, 0, 1, 2, 4, 5, 6] (by decide)
              refine e_opl rfl rfl rfl fun _ hK => wp_append hF hS h14 Try.underlying33 inf3 rfl rfl rfl rfl (h40.vw hS (j := 1) rfl) rfl (by decide) hl_41 rfl fun a w q42 s42 hF hS h42 => hK _ _ ?_
              refine e_p (v := (.pointer (some ⟨b10, 1, none⟩))) 12 hF rfl (ex_fieldAddr Try.underlying46 rfl sz33 rfl rfl) rfl rfl (by kernel_rfl) (by kernel_rfl) (by kernel_rfl) fun a hF => ?_
              refine e_one 13 (by kernel_rfl) ?_
              refine e_store (vs := [s42.v]) (cs' := [s9.v, s42.v]) 4 0 hF hS rfl rfl sz33 rfl rfl rfl rfl rfl rfl rfl rfl fun a w hF hS => ?_
              refine e_end (by kernel_rfl) (n_jn ?_) _
              obtain rfl := someI hj5
              exact ⟨q42, s42, hF.sub ⟨rfl, rfl, rfl, rfl, rfl, rfl, trivial⟩, hS.sel [3, 0, 4, 5, 6] (by decide), h13, h13k, h42⟩
        · rintro a w ⟨q45, s45, hF, hS, h44, h44k, h45⟩
          refine n_ib (n_sq ?_)
          refine q_region ?_
          refine q_x (v := (.int .i64 i_11)) hF hS (ex_move rfl) rfl rfl fun a hF => ?_
          refine q_x (v := (.int .i64 (w64 (i_11 + 1)))) hF hS (ex_ibin rfl rfl rfl) rfl rfl fun a hF => ?_
          refine q_x (v := (.int .i64 (w64 (i_11 + 1)))) hF hS (ex_assign rfl) rfl rfl fun a hF => ?_
          refine q_end ?_
          obtain rfl := someI hb1
          exact ⟨rfl, q45, s45, _, _, rfl, hF.sub ⟨rfl, rfl, rfl, rfl, rfl, rfl, trivial⟩, hS.sel [1, 2, 0, 3, 4] (by decide), h44, h44k, h45⟩
  · rintro e a w ⟨q48, s48, rfl, hF, hS, h47, h47k, h48⟩
    refine x_ib (n_sq ?_)
    refine q_seq ?_
    refine q_region ?_
    refine q_x (v := (.agg #[s9.v, s48.v])) hF hS (ex_loadA (vs := [s9.v, s48.v]) 2 0 Try.underlying46 rfl sz46 rfl rfl rfl rfl) rfl rfl fun a hF => ?_
    refine q_store (vs := [s9.v, s48.v]) (cs' := [s9.v, s48.v]) 3 0 hF hS sz46 rfl rfl rfl rfl rfl rfl rfl rfl fun a w hF hS => ?_
    refine q_end (n_sq (q_ret ?_))
    obtain rfl := someI hr
    exact ret_of hF hS rfl (.cellA (us := [s9.v, s48.v]) 3 0 Try.underlying46 rfl sz46 rfl rfl rfl rfl .nil) ⟨q9, q48, s9, s48, rfl, hS.sel [0, 1] (by decide), h47, h48⟩

theorem c_spec_MarginOf (p_c : impl_Cube) (p_dims : List Int) (r : impl_Cube × Bool) (hr : spec_MarginOf p_c p_dims = some r) (w0 : World) (m : Mem) (hv : Vis m w0) (s1 : Sl) (h1 : Rd m s1 p_c.Sizes) (s2 : Sl) (h2 : Rd m s2 p_c.Cells) (s3 : Sl) (h3 : Rd m s3 p_dims) :
    Ret Try.prog 25 [(.agg #[s1.v, s2.v]), s3.v] w0 (fun v w => ∃ (q0' : Piece) (q1' : Piece) (s0' : Sl) (s1' : Sl), v = (.tuple #[(.agg #[s0'.v, s1'.v]), (.bool r.2)]) ∧ St [] w0 w m [q0', q1'] ∧ OwnL m 3 q0' s0' r.1.Sizes ∧ OwnL m 3 q1' s1' r.1.Cells) := by
  unfold spec_MarginOf at hr
  refine ret_start Try.func25 rfl 24 rfl rfl m hv fun a hF hS => ?_
  refine q_seq ?_
  refine q_region ?_
  refine q_box (cs := [s1.v, s2.v]) hF hS rfl rfl rfl fun a w b4 hF hS => ?_
  refine q_alloc (cs := [nilS.v, nilS.v]) hF hS rfl rfl rfl fun a w b5 hF hS => ?_
  refine q_x (v := (.bool false)) hF hS (ex_assign rfl) rfl rfl fun a hF => ?_
  refine q_end (n_sq ?_)
  refine q_seq ?_
  refine q_seq ?_
  obtain ⟨t_8, hj1, hr⟩ := bindS hr
  refine q_join (fun a w => Fr a 24 [(1, s3.v), (2, (.pointer (some ⟨b4, 0, none⟩))), (4, (.pointer (some ⟨b5, 0, none⟩))), (17, (.bool t_8))] ∧ St [] w0 w m [[⟨b5, [nilS.v, nilS.v], 46⟩], [⟨b4, [s1.v, s2.v], 46⟩]]) ?_ ?_
  · refine q_region ?_
    refine q_x (v := (.agg #[s1.v, s2.v])) hF hS (ex_loadA (vs := [s1.v, s2.v]) 1 0 Try.underlying46 rfl sz46 rfl rfl rfl rfl) rfl rfl fun a hF => ?_
    obtain ⟨t_6, ht_6, hj1⟩ := bindS hj1
    refine q_call (vs := [(.agg #[s1.v, s2.v])]) hF hS Try.func67 (by kernel_rfl) rfl rfl rfl (c_spec_cbGood p_c t_6 ht_6 _ m hS.vis s1 h1 s2 h2) ?_
    rintro a w _ rfl hF hS
    refine q_x (v := (.bool (!t_6))) hF hS (ex_not rfl) rfl rfl fun a hF => ?_
    refine q_x (v := (.bool (!t_6))) hF hS (ex_move rfl) rfl rfl fun a hF => ?_
    rcases bcase (!t_6) with hc2 | hc2
    · have hj1 := cond_f hc2 hj1
      refine q_xg (v := s3.v) hF hS (ex_move rfl) (wanted_t hF rfl rfl rfl hc2) rfl fun a hF => ?_
      refine q_xg (v := (.pointer (some ⟨b4, 0, none⟩))) hF hS (ex_fieldAddr Try.underlying46 rfl sz33 rfl rfl) (wanted_t hF rfl rfl rfl hc2) rfl fun a hF => ?_
      refine q_xg (v := s1.v) hF hS (ex_load1 1 0 Try.underlying33 rfl rfl rfl rfl) (wanted_t hF rfl rfl rfl hc2) rfl fun a hF => ?_
      refine q_xg (v := (.int .i64 (goLen p_c.Sizes))) hF hS (ex_len Try.underlying33 rfl h1.len) (wanted_t hF rfl rfl rfl hc2) rfl fun a hF => ?_
      refine q_xg (v := (.int .i64 (w64 ((goLen p_c.Sizes) - 1)))) hF hS (ex_ibin rfl rfl rfl) (wanted_t hF rfl rfl rfl hc2) rfl fun a hF => ?_
      obtain ⟨t_7, ht_7, hj1⟩ := bindS hj1
      refine q_callg (vs := [s3.v, (.int .i64 0), (.int .i64 (w64 ((goLen p_c.Sizes) - 1)))]) hF hS (wanted_t hF rfl rfl rfl hc2) Try.func68 (by kernel_rfl) rfl rfl rfl (c_spec_l1Rising p_dims 0 (w64 ((goLen p_c.Sizes) - 1)) t_7 ht_7 _ m hS.vis s3 h3) ?_
      rintro a w _ rfl hF hS
      refine q_xg (v := (.bool (!t_7))) hF hS (ex_not rfl) (wanted_t hF rfl rfl rfl hc2) rfl fun a hF => ?_
      refine q_x (v := (.bool (!t_7))) hF hS (ex_pick_f rfl rfl hc2) rfl rfl fun a hF => ?_
      refine q_end (n_jn ?_)
      obtain rfl := someI hj1
      exact ⟨hF.sub ⟨rfl, rfl, rfl, rfl, trivial⟩, hS⟩
    · have hj1 := cond_t hc2 hj1
      refine q_skip hF (wanted_f hF rfl rfl rfl hc2 rfl) rfl fun a hF => ?_
      refine q_skip hF (wanted_f hF rfl rfl rfl hc2 rfl) rfl fun a hF => ?_
      refine q_skip hF (wanted_f hF rfl rfl rfl hc2 rfl) rfl fun a hF => ?_
      refine q_skip hF (wanted_f hF rfl rfl rfl hc2 rfl) rfl fun a hF => ?_
      refine q_skip hF (wanted_f hF rfl rfl rfl hc2 rfl) rfl fun a hF => ?_
      refine q_skip hF (wanted_f hF rfl rfl rfl hc2 rfl) rfl fun a hF => ?_
      refine q_skip hF (wanted_f hF rfl rfl rfl hc2 rfl) rfl fun a hF => ?_
      refine q_x (v := (.bool true)) hF hS (ex_pick_t rfl rfl hc2) rfl rfl fun a hF => ?_
      refine q_end (n_jn ?_)
      obtain rfl := someI hj1
      exact ⟨hF.sub ⟨rfl, rfl, rfl, rfl, trivial⟩, hS⟩
  · rintro a w ⟨hF, hS⟩
    refine n_sq ?_
    rcases bcase (t_8) with hc3 | hc3
    · have hr := cond_f hc3 hr
      refine q_cond_f hF rfl hc3 ?_
      refine q_skipc (n_sq ?_)
      refine q_seq ?_
      refine q_region ?_
      refine q_x (v := (.agg #[s1.v, s2.v])) hF hS (ex_loadA (vs := [s1.v, s2.v]) 1 0 Try.underlying46 rfl sz46 rfl rfl rfl rfl) rfl rfl fun a hF => ?_
      refine q_x (v := s3.v) hF hS (ex_move rfl) rfl rfl fun a hF => ?_
      refine q_x (v := (.pointer (some ⟨b4, 0, none⟩))) hF hS (ex_fieldAddr Try.underlying46 rfl sz33 rfl rfl) rfl rfl fun a hF => ?_
      refine q_x (v := s1.v) hF hS (ex_load1 1 0 Try.underlying33 rfl rfl rfl rfl) rfl rfl fun a hF => ?_
      obtain ⟨t_9, ht_9, hr⟩ := bindS hr
      refine q_call (vs := [(.agg #[s1.v, s2.v]), s3.v, s1.v]) hF hS Try.func69 (by kernel_rfl) rfl rfl rfl (c_spec_cbFrom p_c p_dims p_c.Sizes t_9 ht_9 _ m hS.vis s1 h1 s2 h2 s3 h3 s1 h1) ?_
      rintro a w _ ⟨q11, q12, s11, s12, rfl, hR10, h11, h12⟩ hF hS2
      have hS : St _ _ _ _ [q11, q12, [⟨b5, [nilS.v, nilS.v], 46⟩], [⟨b4, [s1.v, s2.v], 46⟩]] := hS.joinF hR10
      refine q_store (vs := [s11.v, s12.v]) (cs' := [s11.v, s12.v]) 2 0 hF hS sz46 rfl rfl rfl rfl rfl rfl rfl rfl fun a w hF hS => ?_
      refine q_x (v := (.bool true)) hF hS (ex_assign rfl) rfl rfl fun a hF => ?_
      refine q_end (n_sq (q_ret ?_))
      obtain rfl := someI hr
      exact ret_of hF hS rfl (.cellA (us := [s11.v, s12.v]) 2 0 Try.underlying46 rfl sz46 rfl rfl rfl rfl (.tmp rfl .nil)) ⟨q11, q12, s11, s12, rfl, hS.sel [0, 1] (by decide), h11, h12⟩
    · have hr := cond_t hc3 hr
      refine q_cond_t hF rfl hc3 ?_
      refine q_seq ?_
      refine q_region ?_
      refine q_x (v := (.agg #[nilS.v, nilS.v])) hF hS (ex_build (cells := [nilS.v, nilS.v]) rfl (by kernel_rfl)) rfl rfl fun a hF => ?_
      refine q_store (vs := [nilS.v, nilS.v]) (cs' := [nilS.v, nilS.v]) 0 0 hF hS sz46 rfl rfl rfl rfl rfl rfl rfl rfl fun a w hF hS => ?_
      refine q_x (v := (.bool false)) hF hS (ex_assign rfl) rfl rfl fun a hF => ?_
      refine q_end (n_sq (q_ret (r_sq ?_)))
      obtain rfl := someI hr
      exact ret_of hF hS rfl (.cellA (us := [nilS.v, nilS.v]) 0 0 Try.underlying46 rfl sz46 rfl rfl rfl rfl (.tmp rfl .nil)) ⟨[], [], nilS, nilS, rfl, hS.sel [2, 3] (by decide), (OwnL.nil (α := Int) m 3), (OwnL.nil (α := Int) m 3)⟩

theorem c_laws_qInts (p_a : List Int) (p_b : List Int) (r : Bool) (hr : laws_qInts p_a p_b = some r) (w0 : World) (m : Mem) (hv : Vis m w0) (s1 : Sl) (h1 : Rd m s1 p_a) (s2 : Sl) (h2 : Rd m s2 p_b) :
    Ret Try.prog 26 [s1.v, s2.v] w0 (fun v _ => v = (.bool r)) := by
  unfold laws_qInts at hr
  refine ret_start Try.func26 rfl 26 rfl rfl m hv fun a hF hS => ?_
  refine q_seq ?_
  refine q_region ?_
  refine q_x (v := (.bool false)) hF hS (ex_assign rfl) rfl rfl fun a hF => ?_
  refine q_end (n_sq ?_)
  refine q_seq ?_
  refine q_seq ?_
  refine q_region ?_
  refine q_x (v := s1.v) hF hS (ex_move rfl) rfl rfl fun a hF => ?_
  refine q_x (v := (.int .i64 (goLen p_a))) hF hS (ex_len Try.underlying33 rfl h1.len) rfl rfl fun a hF => ?_
  refine q_x (v := s2.v) hF hS (ex_move rfl) rfl rfl fun a hF => ?_
  refine q_x (v := (.int .i64 (goLen p_b))) hF hS (ex_len Try.underlying33 rfl h2.len) rfl rfl fun a hF => ?_
  refine q_x (v := (.bool ((goLen p_a) != (goLen p_b)))) hF hS (ex_ibin rfl rfl rfl) rfl rfl fun a hF => ?_
  refine q_end (n_sq ?_)
  rcases bcase ((goLen p_a) != (goLen p_b)) with hc1 | hc1
  · have hr := cond_f hc1 hr
    refine q_cond_f hF rfl hc1 ?_
    refine q_skipc (n_sq ?_)
    refine q_seq ?_
    refine q_seq ?_
    refine q_region ?_
    refine q_x (v := s1.v) hF hS (ex_move rfl) rfl rfl fun a hF => ?_
    refine q_x (v := (.int .i64 (goLen p_a))) hF hS (ex_len Try.underlying33 rfl h1.len) rfl rfl fun a hF => ?_
    refine q_x (v := (.int .i64 0)) hF hS (ex_move rfl) rfl rfl fun a hF => ?_
    refine q_end (n_sq ?_)
    refine q_block ?_
    obtain ⟨o2, hl2, hr⟩ := bindS hr
    refine q_loop (fun (t_3 : Int) a w => Fr a 26 [(0, s1.v), (1, s2.v), (12, (.int .i64 (goLen p_a))), (13, (.int .i64 t_3))] ∧ St [] w0 w m []) (fun (o : (Unit) ⊕ (Bool)) e a w => o = .inl () ∧ e = .exit 0 ∧ Fr a 26 [] ∧ St [] w0 w m []) hl2 ⟨hF.sub ⟨rfl, rfl, rfl, rfl, trivial⟩, hS⟩ ?_ ?_
    · clear hF hS
      rintro t_3 a w st ⟨hF, hS⟩ hb2
      unfold laws_qInts_l1 at hb2
      refine q_seq ?_
      refine q_region ?_
      refine q_x (v := (.bool (decide (t_3 < (goLen p_a))))) hF hS (ex_ibin rfl rfl rfl) rfl rfl fun a hF => ?_
      refine q_end (n_sq ?_)
      refine q_seq ?_
      rcases bcase (decide (t_3 < (goLen p_a))) with hc3 | hc3
      · have hb2 := cond_f hc3 hb2
        refine q_cond_f hF rfl hc3 ?_
        refine q_exit (x_sq ?_)
        obtain rfl := someI hb2
        exact ⟨nofun, .inl ⟨rfl, rfl, hF.sub trivial, hS⟩⟩
      · have hb2 := cond_t hc3 hb2
        refine q_cond_t hF rfl hc3 ?_
        refine q_skipc (n_sq ?_)
        refine q_seq ?_
        refine q_block ?_
        refine q_seq ?_
        refine q_region ?_
        refine q_x (v := (.int .i64 t_3)) hF hS (ex_move rfl) rfl rfl fun a hF => ?_
        refine q_x (v := (.int .i64 t_3)) hF hS (ex_assign rfl) rfl rfl fun a hF => ?_
        refine q_end (n_sq ?_)
        refine q_seq ?_
        refine e_region [] mixed fun w' hw' => ?_
        have hS := hS.below hw'
        refine e_p (v := s1.v) 0 hF rfl (ex_move rfl) rfl rfl (by kernel_rfl) (by kernel_rfl) (by kernel_rfl) fun a hF => ?_
        refine e_p (v := (.int .i64 t_3)) 1 hF rfl (ex_move rfl) rfl rfl (by kernel_rfl) (by kernel_rfl) (by kernel_rfl) fun a hF => ?_
        obtain ⟨e_4, he_4, hb2⟩ := bindS hb2
        obtain ⟨vs5, at5, d5⟩ := h1.at he_4 1 rfl
        obtain rfl : vs5 = [(.int .i64 e_4)] := d5
        refine e_p (v := (elP s1 (t_3.toNat * 1))) 2 hF rfl (ex_indexAddr Try.underlying33 sz3 rfl rfl (h1.idx he_4)) rfl rfl (by kernel_rfl) (by kernel_rfl) (by kernel_rfl) fun a hF => ?_
        refine e_x (v := (.int .i64 e_4)) 3 hF hS rfl (ex_loadE1 0 Try.underlying3 rfl rfl ((at5).at) rfl rfl) rfl rfl (by kernel_rfl) (by kernel_rfl) (by kernel_rfl) (by kernel_rfl) fun a hF => ?_
        refine e_p (v := s2.v) 4 hF rfl (ex_move rfl) rfl rfl (by kernel_rfl) (by kernel_rfl) (by kernel_rfl) fun a hF => ?_
        refine e_p (v := (.int .i64 t_3)) 5 hF rfl (ex_move rfl) rfl rfl (by kernel_rfl) (by kernel_rfl) (by kernel_rfl) fun a hF => ?_
        obtain ⟨e_6, he_6, hb2⟩ := bindS hb2
        obtain ⟨vs7, at7, d7⟩ := h2.at he_6 1 rfl
        obtain rfl : vs7 = [(.int .i64 e_6)] := d7
        refine e_p (v := (elP s2 (t_3.toNat * 1))) 6 hF rfl (ex_indexAddr Try.underlying33 sz3 rfl rfl (h2.idx he_6)) rfl rfl (by kernel_rfl) (by kernel_rfl) (by kernel_rfl) fun a hF => ?_
        refine e_x (v := (.int .i64 e_6)) 7 hF hS rfl (ex_loadE1 0 Try.underlying3 rfl rfl ((at7).at) rfl rfl) rfl rfl (by kernel_rfl) (by kernel_rfl) (by kernel_rfl) (by kernel_rfl) fun a hF => ?_
        refine e_p (v := (.bool (e_4 != e_6))) 8 hF rfl (ex_ibin rfl rfl rfl) rfl rfl (by kernel_rfl) (by kernel_rfl) (by kernel_rfl) fun a hF => ?_
        refine e_end (by kernel_rfl) (n_sq ?_) _
        rcases bcase (e_4 != e_6) with hc4 | hc4
        · have hb2 := cond_f hc4 hb2
          refine q_cond_f hF rfl hc4 ?_
          refine q_skipc (n_ib (n_sq ?_))
          refine q_region ?_
          refine q_x (v := (.int .i64 (w64 (t_3 + 1)))) hF hS (ex_ibin rfl rfl rfl) rfl rfl fun a hF => ?_
          refine q_x (v := (.int .i64 (w64 (t_3 + 1)))) hF hS (ex_move rfl) rfl rfl fun a hF => ?_
          refine q_end ?_
          obtain rfl := someI hb2
          exact ⟨rfl, hF.sub ⟨rfl, rfl, rfl, rfl, trivial⟩, hS⟩
        · have hb2 := cond_t hc4 hb2
          refine q_cond_t hF rfl hc4 ?_
          refine q_seq ?_
          refine q_region ?_
          refine q_x (v := (.bool false)) hF hS (ex_assign rfl) rfl rfl fun a hF => ?_
          refine q_end (n_sq (q_ret (r_ib (r_sq ?_))))
          obtain rfl := someI hb2
          refine ⟨nofun, .inr fun ho => ?_⟩
          subst ho
          refine r_ib (r_sq ?_)
          obtain rfl := someI hr
          exact ret_of hF hS rfl (.tmp rfl .nil) rfl
    · rintro e a w ⟨rfl, rfl, hF, hS⟩
      refine x_ib (n_sq ?_)
      refine q_seq ?_
      refine q_region ?_
      refine q_x (v := (.bool true)) hF hS (ex_assign rfl) rfl rfl fun a hF => ?_
      refine q_end (n_sq (q_ret ?_))
      obtain rfl := someI hr
      exact ret_of hF hS rfl (.tmp rfl .nil) rfl
  · have hr := cond_t hc1 hr
    refine q_cond_t hF rfl hc1 ?_
    refine q_seq ?_
    refine q_region ?_
    refine q_x (v := (.bool false)) hF hS (ex_assign rfl) rfl rfl fun a hF => ?_
    refine q_end (n_sq (q_ret (r_sq ?_)))
    obtain rfl := someI hr
    exact ret_of hF hS rfl (.tmp rfl .nil) rfl

theorem c_impl_baseOf (p_c : impl_Cube) (r : (List Int)) (hr : impl_baseOf p_c = some r) (w0 : World) (m : Mem) (hv : Vis m w0) (s1 : Sl) (h1 : Rd m s1 p_c.Sizes) (s2 : Sl) (h2 : Rd m s2 p_c.Cells) :
    Ret Try.prog 72 [(.agg #[s1.v, s2.v])] w0 (fun v w => ∃ (q0' : Piece) (s0' : Sl), v = s0'.v ∧ St [] w0 w m [q0'] ∧ OwnL m 3 q0' s0' r) := by
  unfold impl_baseOf at hr
  refine ret_start Try.func72 rfl 27 rfl rfl m hv fun a hF hS => ?_
  refine q_seq ?_
  refine q_region ?_
  refine q_box (cs := [s1.v, s2.v]) hF hS rfl rfl rfl fun a w b3 hF hS => ?_
  refine q_x (v := nilS.v) hF hS (ex_assign rfl) rfl rfl fun a hF => ?_
  refine q_end (n_sq ?_)
  refine q_seq ?_
  refine q_region ?_
  refine q_x (v := nilS.v) hF hS (ex_assign rfl) rfl rfl fun a hF => ?_
  refine q_end (n_sq ?_)
  refine q_seq ?_
  refine q_seq ?_
  refine q_region ?_
  refine q_x (v := (.pointer (some ⟨b3, 1, none⟩))) hF hS (ex_fieldAddr Try.underlying46 rfl sz33 rfl rfl) rfl rfl fun a hF => ?_
  refine q_x (v := s2.v) hF hS (ex_load1 0 0 Try.underlying33 rfl rfl rfl rfl) rfl rfl fun a hF => ?_
  refine q_x (v := (.int .i64 (goLen p_c.Cells))) hF hS (ex_len Try.underlying33 rfl h2.len) rfl rfl fun a hF => ?_
  refine q_x (v := (.int .i64 0)) hF hS (ex_move rfl) rfl rfl fun a hF => ?_
  refine q_end (n_sq ?_)
  refine q_block ?_
  obtain ⟨base_19, hl1, hr⟩ := bindS hr
  refine q_loop (fun (s : (List Int) × Int) a w => ∃ (q5 : Piece), ∃ (s5 : Sl), ∃ base_4, ∃ t_6, s = (base_4, t_6) ∧ Fr a 27 [(1, (.pointer (some ⟨b3, 0, none⟩))), (3, s5.v), (7, s2.v), (8, (.int .i64 (goLen p_c.Cells))), (9, (.int .i64 t_6))] ∧ St [] w0 w m [q5, [⟨b3, [s1.v, s2.v], 46⟩]] ∧ OwnL m 3 q5 s5 base_4) (fun (base_19 : (List Int)) e a w => ∃ (q20 : Piece), ∃ (s20 : Sl), e = .exit 0 ∧ Fr a 27 [(3, s20.v)] ∧ St [] w0 w m [q20] ∧ OwnL m 3 q20 s20 base_19) hl1 ⟨[], nilS, _, _, rfl, hF.sub ⟨rfl, rfl, rfl, rfl, rfl, trivial⟩, hS.sel [1, 0] (by decide), (OwnL.nil (α := Int) m 3)⟩ ?_ ?_
  · clear hF hS
    rintro s a w st ⟨q5, s5, base_4, t_6, rfl, hF, hS, h5⟩ hb1
    unfold impl_baseOf_l1 at hb1
    refine q_seq ?_
    refine q_region ?_
    refine q_x (v := (.bool (decide (t_6 < (goLen p_c.Cells))))) hF hS (ex_ibin rfl rfl rfl) rfl rfl fun a hF => ?_
    refine q_end (n_sq ?_)
    refine q_seq ?_
    rcases bcase (decide (t_6 < (goLen p_c.Cells))) with hc2 | hc2
    · have hb1 := cond_f hc2 hb1
      refine q_cond_f hF rfl hc2 ?_
      refine q_exit (x_sq ?_)
      obtain rfl := someI hb1
      exact ⟨nofun, .inl ⟨q5, s5, rfl, hF.sub ⟨rfl, trivial⟩, hS.mask [true, false], h5⟩⟩
    · have hb1 := cond_t hc2 hb1
      refine q_cond_t hF rfl hc2 ?_
      refine q_skipc (n_sq ?_)
      refine q_seq ?_
      refine q_block ?_
      refine q_seq ?_
      refine q_region ?_
      refine q_x (v := (.int .i64 t_6)) hF hS (ex_move rfl) rfl rfl fun a hF => ?_
      obtain ⟨e_7, he_7, hb1⟩ := bindS hb1
      obtain ⟨vs8, at8, d8⟩ := h2.at he_7 1 rfl
      obtain rfl : vs8 = [(.int .i64 e_7)] := d8
      refine q_x (v := (elP s2 (t_6.toNat * 1))) hF hS (ex_indexAddr Try.underlying33 sz3 rfl rfl (h2.idx he_7)) rfl rfl fun a hF => ?_
      refine q_x (v := (.int .i64 e_7)) hF hS (ex_loadE1 0 Try.underlying3 rfl rfl ((at8).at) rfl rfl) rfl rfl fun a hF => ?_
      refine q_x (v := (.int .i64 t_6)) hF hS (ex_assign rfl) rfl rfl fun a hF => ?_
      refine q_x (v := (.int .i64 e_7)) hF hS (ex_assign rfl) rfl rfl fun a hF => ?_
      refine q_end (n_sq ?_)
      refine q_seq ?_
      refine e_region [] mixed fun w' hw' => ?_
      have hS := hS.below hw'
      refine e_p (v := (.pointer (some ⟨b3, 0, none⟩))) 0 hF rfl (ex_fieldAddr Try.underlying46 rfl sz33 rfl rfl) rfl rfl (by kernel_rfl) (by kernel_rfl) (by kernel_rfl) fun a hF => ?_
      refine e_x (v := s1.v) 1 hF hS rfl (ex_load1 1 0 Try.underlying33 rfl rfl rfl rfl) rfl rfl (by kernel_rfl) (by kernel_rfl) (by kernel_rfl) (by kernel_rfl) fun a hF => ?_
      refine e_p (v := (.pointer (some ⟨b3, 0, none⟩))) 2 hF rfl (ex_fieldAddr Try.underlying46 rfl sz33 rfl rfl) rfl rfl (by kernel_rfl) (by kernel_rfl) (by kernel_rfl) fun a hF => ?_
      refine e_x (v := s1.v) 3 hF hS rfl (ex_load1 1 0 Try.underlying33 rfl rfl rfl rfl) rfl rfl (by kernel_rfl) (by kernel_rfl) (by kernel_rfl) (by kernel_rfl) fun a hF => ?_
      refine e_p (v := (.int .i64 t_6)) 4 hF rfl (ex_move rfl) rfl rfl (by kernel_rfl) (by kernel_rfl) (by kernel_rfl) fun a hF => ?_
      refine e_one 5 (by kernel_rfl) ?_
      obtain ⟨t_9, ht_9, hb1⟩ := bindS hb1
      refine e_call (vs := [s1.v, (.int .i64 t_6)]) hF hS rfl Try.func79 (by kernel_rfl) rfl rfl rfl (c_impl_indexOf p_c.Sizes t_6 t_9 ht_9 _ m hS.vis s1 h1) ?_
      rintro a w _ ⟨q11, s11, rfl, hR10, h11⟩ hF hS2
      have hS : St _ _ _ _ [q11, q5, [⟨b3, [s1.v, s2.v], 46⟩]] := hS.joinF hR10
      refine e_one 6 (by kernel_rfl) ?_
      obtain ⟨m13, hl13, hv13, hz13⟩ := hS.lend
      obtain ⟨t_12, ht_12, hb1⟩ := bindS hb1
      refine e_call (vs := [s1.v, s11.v]) hF hS rfl Try.func89 (by kernel_rfl) rfl rfl rfl (c_impl_isBase p_c.Sizes t_9 t_12 ht_12 _ m13 hv13 s1 (h1.mono hl13) s11 (h11.froz hl13 (hz13 0 _ rfl))) ?_
      rintro a w _ rfl hF hS
      refine e_end (by kernel_rfl) (n_sq ?_) _
      obtain ⟨base_17, hj3, hb1⟩ := bindS hb1
      refine q_join (fun a w => ∃ (q18 : Piece), ∃ (s18 : Sl), Fr a 27 [(1, (.pointer (some ⟨b3, 0, none⟩))), (3, s18.v), (7, s2.v), (8, (.int .i64 (goLen p_c.Cells))), (9, (.int .i64 t_6))] ∧ St [] w0 w m [q18, [⟨b3, [s1.v, s2.v], 46⟩]] ∧ OwnL m 3 q18 s18 base_17) ?_ ?_
      · rcases bcase (t_12) with hc4 | hc4
        · have hj3 := cond_f hc4 hj3
          refine q_cond_f hF rfl hc4 ?_
          refine q_skipc (n_jn ?_)
          obtain rfl := someI hj3
          exact ⟨q5, s5, hF.sub ⟨rfl, rfl, rfl, rfl, rfl, trivial⟩, hS.mask [false, true, true], h5⟩
        · have hj3 := cond_t hc4 hj3
          refine q_cond_t hF rfl hc4 ?_
          refine q_region ?_
          refine q_x (v := s5.v) hF hS (ex_move rfl) rfl rfl fun a hF => ?_
          refine q_x (v := (.int .i64 e_7)) hF hS (ex_move rfl) rfl rfl fun a hF => ?_
          refine q_do rfl fun _ hK => wp_buildSlice' (l := ([e_7] : List Int)) (cells := [(.int .i64 e_7)]) hF hS Try.underlying33 inf3 rfl rfl (by kernel_rfl) rfl rfl rfl ⟨rfl, rfl⟩ rfl rfl fun a w q14 s14 hF hS h14 _ => hK _ _ ?_
          have hS : St _ _ _ _ [q5, q14, q11, [⟨b3, [s1.v, s2.v], 46⟩]] := hS.sel [2, 0, 1, 3] (by decide)
          obtain ⟨l_15, hl_15, hj3⟩ := bindS hj3
          refine q_do rfl fun _ hK => wp_append hF hS h5 Try.underlying33 inf3 rfl rfl rfl rfl (h14.vw hS (j := 1) rfl) rfl (by decide) hl_15 rfl fun a w q16 s16 hF hS h16 => hK _ _ ?_
          refine q_x (v := s16.v) hF hS (ex_assign rfl) rfl rfl fun a hF => ?_
          refine q_end (n_jn ?_)
          obtain rfl := someI hj3
          exact ⟨q16, s16, hF.sub ⟨rfl, rfl, rfl, rfl, rfl, trivial⟩, hS.mask [true, false, false, true], h16⟩
      · rintro a w ⟨q18, s18, hF, hS, h18⟩
        refine n_ib (n_sq ?_)
        refine q_region ?_
        refine q_x (v := (.int .i64 (w64 (t_6 + 1)))) hF hS (ex_ibin rfl rfl rfl) rfl rfl fun a hF => ?_
        refine q_x (v := (.int .i64 (w64 (t_6 + 1)))) hF hS (ex_move rfl) rfl rfl fun a hF => ?_
        refine q_end ?_
        obtain rfl := someI hb1
        exact ⟨rfl, q18, s18, _, _, rfl, hF.sub ⟨rfl, rfl, rfl, rfl, rfl, trivial⟩, hS, h18⟩
  · rintro e a w ⟨q20, s20, rfl, hF, hS, h20⟩
    refine x_ib (n_sq ?_)
    refine q_seq ?_
    refine q_region ?_
    refine q_x (v := s20.v) hF hS (ex_move rfl) rfl rfl fun a hF => ?_
    refine q_x (v := s20.v) hF hS (ex_assign rfl) rfl rfl fun a hF => ?_
    refine q_end (n_sq (q_ret ?_))
    obtain rfl := someI hr
    exact ret_of hF hS rfl (.tmp rfl .nil) ⟨q20, s20, rfl, hS.sel [0] (by decide), h20⟩

theorem c_impl_BaseOf (p_c : impl_Cube) (r : (List Int) × Bool) (hr : impl_BaseOf p_c = some r) (w0 : World) (m : Mem) (hv : Vis m w0) (s1 : Sl) (h1 : Rd m s1 p_c.Sizes) (s2 : Sl) (h2 : Rd m s2 p_c.Cells) :
    Ret Try.prog 28 [(.agg #[s1.v, s2.v])] w0 (fun v w => ∃ (q0' : Piece) (s0' : Sl), v = (.tuple #[s0'.v, (.bool r.2)]) ∧ St [] w0 w m [q0'] ∧ OwnL m 3 q0' s0' r.1) := by
  unfold impl_BaseOf at hr
  refine ret_start Try.func28 rfl 9 rfl rfl m hv fun a hF hS => ?_
  refine q_seq ?_
  refine q_region ?_
  refine q_box (cs := [s1.v, s2.v]) hF hS rfl rfl rfl fun a w b3 hF hS => ?_
  refine q_x (v := nilS.v) hF hS (ex_assign rfl) rfl rfl fun a hF => ?_
  refine q_x (v := (.bool false)) hF hS (ex_assign rfl) rfl rfl fun a hF => ?_
  refine q_end (n_sq ?_)
  refine q_seq ?_
  refine q_seq ?_
  refine q_region ?_
  refine q_x (v := (.agg #[s1.v, s2.v])) hF hS (ex_loadA (vs := [s1.v, s2.v]) 0 0 Try.underlying46 rfl sz46 rfl rfl rfl rfl) rfl rfl fun a hF => ?_
  obtain ⟨t_4, ht_4, hr⟩ := bindS hr
  refine q_call (vs := [(.agg #[s1.v, s2.v])]) hF hS Try.func27 (by kernel_rfl) rfl rfl rfl (c_impl_IsCube p_c t_4 ht_4 _ m hS.vis s1 h1 s2 h2) ?_
  rintro a w _ rfl hF hS
  refine q_x (v := (.bool (!t_4))) hF hS (ex_not rfl) rfl rfl fun a hF => ?_
  refine q_end (n_sq ?_)
  rcases bcase (!t_4) with hc1 | hc1
  · have hr := cond_f hc1 hr
    refine q_cond_f hF rfl hc1 ?_
    refine q_skipc (n_sq ?_)
    refine q_seq ?_
    refine q_region ?_
    refine q_x (v := (.agg #[s1.v, s2.v])) hF hS (ex_loadA (vs := [s1.v, s2.v]) 0 0 Try.underlying46 rfl sz46 rfl rfl rfl rfl) rfl rfl fun a hF => ?_
    obtain ⟨t_5, ht_5, hr⟩ := bindS hr
    refine q_call (vs := [(.agg #[s1.v, s2.v])]) hF hS Try.func72 (by kernel_rfl) rfl rfl rfl (c_impl_baseOf p_c t_5 ht_5 _ m hS.vis s1 h1 s2 h2) ?_
    rintro a w _ ⟨q7, s7, rfl, hR6, h7⟩ hF hS2
    have hS : St _ _ _ _ [q7, [⟨b3, [s1.v, s2.v], 46⟩]] := hS.joinF hR6
    refine q_x (v := s7.v) hF hS (ex_assign rfl) rfl rfl fun a hF => ?_
    refine q_x (v := (.bool true)) hF hS (ex_assign rfl) rfl rfl fun a hF => ?_
    refine q_end (n_sq (q_ret ?_))
    obtain rfl := someI hr
    exact ret_of hF hS rfl (.tmp rfl (.tmp rfl .nil)) ⟨q7, s7, rfl, hS.sel [0] (by decide), h7⟩
  · have hr := cond_t hc1 hr
    refine q_cond_t hF rfl hc1 ?_
    refine q_seq ?_
    refine q_region ?_
    refine q_x (v := nilS.v) hF hS (ex_assign rfl) rfl rfl fun a hF => ?_
    refine q_x (v := (.bool false)) hF hS (ex_assign rfl) rfl rfl fun a hF => ?_
    refine q_end (n_sq (q_ret (r_sq ?_)))
    obtain rfl := someI hr
    exact ret_of hF hS rfl (.tmp rfl (.tmp rfl .nil)) ⟨[], nilS, rfl, hS.sel [1] (by decide), (OwnL.nil (α := Int) m 3)⟩

theorem c_impl_FirstBreak (p_c : impl_Cube) (r : Int × Bool) (hr : impl_FirstBreak p_c = some r) (w0 : World) (m : Mem) (hv : Vis m w0) (s1 : Sl) (h1 : Rd m s1 p_c.Sizes) (s2 : Sl) (h2 : Rd m s2 p_c.Cells) :
    Ret Try.prog 29 [(.agg #[s1.v, s2.v])] w0 (fun v _ => v = (.tuple #[(.int .i64 r.1), (.bool r.2)])) := by
  unfold impl_FirstBreak at hr
  refine ret_start Try.func29 rfl 9 rfl rfl m hv fun a hF hS => ?_
  refine q_seq ?_
  refine q_region ?_
  refine q_box (cs := [s1.v, s2.v]) hF hS rfl rfl rfl fun a w b3 hF hS => ?_
  refine q_x (v := (.int .i64 0)) hF hS (ex_assign rfl) rfl rfl fun a hF => ?_
  refine q_x (v := (.bool false)) hF hS (ex_assign rfl) rfl rfl fun a hF => ?_
  refine q_end (n_sq ?_)
  refine q_seq ?_
  refine q_seq ?_
  refine q_region ?_
  refine q_x (v := (.agg #[s1.v, s2.v])) hF hS (ex_loadA (vs := [s1.v, s2.v]) 0 0 Try.underlying46 rfl sz46 rfl rfl rfl rfl) rfl rfl fun a hF => ?_
  obtain ⟨t_4, ht_4, hr⟩ := bindS hr
  refine q_call (vs := [(.agg #[s1.v, s2.v])]) hF hS Try.func70 (by kernel_rfl) rfl rfl rfl (c_impl_hasRightForm p_c t_4 ht_4 _ m hS.vis s1 h1 s2 h2) ?_
  rintro a w _ rfl hF hS
  refine q_x (v := (.bool (!t_4))) hF hS (ex_not rfl) rfl rfl fun a hF => ?_
  refine q_end (n_sq ?_)
  rcases bcase (!t_4) with hc1 | hc1
  · have hr := cond_f hc1 hr
    refine q_cond_f hF rfl hc1 ?_
    refine q_skipc (n_sq ?_)
    refine q_seq ?_
    refine q_region ?_
    refine q_x (v := (.agg #[s1.v, s2.v])) hF hS (ex_loadA (vs := [s1.v, s2.v]) 0 0 Try.underlying46 rfl sz46 rfl rfl rfl rfl) rfl rfl fun a hF => ?_
    obtain ⟨t_5, ht_5, hr⟩ := bindS hr
    refine q_call (vs := [(.agg #[s1.v, s2.v])]) hF hS Try.func71 (by kernel_rfl) rfl rfl rfl (c_impl_firstBreak p_c t_5 ht_5 _ m hS.vis s1 h1 s2 h2) ?_
    rintro a w _ rfl hF hS
    refine q_x (v := (.int .i64 t_5)) hF hS (ex_assign rfl) rfl rfl fun a hF => ?_
    refine q_x (v := (.bool true)) hF hS (ex_assign rfl) rfl rfl fun a hF => ?_
    refine q_end (n_sq (q_ret ?_))
    obtain rfl := someI hr
    exact ret_of hF hS rfl (.tmp rfl (.tmp rfl .nil)) rfl
  · have hr := cond_t hc1 hr
    refine q_cond_t hF rfl hc1 ?_
    refine q_seq ?_
    refine q_region ?_
    refine q_x (v := (.int .i64 0)) hF hS (ex_assign rfl) rfl rfl fun a hF => ?_
    refine q_x (v := (.bool false)) hF hS (ex_assign rfl) rfl rfl fun a hF => ?_
    refine q_end (n_sq (q_ret (r_sq ?_)))
    obtain rfl := someI hr
    exact ret_of hF hS rfl (.tmp rfl (.tmp rfl .nil)) rfl

theorem c_impl_CubeCell (p_c : impl_Cube) (p_index : List Int) (r : Int × Bool) (hr : impl_CubeCell p_c p_index = some r) (w0 : World) (m : Mem) (hv : Vis m w0) (s1 : Sl) (h1 : Rd m s1 p_c.Sizes) (s2 : Sl) (h2 : Rd m s2 p_c.Cells) (s3 : Sl) (h3 : Rd m s3 p_index) :
    Ret Try.prog 30 [(.agg #[s1.v, s2.v]), s3.v] w0 (fun v _ => v = (.tuple #[(.int .i64 r.1), (.bool r.2)])) := by
  unfold impl_CubeCell at hr
  refine ret_start Try.func30 rfl 46 rfl rfl m hv fun a hF hS => ?_
  refine q_seq ?_
  refine q_region ?_
  refine q_box (cs := [s1.v, s2.v]) hF hS rfl rfl rfl fun a w b4 hF hS => ?_
  refine q_x (v := (.int .i64 0)) hF hS (ex_assign rfl) rfl rfl fun a hF => ?_
  refine q_x (v := (.bool false)) hF hS (ex_assign rfl) rfl rfl fun a hF => ?_
  refine q_end (n_sq ?_)
  refine q_seq ?_
  refine q_seq ?_
  obtain ⟨t_6, hj1, hr⟩ := bindS hr
  refine q_join (fun a w => Fr a 46 [(1, s3.v), (2, (.pointer (some ⟨b4, 0, none⟩))), (18, (.bool t_6))] ∧ St [] w0 w m [[⟨b4, [s1.v, s2.v], 46⟩]]) ?_ ?_
  · refine q_region ?_
    refine q_x (v := (.agg #[s1.v, s2.v])) hF hS (ex_loadA (vs := [s1.v, s2.v]) 0 0 Try.underlying46 rfl sz46 rfl rfl rfl rfl) rfl rfl fun a hF => ?_
    obtain ⟨t_5, ht_5, hj1⟩ := bindS hj1
    refine q_call (vs := [(.agg #[s1.v, s2.v])]) hF hS Try.func27 (by kernel_rfl) rfl rfl rfl (c_impl_IsCube p_c t_5 ht_5 _ m hS.vis s1 h1 s2 h2) ?_
    rintro a w _ rfl hF hS
    refine q_x (v := (.bool (!t_5))) hF hS (ex_not rfl) rfl rfl fun a hF => ?_
    refine q_x (v := (.bool (!t_5))) hF hS (ex_move rfl) rfl rfl fun a hF => ?_
    rcases bcase (!t_5) with hc2 | hc2
    · have hj1 := cond_f hc2 hj1
      refine q_xg (v := s3.v) hF hS (ex_move rfl) (wanted_t hF rfl rfl rfl hc2) rfl fun a hF => ?_
      refine q_xg (v := (.int .i64 (goLen p_index))) hF hS (ex_len Try.underlying33 rfl h3.len) (wanted_t hF rfl rfl rfl hc2) rfl fun a hF => ?_
      refine q_xg (v := (.pointer (some ⟨b4, 0, none⟩))) hF hS (ex_fieldAddr Try.underlying46 rfl sz33 rfl rfl) (wanted_t hF rfl rfl rfl hc2) rfl fun a hF => ?_
      refine q_xg (v := s1.v) hF hS (ex_load1 0 0 Try.underlying33 rfl rfl rfl rfl) (wanted_t hF rfl rfl rfl hc2) rfl fun a hF => ?_
      refine q_xg (v := (.int .i64 (goLen p_c.Sizes))) hF hS (ex_len Try.underlying33 rfl h1.len) (wanted_t hF rfl rfl rfl hc2) rfl fun a hF => ?_
      refine q_xg (v := (.bool ((goLen p_index) != (goLen p_c.Sizes)))) hF hS (ex_ibin rfl rfl rfl) (wanted_t hF rfl rfl rfl hc2) rfl fun a hF => ?_
      refine q_x (v := (.bool ((goLen p_index) != (goLen p_c.Sizes)))) hF hS (ex_pick_f rfl rfl hc2) rfl rfl fun a hF => ?_
      refine q_end (n_jn ?_)
      obtain rfl := someI hj1
      exact ⟨hF.sub ⟨rfl, rfl, rfl, trivial⟩, hS⟩
    · have hj1 := cond_t hc2 hj1
      refine q_skip hF (wanted_f hF rfl rfl rfl hc2 rfl) rfl fun a hF => ?_
      refine q_skip hF (wanted_f hF rfl rfl rfl hc2 rfl) rfl fun a hF => ?_
      refine q_skip hF (wanted_f hF rfl rfl rfl hc2 rfl) rfl fun a hF => ?_
      refine q_skip hF (wanted_f hF rfl rfl rfl hc2 rfl) rfl fun a hF => ?_
      refine q_skip hF (wanted_f hF rfl rfl rfl hc2 rfl) rfl fun a hF => ?_
      refine q_skip hF (wanted_f hF rfl rfl rfl hc2 rfl) rfl fun a hF => ?_
      refine q_x (v := (.bool true)) hF hS (ex_pick_t rfl rfl hc2) rfl rfl fun a hF => ?_
      refine q_end (n_jn ?_)
      obtain rfl := someI hj1
      exact ⟨hF.sub ⟨rfl, rfl, rfl, trivial⟩, hS⟩
  · rintro a w ⟨hF, hS⟩
    refine n_sq ?_
    rcases bcase (t_6) with hc3 | hc3
    · have hr := cond_f hc3 hr
      refine q_cond_f hF rfl hc3 ?_
      refine q_skipc (n_sq ?_)
      refine q_seq ?_
      refine q_seq ?_
      refine q_region ?_
      refine q_x (v := s3.v) hF hS (ex_move rfl) rfl rfl fun a hF => ?_
      refine q_x (v := (.int .i64 (goLen p_index))) hF hS (ex_len Try.underlying33 rfl h3.len) rfl rfl fun a hF => ?_
      refine q_x (v := (.int .i64 0)) hF hS (ex_move rfl) rfl rfl fun a hF => ?_
      refine q_end (n_sq ?_)
      refine q_block ?_
      obtain ⟨o4, hl4, hr⟩ := bindS hr
      refine q_loop (fun (t_7 : Int) a w => Fr a 46 [(1, s3.v), (2, (.pointer (some ⟨b4, 0, none⟩))), (19, s3.v), (20, (.int .i64 (goLen p_index))), (21, (.int .i64 t_7))] ∧ St [] w0 w m [[⟨b4, [s1.v, s2.v], 46⟩]]) (fun (o : (Unit) ⊕ (Int × Bool)) e a w => o = .inl () ∧ e = .exit 0 ∧ Fr a 46 [(1, s3.v), (2, (.pointer (some ⟨b4, 0, none⟩)))] ∧ St [] w0 w m [[⟨b4, [s1.v, s2.v], 46⟩]]) hl4 ⟨hF.sub ⟨rfl, rfl, rfl, rfl, rfl, trivial⟩, hS⟩ ?_ ?_
      · clear hF hS
        rintro t_7 a w st ⟨hF, hS⟩ hb4
        unfold impl_CubeCell_l1 at hb4
        refine q_seq ?_
        refine q_region ?_
        refine q_x (v := (.bool (decide (t_7 < (goLen p_index))))) hF hS (ex_ibin rfl rfl rfl) rfl rfl fun a hF => ?_
        refine q_end (n_sq ?_)
        refine q_seq ?_
        rcases bcase (decide (t_7 < (goLen p_index))) with hc5 | hc5
        · have hb4 := cond_f hc5 hb4
          refine q_cond_f hF rfl hc5 ?_
          refine q_exit (x_sq ?_)
          obtain rfl := someI hb4
          exact ⟨nofun, .inl ⟨rfl, rfl, hF.sub ⟨rfl, rfl, trivial⟩, hS⟩⟩
        · have hb4 := cond_t hc5 hb4
          refine q_cond_t hF rfl hc5 ?_
          refine q_skipc (n_sq ?_)
          refine q_seq ?_
          refine q_block ?_
          refine q_seq ?_
          refine q_region ?_
          refine q_x (v := (.int .i64 t_7)) hF hS (ex_move rfl) rfl rfl fun a hF => ?_
          obtain ⟨e_8, he_8, hb4⟩ := bindS hb4
          obtain ⟨vs9, at9, d9⟩ := h3.at he_8 1 rfl
          obtain rfl : vs9 = [(.int .i64 e_8)] := d9
          refine q_x (v := (elP s3 (t_7.toNat * 1))) hF hS (ex_indexAddr Try.underlying33 sz3 rfl rfl (h3.idx he_8)) rfl rfl fun a hF => ?_
          refine q_x (v := (.int .i64 e_8)) hF hS (ex_loadE1 0 Try.underlying3 rfl rfl ((at9).at) rfl rfl) rfl rfl fun a hF => ?_
          refine q_x (v := (.int .i64 t_7)) hF hS (ex_assign rfl) rfl rfl fun a hF => ?_
          refine q_x (v := (.int .i64 e_8)) hF hS (ex_assign rfl) rfl rfl fun a hF => ?_
          refine q_end (n_sq ?_)
          refine q_seq ?_
          obtain ⟨t_12, hj6, hb4⟩ := bindS hb4
          refine q_join (fun a w => Fr a 46 [(1, s3.v), (2, (.pointer (some ⟨b4, 0, none⟩))), (19, s3.v), (20, (.int .i64 (goLen p_index))), (21, (.int .i64 t_7)), (36, (.bool t_12))] ∧ St [] w0 w m [[⟨b4, [s1.v, s2.v], 46⟩]]) ?_ ?_
          · refine q_region ?_
            refine q_x (v := (.int .i64 e_8)) hF hS (ex_move rfl) rfl rfl fun a hF => ?_
            refine q_x (v := (.bool (decide (e_8 < 0)))) hF hS (ex_ibin rfl rfl rfl) rfl rfl fun a hF => ?_
            refine q_x (v := (.bool (decide (e_8 < 0)))) hF hS (ex_move rfl) rfl rfl fun a hF => ?_
            rcases bcase (decide (e_8 < 0)) with hc7 | hc7
            · have hj6 := cond_f hc7 hj6
              refine q_xg (v := (.int .i64 e_8)) hF hS (ex_move rfl) (wanted_t hF rfl rfl rfl hc7) rfl fun a hF => ?_
              refine q_xg (v := (.pointer (some ⟨b4, 0, none⟩))) hF hS (ex_fieldAddr Try.underlying46 rfl sz33 rfl rfl) (wanted_t hF rfl rfl rfl hc7) rfl fun a hF => ?_
              refine q_xg (v := s1.v) hF hS (ex_load1 0 0 Try.underlying33 rfl rfl rfl rfl) (wanted_t hF rfl rfl rfl hc7) rfl fun a hF => ?_
              refine q_xg (v := (.int .i64 t_7)) hF hS (ex_move rfl) (wanted_t hF rfl rfl rfl hc7) rfl fun a hF => ?_
              obtain ⟨e_10, he_10, hj6⟩ := bindS hj6
              obtain ⟨vs11, at11, d11⟩ := h1.at he_10 1 rfl
              obtain rfl : vs11 = [(.int .i64 e_10)] := d11
              refine q_xg (v := (elP s1 (t_7.toNat * 1))) hF hS (ex_indexAddr Try.underlying33 sz3 rfl rfl (h1.idx he_10)) (wanted_t hF rfl rfl rfl hc7) rfl fun a hF => ?_
              refine q_xg (v := (.int .i64 e_10)) hF hS (ex_loadE1 0 Try.underlying3 rfl rfl ((at11).at) rfl rfl) (wanted_t hF rfl rfl rfl hc7) rfl fun a hF => ?_
              refine q_xg (v := (.bool (decide (e_10 < e_8)))) hF hS (ex_ibin rfl rfl rfl) (wanted_t hF rfl rfl rfl hc7) rfl fun a hF => ?_
              refine q_x (v := (.bool (decide (e_10 < e_8)))) hF hS (ex_pick_f rfl rfl hc7) rfl rfl fun a hF => ?_
              refine q_end (n_jn ?_)
              obtain rfl := someI hj6
              exact ⟨hF.sub ⟨rfl, rfl, rfl, rfl, rfl, rfl, trivial⟩, hS⟩
            · have hj6 := cond_t hc7 hj6
              refine q_skip hF (wanted_f hF rfl rfl rfl hc7 rfl) rfl fun a hF => ?_
              refine q_skip hF (wanted_f hF rfl rfl rfl hc7 rfl) rfl fun a hF => ?_
              refine q_skip hF (wanted_f hF rfl rfl rfl hc7 rfl) rfl fun a hF => ?_
              refine q_skip hF (wanted_f hF rfl rfl rfl hc7 rfl) rfl fun a hF => ?_
              refine q_skip hF (wanted_f hF rfl rfl rfl hc7 rfl) rfl fun a hF => ?_
              refine q_skip hF (wanted_f hF rfl rfl rfl hc7 rfl) rfl fun a hF => ?_
              refine q_skip hF (wanted_f hF rfl rfl rfl hc7 rfl) rfl fun a hF => ?_
              refine q_x (v := (.bool true)) hF hS (ex_pick_t rfl rfl hc7) rfl rfl fun a hF => ?_
              refine q_end (n_jn ?_)
              obtain rfl := someI hj6
              exact ⟨hF.sub ⟨rfl, rfl, rfl, rfl, rfl, rfl, trivial⟩, hS⟩
          · rintro a w ⟨hF, hS⟩
            refine n_sq ?_
            rcases bcase (t_12) with hc8 | hc8
            · have hb4 := cond_f hc8 hb4
              refine q_cond_f hF rfl hc8 ?_
              refine q_skipc (n_ib (n_sq ?_))
              refine q_region ?_
              refine q_x (v := (.int .i64 (w64 (t_7 + 1)))) hF hS (ex_ibin rfl rfl rfl) rfl rfl fun a hF => ?_
              refine q_x (v := (.int .i64 (w64 (t_7 + 1)))) hF hS (ex_move rfl) rfl rfl fun a hF => ?_
              refine q_end ?_
              obtain rfl := someI hb4
              exact ⟨rfl, hF.sub ⟨rfl, rfl, rfl, rfl, rfl, trivial⟩, hS⟩
            · have hb4 := cond_t hc8 hb4
              refine q_cond_t hF rfl hc8 ?_
              refine q_seq ?_
              refine q_region ?_
              refine q_x (v := (.int .i64 0)) hF hS (ex_assign rfl) rfl rfl fun a hF => ?_
              refine q_x (v := (.bool false)) hF hS (ex_assign rfl) rfl rfl fun a hF => ?_
              refine q_end (n_sq (q_ret (r_ib (r_sq ?_))))
              obtain rfl := someI hb4
              refine ⟨nofun, .inr fun ho => ?_⟩
              subst ho
              refine r_ib (r_sq ?_)
              obtain rfl := someI hr
              exact ret_of hF hS rfl (.tmp rfl (.tmp rfl .nil)) rfl
      · rintro e a w ⟨rfl, rfl, hF, hS⟩
        refine x_ib (n_sq ?_)
        refine q_seq ?_
        refine e_region [] mixed fun w' hw' => ?_
        have hS := hS.below hw'
        refine e_p (v := (.pointer (some ⟨b4, 1, none⟩))) 0 hF rfl (ex_fieldAddr Try.underlying46 rfl sz33 rfl rfl) rfl rfl (by kernel_rfl) (by kernel_rfl) (by kernel_rfl) fun a hF => ?_
        refine e_x (v := s2.v) 1 hF hS rfl (ex_load1 0 0 Try.underlying33 rfl rfl rfl rfl) rfl rfl (by kernel_rfl) (by kernel_rfl) (by kernel_rfl) (by kernel_rfl) fun a hF => ?_
        refine e_p (v := (.pointer (some ⟨b4, 0, none⟩))) 2 hF rfl (ex_fieldAddr Try.underlying46 rfl sz33 rfl rfl) rfl rfl (by kernel_rfl) (by kernel_rfl) (by kernel_rfl) fun a hF => ?_
        refine e_x (v := s1.v) 3 hF hS rfl (ex_load1 0 0 Try.underlying33 rfl rfl rfl rfl) rfl rfl (by kernel_rfl) (by kernel_rfl) (by kernel_rfl) (by kernel_rfl) fun a hF => ?_
        refine e_p (v := s3.v) 4 hF rfl (ex_move rfl) rfl rfl (by kernel_rfl) (by kernel_rfl) (by kernel_rfl) fun a hF => ?_
        refine e_one 5 (by kernel_rfl) ?_
        obtain ⟨t_13, ht_13, hr⟩ := bindS hr
        refine e_call (vs := [s1.v, s3.v]) hF hS rfl Try.func73 (by kernel_rfl) rfl rfl rfl (c_impl_cellOf p_c.Sizes p_index t_13 ht_13 _ m hS.vis s1 h1 s3 h3) ?_
        rintro a w _ rfl hF hS
        obtain ⟨e_14, he_14, hr⟩ := bindS hr
        obtain ⟨vs15, at15, d15⟩ := h2.at he_14 1 rfl
        obtain rfl : vs15 = [(.int .i64 e_14)] := d15
        refine e_p (v := (elP s2 (t_13.toNat * 1))) 6 hF rfl (ex_indexAddr Try.underlying33 sz3 rfl rfl (h2.idx he_14)) rfl rfl (by kernel_rfl) (by kernel_rfl) (by kernel_rfl) fun a hF => ?_
        refine e_x (v := (.int .i64 e_14)) 7 hF hS rfl (ex_loadE1 0 Try.underlying3 rfl rfl ((at15).at) rfl rfl) rfl rfl (by kernel_rfl) (by kernel_rfl) (by kernel_rfl) (by kernel_rfl) fun a hF => ?_
        refine e_p (v := (.int .i64 e_14)) 8 hF rfl (ex_assign rfl) rfl rfl (by kernel_rfl) (by kernel_rfl) (by kernel_rfl) fun a hF => ?_
        refine e_p (v := (.bool true)) 9 hF rfl (ex_assign rfl) rfl rfl (by kernel_rfl) (by kernel_rfl) (by kernel_rfl) fun a hF => ?_
        refine e_end (by kernel_rfl) (n_sq (q_ret ?_)) _
        obtain rfl := someI hr
        exact ret_of hF hS rfl (.tmp rfl (.tmp rfl .nil)) rfl
    · have hr := cond_t hc3 hr
      refine q_cond_t hF rfl hc3 ?_
      refine q_seq ?_
      refine q_region ?_
      refine q_x (v := (.int .i64 0)) hF hS (ex_assign rfl) rfl rfl fun a hF => ?_
      refine q_x (v := (.bool false)) hF hS (ex_assign rfl) rfl rfl fun a hF => ?_
      refine q_end (n_sq (q_ret (r_sq ?_)))
      obtain rfl := someI hr
      exact ret_of hF hS rfl (.tmp rfl (.tmp rfl .nil)) rfl

theorem c_laws_qSum (p_l : List Int) (r : Int) (hr : laws_qSum p_l = some r) (w0 : World) (m : Mem) (hv : Vis m w0) (s1 : Sl) (h1 : Rd m s1 p_l) :
    Ret Try.prog 31 [s1.v] w0 (fun v _ => v = (.int .i64 r)) := by
  unfold laws_qSum at hr
  refine ret_start Try.func31 rfl 17 rfl rfl m hv fun a hF hS => ?_
  refine q_seq ?_
  refine q_region ?_
  refine q_x (v := (.int .i64 0)) hF hS (ex_assign rfl) rfl rfl fun a hF => ?_
  refine q_end (n_sq ?_)
  refine q_seq ?_
  refine q_region ?_
  refine q_x (v := (.int .i64 0)) hF hS (ex_assign rfl) rfl rfl fun a hF => ?_
  refine q_end (n_sq ?_)
  refine q_seq ?_
  refine q_seq ?_
  refine q_region ?_
  refine q_x (v := s1.v) hF hS (ex_move rfl) rfl rfl fun a hF => ?_
  refine q_x (v := (.int .i64 (goLen p_l))) hF hS (ex_len Try.underlying33 rfl h1.len) rfl rfl fun a hF => ?_
  refine q_x (v := (.int .i64 0)) hF hS (ex_move rfl) rfl rfl fun a hF => ?_
  refine q_end (n_sq ?_)
  refine q_block ?_
  obtain ⟨n_6, hl1, hr⟩ := bindS hr
  refine q_loop (fun (s : Int × Int) a w => ∃ n_2, ∃ t_3, s = (n_2, t_3) ∧ Fr a 17 [(3, (.int .i64 n_2)), (6, s1.v), (7, (.int .i64 (goLen p_l))), (8, (.int .i64 t_3))] ∧ St [] w0 w m []) (fun (n_6 : Int) e a w => e = .exit 0 ∧ Fr a 17 [(3, (.int .i64 n_6))] ∧ St [] w0 w m []) hl1 ⟨_, _, rfl, hF.sub ⟨rfl, rfl, rfl, rfl, trivial⟩, hS⟩ ?_ ?_
  · clear hF hS
    rintro s a w st ⟨n_2, t_3, rfl, hF, hS⟩ hb1
    unfold laws_qSum_l1 at hb1
    refine q_seq ?_
    refine q_region ?_
    refine q_x (v := (.bool (decide (t_3 < (goLen p_l))))) hF hS (ex_ibin rfl rfl rfl) rfl rfl fun a hF => ?_
    refine q_end (n_sq ?_)
    refine q_seq ?_
    rcases bcase (decide (t_3 < (goLen p_l))) with hc2 | hc2
    · have hb1 := cond_f hc2 hb1
      refine q_cond_f hF rfl hc2 ?_
      refine q_exit (x_sq ?_)
      obtain rfl := someI hb1
      exact ⟨nofun, .inl ⟨rfl, hF.sub ⟨rfl, trivial⟩, hS⟩⟩
    · have hb1 := cond_t hc2 hb1
      refine q_cond_t hF rfl hc2 ?_
      refine q_skipc (n_sq ?_)
      refine q_seq ?_
      refine q_block ?_
      refine q_seq ?_
      refine q_region ?_
      obtain ⟨e_4, he_4, hb1⟩ := bindS hb1
      obtain ⟨vs5, at5, d5⟩ := h1.at he_4 1 rfl
      obtain rfl : vs5 = [(.int .i64 e_4)] := d5
      refine q_x (v := (elP s1 (t_3.toNat * 1))) hF hS (ex_indexAddr Try.underlying33 sz3 rfl rfl (h1.idx he_4)) rfl rfl fun a hF => ?_
      refine q_x (v := (.int .i64 e_4)) hF hS (ex_loadE1 0 Try.underlying3 rfl rfl ((at5).at) rfl rfl) rfl rfl fun a hF => ?_
      refine q_x (v := (.int .i64 e_4)) hF hS (ex_assign rfl) rfl rfl fun a hF => ?_
      refine q_end (n_sq ?_)
      refine q_region ?_
      refine q_x (v := (.int .i64 n_2)) hF hS (ex_move rfl) rfl rfl fun a hF => ?_
      refine q_x (v := (.int .i64 e_4)) hF hS (ex_move rfl) rfl rfl fun a hF => ?_
      refine q_x (v := (.int .i64 (w64 (n_2 + e_4)))) hF hS (ex_ibin rfl rfl rfl) rfl rfl fun a hF => ?_
      refine q_x (v := (.int .i64 (w64 (n_2 + e_4)))) hF hS (ex_assign rfl) rfl rfl fun a hF => ?_
      refine q_end (n_ib (n_sq ?_))
      refine q_region ?_
      refine q_x (v := (.int .i64 (w64 (t_3 + 1)))) hF hS (ex_ibin rfl rfl rfl) rfl rfl fun a hF => ?_
      refine q_x (v := (.int .i64 (w64 (t_3 + 1)))) hF hS (ex_move rfl) rfl rfl fun a hF => ?_
      refine q_end ?_
      obtain rfl := someI hb1
      exact ⟨rfl, _, _, rfl, hF.sub ⟨rfl, rfl, rfl, rfl, trivial⟩, hS⟩
  · rintro e a w ⟨rfl, hF, hS⟩
    refine x_ib (n_sq ?_)
    refine q_seq ?_
    refine q_region ?_
    refine q_x (v := (.int .i64 n_6)) hF hS (ex_move rfl) rfl rfl fun a hF => ?_
    refine q_x (v := (.int .i64 n_6)) hF hS (ex_assign rfl) rfl rfl fun a hF => ?_
    refine q_end (n_sq (q_ret ?_))
    obtain rfl := someI hr
    exact ret_of hF hS rfl (.tmp rfl .nil) rfl

end Go.Proofs.Ytiikfhfnkppeeaa
