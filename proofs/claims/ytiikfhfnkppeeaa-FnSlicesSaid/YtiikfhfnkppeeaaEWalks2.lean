/- The walks of the functions: each returns what its plain function says. -/
import Derived.Test.YtiikfhfnkppeeaaEWalks1
namespace Go.Proofs.Ytiikfhfnkppeeaa
open Go.Gx Go.Gx.F Go.RowKit
set_option linter.all false
set_option maxRecDepth 10000


theorem c_slices_Clone_int_int (p_s : List Int) (r : (List Int)) (hr : slices_Clone_int_int p_s = some r) (w0 : World) (m : Mem) (hv : Vis m w0) (s1 : Sl) (h1 : Rd m s1 p_s) :
    Ret Try.prog 74 [s1.v] w0 (fun v w => ∃ (q0' : Piece) (s0' : Sl), v = s0'.v ∧ St [] w0 w m [q0'] ∧ OwnL m 3 q0' s0' r) := by
  unfold slices_Clone_int_int at hr
  refine ret_start Try.func74 rfl 8 rfl rfl m hv fun a hF hS => ?_
  refine q_seq ?_
  refine q_region ?_
  refine q_x (v := nilS.v) hF hS (ex_assign rfl) rfl rfl fun a hF => ?_
  refine q_end (n_sq ?_)
  refine q_seq ?_
  refine q_seq ?_
  refine q_region ?_
  refine q_x (v := s1.v) hF hS (ex_move rfl) rfl rfl fun a hF => ?_
  refine q_x (v := (.bool s1.p.isNone)) hF hS (ex_eqNil Try.underlying33 rfl rfl) rfl rfl fun a hF => ?_
  refine q_end (n_sq ?_)
  rcases bcase (s1.p.isNone) with hc1 | hc1
  · refine q_cond_f hF rfl hc1 ?_
    refine q_skipc (n_sq ?_)
    refine q_seq ?_
    refine q_region ?_
    refine q_do rfl fun _ hK => wp_build0 (α := Int) hF hS Try.underlying33 inf3 rfl fun a w q2 s2 hF hS h2 _ => hK _ _ ?_
    refine q_x (v := s1.v) hF hS (ex_move rfl) rfl rfl fun a hF => ?_
    obtain ⟨l_3, hl_3, hr⟩ := bindS hr
    refine q_do rfl fun _ hK => wp_append hF hS h2 Try.underlying33 inf3 rfl rfl rfl rfl (h1.vw hS.vis) rfl (by decide) hl_3 rfl fun a w q4 s4 hF hS h4 => hK _ _ ?_
    refine q_x (v := s4.v) hF hS (ex_assign rfl) rfl rfl fun a hF => ?_
    refine q_end (n_sq (q_ret ?_))
    obtain rfl := someI hr
    exact ret_of hF hS rfl (.tmp rfl .nil) ⟨q4, s4, rfl, hS.sel [0] (by decide), h4⟩
  · have hnhc1 := h1.nilE hc1
    have hr : (some ([] : List Int)) = some r := by rw [hnhc1] at hr; exact hr
    refine q_cond_t hF rfl hc1 ?_
    refine q_seq ?_
    refine q_region ?_
    refine q_x (v := nilS.v) hF hS (ex_assign rfl) rfl rfl fun a hF => ?_
    refine q_end (n_sq (q_ret (r_sq ?_)))
    obtain rfl := someI hr
    exact ret_of hF hS rfl (.tmp rfl .nil) ⟨[], nilS, rfl, hS.sel [0] (by decide), (OwnL.nil (α := Int) m 3)⟩

theorem c_impl_cellOf (p_sizes : List Int) (p_index : List Int) (r : Int) (hr : impl_cellOf p_sizes p_index = some r) (w0 : World) (m : Mem) (hv : Vis m w0) (s1 : Sl) (h1 : Rd m s1 p_sizes) (s2 : Sl) (h2 : Rd m s2 p_index) :
    Ret Try.prog 73 [s1.v, s2.v] w0 (fun v _ => v = (.int .i64 r)) := by
  unfold impl_cellOf at hr
  refine ret_start Try.func73 rfl 26 rfl rfl m hv fun a hF hS => ?_
  refine q_seq ?_
  refine q_region ?_
  refine q_x (v := (.int .i64 0)) hF hS (ex_assign rfl) rfl rfl fun a hF => ?_
  refine q_end (n_sq ?_)
  refine q_seq ?_
  refine q_region ?_
  refine q_x (v := (.int .i64 0)) hF hS (ex_assign rfl) rfl rfl fun a hF => ?_
  refine q_end (n_sq ?_)
  refine q_seq ?_
  refine q_seq ?_
  refine q_region ?_
  refine q_x (v := s1.v) hF hS (ex_move rfl) rfl rfl fun a hF => ?_
  obtain ⟨t_3, ht_3, hr⟩ := bindS hr
  refine q_call (vs := [s1.v]) hF hS Try.func90 (by kernel_rfl) rfl rfl rfl (c_impl_strides p_sizes t_3 ht_3 _ m hS.vis s1 h1) ?_
  rintro a w _ ⟨q5, s5, rfl, hR4, h5⟩ hF hS2
  have hS : St _ _ _ _ [q5] := hS.joinF hR4
  refine q_x (v := (.int .i64 (goLen t_3))) hF hS (ex_len Try.underlying33 rfl h5.len) rfl rfl fun a hF => ?_
  refine q_x (v := (.int .i64 0)) hF hS (ex_move rfl) rfl rfl fun a hF => ?_
  refine q_end (n_sq ?_)
  refine q_block ?_
  obtain ⟨i_12, hl1, hr⟩ := bindS hr
  refine q_loop (fun (s : Int × Int) a w => ∃ i_6, ∃ t_7, s = (i_6, t_7) ∧ Fr a 26 [(1, s2.v), (5, (.int .i64 i_6)), (9, s5.v), (10, (.int .i64 (goLen t_3))), (11, (.int .i64 t_7))] ∧ St [] w0 w m [q5]) (fun (i_12 : Int) e a w => e = .exit 0 ∧ Fr a 26 [(5, (.int .i64 i_12))] ∧ St [] w0 w m []) hl1 ⟨_, _, rfl, hF.sub ⟨rfl, rfl, rfl, rfl, rfl, trivial⟩, hS⟩ ?_ ?_
  · clear hF hS
    rintro s a w st ⟨i_6, t_7, rfl, hF, hS⟩ hb1
    unfold impl_cellOf_l1 at hb1
    refine q_seq ?_
    refine q_region ?_
    refine q_x (v := (.bool (decide (t_7 < (goLen t_3))))) hF hS (ex_ibin rfl rfl rfl) rfl rfl fun a hF => ?_
    refine q_end (n_sq ?_)
    refine q_seq ?_
    rcases bcase (decide (t_7 < (goLen t_3))) with hc2 | hc2
    · have hb1 := cond_f hc2 hb1
      refine q_cond_f hF rfl hc2 ?_
      refine q_exit (x_sq ?_)
      obtain rfl := someI hb1
      exact ⟨nofun, .inl ⟨rfl, hF.sub ⟨rfl, trivial⟩, hS.mask [false]⟩⟩
    · have hb1 := cond_t hc2 hb1
      refine q_cond_t hF rfl hc2 ?_
      refine q_skipc (n_sq ?_)
      refine q_seq ?_
      refine q_block ?_
      refine q_seq ?_
      refine q_region ?_
      refine q_x (v := (.int .i64 t_7)) hF hS (ex_move rfl) rfl rfl fun a hF => ?_
      obtain ⟨e_8, he_8, hb1⟩ := bindS hb1
      obtain ⟨vs9, at9, d9⟩ := h5.at he_8 1 rfl
      obtain rfl : vs9 = [(.int .i64 e_8)] := d9
      refine q_x (v := (elP s5 (t_7.toNat * 1))) hF hS (ex_indexAddr Try.underlying33 sz3 rfl rfl (h5.idx he_8)) rfl rfl fun a hF => ?_
      refine q_x (v := (.int .i64 e_8)) hF hS (ex_loadE1 0 Try.underlying3 rfl rfl (at9.at 0 rfl) rfl rfl) rfl rfl fun a hF => ?_
      refine q_x (v := (.int .i64 t_7)) hF hS (ex_assign rfl) rfl rfl fun a hF => ?_
      refine q_x (v := (.int .i64 e_8)) hF hS (ex_assign rfl) rfl rfl fun a hF => ?_
      refine q_end (n_sq ?_)
      refine q_region ?_
      refine q_x (v := (.int .i64 i_6)) hF hS (ex_move rfl) rfl rfl fun a hF => ?_
      refine q_x (v := s2.v) hF hS (ex_move rfl) rfl rfl fun a hF => ?_
      refine q_x (v := (.int .i64 t_7)) hF hS (ex_move rfl) rfl rfl fun a hF => ?_
      obtain ⟨e_10, he_10, hb1⟩ := bindS hb1
      obtain ⟨vs11, at11, d11⟩ := h2.at he_10 1 rfl
      obtain rfl : vs11 = [(.int .i64 e_10)] := d11
      refine q_x (v := (elP s2 (t_7.toNat * 1))) hF hS (ex_indexAddr Try.underlying33 sz3 rfl rfl (h2.idx he_10)) rfl rfl fun a hF => ?_
      refine q_x (v := (.int .i64 e_10)) hF hS (ex_loadE1 0 Try.underlying3 rfl rfl ((at11).at) rfl rfl) rfl rfl fun a hF => ?_
      refine q_x (v := (.int .i64 e_8)) hF hS (ex_move rfl) rfl rfl fun a hF => ?_
      refine q_x (v := (.int .i64 (w64 (e_10 * e_8)))) hF hS (ex_ibin rfl rfl rfl) rfl rfl fun a hF => ?_
      refine q_x (v := (.int .i64 (w64 (i_6 + (w64 (e_10 * e_8)))))) hF hS (ex_ibin rfl rfl rfl) rfl rfl fun a hF => ?_
      refine q_x (v := (.int .i64 (w64 (i_6 + (w64 (e_10 * e_8)))))) hF hS (ex_assign rfl) rfl rfl fun a hF => ?_
      refine q_end (n_ib (n_sq ?_))
      refine q_region ?_
      refine q_x (v := (.int .i64 (w64 (t_7 + 1)))) hF hS (ex_ibin rfl rfl rfl) rfl rfl fun a hF => ?_
      refine q_x (v := (.int .i64 (w64 (t_7 + 1)))) hF hS (ex_move rfl) rfl rfl fun a hF => ?_
      refine q_end ?_
      obtain rfl := someI hb1
      exact ⟨rfl, _, _, rfl, hF.sub ⟨rfl, rfl, rfl, rfl, rfl, trivial⟩, hS⟩
  · rintro e a w ⟨rfl, hF, hS⟩
    refine x_ib (n_sq ?_)
    refine q_seq ?_
    refine q_region ?_
    refine q_x (v := (.int .i64 i_12)) hF hS (ex_move rfl) rfl rfl fun a hF => ?_
    refine q_x (v := (.int .i64 i_12)) hF hS (ex_assign rfl) rfl rfl fun a hF => ?_
    refine q_end (n_sq (q_ret ?_))
    obtain rfl := someI hr
    exact ret_of hF hS rfl (.tmp rfl .nil) rfl

theorem c_impl_taken (p_c : impl_Cube) (p_dims : List Int) (p_fixed : List Int) (r : impl_Cube) (hr : impl_taken p_c p_dims p_fixed = some r) (w0 : World) (m : Mem) (hv : Vis m w0) (s1 : Sl) (h1 : Rd m s1 p_c.Sizes) (s2 : Sl) (h2 : Rd m s2 p_c.Cells) (s3 : Sl) (h3 : Rd m s3 p_dims) (s4 : Sl) (h4 : Rd m s4 p_fixed) :
    Ret Try.prog 66 [(.agg #[s1.v, s2.v]), s3.v, s4.v] w0 (fun v w => ∃ (q0' : Piece) (q1' : Piece) (s0' : Sl) (s1' : Sl), v = (.agg #[s0'.v, s1'.v]) ∧ St [] w0 w m [q0', q1'] ∧ OwnL m 3 q0' s0' r.Sizes ∧ OwnL m 3 q1' s1' r.Cells) := by
  unfold impl_taken at hr
  refine ret_start Try.func66 rfl 76 rfl rfl m hv fun a hF hS => ?_
  refine q_seq ?_
  refine q_region ?_
  refine q_box (cs := [s1.v, s2.v]) hF hS rfl rfl rfl fun a w b5 hF hS => ?_
  refine q_alloc (cs := [nilS.v, nilS.v]) hF hS rfl rfl rfl fun a w b6 hF hS => ?_
  refine q_end (n_sq ?_)
  refine q_seq ?_
  refine q_region ?_
  refine q_alloc (cs := [nilS.v, nilS.v]) hF hS rfl rfl rfl fun a w b7 hF hS => ?_
  refine q_end (n_sq ?_)
  refine q_seq ?_
  refine q_seq ?_
  refine q_region ?_
  refine q_x (v := s3.v) hF hS (ex_move rfl) rfl rfl fun a hF => ?_
  refine q_x (v := (.int .i64 (goLen p_dims))) hF hS (ex_len Try.underlying33 rfl h3.len) rfl rfl fun a hF => ?_
  refine q_x (v := (.int .i64 0)) hF hS (ex_move rfl) rfl rfl fun a hF => ?_
  refine q_end (n_sq ?_)
  refine q_block ?_
  obtain ⟨out_19, hl1, hr⟩ := bindS hr
  refine q_loop (fun (s : Int × impl_Cube) a w => ∃ (q10 : Piece), ∃ (s10 : Sl), ∃ t_8, ∃ out_9, s = (t_8, out_9) ∧ Fr a 76 [(1, s3.v), (2, s4.v), (3, (.pointer (some ⟨b5, 0, none⟩))), (6, (.pointer (some ⟨b6, 0, none⟩))), (7, (.pointer (some ⟨b7, 0, none⟩))), (14, s3.v), (15, (.int .i64 (goLen p_dims))), (16, (.int .i64 t_8))] ∧ St [] w0 w m [q10, [⟨b7, [s10.v, nilS.v], 46⟩], [⟨b6, [nilS.v, nilS.v], 46⟩], [⟨b5, [s1.v, s2.v], 46⟩]] ∧ OwnL m 3 q10 s10 out_9.Sizes ∧ Rd m nilS out_9.Cells) (fun (out_19 : impl_Cube) e a w => ∃ (q20 : Piece), ∃ (s20 : Sl), e = .exit 0 ∧ Fr a 76 [(1, s3.v), (2, s4.v), (3, (.pointer (some ⟨b5, 0, none⟩))), (6, (.pointer (some ⟨b6, 0, none⟩))), (7, (.pointer (some ⟨b7, 0, none⟩)))] ∧ St [] w0 w m [q20, [⟨b7, [s20.v, nilS.v], 46⟩], [⟨b6, [nilS.v, nilS.v], 46⟩], [⟨b5, [s1.v, s2.v], 46⟩]] ∧ OwnL m 3 q20 s20 out_19.Sizes ∧ Rd m nilS out_19.Cells) hl1 ⟨[], nilS, _, _, rfl, hF.sub ⟨rfl, rfl, rfl, rfl, rfl, rfl, rfl, rfl, trivial⟩, hS.sel [3, 0, 1, 2] (by decide), (OwnL.nil (α := Int) m 3), (Rd.nil0 (α := Int) m)⟩ ?_ ?_
  · clear hF hS
    rintro s a w st ⟨q10, s10, t_8, out_9, rfl, hF, hS, h10, h11⟩ hb1
    unfold impl_taken_l1 at hb1
    refine q_seq ?_
    refine q_region ?_
    refine q_x (v := (.bool (decide (t_8 < (goLen p_dims))))) hF hS (ex_ibin rfl rfl rfl) rfl rfl fun a hF => ?_
    refine q_end (n_sq ?_)
    refine q_seq ?_
    rcases bcase (decide (t_8 < (goLen p_dims))) with hc2 | hc2
    · have hb1 := cond_f hc2 hb1
      refine q_cond_f hF rfl hc2 ?_
      refine q_exit (x_sq ?_)
      obtain rfl := someI hb1
      exact ⟨nofun, .inl ⟨q10, s10, rfl, hF.sub ⟨rfl, rfl, rfl, rfl, rfl, trivial⟩, hS, h10, h11⟩⟩
    · have hb1 := cond_t hc2 hb1
      refine q_cond_t hF rfl hc2 ?_
      refine q_skipc (n_sq ?_)
      refine q_seq ?_
      refine q_block ?_
      refine q_seq ?_
      refine q_region ?_
      obtain ⟨e_12, he_12, hb1⟩ := bindS hb1
      obtain ⟨vs13, at13, d13⟩ := h3.at he_12 1 rfl
      obtain rfl : vs13 = [(.int .i64 e_12)] := d13
      refine q_x (v := (elP s3 (t_8.toNat * 1))) hF hS (ex_indexAddr Try.underlying33 sz3 rfl rfl (h3.idx he_12)) rfl rfl fun a hF => ?_
      refine q_x (v := (.int .i64 e_12)) hF hS (ex_loadE1 0 Try.underlying3 rfl rfl ((at13).at) rfl rfl) rfl rfl fun a hF => ?_
      refine q_x (v := (.int .i64 e_12)) hF hS (ex_assign rfl) rfl rfl fun a hF => ?_
      refine q_end (n_sq ?_)
      refine e_region [8, 10] mixed fun w' hw' => ?_
      have hS := hS.below hw'
      refine e_p (v := (.pointer (some ⟨b7, 0, none⟩))) 0 hF rfl (ex_fieldAddr Try.underlying46 rfl sz33 rfl rfl) rfl rfl (by kernel_rfl) (by kernel_rfl) (by kernel_rfl) fun a hF => ?_
      refine e_x (v := s10.v) 1 hF hS rfl (ex_load1 1 0 Try.underlying33 rfl rfl rfl rfl) rfl rfl (by kernel_rfl) (by kernel_rfl) (by kernel_rfl) (by kernel_rfl) fun a hF => ?_
      refine e_p (v := (.pointer (some ⟨b5, 0, none⟩))) 2 hF rfl (ex_fieldAddr Try.underlying46 rfl sz33 rfl rfl) rfl rfl (by kernel_rfl) (by kernel_rfl) (by kernel_rfl) fun a hF => ?_
      refine e_p (v := (.int .i64 e_12)) 4 hF rfl (ex_move rfl) rfl rfl (by kernel_rfl) (by kernel_rfl) (by kernel_rfl) fun a hF => ?_
      refine e_one 3 (by kernel_rfl) ?_
      refine e_lx (v := s1.v) hF hS rfl (ex_load1 3 0 Try.underlying33 rfl rfl rfl rfl) rfl rfl fun a hF => ?_
      obtain ⟨e_14, he_14, hb1⟩ := bindS hb1
      obtain ⟨vs15, at15, d15⟩ := h1.at he_14 1 rfl
      obtain rfl : vs15 = [(.int .i64 e_14)] := d15
      refine e_p (v := (elP s1 (e_12.toNat * 1))) 5 hF rfl (ex_indexAddr Try.underlying33 sz3 rfl rfl (h1.idx he_14)) rfl rfl (by kernel_rfl) (by kernel_rfl) (by kernel_rfl) fun a hF => ?_
      refine e_one 6 (by kernel_rfl) ?_
      refine e_lx (v := (.int .i64 e_14)) hF hS rfl (ex_loadE1 0 Try.underlying3 rfl rfl ((at15).at) rfl rfl) rfl rfl fun a hF => ?_
      refine e_one 7 (by kernel_rfl) ?_
      refine e_op rfl rfl fun _ hK => wp_buildSlice' (l := ([e_14] : List Int)) (cells := [(.int .i64 e_14)]) hF hS Try.underlying33 inf3 rfl rfl (by kernel_rfl) rfl rfl rfl ⟨rfl, rfl⟩ rfl rfl fun a w q16 s16 hF hS h16 hb => hK _ _ hb ?_
      refine e_one 8 (by kernel_rfl) ?_
      have hS : St _ _ _ _ [q10, q16, [⟨b7, [s10.v, nilS.v], 46⟩], [⟨b6, [nilS.v, nilS.v], 46⟩], [⟨b5, [s1.v, s2.v], 46⟩]] := hS.sel [1, 0, 2, 3, 4] (by decide)
      obtain ⟨l_17, hl_17, hb1⟩ := bindS hb1
      refine e_opl rfl rfl rfl fun _ hK => wp_append hF hS h10 Try.underlying33 inf3 rfl rfl rfl rfl (h16.vw hS (j := 1) rfl) rfl (by decide) hl_17 rfl fun a w q18 s18 hF hS h18 => hK _ _ ?_
      refine e_p (v := (.pointer (some ⟨b7, 0, none⟩))) 9 hF rfl (ex_fieldAddr Try.underlying46 rfl sz33 rfl rfl) rfl rfl (by kernel_rfl) (by kernel_rfl) (by kernel_rfl) fun a hF => ?_
      refine e_one 10 (by kernel_rfl) ?_
      refine e_store (vs := [s18.v]) (cs' := [s18.v, nilS.v]) 2 0 hF hS rfl rfl sz33 rfl rfl rfl rfl rfl rfl rfl rfl fun a w hF hS => ?_
      refine e_end (by kernel_rfl) (n_ib (n_sq ?_)) _
      refine q_region ?_
      refine q_x (v := (.int .i64 (w64 (t_8 + 1)))) hF hS (ex_ibin rfl rfl rfl) rfl rfl fun a hF => ?_
      refine q_x (v := (.int .i64 (w64 (t_8 + 1)))) hF hS (ex_move rfl) rfl rfl fun a hF => ?_
      refine q_end ?_
      obtain rfl := someI hb1
      exact ⟨rfl, q18, s18, _, _, rfl, hF.sub ⟨rfl, rfl, rfl, rfl, rfl, rfl, rfl, rfl, trivial⟩, hS.mask [true, false, true, true, true], h18, h11⟩
  · rintro e a w ⟨q20, s20, rfl, hF, hS, h20, h21⟩
    refine x_ib (n_sq ?_)
    refine q_seq ?_
    refine q_region ?_
    refine q_x (v := (.pointer (some ⟨b7, 0, none⟩))) hF hS (ex_fieldAddr Try.underlying46 rfl sz33 rfl rfl) rfl rfl fun a hF => ?_
    refine q_x (v := s20.v) hF hS (ex_load1 1 0 Try.underlying33 rfl rfl rfl rfl) rfl rfl fun a hF => ?_
    obtain ⟨m23, hl23, hv23, hz23⟩ := hS.lend
    obtain ⟨t_22, ht_22, hr⟩ := bindS hr
    refine q_call (vs := [s20.v]) hF hS Try.func57 (by kernel_rfl) rfl rfl rfl (c_impl_cubeCells out_19.Sizes t_22 ht_22 _ m23 hv23 s20 (h20.froz hl23 (hz23 0 _ rfl))) ?_
    rintro a w _ rfl hF hS
    obtain ⟨l_24, hl_24, hr⟩ := bindS hr
    refine q_do rfl fun _ hK => wp_make (z := (0 : Int)) hF hS Try.underlying33 inf3 rfl rfl rfl rfl rfl (by decide) hl_24 rfl fun a w q25 s25 hF hS h25 _ => hK _ _ ?_
    refine q_x (v := (.pointer (some ⟨b7, 1, none⟩))) hF hS (ex_fieldAddr Try.underlying46 rfl sz33 rfl rfl) rfl rfl fun a hF => ?_
    refine q_store (vs := [s25.v]) (cs' := [s20.v, s25.v]) 2 0 hF hS sz33 rfl rfl rfl rfl rfl rfl rfl rfl fun a w hF hS => ?_
    refine q_end (n_sq ?_)
    refine q_seq ?_
    refine q_seq ?_
    refine q_region ?_
    refine q_x (v := (.pointer (some ⟨b7, 1, none⟩))) hF hS (ex_fieldAddr Try.underlying46 rfl sz33 rfl rfl) rfl rfl fun a hF => ?_
    refine q_x (v := s25.v) hF hS (ex_load1 2 0 Try.underlying33 rfl rfl rfl rfl) rfl rfl fun a hF => ?_
    refine q_x (v := (.int .i64 (goLen l_24))) hF hS (ex_len Try.underlying33 rfl h25.len) rfl rfl fun a hF => ?_
    refine q_x (v := (.int .i64 0)) hF hS (ex_move rfl) rfl rfl fun a hF => ?_
    refine q_end (n_sq ?_)
    refine q_block ?_
    obtain ⟨out_56, hl3, hr⟩ := bindS hr
    refine q_loop (fun (s : Int × impl_Cube) a w => ∃ (q29 : Piece), ∃ t_26, ∃ out_27, s = (t_26, out_27) ∧ Fr a 76 [(1, s3.v), (2, s4.v), (3, (.pointer (some ⟨b5, 0, none⟩))), (6, (.pointer (some ⟨b6, 0, none⟩))), (7, (.pointer (some ⟨b7, 0, none⟩))), (38, (.int .i64 (goLen l_24))), (39, (.int .i64 t_26))] ∧ St [] w0 w m [q29, q20, [⟨b7, [s20.v, s25.v], 46⟩], [⟨b6, [nilS.v, nilS.v], 46⟩], [⟨b5, [s1.v, s2.v], 46⟩]] ∧ OwnL m 3 q20 s20 out_27.Sizes ∧ out_27.Sizes = out_19.Sizes ∧ OwnL m 3 q29 s25 out_27.Cells) (fun (out_56 : impl_Cube) e a w => ∃ (q58 : Piece), e = .exit 2 ∧ Fr a 76 [(6, (.pointer (some ⟨b6, 0, none⟩))), (7, (.pointer (some ⟨b7, 0, none⟩)))] ∧ St [] w0 w m [q20, q58, [⟨b7, [s20.v, s25.v], 46⟩], [⟨b6, [nilS.v, nilS.v], 46⟩]] ∧ OwnL m 3 q20 s20 out_56.Sizes ∧ out_56.Sizes = out_19.Sizes ∧ OwnL m 3 q58 s25 out_56.Cells) hl3 ⟨q25, _, _, rfl, hF.sub ⟨rfl, rfl, rfl, rfl, rfl, rfl, rfl, trivial⟩, hS, h20, rfl, h25⟩ ?_ ?_
    · clear hF hS
      rintro s a w st ⟨q29, t_26, out_27, rfl, hF, hS, h28, h28k, h29⟩ hb3
      unfold impl_taken_l2 at hb3
      refine q_seq ?_
      refine q_region ?_
      refine q_x (v := (.bool (decide (t_26 < (goLen l_24))))) hF hS (ex_ibin rfl rfl rfl) rfl rfl fun a hF => ?_
      refine q_end (n_sq ?_)
      refine q_seq ?_
      rcases bcase (decide (t_26 < (goLen l_24))) with hc4 | hc4
      · have hb3 := cond_f hc4 hb3
        refine q_cond_f hF rfl hc4 ?_
        refine q_exit (x_sq ?_)
        obtain rfl := someI hb3
        exact ⟨nofun, .inl ⟨q29, rfl, hF.sub ⟨rfl, rfl, trivial⟩, hS.sel [1, 0, 2, 3] (by decide), h28, h28k, h29⟩⟩
      · have hb3 := cond_t hc4 hb3
        refine q_cond_t hF rfl hc4 ?_
        refine q_skipc (n_sq ?_)
        refine q_seq ?_
        refine q_block ?_
        refine q_seq ?_
        refine q_region ?_
        refine q_x (v := (.int .i64 t_26)) hF hS (ex_move rfl) rfl rfl fun a hF => ?_
        refine q_x (v := (.int .i64 t_26)) hF hS (ex_assign rfl) rfl rfl fun a hF => ?_
        refine q_end (n_sq ?_)
        refine q_seq ?_
        refine q_region ?_
        refine q_x (v := s4.v) hF hS (ex_move rfl) rfl rfl fun a hF => ?_
        obtain ⟨t_30, ht_30, hb3⟩ := bindS hb3
        refine q_call (vs := [s4.v]) hF hS Try.func74 (by kernel_rfl) rfl rfl rfl (c_slices_Clone_int_int p_fixed t_30 ht_30 _ m hS.vis s4 h4) ?_
        rintro a w _ ⟨q32, s32, rfl, hR31, h32⟩ hF hS2
        have hS : St _ _ _ _ [q32, q29, q20, [⟨b7, [s20.v, s25.v], 46⟩], [⟨b6, [nilS.v, nilS.v], 46⟩], [⟨b5, [s1.v, s2.v], 46⟩]] := hS.joinF hR31
        refine q_x (v := s32.v) hF hS (ex_assign rfl) rfl rfl fun a hF => ?_
        refine q_end (n_sq ?_)
        refine q_seq ?_
        refine q_seq ?_
        refine q_region ?_
        refine q_x (v := (.pointer (some ⟨b7, 0, none⟩))) hF hS (ex_fieldAddr Try.underlying46 rfl sz33 rfl rfl) rfl rfl fun a hF => ?_
        refine q_x (v := s20.v) hF hS (ex_load1 3 0 Try.underlying33 rfl rfl rfl rfl) rfl rfl fun a hF => ?_
        refine q_x (v := (.int .i64 t_26)) hF hS (ex_move rfl) rfl rfl fun a hF => ?_
        obtain ⟨m34, hl34, hv34, hz34⟩ := hS.lend
        obtain ⟨t_33, ht_33, hb3⟩ := bindS hb3
        refine q_call (vs := [s20.v, (.int .i64 t_26)]) hF hS Try.func79 (by kernel_rfl) rfl rfl rfl (c_impl_indexOf out_27.Sizes t_26 t_33 ht_33 _ m34 hv34 s20 (h28.froz hl34 (hz34 2 _ rfl))) ?_
        rintro a w _ ⟨q36, s36, rfl, hR35, h36⟩ hF hS2
        have hS : St _ _ _ _ [q36, q32, q29, q20, [⟨b7, [s20.v, s25.v], 46⟩], [⟨b6, [nilS.v, nilS.v], 46⟩], [⟨b5, [s1.v, s2.v], 46⟩]] := hS.joinF hR35
        have h36 := h36.any m
        refine q_x (v := (.int .i64 (goLen t_33))) hF hS (ex_len Try.underlying33 rfl h36.len) rfl rfl fun a hF => ?_
        refine q_x (v := (.int .i64 0)) hF hS (ex_move rfl) rfl rfl fun a hF => ?_
        refine q_end (n_sq ?_)
        refine q_block ?_
        obtain ⟨index_47, hl5, hb3⟩ := bindS hb3
        refine q_loop (fun (s : (List Int) × Int) a w => ∃ (q38 : Piece), ∃ index_37, ∃ t_39, s = (index_37, t_39) ∧ Fr a 76 [(1, s3.v), (2, s4.v), (3, (.pointer (some ⟨b5, 0, none⟩))), (6, (.pointer (some ⟨b6, 0, none⟩))), (7, (.pointer (some ⟨b7, 0, none⟩))), (10, (.int .i64 t_26)), (11, s32.v), (38, (.int .i64 (goLen l_24))), (39, (.int .i64 t_26)), (47, s36.v), (48, (.int .i64 (goLen t_33))), (49, (.int .i64 t_39))] ∧ St [] w0 w m [q38, q36, q29, q20, [⟨b7, [s20.v, s25.v], 46⟩], [⟨b6, [nilS.v, nilS.v], 46⟩], [⟨b5, [s1.v, s2.v], 46⟩]] ∧ OwnL m 3 q38 s32 index_37) (fun (index_47 : (List Int)) e a w => ∃ (q48 : Piece), e = .exit 4 ∧ Fr a 76 [(1, s3.v), (2, s4.v), (3, (.pointer (some ⟨b5, 0, none⟩))), (6, (.pointer (some ⟨b6, 0, none⟩))), (7, (.pointer (some ⟨b7, 0, none⟩))), (10, (.int .i64 t_26)), (11, s32.v), (38, (.int .i64 (goLen l_24))), (39, (.int .i64 t_26))] ∧ St [] w0 w m [q48, q20, q29, [⟨b7, [s20.v, s25.v], 46⟩], [⟨b6, [nilS.v, nilS.v], 46⟩], [⟨b5, [s1.v, s2.v], 46⟩]] ∧ OwnL m 3 q48 s32 index_47) hl5 ⟨q32, _, _, rfl, hF.sub ⟨rfl, rfl, rfl, rfl, rfl, rfl, rfl, rfl, rfl, rfl, rfl, rfl, trivial⟩, hS.sel [1, 0, 2, 3, 4, 5, 6] (by decide), h32⟩ ?_ ?_
        · clear hF hS
          rintro s a w st ⟨q38, index_37, t_39, rfl, hF, hS, h38⟩ hb5
          unfold impl_taken_l3 at hb5
          refine q_seq ?_
          refine q_region ?_
          refine q_x (v := (.bool (decide (t_39 < (goLen t_33))))) hF hS (ex_ibin rfl rfl rfl) rfl rfl fun a hF => ?_
          refine q_end (n_sq ?_)
          refine q_seq ?_
          rcases bcase (decide (t_39 < (goLen t_33))) with hc6 | hc6
          · have hb5 := cond_f hc6 hb5
            refine q_cond_f hF rfl hc6 ?_
            refine q_exit (x_sq ?_)
            obtain rfl := someI hb5
            exact ⟨nofun, .inl ⟨q38, rfl, hF.sub ⟨rfl, rfl, rfl, rfl, rfl, rfl, rfl, rfl, rfl, trivial⟩, hS.sel [0, 3, 2, 4, 5, 6] (by decide), h38⟩⟩
          · have hb5 := cond_t hc6 hb5
            refine q_cond_t hF rfl hc6 ?_
            refine q_skipc (n_sq ?_)
            refine q_seq ?_
            refine q_block ?_
            refine q_seq ?_
            refine q_region ?_
            refine q_x (v := (.int .i64 t_39)) hF hS (ex_move rfl) rfl rfl fun a hF => ?_
            obtain ⟨e_40, he_40, hb5⟩ := bindS hb5
            obtain ⟨vs41, at41, d41⟩ := h36.at he_40 1 rfl
            obtain rfl : vs41 = [(.int .i64 e_40)] := d41
            refine q_x (v := (elP s36 (t_39.toNat * 1))) hF hS (ex_indexAddr Try.underlying33 sz3 rfl rfl (h36.idx he_40)) rfl rfl fun a hF => ?_
            refine q_x (v := (.int .i64 e_40)) hF hS (ex_loadE1 0 Try.underlying3 rfl rfl (at41.at 1 rfl) rfl rfl) rfl rfl fun a hF => ?_
            refine q_x (v := (.int .i64 t_39)) hF hS (ex_assign rfl) rfl rfl fun a hF => ?_
            refine q_x (v := (.int .i64 e_40)) hF hS (ex_assign rfl) rfl rfl fun a hF => ?_
            refine q_end (n_sq ?_)
            refine q_region ?_
            refine q_x (v := s32.v) hF hS (ex_move rfl) rfl rfl fun a hF => ?_
            refine q_x (v := s3.v) hF hS (ex_move rfl) rfl rfl fun a hF => ?_
            refine q_x (v := (.int .i64 t_39)) hF hS (ex_move rfl) rfl rfl fun a hF => ?_
            obtain ⟨e_42, he_42, hb5⟩ := bindS hb5
            obtain ⟨vs43, at43, d43⟩ := h3.at he_42 1 rfl
            obtain rfl : vs43 = [(.int .i64 e_42)] := d43
            refine q_x (v := (elP s3 (t_39.toNat * 1))) hF hS (ex_indexAddr Try.underlying33 sz3 rfl rfl (h3.idx he_42)) rfl rfl fun a hF => ?_
            refine q_x (v := (.int .i64 e_42)) hF hS (ex_loadE1 0 Try.underlying3 rfl rfl ((at43).at) rfl rfl) rfl rfl fun a hF => ?_
            refine q_x (v := (.int .i64 e_40)) hF hS (ex_move rfl) rfl rfl fun a hF => ?_
            obtain ⟨e_44, he_44, hb5⟩ := bindS hb5
            obtain ⟨vs45, at45, d45⟩ := h38.at he_44 1 rfl
            obtain rfl : vs45 = [(.int .i64 e_44)] := d45
            refine q_x (v := (elP s32 (e_42.toNat * 1))) hF hS (ex_indexAddr Try.underlying33 sz3 rfl rfl (h38.idx he_44)) rfl rfl fun a hF => ?_
            refine q_do rfl fun _ hK => wp_storeE (e' := e_40) (us := [(.int .i64 e_40)]) (vs := [(.int .i64 e_44)]) 0 hF hS h38 sz3 rfl rfl rfl rfl rfl rfl rfl he_44 at45 rfl rfl rfl fun w q46 hS h46 => hK _ _ ?_
            refine q_end (n_ib (n_sq ?_))
            refine q_region ?_
            refine q_x (v := (.int .i64 (w64 (t_39 + 1)))) hF hS (ex_ibin rfl rfl rfl) rfl rfl fun a hF => ?_
            refine q_x (v := (.int .i64 (w64 (t_39 + 1)))) hF hS (ex_move rfl) rfl rfl fun a hF => ?_
            refine q_end ?_
            obtain rfl := someI hb5
            exact ⟨rfl, q46, _, _, rfl, hF.sub ⟨rfl, rfl, rfl, rfl, rfl, rfl, rfl, rfl, rfl, rfl, rfl, rfl, trivial⟩, hS, h46⟩
        · rintro e a w ⟨q48, rfl, hF, hS, h48⟩
          refine x_ib (n_sq ?_)
          refine e_region [12] mixed fun w' hw' => ?_
          have hS := hS.below hw'
          refine e_p (v := (.pointer (some ⟨b7, 1, none⟩))) 0 hF rfl (ex_fieldAddr Try.underlying46 rfl sz33 rfl rfl) rfl rfl (by kernel_rfl) (by kernel_rfl) (by kernel_rfl) fun a hF => ?_
          refine e_x (v := s25.v) 1 hF hS rfl (ex_load1 3 0 Try.underlying33 rfl rfl rfl rfl) rfl rfl (by kernel_rfl) (by kernel_rfl) (by kernel_rfl) (by kernel_rfl) fun a hF => ?_
          refine e_p (v := (.int .i64 t_26)) 2 hF rfl (ex_move rfl) rfl rfl (by kernel_rfl) (by kernel_rfl) (by kernel_rfl) fun a hF => ?_
          refine e_p (v := (.pointer (some ⟨b5, 1, none⟩))) 3 hF rfl (ex_fieldAddr Try.underlying46 rfl sz33 rfl rfl) rfl rfl (by kernel_rfl) (by kernel_rfl) (by kernel_rfl) fun a hF => ?_
          refine e_x (v := s2.v) 4 hF hS rfl (ex_load1 5 0 Try.underlying33 rfl rfl rfl rfl) rfl rfl (by kernel_rfl) (by kernel_rfl) (by kernel_rfl) (by kernel_rfl) fun a hF => ?_
          refine e_p (v := (.pointer (some ⟨b5, 0, none⟩))) 5 hF rfl (ex_fieldAddr Try.underlying46 rfl sz33 rfl rfl) rfl rfl (by kernel_rfl) (by kernel_rfl) (by kernel_rfl) fun a hF => ?_
          refine e_x (v := s1.v) 6 hF hS rfl (ex_load1 5 0 Try.underlying33 rfl rfl rfl rfl) rfl rfl (by kernel_rfl) (by kernel_rfl) (by kernel_rfl) (by kernel_rfl) fun a hF => ?_
          refine e_p (v := s32.v) 7 hF rfl (ex_move rfl) rfl rfl (by kernel_rfl) (by kernel_rfl) (by kernel_rfl) fun a hF => ?_
          refine e_one 8 (by kernel_rfl) ?_
          obtain ⟨m50, hl50, hv50, hz50⟩ := hS.lend
          obtain ⟨t_49, ht_49, hb3⟩ := bindS hb3
          refine e_call (vs := [s1.v, s32.v]) hF hS rfl Try.func73 (by kernel_rfl) rfl rfl rfl (c_impl_cellOf p_c.Sizes index_47 t_49 ht_49 _ m50 hv50 s1 (h1.mono hl50) s32 (h48.froz hl50 (hz50 0 _ rfl))) ?_
          rintro a w _ rfl hF hS
          obtain ⟨e_51, he_51, hb3⟩ := bindS hb3
          obtain ⟨vs52, at52, d52⟩ := h2.at he_51 1 rfl
          obtain rfl : vs52 = [(.int .i64 e_51)] := d52
          refine e_p (v := (elP s2 (t_49.toNat * 1))) 9 hF rfl (ex_indexAddr Try.underlying33 sz3 rfl rfl (h2.idx he_51)) rfl rfl (by kernel_rfl) (by kernel_rfl) (by kernel_rfl) fun a hF => ?_
          refine e_x (v := (.int .i64 e_51)) 10 hF hS rfl (ex_loadE1 0 Try.underlying3 rfl rfl ((at52).at) rfl rfl) rfl rfl (by kernel_rfl) (by kernel_rfl) (by kernel_rfl) (by kernel_rfl) fun a hF => ?_
          obtain ⟨e_53, he_53, hb3⟩ := bindS hb3
          obtain ⟨vs54, at54, d54⟩ := h29.at he_53 1 rfl
          obtain rfl : vs54 = [(.int .i64 e_53)] := d54
          refine e_p (v := (elP s25 (t_26.toNat * 1))) 11 hF rfl (ex_indexAddr Try.underlying33 sz3 rfl rfl (h29.idx he_53)) rfl rfl (by kernel_rfl) (by kernel_rfl) (by kernel_rfl) fun a hF => ?_
          refine e_one 12 (by kernel_rfl) ?_
          have hS : St _ _ _ _ [q29, q48, q20, [⟨b7, [s20.v, s25.v], 46⟩], [⟨b6, [nilS.v, nilS.v], 46⟩], [⟨b5, [s1.v, s2.v], 46⟩]] := hS.sel [2, 0, 1, 3, 4, 5] (by decide)
          refine e_opl rfl rfl rfl fun _ hK => wp_storeE (e' := e_51) (us := [(.int .i64 e_51)]) (vs := [(.int .i64 e_53)]) 0 hF hS h29 sz3 rfl rfl rfl rfl rfl rfl rfl he_53 at54 rfl rfl rfl fun w q55 hS h55 => hK _ _ ?_
          refine e_end (by kernel_rfl) (n_ib (n_sq ?_)) _
          refine q_region ?_
          refine q_x (v := (.int .i64 (w64 (t_26 + 1)))) hF hS (ex_ibin rfl rfl rfl) rfl rfl fun a hF => ?_
          refine q_x (v := (.int .i64 (w64 (t_26 + 1)))) hF hS (ex_move rfl) rfl rfl fun a hF => ?_
          refine q_end ?_
          obtain rfl := someI hb3
          exact ⟨rfl, q55, _, _, rfl, hF.sub ⟨rfl, rfl, rfl, rfl, rfl, rfl, rfl, trivial⟩, hS.mask [true, false, true, true, true, true], h28, h28k, h55⟩
    · rintro e a w ⟨q58, rfl, hF, hS, h57, h57k, h58⟩
      refine x_ib (n_sq ?_)
      refine q_seq ?_
      refine q_region ?_
      refine q_x (v := (.agg #[s20.v, s25.v])) hF hS (ex_loadA (vs := [s20.v, s25.v]) 2 0 Try.underlying46 rfl sz46 rfl rfl rfl rfl) rfl rfl fun a hF => ?_
      refine q_store (vs := [s20.v, s25.v]) (cs' := [s20.v, s25.v]) 3 0 hF hS sz46 rfl rfl rfl rfl rfl rfl rfl rfl fun a w hF hS => ?_
      refine q_end (n_sq (q_ret ?_))
      obtain rfl := someI hr
      exact ret_of hF hS rfl (.cellA (us := [s20.v, s25.v]) 3 0 Try.underlying46 rfl sz46 rfl rfl rfl rfl .nil) ⟨q20, q58, s20, s25, rfl, hS.sel [0, 1] (by decide), h57, h58⟩

theorem c_impl_SliceOf (p_c : impl_Cube) (p_dim : Int) (p_i : Int) (r : impl_Cube × Bool) (hr : impl_SliceOf p_c p_dim p_i = some r) (w0 : World) (m : Mem) (hv : Vis m w0) (s1 : Sl) (h1 : Rd m s1 p_c.Sizes) (s2 : Sl) (h2 : Rd m s2 p_c.Cells) :
    Ret Try.prog 33 [(.agg #[s1.v, s2.v]), (.int .i64 p_dim), (.int .i64 p_i)] w0 (fun v w => ∃ (q0' : Piece) (q1' : Piece) (s0' : Sl) (s1' : Sl), v = (.tuple #[(.agg #[s0'.v, s1'.v]), (.bool r.2)]) ∧ St [] w0 w m [q0', q1'] ∧ OwnL m 3 q0' s0' r.1.Sizes ∧ OwnL m 3 q1' s1' r.1.Cells) := by
  unfold impl_SliceOf at hr
  refine ret_start Try.func33 rfl 64 rfl rfl m hv fun a hF hS => ?_
  refine q_seq ?_
  refine q_region ?_
  refine q_box (cs := [s1.v, s2.v]) hF hS rfl rfl rfl fun a w b3 hF hS => ?_
  refine q_alloc (cs := [nilS.v, nilS.v]) hF hS rfl rfl rfl fun a w b4 hF hS => ?_
  refine q_x (v := (.bool false)) hF hS (ex_assign rfl) rfl rfl fun a hF => ?_
  refine q_end (n_sq ?_)
  refine q_seq ?_
  refine q_seq ?_
  obtain ⟨t_8, hj1, hr⟩ := bindS hr
  refine q_join (fun a w => Fr a 64 [(1, (.int .i64 p_dim)), (2, (.int .i64 p_i)), (3, (.pointer (some ⟨b3, 0, none⟩))), (6, (.pointer (some ⟨b4, 0, none⟩))), (37, (.bool t_8))] ∧ St [] w0 w m [[⟨b4, [nilS.v, nilS.v], 46⟩], [⟨b3, [s1.v, s2.v], 46⟩]]) ?_ ?_
  · refine q_region ?_
    refine q_x (v := (.agg #[s1.v, s2.v])) hF hS (ex_loadA (vs := [s1.v, s2.v]) 1 0 Try.underlying46 rfl sz46 rfl rfl rfl rfl) rfl rfl fun a hF => ?_
    obtain ⟨t_5, ht_5, hj1⟩ := bindS hj1
    refine q_call (vs := [(.agg #[s1.v, s2.v])]) hF hS Try.func27 (by kernel_rfl) rfl rfl rfl (c_impl_IsCube p_c t_5 ht_5 _ m hS.vis s1 h1 s2 h2) ?_
    rintro a w _ rfl hF hS
    refine q_x (v := (.bool (!t_5))) hF hS (ex_not rfl) rfl rfl fun a hF => ?_
    refine q_x (v := (.bool (!t_5))) hF hS (ex_move rfl) rfl rfl fun a hF => ?_
    rcases bcase (!t_5) with hc2 | hc2
    · have hj1 := cond_f hc2 hj1
      refine q_xg (v := (.int .i64 p_dim)) hF hS (ex_move rfl) (wanted_t hF rfl rfl rfl hc2) rfl fun a hF => ?_
      refine q_xg (v := (.bool (decide (p_dim < 0)))) hF hS (ex_ibin rfl rfl rfl) (wanted_t hF rfl rfl rfl hc2) rfl fun a hF => ?_
      refine q_x (v := (.bool (decide (p_dim < 0)))) hF hS (ex_pick_f rfl rfl hc2) rfl rfl fun a hF => ?_
      refine q_x (v := (.bool (decide (p_dim < 0)))) hF hS (ex_move rfl) rfl rfl fun a hF => ?_
      rcases bcase (decide (p_dim < 0)) with hc3 | hc3
      · have hj1 := cond_f hc3 hj1
        refine q_xg (v := (.int .i64 p_dim)) hF hS (ex_move rfl) (wanted_t hF rfl rfl rfl hc3) rfl fun a hF => ?_
        refine q_xg (v := (.pointer (some ⟨b3, 0, none⟩))) hF hS (ex_fieldAddr Try.underlying46 rfl sz33 rfl rfl) (wanted_t hF rfl rfl rfl hc3) rfl fun a hF => ?_
        refine q_xg (v := s1.v) hF hS (ex_load1 1 0 Try.underlying33 rfl rfl rfl rfl) (wanted_t hF rfl rfl rfl hc3) rfl fun a hF => ?_
        refine q_xg (v := (.int .i64 (goLen p_c.Sizes))) hF hS (ex_len Try.underlying33 rfl h1.len) (wanted_t hF rfl rfl rfl hc3) rfl fun a hF => ?_
        refine q_xg (v := (.bool (decide ((goLen p_c.Sizes) ≤ p_dim)))) hF hS (ex_ibin rfl rfl rfl) (wanted_t hF rfl rfl rfl hc3) rfl fun a hF => ?_
        refine q_x (v := (.bool (decide ((goLen p_c.Sizes) ≤ p_dim)))) hF hS (ex_pick_f rfl rfl hc3) rfl rfl fun a hF => ?_
        refine q_x (v := (.bool (decide ((goLen p_c.Sizes) ≤ p_dim)))) hF hS (ex_move rfl) rfl rfl fun a hF => ?_
        rcases bcase (decide ((goLen p_c.Sizes) ≤ p_dim)) with hc4 | hc4
        · have hj1 := cond_f hc4 hj1
          refine q_xg (v := (.int .i64 p_i)) hF hS (ex_move rfl) (wanted_t hF rfl rfl rfl hc4) rfl fun a hF => ?_
          refine q_xg (v := (.bool (decide (p_i < 0)))) hF hS (ex_ibin rfl rfl rfl) (wanted_t hF rfl rfl rfl hc4) rfl fun a hF => ?_
          refine q_x (v := (.bool (decide (p_i < 0)))) hF hS (ex_pick_f rfl rfl hc4) rfl rfl fun a hF => ?_
          refine q_x (v := (.bool (decide (p_i < 0)))) hF hS (ex_move rfl) rfl rfl fun a hF => ?_
          rcases bcase (decide (p_i < 0)) with hc5 | hc5
          · have hj1 := cond_f hc5 hj1
            refine q_xg (v := (.int .i64 p_i)) hF hS (ex_move rfl) (wanted_t hF rfl rfl rfl hc5) rfl fun a hF => ?_
            refine q_xg (v := (.pointer (some ⟨b3, 0, none⟩))) hF hS (ex_fieldAddr Try.underlying46 rfl sz33 rfl rfl) (wanted_t hF rfl rfl rfl hc5) rfl fun a hF => ?_
            refine q_xg (v := s1.v) hF hS (ex_load1 1 0 Try.underlying33 rfl rfl rfl rfl) (wanted_t hF rfl rfl rfl hc5) rfl fun a hF => ?_
            refine q_xg (v := (.int .i64 p_dim)) hF hS (ex_move rfl) (wanted_t hF rfl rfl rfl hc5) rfl fun a hF => ?_
            obtain ⟨e_6, he_6, hj1⟩ := bindS hj1
            obtain ⟨vs7, at7, d7⟩ := h1.at he_6 1 rfl
            obtain rfl : vs7 = [(.int .i64 e_6)] := d7
            refine q_xg (v := (elP s1 (p_dim.toNat * 1))) hF hS (ex_indexAddr Try.underlying33 sz3 rfl rfl (h1.idx he_6)) (wanted_t hF rfl rfl rfl hc5) rfl fun a hF => ?_
            refine q_xg (v := (.int .i64 e_6)) hF hS (ex_loadE1 0 Try.underlying3 rfl rfl ((at7).at) rfl rfl) (wanted_t hF rfl rfl rfl hc5) rfl fun a hF => ?_
            refine q_xg (v := (.bool (decide (e_6 < p_i)))) hF hS (ex_ibin rfl rfl rfl) (wanted_t hF rfl rfl rfl hc5) rfl fun a hF => ?_
            refine q_x (v := (.bool (decide (e_6 < p_i)))) hF hS (ex_pick_f rfl rfl hc5) rfl rfl fun a hF => ?_
            refine q_end (n_jn ?_)
            obtain rfl := someI hj1
            exact ⟨hF.sub ⟨rfl, rfl, rfl, rfl, rfl, trivial⟩, hS⟩
          · have hj1 := cond_t hc5 hj1
            refine q_skip hF (wanted_f hF rfl rfl rfl hc5 rfl) rfl fun a hF => ?_
            refine q_skip hF (wanted_f hF rfl rfl rfl hc5 rfl) rfl fun a hF => ?_
            refine q_skip hF (wanted_f hF rfl rfl rfl hc5 rfl) rfl fun a hF => ?_
            refine q_skip hF (wanted_f hF rfl rfl rfl hc5 rfl) rfl fun a hF => ?_
            refine q_skip hF (wanted_f hF rfl rfl rfl hc5 rfl) rfl fun a hF => ?_
            refine q_skip hF (wanted_f hF rfl rfl rfl hc5 rfl) rfl fun a hF => ?_
            refine q_skip hF (wanted_f hF rfl rfl rfl hc5 rfl) rfl fun a hF => ?_
            refine q_x (v := (.bool true)) hF hS (ex_pick_t rfl rfl hc5) rfl rfl fun a hF => ?_
            refine q_end (n_jn ?_)
            obtain rfl := someI hj1
            exact ⟨hF.sub ⟨rfl, rfl, rfl, rfl, rfl, trivial⟩, hS⟩
        · have hj1 := cond_t hc4 hj1
          refine q_skip hF (wanted_f hF rfl rfl rfl hc4 rfl) rfl fun a hF => ?_
          refine q_skip hF (wanted_f hF rfl rfl rfl hc4 rfl) rfl fun a hF => ?_
          refine q_x (v := (.bool true)) hF hS (ex_pick_t rfl rfl hc4) rfl rfl fun a hF => ?_
          refine q_x (v := (.bool true)) hF hS (ex_move rfl) rfl rfl fun a hF => ?_
          refine q_skip hF (wanted_f hF rfl rfl rfl rfl rfl) rfl fun a hF => ?_
          refine q_skip hF (wanted_f hF rfl rfl rfl rfl rfl) rfl fun a hF => ?_
          refine q_skip hF (wanted_f hF rfl rfl rfl rfl rfl) rfl fun a hF => ?_
          refine q_skip hF (wanted_f hF rfl rfl rfl rfl rfl) rfl fun a hF => ?_
          refine q_skip hF (wanted_f hF rfl rfl rfl rfl rfl) rfl fun a hF => ?_
          refine q_skip hF (wanted_f hF rfl rfl rfl rfl rfl) rfl fun a hF => ?_
          refine q_skip hF (wanted_f hF rfl rfl rfl rfl rfl) rfl fun a hF => ?_
          refine q_x (v := (.bool true)) hF hS (ex_pick_t rfl rfl rfl) rfl rfl fun a hF => ?_
          refine q_end (n_jn ?_)
          obtain rfl := someI hj1
          exact ⟨hF.sub ⟨rfl, rfl, rfl, rfl, rfl, trivial⟩, hS⟩
      · have hj1 := cond_t hc3 hj1
        refine q_skip hF (wanted_f hF rfl rfl rfl hc3 rfl) rfl fun a hF => ?_
        refine q_skip hF (wanted_f hF rfl rfl rfl hc3 rfl) rfl fun a hF => ?_
        refine q_skip hF (wanted_f hF rfl rfl rfl hc3 rfl) rfl fun a hF => ?_
        refine q_skip hF (wanted_f hF rfl rfl rfl hc3 rfl) rfl fun a hF => ?_
        refine q_skip hF (wanted_f hF rfl rfl rfl hc3 rfl) rfl fun a hF => ?_
        refine q_x (v := (.bool true)) hF hS (ex_pick_t rfl rfl hc3) rfl rfl fun a hF => ?_
        refine q_x (v := (.bool true)) hF hS (ex_move rfl) rfl rfl fun a hF => ?_
        refine q_skip hF (wanted_f hF rfl rfl rfl rfl rfl) rfl fun a hF => ?_
        refine q_skip hF (wanted_f hF rfl rfl rfl rfl rfl) rfl fun a hF => ?_
        refine q_x (v := (.bool true)) hF hS (ex_pick_t rfl rfl rfl) rfl rfl fun a hF => ?_
        refine q_x (v := (.bool true)) hF hS (ex_move rfl) rfl rfl fun a hF => ?_
        refine q_skip hF (wanted_f hF rfl rfl rfl rfl rfl) rfl fun a hF => ?_
        refine q_skip hF (wanted_f hF rfl rfl rfl rfl rfl) rfl fun a hF => ?_
        refine q_skip hF (wanted_f hF rfl rfl rfl rfl rfl) rfl fun a hF => ?_
        refine q_skip hF (wanted_f hF rfl rfl rfl rfl rfl) rfl fun a hF => ?_
        refine q_skip hF (wanted_f hF rfl rfl rfl rfl rfl) rfl fun a hF => ?_
        refine q_skip hF (wanted_f hF rfl rfl rfl rfl rfl) rfl fun a hF => ?_
        refine q_skip hF (wanted_f hF rfl rfl rfl rfl rfl) rfl fun a hF => ?_
        refine q_x (v := (.bool true)) hF hS (ex_pick_t rfl rfl rfl) rfl rfl fun a hF => ?_
        refine q_end (n_jn ?_)
        obtain rfl := someI hj1
        exact ⟨hF.sub ⟨rfl, rfl, rfl, rfl, rfl, trivial⟩, hS⟩
    · have hj1 := cond_t hc2 hj1
      refine q_skip hF (wanted_f hF rfl rfl rfl hc2 rfl) rfl fun a hF => ?_
      refine q_skip hF (wanted_f hF rfl rfl rfl hc2 rfl) rfl fun a hF => ?_
      refine q_x (v := (.bool true)) hF hS (ex_pick_t rfl rfl hc2) rfl rfl fun a hF => ?_
      refine q_x (v := (.bool true)) hF hS (ex_move rfl) rfl rfl fun a hF => ?_
      refine q_skip hF (wanted_f hF rfl rfl rfl rfl rfl) rfl fun a hF => ?_
      refine q_skip hF (wanted_f hF rfl rfl rfl rfl rfl) rfl fun a hF => ?_
      refine q_skip hF (wanted_f hF rfl rfl rfl rfl rfl) rfl fun a hF => ?_
      refine q_skip hF (wanted_f hF rfl rfl rfl rfl rfl) rfl fun a hF => ?_
      refine q_skip hF (wanted_f hF rfl rfl rfl rfl rfl) rfl fun a hF => ?_
      refine q_x (v := (.bool true)) hF hS (ex_pick_t rfl rfl rfl) rfl rfl fun a hF => ?_
      refine q_x (v := (.bool true)) hF hS (ex_move rfl) rfl rfl fun a hF => ?_
      refine q_skip hF (wanted_f hF rfl rfl rfl rfl rfl) rfl fun a hF => ?_
      refine q_skip hF (wanted_f hF rfl rfl rfl rfl rfl) rfl fun a hF => ?_
      refine q_x (v := (.bool true)) hF hS (ex_pick_t rfl rfl rfl) rfl rfl fun a hF => ?_
      refine q_x (v := (.bool true)) hF hS (ex_move rfl) rfl rfl fun a hF => ?_
      refine q_skip hF (wanted_f hF rfl rfl rfl rfl rfl) rfl fun a hF => ?_
      refine q_skip hF (wanted_f hF rfl rfl rfl rfl rfl) rfl fun a hF => ?_
      refine q_skip hF (wanted_f hF rfl rfl rfl rfl rfl) rfl fun a hF => ?_
      refine q_skip hF (wanted_f hF rfl rfl rfl rfl rfl) rfl fun a hF => ?_
      refine q_skip hF (wanted_f hF rfl rfl rfl rfl rfl) rfl fun a hF => ?_
      refine q_skip hF (wanted_f hF rfl rfl rfl rfl rfl) rfl fun a hF => ?_
      refine q_skip hF (wanted_f hF rfl rfl rfl rfl rfl) rfl fun a hF => ?_
      refine q_x (v := (.bool true)) hF hS (ex_pick_t rfl rfl rfl) rfl rfl fun a hF => ?_
      refine q_end (n_jn ?_)
      obtain rfl := someI hj1
      exact ⟨hF.sub ⟨rfl, rfl, rfl, rfl, rfl, trivial⟩, hS⟩
  · rintro a w ⟨hF, hS⟩
    refine n_sq ?_
    rcases bcase (t_8) with hc6 | hc6
    · have hr := cond_f hc6 hr
      refine q_cond_f hF rfl hc6 ?_
      refine q_skipc (n_sq ?_)
      refine q_seq ?_
      refine q_region ?_
      refine q_x (v := nilS.v) hF hS (ex_assign rfl) rfl rfl fun a hF => ?_
      refine q_end (n_sq ?_)
      refine q_seq ?_
      refine q_seq ?_
      refine q_region ?_
      refine q_x (v := (.pointer (some ⟨b3, 0, none⟩))) hF hS (ex_fieldAddr Try.underlying46 rfl sz33 rfl rfl) rfl rfl fun a hF => ?_
      refine q_x (v := s1.v) hF hS (ex_load1 1 0 Try.underlying33 rfl rfl rfl rfl) rfl rfl fun a hF => ?_
      refine q_x (v := (.int .i64 (goLen p_c.Sizes))) hF hS (ex_len Try.underlying33 rfl h1.len) rfl rfl fun a hF => ?_
      refine q_x (v := (.int .i64 0)) hF hS (ex_move rfl) rfl rfl fun a hF => ?_
      refine q_end (n_sq ?_)
      refine q_block ?_
      obtain ⟨dims_17, hl7, hr⟩ := bindS hr
      refine q_loop (fun (s : (List Int) × Int) a w => ∃ (q10 : Piece), ∃ (s10 : Sl), ∃ dims_9, ∃ t_11, s = (dims_9, t_11) ∧ Fr a 64 [(1, (.int .i64 p_dim)), (2, (.int .i64 p_i)), (3, (.pointer (some ⟨b3, 0, none⟩))), (6, (.pointer (some ⟨b4, 0, none⟩))), (8, s10.v), (41, (.int .i64 (goLen p_c.Sizes))), (42, (.int .i64 t_11))] ∧ St [] w0 w m [q10, [⟨b4, [nilS.v, nilS.v], 46⟩], [⟨b3, [s1.v, s2.v], 46⟩]] ∧ OwnL m 3 q10 s10 dims_9) (fun (dims_17 : (List Int)) e a w => ∃ (q18 : Piece), ∃ (s18 : Sl), e = .exit 0 ∧ Fr a 64 [(1, (.int .i64 p_dim)), (2, (.int .i64 p_i)), (3, (.pointer (some ⟨b3, 0, none⟩))), (6, (.pointer (some ⟨b4, 0, none⟩))), (8, s18.v)] ∧ St [] w0 w m [q18, [⟨b4, [nilS.v, nilS.v], 46⟩], [⟨b3, [s1.v, s2.v], 46⟩]] ∧ OwnL m 3 q18 s18 dims_17) hl7 ⟨[], nilS, _, _, rfl, hF.sub ⟨rfl, rfl, rfl, rfl, rfl, rfl, rfl, trivial⟩, hS.sel [2, 0, 1] (by decide), (OwnL.nil (α := Int) m 3)⟩ ?_ ?_
      · clear hF hS
        rintro s a w st ⟨q10, s10, dims_9, t_11, rfl, hF, hS, h10⟩ hb7
        unfold impl_SliceOf_l1 at hb7
        refine q_seq ?_
        refine q_region ?_
        refine q_x (v := (.bool (decide (t_11 < (goLen p_c.Sizes))))) hF hS (ex_ibin rfl rfl rfl) rfl rfl fun a hF => ?_
        refine q_end (n_sq ?_)
        refine q_seq ?_
        rcases bcase (decide (t_11 < (goLen p_c.Sizes))) with hc8 | hc8
        · have hb7 := cond_f hc8 hb7
          refine q_cond_f hF rfl hc8 ?_
          refine q_exit (x_sq ?_)
          obtain rfl := someI hb7
          exact ⟨nofun, .inl ⟨q10, s10, rfl, hF.sub ⟨rfl, rfl, rfl, rfl, rfl, trivial⟩, hS, h10⟩⟩
        · have hb7 := cond_t hc8 hb7
          refine q_cond_t hF rfl hc8 ?_
          refine q_skipc (n_sq ?_)
          refine q_seq ?_
          refine q_block ?_
          refine q_seq ?_
          refine q_region ?_
          refine q_x (v := (.int .i64 t_11)) hF hS (ex_move rfl) rfl rfl fun a hF => ?_
          refine q_x (v := (.int .i64 t_11)) hF hS (ex_assign rfl) rfl rfl fun a hF => ?_
          refine q_end (n_sq ?_)
          refine q_seq ?_
          refine q_region ?_
          refine q_x (v := (.int .i64 t_11)) hF hS (ex_move rfl) rfl rfl fun a hF => ?_
          refine q_x (v := (.int .i64 p_dim)) hF hS (ex_move rfl) rfl rfl fun a hF => ?_
          refine q_x (v := (.bool (t_11 != p_dim))) hF hS (ex_ibin rfl rfl rfl) rfl rfl fun a hF => ?_
          refine q_end (n_sq ?_)
          obtain ⟨dims_15, hj9, hb7⟩ := bindS hb7
          refine q_join (fun a w => ∃ (q16 : Piece), ∃ (s16 : Sl), Fr a 64 [(1, (.int .i64 p_dim)), (2, (.int .i64 p_i)), (3, (.pointer (some ⟨b3, 0, none⟩))), (6, (.pointer (some ⟨b4, 0, none⟩))), (8, s16.v), (41, (.int .i64 (goLen p_c.Sizes))), (42, (.int .i64 t_11))] ∧ St [] w0 w m [q16, [⟨b4, [nilS.v, nilS.v], 46⟩], [⟨b3, [s1.v, s2.v], 46⟩]] ∧ OwnL m 3 q16 s16 dims_15) ?_ ?_
          · rcases bcase (t_11 != p_dim) with hc10 | hc10
            · have hj9 := cond_f hc10 hj9
              refine q_cond_f hF rfl hc10 ?_
              refine q_skipc (n_jn ?_)
              obtain rfl := someI hj9
              exact ⟨q10, s10, hF.sub ⟨rfl, rfl, rfl, rfl, rfl, rfl, rfl, trivial⟩, hS, h10⟩
            · have hj9 := cond_t hc10 hj9
              refine q_cond_t hF rfl hc10 ?_
              refine q_region ?_
              refine q_x (v := s10.v) hF hS (ex_move rfl) rfl rfl fun a hF => ?_
              refine q_x (v := (.int .i64 t_11)) hF hS (ex_move rfl) rfl rfl fun a hF => ?_
              refine q_do rfl fun _ hK => wp_buildSlice' (l := ([t_11] : List Int)) (cells := [(.int .i64 t_11)]) hF hS Try.underlying33 inf3 rfl rfl (by kernel_rfl) rfl rfl rfl ⟨rfl, rfl⟩ rfl rfl fun a w q12 s12 hF hS h12 _ => hK _ _ ?_
              have hS : St _ _ _ _ [q10, q12, [⟨b4, [nilS.v, nilS.v], 46⟩], [⟨b3, [s1.v, s2.v], 46⟩]] := hS.sel [1, 0, 2, 3] (by decide)
              obtain ⟨l_13, hl_13, hj9⟩ := bindS hj9
              refine q_do rfl fun _ hK => wp_append hF hS h10 Try.underlying33 inf3 rfl rfl rfl rfl (h12.vw hS (j := 1) rfl) rfl (by decide) hl_13 rfl fun a w q14 s14 hF hS h14 => hK _ _ ?_
              refine q_x (v := s14.v) hF hS (ex_assign rfl) rfl rfl fun a hF => ?_
              refine q_end (n_jn ?_)
              obtain rfl := someI hj9
              exact ⟨q14, s14, hF.sub ⟨rfl, rfl, rfl, rfl, rfl, rfl, rfl, trivial⟩, hS.mask [true, false, true, true], h14⟩
          · rintro a w ⟨q16, s16, hF, hS, h16⟩
            refine n_ib (n_sq ?_)
            refine q_region ?_
            refine q_x (v := (.int .i64 (w64 (t_11 + 1)))) hF hS (ex_ibin rfl rfl rfl) rfl rfl fun a hF => ?_
            refine q_x (v := (.int .i64 (w64 (t_11 + 1)))) hF hS (ex_move rfl) rfl rfl fun a hF => ?_
            refine q_end ?_
            obtain rfl := someI hb7
            exact ⟨rfl, q16, s16, _, _, rfl, hF.sub ⟨rfl, rfl, rfl, rfl, rfl, rfl, rfl, trivial⟩, hS, h16⟩
      · rintro e a w ⟨q18, s18, rfl, hF, hS, h18⟩
        refine x_ib (n_sq ?_)
        refine q_seq ?_
        refine q_region ?_
        refine q_x (v := (.pointer (some ⟨b3, 0, none⟩))) hF hS (ex_fieldAddr Try.underlying46 rfl sz33 rfl rfl) rfl rfl fun a hF => ?_
        refine q_x (v := s1.v) hF hS (ex_load1 2 0 Try.underlying33 rfl rfl rfl rfl) rfl rfl fun a hF => ?_
        obtain ⟨t_19, ht_19, hr⟩ := bindS hr
        refine q_call (vs := [s1.v]) hF hS Try.func74 (by kernel_rfl) rfl rfl rfl (c_slices_Clone_int_int p_c.Sizes t_19 ht_19 _ m hS.vis s1 h1) ?_
        rintro a w _ ⟨q21, s21, rfl, hR20, h21⟩ hF hS2
        have hS : St _ _ _ _ [q21, q18, [⟨b4, [nilS.v, nilS.v], 46⟩], [⟨b3, [s1.v, s2.v], 46⟩]] := hS.joinF hR20
        refine q_x (v := s21.v) hF hS (ex_assign rfl) rfl rfl fun a hF => ?_
        refine q_end (n_sq ?_)
        refine q_seq ?_
        refine q_region ?_
        refine q_x (v := s21.v) hF hS (ex_move rfl) rfl rfl fun a hF => ?_
        refine q_x (v := (.int .i64 p_dim)) hF hS (ex_move rfl) rfl rfl fun a hF => ?_
        refine q_x (v := (.int .i64 p_i)) hF hS (ex_move rfl) rfl rfl fun a hF => ?_
        obtain ⟨e_22, he_22, hr⟩ := bindS hr
        obtain ⟨vs23, at23, d23⟩ := h21.at he_22 1 rfl
        obtain rfl : vs23 = [(.int .i64 e_22)] := d23
        refine q_x (v := (elP s21 (p_dim.toNat * 1))) hF hS (ex_indexAddr Try.underlying33 sz3 rfl rfl (h21.idx he_22)) rfl rfl fun a hF => ?_
        refine q_do rfl fun _ hK => wp_storeE (e' := p_i) (us := [(.int .i64 p_i)]) (vs := [(.int .i64 e_22)]) 0 hF hS h21 sz3 rfl rfl rfl rfl rfl rfl rfl he_22 at23 rfl rfl rfl fun w q24 hS h24 => hK _ _ ?_
        refine q_end (n_sq ?_)
        refine q_seq ?_
        refine q_region ?_
        refine q_x (v := (.agg #[s1.v, s2.v])) hF hS (ex_loadA (vs := [s1.v, s2.v]) 3 0 Try.underlying46 rfl sz46 rfl rfl rfl rfl) rfl rfl fun a hF => ?_
        refine q_x (v := s18.v) hF hS (ex_move rfl) rfl rfl fun a hF => ?_
        refine q_x (v := s21.v) hF hS (ex_move rfl) rfl rfl fun a hF => ?_
        obtain ⟨m26, hl26, hv26, hz26⟩ := hS.lend
        obtain ⟨t_25, ht_25, hr⟩ := bindS hr
        refine q_call (vs := [(.agg #[s1.v, s2.v]), s18.v, s21.v]) hF hS Try.func66 (by kernel_rfl) rfl rfl rfl (c_impl_taken p_c dims_17 (goSet t_19 p_dim p_i) t_25 ht_25 _ m26 hv26 s1 (h1.mono hl26) s2 (h2.mono hl26) s18 (h18.froz hl26 (hz26 1 _ rfl)) s21 (h24.froz hl26 (hz26 0 _ rfl))) ?_
        rintro a w _ ⟨q28, q29, s28, s29, rfl, hR27, h28, h29⟩ hF hS2
        have hS : St _ _ _ _ [q28, q29, q24, q18, [⟨b4, [nilS.v, nilS.v], 46⟩], [⟨b3, [s1.v, s2.v], 46⟩]] := hS.joinF hR27
        have h28 := h28.any m
        have h29 := h29.any m
        refine q_store (vs := [s28.v, s29.v]) (cs' := [s28.v, s29.v]) 4 0 hF hS sz46 rfl rfl rfl rfl rfl rfl rfl rfl fun a w hF hS => ?_
        refine q_x (v := (.bool true)) hF hS (ex_assign rfl) rfl rfl fun a hF => ?_
        refine q_end (n_sq (q_ret ?_))
        obtain rfl := someI hr
        exact ret_of hF hS rfl (.cellA (us := [s28.v, s29.v]) 4 0 Try.underlying46 rfl sz46 rfl rfl rfl rfl (.tmp rfl .nil)) ⟨q28, q29, s28, s29, rfl, hS.sel [0, 1] (by decide), h28, h29⟩
    · have hr := cond_t hc6 hr
      refine q_cond_t hF rfl hc6 ?_
      refine q_seq ?_
      refine q_region ?_
      refine q_x (v := (.agg #[nilS.v, nilS.v])) hF hS (ex_build (cells := [nilS.v, nilS.v]) rfl (by kernel_rfl)) rfl rfl fun a hF => ?_
      refine q_store (vs := [nilS.v, nilS.v]) (cs' := [nilS.v, nilS.v]) 0 0 hF hS sz46 rfl rfl rfl rfl rfl rfl rfl rfl fun a w hF hS => ?_
      refine q_x (v := (.bool false)) hF hS (ex_assign rfl) rfl rfl fun a hF => ?_
      refine q_end (n_sq (q_ret (r_sq ?_)))
      obtain rfl := someI hr
      exact ret_of hF hS rfl (.cellA (us := [nilS.v, nilS.v]) 0 0 Try.underlying46 rfl sz46 rfl rfl rfl rfl (.tmp rfl .nil)) ⟨[], [], nilS, nilS, rfl, hS.sel [2, 3] (by decide), (OwnL.nil (α := Int) m 3), (OwnL.nil (α := Int) m 3)⟩

theorem c_spec_cbForm (p_c : impl_Cube) (r : Bool) (hr : spec_cbForm p_c = some r) (w0 : World) (m : Mem) (hv : Vis m w0) (s1 : Sl) (h1 : Rd m s1 p_c.Sizes) (s2 : Sl) (h2 : Rd m s2 p_c.Cells) :
    Ret Try.prog 91 [(.agg #[s1.v, s2.v])] w0 (fun v _ => v = (.bool r)) := by
  unfold spec_cbForm at hr
  refine ret_start Try.func91 rfl 21 rfl rfl m hv fun a hF hS => ?_
  refine q_seq ?_
  refine q_region ?_
  refine q_box (cs := [s1.v, s2.v]) hF hS rfl rfl rfl fun a w b3 hF hS => ?_
  refine q_x (v := (.bool false)) hF hS (ex_assign rfl) rfl rfl fun a hF => ?_
  refine q_end (n_sq ?_)
  refine q_seq ?_
  refine q_region ?_
  refine q_x (v := (.pointer (some ⟨b3, 0, none⟩))) hF hS (ex_fieldAddr Try.underlying46 rfl sz33 rfl rfl) rfl rfl fun a hF => ?_
  refine q_x (v := s1.v) hF hS (ex_load1 0 0 Try.underlying33 rfl rfl rfl rfl) rfl rfl fun a hF => ?_
  obtain ⟨t_4, ht_4, hr⟩ := bindS hr
  refine q_call (vs := [s1.v]) hF hS Try.func59 (by kernel_rfl) rfl rfl rfl (c_spec_cbCount p_c.Sizes t_4 ht_4 _ m hS.vis s1 h1) ?_
  rintro a w _ rfl hF hS
  refine q_x (v := (.int .i64 t_4)) hF hS (ex_assign rfl) rfl rfl fun a hF => ?_
  refine q_end (n_sq ?_)
  refine q_seq ?_
  obtain ⟨t_6, hj1, hr⟩ := bindS hr
  refine q_join (fun a w => Fr a 21 [(2, (.bool t_6))] ∧ St [] w0 w m []) ?_ ?_
  · refine q_region ?_
    refine q_x (v := (.int .i64 t_4)) hF hS (ex_move rfl) rfl rfl fun a hF => ?_
    refine q_x (v := (.bool (decide (0 < t_4)))) hF hS (ex_ibin rfl rfl rfl) rfl rfl fun a hF => ?_
    refine q_x (v := (.bool (decide (0 < t_4)))) hF hS (ex_move rfl) rfl rfl fun a hF => ?_
    rcases bcase (decide (0 < t_4)) with hc2 | hc2
    · have hj1 := cond_f hc2 hj1
      refine q_skip hF (wanted_f hF rfl rfl rfl hc2 rfl) rfl fun a hF => ?_
      refine q_skip hF (wanted_f hF rfl rfl rfl hc2 rfl) rfl fun a hF => ?_
      refine q_skip hF (wanted_f hF rfl rfl rfl hc2 rfl) rfl fun a hF => ?_
      refine q_skip hF (wanted_f hF rfl rfl rfl hc2 rfl) rfl fun a hF => ?_
      refine q_skip hF (wanted_f hF rfl rfl rfl hc2 rfl) rfl fun a hF => ?_
      refine q_x (v := (.bool false)) hF hS (ex_pick_f rfl rfl hc2) rfl rfl fun a hF => ?_
      refine q_x (v := (.bool false)) hF hS (ex_move rfl) rfl rfl fun a hF => ?_
      refine q_skip hF (wanted_f hF rfl rfl rfl rfl rfl) rfl fun a hF => ?_
      refine q_skip hF (wanted_f hF rfl rfl rfl rfl rfl) rfl fun a hF => ?_
      refine q_skip hF (wanted_f hF rfl rfl rfl rfl rfl) rfl fun a hF => ?_
      refine q_x (v := (.bool false)) hF hS (ex_pick_f rfl rfl rfl) rfl rfl fun a hF => ?_
      refine q_x (v := (.bool false)) hF hS (ex_assign rfl) rfl rfl fun a hF => ?_
      refine q_end (n_jn ?_)
      obtain rfl := someI hj1
      exact ⟨hF.sub ⟨rfl, trivial⟩, hS.mask [false]⟩
    · have hj1 := cond_t hc2 hj1
      refine q_xg (v := (.pointer (some ⟨b3, 1, none⟩))) hF hS (ex_fieldAddr Try.underlying46 rfl sz33 rfl rfl) (wanted_t hF rfl rfl rfl hc2) rfl fun a hF => ?_
      refine q_xg (v := s2.v) hF hS (ex_load1 0 0 Try.underlying33 rfl rfl rfl rfl) (wanted_t hF rfl rfl rfl hc2) rfl fun a hF => ?_
      refine q_xg (v := (.int .i64 (goLen p_c.Cells))) hF hS (ex_len Try.underlying33 rfl h2.len) (wanted_t hF rfl rfl rfl hc2) rfl fun a hF => ?_
      refine q_xg (v := (.int .i64 t_4)) hF hS (ex_move rfl) (wanted_t hF rfl rfl rfl hc2) rfl fun a hF => ?_
      refine q_xg (v := (.bool ((goLen p_c.Cells) == t_4))) hF hS (ex_ibin rfl rfl rfl) (wanted_t hF rfl rfl rfl hc2) rfl fun a hF => ?_
      refine q_x (v := (.bool ((goLen p_c.Cells) == t_4))) hF hS (ex_pick_t rfl rfl hc2) rfl rfl fun a hF => ?_
      refine q_x (v := (.bool ((goLen p_c.Cells) == t_4))) hF hS (ex_move rfl) rfl rfl fun a hF => ?_
      rcases bcase ((goLen p_c.Cells) == t_4) with hc3 | hc3
      · have hj1 := cond_f hc3 hj1
        refine q_skip hF (wanted_f hF rfl rfl rfl hc3 rfl) rfl fun a hF => ?_
        refine q_skip hF (wanted_f hF rfl rfl rfl hc3 rfl) rfl fun a hF => ?_
        refine q_skip hF (wanted_f hF rfl rfl rfl hc3 rfl) rfl fun a hF => ?_
        refine q_x (v := (.bool false)) hF hS (ex_pick_f rfl rfl hc3) rfl rfl fun a hF => ?_
        refine q_x (v := (.bool false)) hF hS (ex_assign rfl) rfl rfl fun a hF => ?_
        refine q_end (n_jn ?_)
        obtain rfl := someI hj1
        exact ⟨hF.sub ⟨rfl, trivial⟩, hS.mask [false]⟩
      · have hj1 := cond_t hc3 hj1
        refine q_xg (v := (.pointer (some ⟨b3, 1, none⟩))) hF hS (ex_fieldAddr Try.underlying46 rfl sz33 rfl rfl) (wanted_t hF rfl rfl rfl hc3) rfl fun a hF => ?_
        refine q_xg (v := s2.v) hF hS (ex_load1 0 0 Try.underlying33 rfl rfl rfl rfl) (wanted_t hF rfl rfl rfl hc3) rfl fun a hF => ?_
        obtain ⟨t_5, ht_5, hj1⟩ := bindS hj1
        refine q_callg (vs := [s2.v, (.int .i64 (-1000000)), (.int .i64 1000000)]) hF hS (wanted_t hF rfl rfl rfl hc3) Try.func61 (by kernel_rfl) rfl rfl rfl (c_spec_l1All p_c.Cells (-1000000) 1000000 t_5 ht_5 _ m hS.vis s2 h2) ?_
        rintro a w _ rfl hF hS
        refine q_x (v := (.bool t_5)) hF hS (ex_pick_t rfl rfl hc3) rfl rfl fun a hF => ?_
        refine q_x (v := (.bool t_5)) hF hS (ex_assign rfl) rfl rfl fun a hF => ?_
        refine q_end (n_jn ?_)
        obtain rfl := someI hj1
        exact ⟨hF.sub ⟨rfl, trivial⟩, hS.mask [false]⟩
  · rintro a w ⟨hF, hS⟩
    refine n_sq (q_ret ?_)
    obtain rfl := someI hr
    exact ret_of hF hS rfl (.tmp rfl .nil) rfl

theorem c_spec_cbParts (p_sizes : List Int) (p_i : Int) (p_d : Int) (r : (List Int)) (hr : spec_cbParts p_sizes p_i p_d = some r) (w0 : World) (m : Mem) (hv : Vis m w0) (s1 : Sl) (h1 : Rd m s1 p_sizes) :
    Ret Try.prog 99 [s1.v, (.int .i64 p_i), (.int .i64 p_d)] w0 (fun v w => ∃ (q0' : Piece) (s0' : Sl), v = s0'.v ∧ St [] w0 w m [q0'] ∧ OwnL m 3 q0' s0' r) := by
  unfold spec_cbParts at hr
  refine ret_start Try.func99 rfl 32 rfl rfl m hv fun a hF hS => ?_
  refine q_seq ?_
  refine q_region ?_
  refine q_x (v := nilS.v) hF hS (ex_assign rfl) rfl rfl fun a hF => ?_
  refine q_end (n_sq ?_)
  refine q_seq ?_
  refine q_region ?_
  refine q_x (v := s1.v) hF hS (ex_move rfl) rfl rfl fun a hF => ?_
  refine q_x (v := (.int .i64 p_i)) hF hS (ex_move rfl) rfl rfl fun a hF => ?_
  obtain ⟨t_2, ht_2, hr⟩ := bindS hr
  refine q_call (vs := [s1.v, (.int .i64 p_i)]) hF hS Try.func82 (by kernel_rfl) rfl rfl rfl (c_spec_cbIndices p_sizes p_i t_2 ht_2 _ m hS.vis s1 h1) ?_
  rintro a w _ ⟨q4, s4, rfl, hR3, h4⟩ hF hS2
  have hS : St _ _ _ _ [q4] := hS.joinF hR3
  refine q_x (v := s4.v) hF hS (ex_assign rfl) rfl rfl fun a hF => ?_
  refine q_end (n_sq ?_)
  refine q_seq ?_
  refine q_region ?_
  refine q_x (v := nilS.v) hF hS (ex_assign rfl) rfl rfl fun a hF => ?_
  refine q_end (n_sq ?_)
  refine q_seq ?_
  refine q_seq ?_
  refine q_region ?_
  refine q_x (v := (.int .i64 0)) hF hS (ex_assign rfl) rfl rfl fun a hF => ?_
  refine q_end (n_sq ?_)
  refine q_block ?_
  obtain ⟨out_20, hl1, hr⟩ := bindS hr
  refine q_loop (fun (s : (List Int) × (List Int) × Int) a w => ∃ (q6 : Piece), ∃ (q8 : Piece), ∃ (s8 : Sl), ∃ index_5, ∃ out_7, ∃ k_9, s = (index_5, out_7, k_9) ∧ Fr a 32 [(0, s1.v), (2, (.int .i64 p_d)), (7, s4.v), (8, s8.v), (9, (.int .i64 k_9))] ∧ St [] w0 w m [q6, q8] ∧ OwnL m 3 q6 s4 index_5 ∧ OwnL m 3 q8 s8 out_7) (fun (out_20 : (List Int)) e a w => ∃ (q21 : Piece), ∃ (s21 : Sl), e = .exit 0 ∧ Fr a 32 [(8, s21.v)] ∧ St [] w0 w m [q21] ∧ OwnL m 3 q21 s21 out_20) hl1 ⟨q4, [], nilS, _, _, _, rfl, hF.sub ⟨rfl, rfl, rfl, rfl, rfl, trivial⟩, hS.sel [0, 1] (by decide), h4, (OwnL.nil (α := Int) m 3)⟩ ?_ ?_
  · clear hF hS
    rintro s a w st ⟨q6, q8, s8, index_5, out_7, k_9, rfl, hF, hS, h6, h8⟩ hb1
    unfold spec_cbParts_l1 at hb1
    refine q_seq ?_
    refine q_seq ?_
    refine q_region ?_
    refine q_x (v := (.int .i64 k_9)) hF hS (ex_move rfl) rfl rfl fun a hF => ?_
    refine q_x (v := s1.v) hF hS (ex_move rfl) rfl rfl fun a hF => ?_
    refine q_x (v := (.int .i64 p_d)) hF hS (ex_move rfl) rfl rfl fun a hF => ?_
    obtain ⟨e_10, he_10, hb1⟩ := bindS hb1
    obtain ⟨vs11, at11, d11⟩ := h1.at he_10 1 rfl
    obtain rfl : vs11 = [(.int .i64 e_10)] := d11
    refine q_x (v := (elP s1 (p_d.toNat * 1))) hF hS (ex_indexAddr Try.underlying33 sz3 rfl rfl (h1.idx he_10)) rfl rfl fun a hF => ?_
    refine q_x (v := (.int .i64 e_10)) hF hS (ex_loadE1 0 Try.underlying3 rfl rfl ((at11).at) rfl rfl) rfl rfl fun a hF => ?_
    refine q_x (v := (.bool (decide (k_9 < e_10)))) hF hS (ex_ibin rfl rfl rfl) rfl rfl fun a hF => ?_
    refine q_end (n_sq ?_)
    rcases bcase (decide (k_9 < e_10)) with hc2 | hc2
    · have hb1 := cond_f hc2 hb1
      refine q_cond_f hF rfl hc2 ?_
      refine q_exit (x_sq ?_)
      obtain rfl := someI hb1
      exact ⟨nofun, .inl ⟨q8, s8, rfl, hF.sub ⟨rfl, trivial⟩, hS.mask [false, true], h8⟩⟩
    · have hb1 := cond_t hc2 hb1
      refine q_cond_t hF rfl hc2 ?_
      refine q_skipc (n_sq ?_)
      refine q_seq ?_
      refine q_block ?_
      refine q_seq ?_
      refine q_region ?_
      refine q_x (v := s4.v) hF hS (ex_move rfl) rfl rfl fun a hF => ?_
      refine q_x (v := (.int .i64 p_d)) hF hS (ex_move rfl) rfl rfl fun a hF => ?_
      refine q_x (v := (.int .i64 k_9)) hF hS (ex_move rfl) rfl rfl fun a hF => ?_
      obtain ⟨e_12, he_12, hb1⟩ := bindS hb1
      obtain ⟨vs13, at13, d13⟩ := h6.at he_12 1 rfl
      obtain rfl : vs13 = [(.int .i64 e_12)] := d13
      refine q_x (v := (elP s4 (p_d.toNat * 1))) hF hS (ex_indexAddr Try.underlying33 sz3 rfl rfl (h6.idx he_12)) rfl rfl fun a hF => ?_
      refine q_do rfl fun _ hK => wp_storeE (e' := k_9) (us := [(.int .i64 k_9)]) (vs := [(.int .i64 e_12)]) 0 hF hS h6 sz3 rfl rfl rfl rfl rfl rfl rfl he_12 at13 rfl rfl rfl fun w q14 hS h14 => hK _ _ ?_
      refine q_end (n_sq ?_)
      refine q_region ?_
      refine q_x (v := s8.v) hF hS (ex_move rfl) rfl rfl fun a hF => ?_
      refine q_x (v := s1.v) hF hS (ex_move rfl) rfl rfl fun a hF => ?_
      refine q_x (v := s4.v) hF hS (ex_move rfl) rfl rfl fun a hF => ?_
      obtain ⟨m16, hl16, hv16, hz16⟩ := hS.lend
      obtain ⟨t_15, ht_15, hb1⟩ := bindS hb1
      refine q_call (vs := [s1.v, s4.v]) hF hS Try.func83 (by kernel_rfl) rfl rfl rfl (c_spec_cbAt p_sizes (goSet index_5 p_d k_9) t_15 ht_15 _ m16 hv16 s1 (h1.mono hl16) s4 (h14.froz hl16 (hz16 0 _ rfl))) ?_
      rintro a w _ rfl hF hS
      refine q_do rfl fun _ hK => wp_buildSlice' (l := ([t_15] : List Int)) (cells := [(.int .i64 t_15)]) hF hS Try.underlying33 inf3 rfl rfl (by kernel_rfl) rfl rfl rfl ⟨rfl, rfl⟩ rfl rfl fun a w q17 s17 hF hS h17 _ => hK _ _ ?_
      have hS : St _ _ _ _ [q8, q17, q14] := hS.sel [2, 0, 1] (by decide)
      obtain ⟨l_18, hl_18, hb1⟩ := bindS hb1
      refine q_do rfl fun _ hK => wp_append hF hS h8 Try.underlying33 inf3 rfl rfl rfl rfl (h17.vw hS (j := 1) rfl) rfl (by decide) hl_18 rfl fun a w q19 s19 hF hS h19 => hK _ _ ?_
      refine q_x (v := s19.v) hF hS (ex_assign rfl) rfl rfl fun a hF => ?_
      refine q_end (n_ib (n_sq ?_))
      refine q_region ?_
      refine q_x (v := (.int .i64 k_9)) hF hS (ex_move rfl) rfl rfl fun a hF => ?_
      refine q_x (v := (.int .i64 (w64 (k_9 + 1)))) hF hS (ex_ibin rfl rfl rfl) rfl rfl fun a hF => ?_
      refine q_x (v := (.int .i64 (w64 (k_9 + 1)))) hF hS (ex_assign rfl) rfl rfl fun a hF => ?_
      refine q_end ?_
      obtain rfl := someI hb1
      exact ⟨rfl, q14, q19, s19, _, _, _, rfl, hF.sub ⟨rfl, rfl, rfl, rfl, rfl, trivial⟩, hS.sel [2, 0] (by decide), h14, h19⟩
  · rintro e a w ⟨q21, s21, rfl, hF, hS, h21⟩
    refine x_ib (n_sq ?_)
    refine q_seq ?_
    refine q_region ?_
    refine q_x (v := s21.v) hF hS (ex_move rfl) rfl rfl fun a hF => ?_
    refine q_x (v := s21.v) hF hS (ex_assign rfl) rfl rfl fun a hF => ?_
    refine q_end (n_sq (q_ret ?_))
    obtain rfl := someI hr
    exact ret_of hF hS rfl (.tmp rfl .nil) ⟨q21, s21, rfl, hS.sel [0] (by decide), h21⟩

theorem c_spec_cbBroken (p_c : impl_Cube) (p_i : Int) (r : Bool) (hr : spec_cbBroken p_c p_i = some r) (w0 : World) (m : Mem) (hv : Vis m w0) (s1 : Sl) (h1 : Rd m s1 p_c.Sizes) (s2 : Sl) (h2 : Rd m s2 p_c.Cells) :
    Ret Try.prog 97 [(.agg #[s1.v, s2.v]), (.int .i64 p_i)] w0 (fun v _ => v = (.bool r)) := by
  unfold spec_cbBroken at hr
  refine ret_start Try.func97 rfl 53 rfl rfl m hv fun a hF hS => ?_
  refine q_seq ?_
  refine q_region ?_
  refine q_box (cs := [s1.v, s2.v]) hF hS rfl rfl rfl fun a w b3 hF hS => ?_
  refine q_x (v := (.bool false)) hF hS (ex_assign rfl) rfl rfl fun a hF => ?_
  refine q_end (n_sq ?_)
  refine q_seq ?_
  refine q_seq ?_
  refine q_region ?_
  refine q_x (v := (.pointer (some ⟨b3, 0, none⟩))) hF hS (ex_fieldAddr Try.underlying46 rfl sz33 rfl rfl) rfl rfl fun a hF => ?_
  refine q_x (v := s1.v) hF hS (ex_load1 0 0 Try.underlying33 rfl rfl rfl rfl) rfl rfl fun a hF => ?_
  refine q_x (v := (.int .i64 p_i)) hF hS (ex_move rfl) rfl rfl fun a hF => ?_
  obtain ⟨t_4, ht_4, hr⟩ := bindS hr
  refine q_call (vs := [s1.v, (.int .i64 p_i)]) hF hS Try.func82 (by kernel_rfl) rfl rfl rfl (c_spec_cbIndices p_c.Sizes p_i t_4 ht_4 _ m hS.vis s1 h1) ?_
  rintro a w _ ⟨q6, s6, rfl, hR5, h6⟩ hF hS2
  have hS : St _ _ _ _ [q6, [⟨b3, [s1.v, s2.v], 46⟩]] := hS.joinF hR5
  refine q_x (v := (.int .i64 (goLen t_4))) hF hS (ex_len Try.underlying33 rfl h6.len) rfl rfl fun a hF => ?_
  refine q_x (v := (.int .i64 0)) hF hS (ex_move rfl) rfl rfl fun a hF => ?_
  refine q_end (n_sq ?_)
  refine q_block ?_
  obtain ⟨o1, hl1, hr⟩ := bindS hr
  refine q_loop (fun (t_7 : Int) a w => Fr a 53 [(1, (.int .i64 p_i)), (2, (.pointer (some ⟨b3, 0, none⟩))), (13, s6.v), (14, (.int .i64 (goLen t_4))), (15, (.int .i64 t_7))] ∧ St [] w0 w m [q6, [⟨b3, [s1.v, s2.v], 46⟩]]) (fun (o : (Unit) ⊕ (Bool)) e a w => o = .inl () ∧ e = .exit 0 ∧ Fr a 53 [] ∧ St [] w0 w m []) hl1 ⟨hF.sub ⟨rfl, rfl, rfl, rfl, rfl, trivial⟩, hS⟩ ?_ ?_
  · clear hF hS
    rintro t_7 a w st ⟨hF, hS⟩ hb1
    unfold spec_cbBroken_l1 at hb1
    refine q_seq ?_
    refine q_region ?_
    refine q_x (v := (.bool (decide (t_7 < (goLen t_4))))) hF hS (ex_ibin rfl rfl rfl) rfl rfl fun a hF => ?_
    refine q_end (n_sq ?_)
    refine q_seq ?_
    rcases bcase (decide (t_7 < (goLen t_4))) with hc2 | hc2
    · have hb1 := cond_f hc2 hb1
      refine q_cond_f hF rfl hc2 ?_
      refine q_exit (x_sq ?_)
      obtain rfl := someI hb1
      exact ⟨nofun, .inl ⟨rfl, rfl, hF.sub trivial, hS.mask [false, false]⟩⟩
    · have hb1 := cond_t hc2 hb1
      refine q_cond_t hF rfl hc2 ?_
      refine q_skipc (n_sq ?_)
      refine q_seq ?_
      obtain ⟨j3, hj3, hb1⟩ := bindS hb1
      refine q_join (fun a w => j3 = .inl () ∧ Fr a 53 [(1, (.int .i64 p_i)), (2, (.pointer (some ⟨b3, 0, none⟩))), (13, s6.v), (14, (.int .i64 (goLen t_4))), (15, (.int .i64 t_7))] ∧ St [] w0 w m [q6, [⟨b3, [s1.v, s2.v], 46⟩]]) ?_ ?_
      · refine q_block ?_
        refine q_seq ?_
        refine q_region ?_
        refine q_x (v := (.int .i64 t_7)) hF hS (ex_move rfl) rfl rfl fun a hF => ?_
        obtain ⟨e_8, he_8, hj3⟩ := bindS hj3
        obtain ⟨vs9, at9, d9⟩ := h6.at he_8 1 rfl
        obtain rfl : vs9 = [(.int .i64 e_8)] := d9
        refine q_x (v := (elP s6 (t_7.toNat * 1))) hF hS (ex_indexAddr Try.underlying33 sz3 rfl rfl (h6.idx he_8)) rfl rfl fun a hF => ?_
        refine q_x (v := (.int .i64 e_8)) hF hS (ex_loadE1 0 Try.underlying3 rfl rfl (at9.at 0 rfl) rfl rfl) rfl rfl fun a hF => ?_
        refine q_x (v := (.int .i64 t_7)) hF hS (ex_assign rfl) rfl rfl fun a hF => ?_
        refine q_x (v := (.int .i64 e_8)) hF hS (ex_assign rfl) rfl rfl fun a hF => ?_
        refine q_end (n_sq ?_)
        refine q_seq ?_
        refine q_seq ?_
        refine q_region ?_
        refine q_x (v := (.int .i64 e_8)) hF hS (ex_move rfl) rfl rfl fun a hF => ?_
        refine q_x (v := (.pointer (some ⟨b3, 0, none⟩))) hF hS (ex_fieldAddr Try.underlying46 rfl sz33 rfl rfl) rfl rfl fun a hF => ?_
        refine q_x (v := s1.v) hF hS (ex_load1 1 0 Try.underlying33 rfl rfl rfl rfl) rfl rfl fun a hF => ?_
        refine q_x (v := (.int .i64 t_7)) hF hS (ex_move rfl) rfl rfl fun a hF => ?_
        obtain ⟨e_10, he_10, hj3⟩ := bindS hj3
        obtain ⟨vs11, at11, d11⟩ := h1.at he_10 1 rfl
        obtain rfl : vs11 = [(.int .i64 e_10)] := d11
        refine q_x (v := (elP s1 (t_7.toNat * 1))) hF hS (ex_indexAddr Try.underlying33 sz3 rfl rfl (h1.idx he_10)) rfl rfl fun a hF => ?_
        refine q_x (v := (.int .i64 e_10)) hF hS (ex_loadE1 0 Try.underlying3 rfl rfl ((at11).at) rfl rfl) rfl rfl fun a hF => ?_
        refine q_x (v := (.bool (e_8 != e_10))) hF hS (ex_ibin rfl rfl rfl) rfl rfl fun a hF => ?_
        refine q_end (n_sq ?_)
        rcases bcase (e_8 != e_10) with hc4 | hc4
        · have hj3 := cond_f hc4 hj3
          refine q_cond_f hF rfl hc4 ?_
          refine q_skipc (n_sq ?_)
          refine q_seq ?_
          refine q_region ?_
          refine q_x (v := (.int .i64 0)) hF hS (ex_assign rfl) rfl rfl fun a hF => ?_
          refine q_end (n_sq ?_)
          refine q_seq ?_
          refine q_seq ?_
          refine q_region ?_
          refine q_x (v := (.pointer (some ⟨b3, 0, none⟩))) hF hS (ex_fieldAddr Try.underlying46 rfl sz33 rfl rfl) rfl rfl fun a hF => ?_
          refine q_x (v := s1.v) hF hS (ex_load1 1 0 Try.underlying33 rfl rfl rfl rfl) rfl rfl fun a hF => ?_
          refine q_x (v := (.int .i64 p_i)) hF hS (ex_move rfl) rfl rfl fun a hF => ?_
          refine q_x (v := (.int .i64 t_7)) hF hS (ex_move rfl) rfl rfl fun a hF => ?_
          obtain ⟨t_12, ht_12, hj3⟩ := bindS hj3
          refine q_call (vs := [s1.v, (.int .i64 p_i), (.int .i64 t_7)]) hF hS Try.func99 (by kernel_rfl) rfl rfl rfl (c_spec_cbParts p_c.Sizes p_i t_7 t_12 ht_12 _ m hS.vis s1 h1) ?_
          rintro a w _ ⟨q14, s14, rfl, hR13, h14⟩ hF hS2
          have hS : St _ _ _ _ [q14, q6, [⟨b3, [s1.v, s2.v], 46⟩]] := hS.joinF hR13
          refine q_x (v := (.int .i64 (goLen t_12))) hF hS (ex_len Try.underlying33 rfl h14.len) rfl rfl fun a hF => ?_
          refine q_x (v := (.int .i64 0)) hF hS (ex_move rfl) rfl rfl fun a hF => ?_
          refine q_end (n_sq ?_)
          refine q_block ?_
          obtain ⟨sum_21, hl5, hj3⟩ := bindS hj3
          refine q_loop (fun (s : Int × Int) a w => ∃ sum_15, ∃ t_16, s = (sum_15, t_16) ∧ Fr a 53 [(1, (.int .i64 p_i)), (2, (.pointer (some ⟨b3, 0, none⟩))), (7, (.int .i64 sum_15)), (13, s6.v), (14, (.int .i64 (goLen t_4))), (15, (.int .i64 t_7)), (31, s14.v), (32, (.int .i64 (goLen t_12))), (33, (.int .i64 t_16))] ∧ St [] w0 w m [q14, q6, [⟨b3, [s1.v, s2.v], 46⟩]]) (fun (sum_21 : Int) e a w => e = .exit 2 ∧ Fr a 53 [(1, (.int .i64 p_i)), (2, (.pointer (some ⟨b3, 0, none⟩))), (7, (.int .i64 sum_21)), (13, s6.v), (14, (.int .i64 (goLen t_4))), (15, (.int .i64 t_7))] ∧ St [] w0 w m [q6, [⟨b3, [s1.v, s2.v], 46⟩]]) hl5 ⟨_, _, rfl, hF.sub ⟨rfl, rfl, rfl, rfl, rfl, rfl, rfl, rfl, rfl, trivial⟩, hS⟩ ?_ ?_
          · clear hF hS
            rintro s a w st ⟨sum_15, t_16, rfl, hF, hS⟩ hb5
            unfold spec_cbBroken_l2 at hb5
            refine q_seq ?_
            refine q_region ?_
            refine q_x (v := (.bool (decide (t_16 < (goLen t_12))))) hF hS (ex_ibin rfl rfl rfl) rfl rfl fun a hF => ?_
            refine q_end (n_sq ?_)
            refine q_seq ?_
            rcases bcase (decide (t_16 < (goLen t_12))) with hc6 | hc6
            · have hb5 := cond_f hc6 hb5
              refine q_cond_f hF rfl hc6 ?_
              refine q_exit (x_sq ?_)
              obtain rfl := someI hb5
              exact ⟨nofun, .inl ⟨rfl, hF.sub ⟨rfl, rfl, rfl, rfl, rfl, rfl, trivial⟩, hS.mask [false, true, true]⟩⟩
            · have hb5 := cond_t hc6 hb5
              refine q_cond_t hF rfl hc6 ?_
              refine q_skipc (n_sq ?_)
              refine q_seq ?_
              refine q_block ?_
              refine q_seq ?_
              refine q_region ?_
              obtain ⟨e_17, he_17, hb5⟩ := bindS hb5
              obtain ⟨vs18, at18, d18⟩ := h14.at he_17 1 rfl
              obtain rfl : vs18 = [(.int .i64 e_17)] := d18
              refine q_x (v := (elP s14 (t_16.toNat * 1))) hF hS (ex_indexAddr Try.underlying33 sz3 rfl rfl (h14.idx he_17)) rfl rfl fun a hF => ?_
              refine q_x (v := (.int .i64 e_17)) hF hS (ex_loadE1 0 Try.underlying3 rfl rfl (at18.at 0 rfl) rfl rfl) rfl rfl fun a hF => ?_
              refine q_x (v := (.int .i64 e_17)) hF hS (ex_assign rfl) rfl rfl fun a hF => ?_
              refine q_end (n_sq ?_)
              refine q_region ?_
              refine q_x (v := (.int .i64 sum_15)) hF hS (ex_move rfl) rfl rfl fun a hF => ?_
              refine q_x (v := (.pointer (some ⟨b3, 1, none⟩))) hF hS (ex_fieldAddr Try.underlying46 rfl sz33 rfl rfl) rfl rfl fun a hF => ?_
              refine q_x (v := s2.v) hF hS (ex_load1 2 0 Try.underlying33 rfl rfl rfl rfl) rfl rfl fun a hF => ?_
              refine q_x (v := (.int .i64 e_17)) hF hS (ex_move rfl) rfl rfl fun a hF => ?_
              obtain ⟨e_19, he_19, hb5⟩ := bindS hb5
              obtain ⟨vs20, at20, d20⟩ := h2.at he_19 1 rfl
              obtain rfl : vs20 = [(.int .i64 e_19)] := d20
              refine q_x (v := (elP s2 (e_17.toNat * 1))) hF hS (ex_indexAddr Try.underlying33 sz3 rfl rfl (h2.idx he_19)) rfl rfl fun a hF => ?_
              refine q_x (v := (.int .i64 e_19)) hF hS (ex_loadE1 0 Try.underlying3 rfl rfl ((at20).at) rfl rfl) rfl rfl fun a hF => ?_
              refine q_x (v := (.int .i64 (w64 (sum_15 + e_19)))) hF hS (ex_ibin rfl rfl rfl) rfl rfl fun a hF => ?_
              refine q_x (v := (.int .i64 (w64 (sum_15 + e_19)))) hF hS (ex_assign rfl) rfl rfl fun a hF => ?_
              refine q_end (n_ib (n_sq ?_))
              refine q_region ?_
              refine q_x (v := (.int .i64 (w64 (t_16 + 1)))) hF hS (ex_ibin rfl rfl rfl) rfl rfl fun a hF => ?_
              refine q_x (v := (.int .i64 (w64 (t_16 + 1)))) hF hS (ex_move rfl) rfl rfl fun a hF => ?_
              refine q_end ?_
              obtain rfl := someI hb5
              exact ⟨rfl, _, _, rfl, hF.sub ⟨rfl, rfl, rfl, rfl, rfl, rfl, rfl, rfl, rfl, trivial⟩, hS⟩
          · rintro e a w ⟨rfl, hF, hS⟩
            refine x_ib (n_sq ?_)
            refine q_seq ?_
            refine q_region ?_
            refine q_x (v := (.int .i64 sum_21)) hF hS (ex_move rfl) rfl rfl fun a hF => ?_
            refine q_x (v := (.pointer (some ⟨b3, 1, none⟩))) hF hS (ex_fieldAddr Try.underlying46 rfl sz33 rfl rfl) rfl rfl fun a hF => ?_
            refine q_x (v := s2.v) hF hS (ex_load1 1 0 Try.underlying33 rfl rfl rfl rfl) rfl rfl fun a hF => ?_
            refine q_x (v := (.int .i64 p_i)) hF hS (ex_move rfl) rfl rfl fun a hF => ?_
            obtain ⟨e_22, he_22, hj3⟩ := bindS hj3
            obtain ⟨vs23, at23, d23⟩ := h2.at he_22 1 rfl
            obtain rfl : vs23 = [(.int .i64 e_22)] := d23
            refine q_x (v := (elP s2 (p_i.toNat * 1))) hF hS (ex_indexAddr Try.underlying33 sz3 rfl rfl (h2.idx he_22)) rfl rfl fun a hF => ?_
            refine q_x (v := (.int .i64 e_22)) hF hS (ex_loadE1 0 Try.underlying3 rfl rfl ((at23).at) rfl rfl) rfl rfl fun a hF => ?_
            refine q_x (v := (.bool (sum_21 != e_22))) hF hS (ex_ibin rfl rfl rfl) rfl rfl fun a hF => ?_
            refine q_end (n_sq ?_)
            rcases bcase (sum_21 != e_22) with hc7 | hc7
            · have hj3 := cond_f hc7 hj3
              refine q_cond_f hF rfl hc7 ?_
              refine q_skipc (n_ib (n_jn ?_))
              obtain rfl := someI hj3
              exact ⟨rfl, hF.sub ⟨rfl, rfl, rfl, rfl, rfl, trivial⟩, hS⟩
            · have hj3 := cond_t hc7 hj3
              refine q_cond_t hF rfl hc7 ?_
              refine q_seq ?_
              refine q_region ?_
              refine q_x (v := (.bool true)) hF hS (ex_assign rfl) rfl rfl fun a hF => ?_
              refine q_end (n_sq (q_ret (r_ib (r_jn ?_))))
              obtain rfl := someI hj3
              refine r_sq ?_
              obtain rfl := someI hb1
              refine ⟨nofun, .inr fun ho => ?_⟩
              subst ho
              refine r_ib (r_sq ?_)
              obtain rfl := someI hr
              exact ret_of hF hS rfl (.tmp rfl .nil) rfl
        · have hj3 := cond_t hc4 hj3
          refine q_cond_t hF rfl hc4 ?_
          refine q_exit (x_sq (x_ib (n_jn ?_)))
          obtain rfl := someI hj3
          exact ⟨rfl, hF.sub ⟨rfl, rfl, rfl, rfl, rfl, trivial⟩, hS⟩
      · rintro a w ⟨rfl, hF, hS⟩
        refine n_sq ?_
        refine q_region ?_
        refine q_x (v := (.int .i64 (w64 (t_7 + 1)))) hF hS (ex_ibin rfl rfl rfl) rfl rfl fun a hF => ?_
        refine q_x (v := (.int .i64 (w64 (t_7 + 1)))) hF hS (ex_move rfl) rfl rfl fun a hF => ?_
        refine q_end ?_
        obtain rfl := someI hb1
        exact ⟨rfl, hF.sub ⟨rfl, rfl, rfl, rfl, rfl, trivial⟩, hS⟩
  · rintro e a w ⟨rfl, rfl, hF, hS⟩
    refine x_ib (n_sq ?_)
    refine q_seq ?_
    refine q_region ?_
    refine q_x (v := (.bool false)) hF hS (ex_assign rfl) rfl rfl fun a hF => ?_
    refine q_end (n_sq (q_ret ?_))
    obtain rfl := someI hr
    exact ret_of hF hS rfl (.tmp rfl .nil) rfl

theorem c_spec_cbFirst (p_c : impl_Cube) (r : Int) (hr : spec_cbFirst p_c = some r) (w0 : World) (m : Mem) (hv : Vis m w0) (s1 : Sl) (h1 : Rd m s1 p_c.Sizes) (s2 : Sl) (h2 : Rd m s2 p_c.Cells) :
    Ret Try.prog 92 [(.agg #[s1.v, s2.v])] w0 (fun v _ => v = (.int .i64 r)) := by
  unfold spec_cbFirst at hr
  refine ret_start Try.func92 rfl 18 rfl rfl m hv fun a hF hS => ?_
  refine q_seq ?_
  refine q_region ?_
  refine q_box (cs := [s1.v, s2.v]) hF hS rfl rfl rfl fun a w b3 hF hS => ?_
  refine q_x (v := (.int .i64 0)) hF hS (ex_assign rfl) rfl rfl fun a hF => ?_
  refine q_end (n_sq ?_)
  refine q_seq ?_
  refine q_seq ?_
  refine q_region ?_
  refine q_x (v := (.pointer (some ⟨b3, 1, none⟩))) hF hS (ex_fieldAddr Try.underlying46 rfl sz33 rfl rfl) rfl rfl fun a hF => ?_
  refine q_x (v := s2.v) hF hS (ex_load1 0 0 Try.underlying33 rfl rfl rfl rfl) rfl rfl fun a hF => ?_
  refine q_x (v := (.int .i64 (goLen p_c.Cells))) hF hS (ex_len Try.underlying33 rfl h2.len) rfl rfl fun a hF => ?_
  refine q_x (v := (.int .i64 0)) hF hS (ex_move rfl) rfl rfl fun a hF => ?_
  refine q_end (n_sq ?_)
  refine q_block ?_
  obtain ⟨o1, hl1, hr⟩ := bindS hr
  refine q_loop (fun (t_4 : Int) a w => Fr a 18 [(1, (.pointer (some ⟨b3, 0, none⟩))), (6, (.int .i64 (goLen p_c.Cells))), (7, (.int .i64 t_4))] ∧ St [] w0 w m [[⟨b3, [s1.v, s2.v], 46⟩]]) (fun (o : (Unit) ⊕ (Int)) e a w => o = .inl () ∧ e = .exit 0 ∧ Fr a 18 [(1, (.pointer (some ⟨b3, 0, none⟩)))] ∧ St [] w0 w m [[⟨b3, [s1.v, s2.v], 46⟩]]) hl1 ⟨hF.sub ⟨rfl, rfl, rfl, trivial⟩, hS⟩ ?_ ?_
  · clear hF hS
    rintro t_4 a w st ⟨hF, hS⟩ hb1
    unfold spec_cbFirst_l1 at hb1
    refine q_seq ?_
    refine q_region ?_
    refine q_x (v := (.bool (decide (t_4 < (goLen p_c.Cells))))) hF hS (ex_ibin rfl rfl rfl) rfl rfl fun a hF => ?_
    refine q_end (n_sq ?_)
    refine q_seq ?_
    rcases bcase (decide (t_4 < (goLen p_c.Cells))) with hc2 | hc2
    · have hb1 := cond_f hc2 hb1
      refine q_cond_f hF rfl hc2 ?_
      refine q_exit (x_sq ?_)
      obtain rfl := someI hb1
      exact ⟨nofun, .inl ⟨rfl, rfl, hF.sub ⟨rfl, trivial⟩, hS⟩⟩
    · have hb1 := cond_t hc2 hb1
      refine q_cond_t hF rfl hc2 ?_
      refine q_skipc (n_sq ?_)
      refine q_seq ?_
      refine q_block ?_
      refine q_seq ?_
      refine q_region ?_
      refine q_x (v := (.int .i64 t_4)) hF hS (ex_move rfl) rfl rfl fun a hF => ?_
      refine q_x (v := (.int .i64 t_4)) hF hS (ex_assign rfl) rfl rfl fun a hF => ?_
      refine q_end (n_sq ?_)
      refine q_seq ?_
      refine q_region ?_
      refine q_x (v := (.agg #[s1.v, s2.v])) hF hS (ex_loadA (vs := [s1.v, s2.v]) 0 0 Try.underlying46 rfl sz46 rfl rfl rfl rfl) rfl rfl fun a hF => ?_
      refine q_x (v := (.int .i64 t_4)) hF hS (ex_move rfl) rfl rfl fun a hF => ?_
      obtain ⟨t_5, ht_5, hb1⟩ := bindS hb1
      refine q_call (vs := [(.agg #[s1.v, s2.v]), (.int .i64 t_4)]) hF hS Try.func97 (by kernel_rfl) rfl rfl rfl (c_spec_cbBroken p_c t_4 t_5 ht_5 _ m hS.vis s1 h1 s2 h2) ?_
      rintro a w _ rfl hF hS
      refine q_end (n_sq ?_)
      rcases bcase (t_5) with hc3 | hc3
      · have hb1 := cond_f hc3 hb1
        refine q_cond_f hF rfl hc3 ?_
        refine q_skipc (n_ib (n_sq ?_))
        refine q_region ?_
        refine q_x (v := (.int .i64 (w64 (t_4 + 1)))) hF hS (ex_ibin rfl rfl rfl) rfl rfl fun a hF => ?_
        refine q_x (v := (.int .i64 (w64 (t_4 + 1)))) hF hS (ex_move rfl) rfl rfl fun a hF => ?_
        refine q_end ?_
        obtain rfl := someI hb1
        exact ⟨rfl, hF.sub ⟨rfl, rfl, rfl, trivial⟩, hS⟩
      · have hb1 := cond_t hc3 hb1
        refine q_cond_t hF rfl hc3 ?_
        refine q_seq ?_
        refine q_region ?_
        refine q_x (v := (.int .i64 t_4)) hF hS (ex_move rfl) rfl rfl fun a hF => ?_
        refine q_x (v := (.int .i64 t_4)) hF hS (ex_assign rfl) rfl rfl fun a hF => ?_
        refine q_end (n_sq (q_ret (r_ib (r_sq ?_))))
        obtain rfl := someI hb1
        refine ⟨nofun, .inr fun ho => ?_⟩
        subst ho
        refine r_ib (r_sq ?_)
        obtain rfl := someI hr
        exact ret_of hF hS rfl (.tmp rfl .nil) rfl
  · rintro e a w ⟨rfl, rfl, hF, hS⟩
    refine x_ib (n_sq ?_)
    refine q_seq ?_
    refine q_region ?_
    refine q_x (v := (.pointer (some ⟨b3, 1, none⟩))) hF hS (ex_fieldAddr Try.underlying46 rfl sz33 rfl rfl) rfl rfl fun a hF => ?_
    refine q_x (v := s2.v) hF hS (ex_load1 0 0 Try.underlying33 rfl rfl rfl rfl) rfl rfl fun a hF => ?_
    refine q_x (v := (.int .i64 (goLen p_c.Cells))) hF hS (ex_len Try.underlying33 rfl h2.len) rfl rfl fun a hF => ?_
    refine q_x (v := (.int .i64 (goLen p_c.Cells))) hF hS (ex_assign rfl) rfl rfl fun a hF => ?_
    refine q_end (n_sq (q_ret ?_))
    obtain rfl := someI hr
    exact ret_of hF hS rfl (.tmp rfl .nil) rfl

theorem c_spec_cbGood (p_c : impl_Cube) (r : Bool) (hr : spec_cbGood p_c = some r) (w0 : World) (m : Mem) (hv : Vis m w0) (s1 : Sl) (h1 : Rd m s1 p_c.Sizes) (s2 : Sl) (h2 : Rd m s2 p_c.Cells) :
    Ret Try.prog 67 [(.agg #[s1.v, s2.v])] w0 (fun v _ => v = (.bool r)) := by
  unfold spec_cbGood at hr
  refine ret_start Try.func67 rfl 13 rfl rfl m hv fun a hF hS => ?_
  refine q_seq ?_
  refine q_region ?_
  refine q_box (cs := [s1.v, s2.v]) hF hS rfl rfl rfl fun a w b3 hF hS => ?_
  refine q_x (v := (.bool false)) hF hS (ex_assign rfl) rfl rfl fun a hF => ?_
  refine q_end (n_sq ?_)
  refine q_seq ?_
  obtain ⟨t_9, hj1, hr⟩ := bindS hr
  refine q_join (fun a w => Fr a 13 [(2, (.bool t_9))] ∧ St [] w0 w m []) ?_ ?_
  · refine e_region [] mixed fun w' hw' => ?_
    have hS := hS.below hw'
    refine e_x (v := (.agg #[s1.v, s2.v])) 0 hF hS rfl (ex_loadA (vs := [s1.v, s2.v]) 0 0 Try.underlying46 rfl sz46 rfl rfl rfl rfl) rfl rfl (by kernel_rfl) (by kernel_rfl) (by kernel_rfl) (by kernel_rfl) fun a hF => ?_
    refine e_one 1 (by kernel_rfl) ?_
    obtain ⟨t_4, ht_4, hj1⟩ := bindS hj1
    refine e_call (vs := [(.agg #[s1.v, s2.v])]) hF hS rfl Try.func91 (by kernel_rfl) rfl rfl rfl (c_spec_cbForm p_c t_4 ht_4 _ m hS.vis s1 h1 s2 h2) ?_
    rintro a w _ rfl hF hS
    refine e_p (v := (.bool t_4)) 2 hF rfl (ex_move rfl) rfl rfl (by kernel_rfl) (by kernel_rfl) (by kernel_rfl) fun a hF => ?_
    rcases bcase (t_4) with hc2 | hc2
    · have hj1 := cond_f hc2 hj1
      refine e_skipP 3 hF rfl (wanted_f hF rfl rfl rfl hc2 rfl) rfl (by kernel_rfl) (by kernel_rfl) (by kernel_rfl) fun a hF => ?_
      refine e_skipP 4 hF rfl (wanted_f hF rfl rfl rfl hc2 rfl) rfl (by kernel_rfl) (by kernel_rfl) (by kernel_rfl) fun a hF => ?_
      refine e_skipP 5 hF rfl (wanted_f hF rfl rfl rfl hc2 rfl) rfl (by kernel_rfl) (by kernel_rfl) (by kernel_rfl) fun a hF => ?_
      refine e_skipP 6 hF rfl (wanted_f hF rfl rfl rfl hc2 rfl) rfl (by kernel_rfl) (by kernel_rfl) (by kernel_rfl) fun a hF => ?_
      refine e_skipP 7 hF rfl (wanted_f hF rfl rfl rfl hc2 rfl) rfl (by kernel_rfl) (by kernel_rfl) (by kernel_rfl) fun a hF => ?_
      refine e_skipP 8 hF rfl (wanted_f hF rfl rfl rfl hc2 rfl) rfl (by kernel_rfl) (by kernel_rfl) (by kernel_rfl) fun a hF => ?_
      refine e_p (v := (.bool false)) 9 hF rfl (ex_pick_f rfl rfl hc2) rfl rfl (by kernel_rfl) (by kernel_rfl) (by kernel_rfl) fun a hF => ?_
      refine e_p (v := (.bool false)) 10 hF rfl (ex_assign rfl) rfl rfl (by kernel_rfl) (by kernel_rfl) (by kernel_rfl) fun a hF => ?_
      refine e_end (by kernel_rfl) (n_jn ?_) _
      obtain rfl := someI hj1
      exact ⟨hF.sub ⟨rfl, trivial⟩, hS.mask [false]⟩
    · have hj1 := cond_t hc2 hj1
      refine e_xg (v := (.agg #[s1.v, s2.v])) 3 hF hS rfl (ex_loadA (vs := [s1.v, s2.v]) 0 0 Try.underlying46 rfl sz46 rfl rfl rfl rfl) (wanted_t hF rfl rfl rfl hc2) rfl (by kernel_rfl) (by kernel_rfl) (by kernel_rfl) (by kernel_rfl) fun a hF => ?_
      refine e_pg (v := (.pointer (some ⟨b3, 1, none⟩))) 5 hF rfl (ex_fieldAddr Try.underlying46 rfl sz33 rfl rfl) (wanted_t hF rfl rfl rfl hc2) rfl (by kernel_rfl) (by kernel_rfl) (by kernel_rfl) fun a hF => ?_
      refine e_xg (v := s2.v) 6 hF hS rfl (ex_load1 0 0 Try.underlying33 rfl rfl rfl rfl) (wanted_t hF rfl rfl rfl hc2) rfl (by kernel_rfl) (by kernel_rfl) (by kernel_rfl) (by kernel_rfl) fun a hF => ?_
      refine e_pg (v := (.int .i64 (goLen p_c.Cells))) 7 hF rfl (ex_len Try.underlying33 rfl h2.len) (wanted_t hF rfl rfl rfl hc2) rfl (by kernel_rfl) (by kernel_rfl) (by kernel_rfl) fun a hF => ?_
      refine e_one 4 (by kernel_rfl) ?_
      obtain ⟨t_8, ht_8, hj1⟩ := bindS hj1
      refine e_callg (vs := [(.agg #[s1.v, s2.v])]) hF hS rfl (wanted_t hF rfl rfl rfl hc2) Try.func92 (by kernel_rfl) rfl rfl rfl (c_spec_cbFirst p_c t_8 ht_8 _ m hS.vis s1 h1 s2 h2) ?_
      rintro a w _ rfl hF hS
      refine e_pg (v := (.bool (t_8 == (goLen p_c.Cells)))) 8 hF rfl (ex_ibin rfl rfl rfl) (wanted_t hF rfl rfl rfl hc2) rfl (by kernel_rfl) (by kernel_rfl) (by kernel_rfl) fun a hF => ?_
      refine e_p (v := (.bool (t_8 == (goLen p_c.Cells)))) 9 hF rfl (ex_pick_t rfl rfl hc2) rfl rfl (by kernel_rfl) (by kernel_rfl) (by kernel_rfl) fun a hF => ?_
      refine e_p (v := (.bool (t_8 == (goLen p_c.Cells)))) 10 hF rfl (ex_assign rfl) rfl rfl (by kernel_rfl) (by kernel_rfl) (by kernel_rfl) fun a hF => ?_
      refine e_end (by kernel_rfl) (n_jn ?_) _
      obtain rfl := someI hj1
      exact ⟨hF.sub ⟨rfl, trivial⟩, hS.mask [false]⟩
  · rintro a w ⟨hF, hS⟩
    refine n_sq (q_ret ?_)
    obtain rfl := someI hr
    exact ret_of hF hS rfl (.tmp rfl .nil) rfl

theorem c_spec_sPick (p_values : List Int) (p_vars : List Int) (r : (List Int)) (hr : spec_sPick p_values p_vars = some r) (w0 : World) (m : Mem) (hv : Vis m w0) (s1 : Sl) (h1 : Rd m s1 p_values) (s2 : Sl) (h2 : Rd m s2 p_vars) :
    Ret Try.prog 93 [s1.v, s2.v] w0 (fun v w => ∃ (q0' : Piece) (s0' : Sl), v = s0'.v ∧ St [] w0 w m [q0'] ∧ OwnL m 3 q0' s0' r) := by
  unfold spec_sPick at hr
  refine ret_start Try.func93 rfl 23 rfl rfl m hv fun a hF hS => ?_
  refine q_seq ?_
  refine q_region ?_
  refine q_x (v := nilS.v) hF hS (ex_assign rfl) rfl rfl fun a hF => ?_
  refine q_end (n_sq ?_)
  refine q_seq ?_
  refine q_region ?_
  refine q_x (v := nilS.v) hF hS (ex_assign rfl) rfl rfl fun a hF => ?_
  refine q_end (n_sq ?_)
  refine q_seq ?_
  refine q_seq ?_
  refine q_region ?_
  refine q_x (v := s2.v) hF hS (ex_move rfl) rfl rfl fun a hF => ?_
  refine q_x (v := (.int .i64 (goLen p_vars))) hF hS (ex_len Try.underlying33 rfl h2.len) rfl rfl fun a hF => ?_
  refine q_x (v := (.int .i64 0)) hF hS (ex_move rfl) rfl rfl fun a hF => ?_
  refine q_end (n_sq ?_)
  refine q_block ?_
  obtain ⟨out_13, hl1, hr⟩ := bindS hr
  refine q_loop (fun (s : (List Int) × Int) a w => ∃ (q4 : Piece), ∃ (s4 : Sl), ∃ out_3, ∃ t_5, s = (out_3, t_5) ∧ Fr a 23 [(0, s1.v), (5, s4.v), (8, s2.v), (9, (.int .i64 (goLen p_vars))), (10, (.int .i64 t_5))] ∧ St [] w0 w m [q4] ∧ OwnL m 3 q4 s4 out_3) (fun (out_13 : (List Int)) e a w => ∃ (q14 : Piece), ∃ (s14 : Sl), e = .exit 0 ∧ Fr a 23 [(5, s14.v)] ∧ St [] w0 w m [q14] ∧ OwnL m 3 q14 s14 out_13) hl1 ⟨[], nilS, _, _, rfl, hF.sub ⟨rfl, rfl, rfl, rfl, rfl, trivial⟩, hS.sel [0] (by decide), (OwnL.nil (α := Int) m 3)⟩ ?_ ?_
  · clear hF hS
    rintro s a w st ⟨q4, s4, out_3, t_5, rfl, hF, hS, h4⟩ hb1
    unfold spec_sPick_l1 at hb1
    refine q_seq ?_
    refine q_region ?_
    refine q_x (v := (.bool (decide (t_5 < (goLen p_vars))))) hF hS (ex_ibin rfl rfl rfl) rfl rfl fun a hF => ?_
    refine q_end (n_sq ?_)
    refine q_seq ?_
    rcases bcase (decide (t_5 < (goLen p_vars))) with hc2 | hc2
    · have hb1 := cond_f hc2 hb1
      refine q_cond_f hF rfl hc2 ?_
      refine q_exit (x_sq ?_)
      obtain rfl := someI hb1
      exact ⟨nofun, .inl ⟨q4, s4, rfl, hF.sub ⟨rfl, trivial⟩, hS, h4⟩⟩
    · have hb1 := cond_t hc2 hb1
      refine q_cond_t hF rfl hc2 ?_
      refine q_skipc (n_sq ?_)
      refine q_seq ?_
      refine q_block ?_
      refine q_seq ?_
      refine q_region ?_
      obtain ⟨e_6, he_6, hb1⟩ := bindS hb1
      obtain ⟨vs7, at7, d7⟩ := h2.at he_6 1 rfl
      obtain rfl : vs7 = [(.int .i64 e_6)] := d7
      refine q_x (v := (elP s2 (t_5.toNat * 1))) hF hS (ex_indexAddr Try.underlying33 sz3 rfl rfl (h2.idx he_6)) rfl rfl fun a hF => ?_
      refine q_x (v := (.int .i64 e_6)) hF hS (ex_loadE1 0 Try.underlying3 rfl rfl ((at7).at) rfl rfl) rfl rfl fun a hF => ?_
      refine q_x (v := (.int .i64 e_6)) hF hS (ex_assign rfl) rfl rfl fun a hF => ?_
      refine q_end (n_sq ?_)
      refine q_region ?_
      refine q_x (v := s4.v) hF hS (ex_move rfl) rfl rfl fun a hF => ?_
      refine q_x (v := s1.v) hF hS (ex_move rfl) rfl rfl fun a hF => ?_
      refine q_x (v := (.int .i64 e_6)) hF hS (ex_move rfl) rfl rfl fun a hF => ?_
      obtain ⟨e_8, he_8, hb1⟩ := bindS hb1
      obtain ⟨vs9, at9, d9⟩ := h1.at he_8 1 rfl
      obtain rfl : vs9 = [(.int .i64 e_8)] := d9
      refine q_x (v := (elP s1 (e_6.toNat * 1))) hF hS (ex_indexAddr Try.underlying33 sz3 rfl rfl (h1.idx he_8)) rfl rfl fun a hF => ?_
      refine q_x (v := (.int .i64 e_8)) hF hS (ex_loadE1 0 Try.underlying3 rfl rfl ((at9).at) rfl rfl) rfl rfl fun a hF => ?_
      refine q_do rfl fun _ hK => wp_buildSlice' (l := ([e_8] : List Int)) (cells := [(.int .i64 e_8)]) hF hS Try.underlying33 inf3 rfl rfl (by kernel_rfl) rfl rfl rfl ⟨rfl, rfl⟩ rfl rfl fun a w q10 s10 hF hS h10 _ => hK _ _ ?_
      have hS : St _ _ _ _ [q4, q10] := hS.sel [1, 0] (by decide)
      obtain ⟨l_11, hl_11, hb1⟩ := bindS hb1
      refine q_do rfl fun _ hK => wp_append hF hS h4 Try.underlying33 inf3 rfl rfl rfl rfl (h10.vw hS (j := 1) rfl) rfl (by decide) hl_11 rfl fun a w q12 s12 hF hS h12 => hK _ _ ?_
      refine q_x (v := s12.v) hF hS (ex_assign rfl) rfl rfl fun a hF => ?_
      refine q_end (n_ib (n_sq ?_))
      refine q_region ?_
      refine q_x (v := (.int .i64 (w64 (t_5 + 1)))) hF hS (ex_ibin rfl rfl rfl) rfl rfl fun a hF => ?_
      refine q_x (v := (.int .i64 (w64 (t_5 + 1)))) hF hS (ex_move rfl) rfl rfl fun a hF => ?_
      refine q_end ?_
      obtain rfl := someI hb1
      exact ⟨rfl, q12, s12, _, _, rfl, hF.sub ⟨rfl, rfl, rfl, rfl, rfl, trivial⟩, hS.mask [true, false], h12⟩
  · rintro e a w ⟨q14, s14, rfl, hF, hS, h14⟩
    refine x_ib (n_sq ?_)
    refine q_seq ?_
    refine q_region ?_
    refine q_x (v := s14.v) hF hS (ex_move rfl) rfl rfl fun a hF => ?_
    refine q_x (v := s14.v) hF hS (ex_assign rfl) rfl rfl fun a hF => ?_
    refine q_end (n_sq (q_ret ?_))
    obtain rfl := someI hr
    exact ret_of hF hS rfl (.tmp rfl .nil) ⟨q14, s14, rfl, hS.sel [0] (by decide), h14⟩

theorem c_spec_cbFrom (p_c : impl_Cube) (p_dims : List Int) (p_fixed : List Int) (r : impl_Cube) (hr : spec_cbFrom p_c p_dims p_fixed = some r) (w0 : World) (m : Mem) (hv : Vis m w0) (s1 : Sl) (h1 : Rd m s1 p_c.Sizes) (s2 : Sl) (h2 : Rd m s2 p_c.Cells) (s3 : Sl) (h3 : Rd m s3 p_dims) (s4 : Sl) (h4 : Rd m s4 p_fixed) :
    Ret Try.prog 69 [(.agg #[s1.v, s2.v]), s3.v, s4.v] w0 (fun v w => ∃ (q0' : Piece) (q1' : Piece) (s0' : Sl) (s1' : Sl), v = (.agg #[s0'.v, s1'.v]) ∧ St [] w0 w m [q0', q1'] ∧ OwnL m 3 q0' s0' r.Sizes ∧ OwnL m 3 q1' s1' r.Cells) := by
  unfold spec_cbFrom at hr
  refine ret_start Try.func69 rfl 58 rfl rfl m hv fun a hF hS => ?_
  refine q_seq ?_
  refine q_region ?_
  refine q_box (cs := [s1.v, s2.v]) hF hS rfl rfl rfl fun a w b5 hF hS => ?_
  refine q_alloc (cs := [nilS.v, nilS.v]) hF hS rfl rfl rfl fun a w b6 hF hS => ?_
  refine q_end (n_sq ?_)
  refine q_seq ?_
  refine q_region ?_
  refine q_x (v := (.pointer (some ⟨b5, 0, none⟩))) hF hS (ex_fieldAddr Try.underlying46 rfl sz33 rfl rfl) rfl rfl fun a hF => ?_
  refine q_x (v := s1.v) hF hS (ex_load1 1 0 Try.underlying33 rfl rfl rfl rfl) rfl rfl fun a hF => ?_
  refine q_x (v := s3.v) hF hS (ex_move rfl) rfl rfl fun a hF => ?_
  obtain ⟨t_7, ht_7, hr⟩ := bindS hr
  refine q_call (vs := [s1.v, s3.v]) hF hS Try.func93 (by kernel_rfl) rfl rfl rfl (c_spec_sPick p_c.Sizes p_dims t_7 ht_7 _ m hS.vis s1 h1 s3 h3) ?_
  rintro a w _ ⟨q9, s9, rfl, hR8, h9⟩ hF hS2
  have hS : St _ _ _ _ [q9, [⟨b6, [nilS.v, nilS.v], 46⟩], [⟨b5, [s1.v, s2.v], 46⟩]] := hS.joinF hR8
  refine q_x (v := (.agg #[s9.v, nilS.v])) hF hS (ex_build (cells := [s9.v, nilS.v]) rfl (by kernel_rfl)) rfl rfl fun a hF => ?_
  refine q_alloc (cs := [nilS.v, nilS.v]) hF hS rfl rfl rfl fun a w b10 hF hS => ?_
  refine q_store (vs := [s9.v, nilS.v]) (cs' := [s9.v, nilS.v]) 0 0 hF hS sz46 rfl rfl rfl rfl rfl rfl rfl rfl fun a w hF hS => ?_
  refine q_end (n_sq ?_)
  refine q_seq ?_
  refine q_seq ?_
  refine q_region ?_
  refine q_x (v := (.int .i64 0)) hF hS (ex_assign rfl) rfl rfl fun a hF => ?_
  refine q_end (n_sq ?_)
  refine q_block ?_
  obtain ⟨out_46, hl1, hr⟩ := bindS hr
  refine q_loop (fun (s : Int × impl_Cube) a w => ∃ (q14 : Piece), ∃ (s14 : Sl), ∃ i_11, ∃ out_12, s = (i_11, out_12) ∧ Fr a 58 [(1, s3.v), (2, s4.v), (3, (.pointer (some ⟨b5, 0, none⟩))), (6, (.pointer (some ⟨b6, 0, none⟩))), (7, (.pointer (some ⟨b10, 0, none⟩))), (8, (.int .i64 i_11))] ∧ St [] w0 w m [q14, [⟨b10, [s9.v, s14.v], 46⟩], q9, [⟨b6, [nilS.v, nilS.v], 46⟩], [⟨b5, [s1.v, s2.v], 46⟩]] ∧ OwnL m 3 q9 s9 out_12.Sizes ∧ out_12.Sizes = t_7 ∧ OwnL m 3 q14 s14 out_12.Cells) (fun (out_46 : impl_Cube) e a w => ∃ (q48 : Piece), ∃ (s48 : Sl), e = .exit 0 ∧ Fr a 58 [(6, (.pointer (some ⟨b6, 0, none⟩))), (7, (.pointer (some ⟨b10, 0, none⟩)))] ∧ St [] w0 w m [q9, q48, [⟨b10, [s9.v, s48.v], 46⟩], [⟨b6, [nilS.v, nilS.v], 46⟩]] ∧ OwnL m 3 q9 s9 out_46.Sizes ∧ out_46.Sizes = t_7 ∧ OwnL m 3 q48 s48 out_46.Cells) hl1 ⟨[], nilS, _, _, rfl, hF.sub ⟨rfl, rfl, rfl, rfl, rfl, rfl, trivial⟩, hS.sel [4, 0, 1, 2, 3] (by decide), h9, rfl, (OwnL.nil (α := Int) m 3)⟩ ?_ ?_
  · clear hF hS
    rintro s a w st ⟨q14, s14, i_11, out_12, rfl, hF, hS, h13, h13k, h14⟩ hb1
    unfold spec_cbFrom_l1 at hb1
    refine q_seq ?_
    refine q_seq ?_
    refine q_region ?_
    refine q_x (v := (.int .i64 i_11)) hF hS (ex_move rfl) rfl rfl fun a hF => ?_
    refine q_x (v := (.pointer (some ⟨b10, 0, none⟩))) hF hS (ex_fieldAddr Try.underlying46 rfl sz33 rfl rfl) rfl rfl fun a hF => ?_
    refine q_x (v := s9.v) hF hS (ex_load1 1 0 Try.underlying33 rfl rfl rfl rfl) rfl rfl fun a hF => ?_
    obtain ⟨m16, hl16, hv16, hz16⟩ := hS.lend
    obtain ⟨t_15, ht_15, hb1⟩ := bindS hb1
    refine q_call (vs := [s9.v]) hF hS Try.func59 (by kernel_rfl) rfl rfl rfl (c_spec_cbCount out_12.Sizes t_15 ht_15 _ m16 hv16 s9 (h13.froz hl16 (hz16 2 _ rfl))) ?_
    rintro a w _ rfl hF hS
    refine q_x (v := (.bool (decide (i_11 < t_15)))) hF hS (ex_ibin rfl rfl rfl) rfl rfl fun a hF => ?_
    refine q_end (n_sq ?_)
    rcases bcase (decide (i_11 < t_15)) with hc2 | hc2
    · have hb1 := cond_f hc2 hb1
      refine q_cond_f hF rfl hc2 ?_
      refine q_exit (x_sq ?_)
      obtain rfl := someI hb1
      exact ⟨nofun, .inl ⟨q14, s14, rfl, hF.sub ⟨rfl, rfl, trivial⟩, hS.sel [2, 0, 1, 3] (by decide), h13, h13k, h14⟩⟩
    · have hb1 := cond_t hc2 hb1
      refine q_cond_t hF rfl hc2 ?_
      refine q_skipc (n_sq ?_)
      refine q_seq ?_
      refine q_block ?_
      refine q_seq ?_
      refine q_region ?_
      refine q_x (v := s4.v) hF hS (ex_move rfl) rfl rfl fun a hF => ?_
      obtain ⟨t_17, ht_17, hb1⟩ := bindS hb1
      refine q_call (vs := [s4.v]) hF hS Try.func75 (by kernel_rfl) rfl rfl rfl (c_spec_l1Own p_fixed t_17 ht_17 _ m hS.vis s4 h4) ?_
      rintro a w _ ⟨q19, s19, rfl, hR18, h19⟩ hF hS2
      have hS : St _ _ _ _ [q19, q14, [⟨b10, [s9.v, s14.v], 46⟩], q9, [⟨b6, [nilS.v, nilS.v], 46⟩], [⟨b5, [s1.v, s2.v], 46⟩]] := hS.joinF hR18
      refine q_x (v := s19.v) hF hS (ex_assign rfl) rfl rfl fun a hF => ?_
      refine q_end (n_sq ?_)
      refine q_seq ?_
      refine q_seq ?_
      refine q_region ?_
      refine q_x (v := (.pointer (some ⟨b10, 0, none⟩))) hF hS (ex_fieldAddr Try.underlying46 rfl sz33 rfl rfl) rfl rfl fun a hF => ?_
      refine q_x (v := s9.v) hF hS (ex_load1 2 0 Try.underlying33 rfl rfl rfl rfl) rfl rfl fun a hF => ?_
      refine q_x (v := (.int .i64 i_11)) hF hS (ex_move rfl) rfl rfl fun a hF => ?_
      obtain ⟨m21, hl21, hv21, hz21⟩ := hS.lend
      obtain ⟨t_20, ht_20, hb1⟩ := bindS hb1
      refine q_call (vs := [s9.v, (.int .i64 i_11)]) hF hS Try.func82 (by kernel_rfl) rfl rfl rfl (c_spec_cbIndices out_12.Sizes i_11 t_20 ht_20 _ m21 hv21 s9 (h13.froz hl21 (hz21 3 _ rfl))) ?_
      rintro a w _ ⟨q23, s23, rfl, hR22, h23⟩ hF hS2
      have hS : St _ _ _ _ [q23, q19, q14, [⟨b10, [s9.v, s14.v], 46⟩], q9, [⟨b6, [nilS.v, nilS.v], 46⟩], [⟨b5, [s1.v, s2.v], 46⟩]] := hS.joinF hR22
      have h23 := h23.any m
      refine q_x (v := (.int .i64 (goLen t_20))) hF hS (ex_len Try.underlying33 rfl h23.len) rfl rfl fun a hF => ?_
      refine q_x (v := (.int .i64 0)) hF hS (ex_move rfl) rfl rfl fun a hF => ?_
      refine q_end (n_sq ?_)
      refine q_block ?_
      obtain ⟨at_34, hl3, hb1⟩ := bindS hb1
      refine q_loop (fun (s : (List Int) × Int) a w => ∃ (q25 : Piece), ∃ at_24, ∃ t_26, s = (at_24, t_26) ∧ Fr a 58 [(1, s3.v), (2, s4.v), (3, (.pointer (some ⟨b5, 0, none⟩))), (6, (.pointer (some ⟨b6, 0, none⟩))), (7, (.pointer (some ⟨b10, 0, none⟩))), (8, (.int .i64 i_11)), (9, s19.v), (29, s23.v), (30, (.int .i64 (goLen t_20))), (31, (.int .i64 t_26))] ∧ St [] w0 w m [q25, q23, q14, [⟨b10, [s9.v, s14.v], 46⟩], q9, [⟨b6, [nilS.v, nilS.v], 46⟩], [⟨b5, [s1.v, s2.v], 46⟩]] ∧ OwnL m 3 q25 s19 at_24) (fun (at_34 : (List Int)) e a w => ∃ (q35 : Piece), e = .exit 2 ∧ Fr a 58 [(1, s3.v), (2, s4.v), (3, (.pointer (some ⟨b5, 0, none⟩))), (6, (.pointer (some ⟨b6, 0, none⟩))), (7, (.pointer (some ⟨b10, 0, none⟩))), (8, (.int .i64 i_11)), (9, s19.v)] ∧ St [] w0 w m [q35, q9, q14, [⟨b10, [s9.v, s14.v], 46⟩], [⟨b6, [nilS.v, nilS.v], 46⟩], [⟨b5, [s1.v, s2.v], 46⟩]] ∧ OwnL m 3 q35 s19 at_34) hl3 ⟨q19, _, _, rfl, hF.sub ⟨rfl, rfl, rfl, rfl, rfl, rfl, rfl, rfl, rfl, rfl, trivial⟩, hS.sel [1, 0, 2, 3, 4, 5, 6] (by decide), h19⟩ ?_ ?_
      · clear hF hS
        rintro s a w st ⟨q25, at_24, t_26, rfl, hF, hS, h25⟩ hb3
        unfold spec_cbFrom_l2 at hb3
        refine q_seq ?_
        refine q_region ?_
        refine q_x (v := (.bool (decide (t_26 < (goLen t_20))))) hF hS (ex_ibin rfl rfl rfl) rfl rfl fun a hF => ?_
        refine q_end (n_sq ?_)
        refine q_seq ?_
        rcases bcase (decide (t_26 < (goLen t_20))) with hc4 | hc4
        · have hb3 := cond_f hc4 hb3
          refine q_cond_f hF rfl hc4 ?_
          refine q_exit (x_sq ?_)
          obtain rfl := someI hb3
          exact ⟨nofun, .inl ⟨q25, rfl, hF.sub ⟨rfl, rfl, rfl, rfl, rfl, rfl, rfl, trivial⟩, hS.sel [0, 4, 2, 3, 5, 6] (by decide), h25⟩⟩
        · have hb3 := cond_t hc4 hb3
          refine q_cond_t hF rfl hc4 ?_
          refine q_skipc (n_sq ?_)
          refine q_seq ?_
          refine q_block ?_
          refine q_seq ?_
          refine q_region ?_
          refine q_x (v := (.int .i64 t_26)) hF hS (ex_move rfl) rfl rfl fun a hF => ?_
          obtain ⟨e_27, he_27, hb3⟩ := bindS hb3
          obtain ⟨vs28, at28, d28⟩ := h23.at he_27 1 rfl
          obtain rfl : vs28 = [(.int .i64 e_27)] := d28
          refine q_x (v := (elP s23 (t_26.toNat * 1))) hF hS (ex_indexAddr Try.underlying33 sz3 rfl rfl (h23.idx he_27)) rfl rfl fun a hF => ?_
          refine q_x (v := (.int .i64 e_27)) hF hS (ex_loadE1 0 Try.underlying3 rfl rfl (at28.at 1 rfl) rfl rfl) rfl rfl fun a hF => ?_
          refine q_x (v := (.int .i64 t_26)) hF hS (ex_assign rfl) rfl rfl fun a hF => ?_
          refine q_x (v := (.int .i64 e_27)) hF hS (ex_assign rfl) rfl rfl fun a hF => ?_
          refine q_end (n_sq ?_)
          refine q_region ?_
          refine q_x (v := s19.v) hF hS (ex_move rfl) rfl rfl fun a hF => ?_
          refine q_x (v := s3.v) hF hS (ex_move rfl) rfl rfl fun a hF => ?_
          refine q_x (v := (.int .i64 t_26)) hF hS (ex_move rfl) rfl rfl fun a hF => ?_
          obtain ⟨e_29, he_29, hb3⟩ := bindS hb3
          obtain ⟨vs30, at30, d30⟩ := h3.at he_29 1 rfl
          obtain rfl : vs30 = [(.int .i64 e_29)] := d30
          refine q_x (v := (elP s3 (t_26.toNat * 1))) hF hS (ex_indexAddr Try.underlying33 sz3 rfl rfl (h3.idx he_29)) rfl rfl fun a hF => ?_
          refine q_x (v := (.int .i64 e_29)) hF hS (ex_loadE1 0 Try.underlying3 rfl rfl ((at30).at) rfl rfl) rfl rfl fun a hF => ?_
          refine q_x (v := (.int .i64 e_27)) hF hS (ex_move rfl) rfl rfl fun a hF => ?_
          obtain ⟨e_31, he_31, hb3⟩ := bindS hb3
          obtain ⟨vs32, at32, d32⟩ := h25.at he_31 1 rfl
          obtain rfl : vs32 = [(.int .i64 e_31)] := d32
          refine q_x (v := (elP s19 (e_29.toNat * 1))) hF hS (ex_indexAddr Try.underlying33 sz3 rfl rfl (h25.idx he_31)) rfl rfl fun a hF => ?_
          refine q_do rfl fun _ hK => wp_storeE (e' := e_27) (us := [(.int .i64 e_27)]) (vs := [(.int .i64 e_31)]) 0 hF hS h25 sz3 rfl rfl rfl rfl rfl rfl rfl he_31 at32 rfl rfl rfl fun w q33 hS h33 => hK _ _ ?_
          refine q_end (n_ib (n_sq ?_))
          refine q_region ?_
          refine q_x (v := (.int .i64 (w64 (t_26 + 1)))) hF hS (ex_ibin rfl rfl rfl) rfl rfl fun a hF => ?_
          refine q_x (v := (.int .i64 (w64 (t_26 + 1)))) hF hS (ex_move rfl) rfl rfl fun a hF => ?_
          refine q_end ?_
          obtain rfl := someI hb3
          exact ⟨rfl, q33, _, _, rfl, hF.sub ⟨rfl, rfl, rfl, rfl, rfl, rfl, rfl, rfl, rfl, rfl, trivial⟩, hS, h33⟩
      · rintro e a w ⟨q35, rfl, hF, hS, h35⟩
        refine x_ib (n_sq ?_)
        obtain ⟨out_43, hj5, hb1⟩ := bindS hb1
        refine q_join (fun a w => ∃ (q45 : Piece), ∃ (s45 : Sl), Fr a 58 [(1, s3.v), (2, s4.v), (3, (.pointer (some ⟨b5, 0, none⟩))), (6, (.pointer (some ⟨b6, 0, none⟩))), (7, (.pointer (some ⟨b10, 0, none⟩))), (8, (.int .i64 i_11))] ∧ St [] w0 w m [q9, q45, [⟨b10, [s9.v, s45.v], 46⟩], [⟨b6, [nilS.v, nilS.v], 46⟩], [⟨b5, [s1.v, s2.v], 46⟩]] ∧ OwnL m 3 q9 s9 out_43.Sizes ∧ out_43.Sizes = t_7 ∧ OwnL m 3 q45 s45 out_43.Cells) ?_ ?_
        · refine e_region [11, 13] mixed fun w' hw' => ?_
          have hS := hS.below hw'
          refine e_p (v := (.pointer (some ⟨b10, 1, none⟩))) 0 hF rfl (ex_fieldAddr Try.underlying46 rfl sz33 rfl rfl) rfl rfl (by kernel_rfl) (by kernel_rfl) (by kernel_rfl) fun a hF => ?_
          refine e_x (v := s14.v) 1 hF hS rfl (ex_load1 3 0 Try.underlying33 rfl rfl rfl rfl) rfl rfl (by kernel_rfl) (by kernel_rfl) (by kernel_rfl) (by kernel_rfl) fun a hF => ?_
          refine e_p (v := (.pointer (some ⟨b5, 1, none⟩))) 2 hF rfl (ex_fieldAddr Try.underlying46 rfl sz33 rfl rfl) rfl rfl (by kernel_rfl) (by kernel_rfl) (by kernel_rfl) fun a hF => ?_
          refine e_p (v := (.pointer (some ⟨b5, 0, none⟩))) 4 hF rfl (ex_fieldAddr Try.underlying46 rfl sz33 rfl rfl) rfl rfl (by kernel_rfl) (by kernel_rfl) (by kernel_rfl) fun a hF => ?_
          refine e_p (v := s19.v) 6 hF rfl (ex_move rfl) rfl rfl (by kernel_rfl) (by kernel_rfl) (by kernel_rfl) fun a hF => ?_
          obtain ⟨t_36, ht_36, hj5⟩ := bindS hj5
          obtain ⟨e_38, he_38, hj5⟩ := bindS hj5
          obtain ⟨l_41, hl_41, hj5⟩ := bindS hj5
          refine e_all [3, 5] (by kernel_rfl) rfl ⟨?_, ?_, trivial⟩
          · refine e_lx (v := s2.v) hF hS rfl (ex_load1 5 0 Try.underlying33 rfl rfl rfl rfl) rfl rfl fun a hF => ?_
            refine e_one 5 (by kernel_rfl) ?_
            refine e_lx (v := s1.v) hF hS rfl (ex_load1 5 0 Try.underlying33 rfl rfl rfl rfl) rfl rfl fun a hF => ?_
            refine e_one 7 (by kernel_rfl) ?_
            obtain ⟨m37, hl37, hv37, hz37⟩ := hS.lend
            refine e_call (vs := [s1.v, s19.v]) hF hS rfl Try.func83 (by kernel_rfl) rfl rfl rfl (c_spec_cbAt p_c.Sizes at_34 t_36 ht_36 _ m37 hv37 s1 (h1.mono hl37) s19 (h35.froz hl37 (hz37 0 _ rfl))) ?_
            rintro a w _ rfl hF hS
            obtain ⟨vs39, at39, d39⟩ := h2.at he_38 1 rfl
            obtain rfl : vs39 = [(.int .i64 e_38)] := d39
            refine e_p (v := (elP s2 (t_36.toNat * 1))) 8 hF rfl (ex_indexAddr Try.underlying33 sz3 rfl rfl (h2.idx he_38)) rfl rfl (by kernel_rfl) (by kernel_rfl) (by kernel_rfl) fun a hF => ?_
            refine e_one 9 (by kernel_rfl) ?_
            refine e_lx (v := (.int .i64 e_38)) hF hS rfl (ex_loadE1 0 Try.underlying3 rfl rfl ((at39).at) rfl rfl) rfl rfl fun a hF => ?_
            refine e_one 10 (by kernel_rfl) ?_
            refine e_op rfl rfl fun _ hK => wp_buildSlice' (l := ([e_38] : List Int)) (cells := [(.int .i64 e_38)]) hF hS Try.underlying33 inf3 rfl rfl (by kernel_rfl) rfl rfl rfl ⟨rfl, rfl⟩ rfl rfl fun a w q40 s40 hF hS h40 hb => hK _ _ hb ?_
            refine e_one 11 (by kernel_rfl) ?_
            have hS : St _ _ _ _ [q14, q40, q35, q9, [⟨b10, [s9.v, s14.v], 46⟩], [⟨b6, [nilS.v, nilS.v], 46⟩], [⟨b5, [s1.v, s2.v], 46⟩]] := hS.sel [3, 0, 1, 2, 4, 5, 6] (by decide)
            refine e_opl rfl rfl rfl fun _ hK => wp_append hF hS h14 Try.underlying33 inf3 rfl rfl rfl rfl (h40.vw hS (j := 1) rfl) rfl (by decide) hl_41 rfl fun a w q42 s42 hF hS h42 => hK _ _ ?_
            refine e_p (v := (.pointer (some ⟨b10, 1, none⟩))) 12 hF rfl (ex_fieldAddr Try.underlying46 rfl sz33 rfl rfl) rfl rfl (by kernel_rfl) (by kernel_rfl) (by kernel_rfl) fun a hF => ?_
            refine e_one 13 (by kernel_rfl) ?_
            refine e_store (vs := [s42.v]) (cs' := [s9.v, s42.v]) 4 0 hF hS rfl rfl sz33 rfl rfl rfl rfl rfl rfl rfl rfl fun a w hF hS => ?_
            refine e_end (by kernel_rfl) (n_jn ?_) _
            obtain rfl := someI hj5
            exact ⟨q42, s42, hF.sub ⟨rfl, rfl, rfl, rfl, rfl, rfl, trivial⟩, hS.sel [3, 0, 4, 5, 6] (by decide), h13, h13k, h42⟩
          · refine e_lx (v := s1.v) hF hS rfl (ex_load1 5 0 Try.underlying33 rfl rfl rfl rfl) rfl rfl fun a hF => ?_
            refine e_all [3, 7] (by kernel_rfl) rfl ⟨?_, ?_, trivial⟩
            · refine e_lx (v := s2.v) hF hS rfl (ex_load1 5 0 Try.underlying33 rfl rfl rfl rfl) rfl rfl fun a hF => ?_
              refine e_one 7 (by kernel_rfl) ?_
              obtain ⟨m37, hl37, hv37, hz37⟩ := hS.lend
              refine e_call (vs := [s1.v, s19.v]) hF hS rfl Try.func83 (by kernel_rfl) rfl rfl rfl (c_spec_cbAt p_c.Sizes at_34 t_36 ht_36 _ m37 hv37 s1 (h1.mono hl37) s19 (h35.froz hl37 (hz37 0 _ rfl))) ?_
              rintro a w _ rfl hF hS
              obtain ⟨vs39, at39, d39⟩ := h2.at he_38 1 rfl
              obtain rfl : vs39 = [(.int .i64 e_38)] := d39
              refine e_p (v := (elP s2 (t_36.toNat * 1))) 8 hF rfl (ex_indexAddr Try.underlying33 sz3 rfl rfl (h2.idx he_38)) rfl rfl (by kernel_rfl) (by kernel_rfl) (by kernel_rfl) fun a hF => ?_
              refine e_one 9 (by kernel_rfl) ?_
              refine e_lx (v := (.int .i64 e_38)) hF hS rfl (ex_loadE1 0 Try.underlying3 rfl rfl ((at39).at) rfl rfl) rfl rfl fun a hF => ?_
              refine e_one 10 (by kernel_rfl) ?_
              refine e_op rfl rfl fun _ hK => wp_buildSlice' (l := ([e_38] : List Int)) (cells := [(.int .i64 e_38)]) hF hS Try.underlying33 inf3 rfl rfl (by kernel_rfl) rfl rfl rfl ⟨rfl, rfl⟩ rfl rfl fun a w q40 s40 hF hS h40 hb => hK _ _ hb ?_
              refine e_one 11 (by kernel_rfl) ?_
              have hS : St _ _ _ _ [q14, q40, q35, q9, [⟨b10, [s9.v, s14.v], 46⟩], [⟨b6, [nilS.v, nilS.v], 46⟩], [⟨b5, [s1.v, s2.v], 46⟩]] := hS.sel [3, 0, 1, 2, 4, 5, 6] (by decide)
              refine e_opl rfl rfl rfl fun _ hK => wp_append hF hS h14 Try.underlying33 inf3 rfl rfl rfl rfl (h40.vw hS (j := 1) rfl) rfl (by decide) hl_41 rfl fun a w q42 s42 hF hS h42 => hK _ _ ?_
              refine e_p (v := (.pointer (some ⟨b10, 1, none⟩))) 12 hF rfl (ex_fieldAddr Try.underlying46 rfl sz33 rfl rfl) rfl rfl (by kernel_rfl) (by kernel_rfl) (by kernel_rfl) fun a hF => ?_
              refine e_one 13 (by kernel_rfl) ?_
              refine e_store (vs := [s42.v]) (cs' := [s9.v, s42.v]) 4 0 hF hS rfl rfl sz33 rfl rfl rfl rfl rfl rfl rfl rfl fun a w hF hS => ?_
              refine e_end (by kernel_rfl) (n_jn ?_) _
              obtain rfl := someI hj5
              exact ⟨q42, s42, hF.sub ⟨rfl, rfl, rfl, rfl, rfl, rfl, trivial⟩, hS.sel [3, 0, 4, 5, 6] (by decide), h13, h13k, h42⟩
            · obtain ⟨m37, hl37, hv37, hz37⟩ := hS.lend
              refine e_call (vs := [s1.v, s19.v]) hF hS rfl Try.func83 (by kernel_rfl) rfl rfl rfl (c_spec_cbAt p_c.Sizes at_34 t_36 ht_36 _ m37 hv37 s1 (h1.mono hl37) s19 (h35.froz hl37 (hz37 0 _ rfl))) ?_
              rintro a w _ rfl hF hS
              refine e_one 3 (by kernel_rfl) ?_
              refine e_lx (v := s2.v) hF hS rfl (ex_load1 5 0 Try.underlying33 rfl rfl rfl rfl) rfl rfl fun a hF => ?_
              obtain ⟨vs39, at39, d39⟩ := h2.at he_38 1 rfl
              obtain rfl : vs39 = [(.int .i64 e_38)] := d39
              refine e_p (v := (elP s2 (t_36.toNat * 1))) 8 hF rfl (ex_indexAddr Try.underlying33 sz3 rfl rfl (h2.idx he_38)) rfl rfl (by kernel_rfl) (by kernel_rfl) (by kernel_rfl) fun a hF => ?_
              refine e_one 9 (by kernel_rfl) ?_
              refine e_lx (v := (.int .i64 e_38)) hF hS rfl (ex_loadE1 0 Try.underlying3 rfl rfl ((at39).at) rfl rfl) rfl rfl fun a hF => ?_
              refine e_one 10 (by kernel_rfl) ?_
              refine e_op rfl rfl fun _ hK => wp_buildSlice' (l := ([e_38] : List Int)) (cells := [(.int .i64 e_38)]) hF hS Try.underlying33 inf3 rfl rfl (by kernel_rfl) rfl rfl rfl ⟨rfl, rfl⟩ rfl rfl fun a w q40 s40 hF hS h40 hb => hK _ _ hb ?_
              refine e_one 11 (by kernel_rfl) ?_
              have hS : St _ _ _ _ [q14, q40, q35, q9, [⟨b10, [s9.v, s14.v], 46⟩], [⟨b6, [nilS.v, nilS.v], 46⟩], [⟨b5, [s1.v, s2.v], 46⟩]] := hS.sel [3, 0, 1, 2, 4, 5, 6] (by decide)
              refine e_opl rfl rfl rfl fun _ hK => wp_append hF hS h14 Try.underlying33 inf3 rfl rfl rfl rfl (h40.vw hS (j := 1) rfl) rfl (by decide) hl_41 rfl fun a w q42 s42 hF hS h42 => hK _ _ ?_
              refine e_p (v := (.pointer (some ⟨b10, 1, none⟩))) 12 hF rfl (ex_fieldAddr Try.underlying46 rfl sz33 rfl rfl) rfl rfl (by kernel_rfl) (by kernel_rfl) (by kernel_rfl) fun a hF => ?_
              refine e_one 13 (by kernel_rfl) ?_
              refine e_store (vs := [s42.v]) (cs' := [s9.v, s42.v]) 4 0 hF hS rfl rfl sz33 rfl rfl rfl rfl rfl rfl rfl rfl fun a w hF hS => ?_
              refine e_end (by kernel_rfl) (n_jn ?_) _
              obtain rfl := someI hj5
              exact ⟨q42, s42, hF.sub ⟨rfl, rfl, rfl, rfl, rfl, rfl, trivial⟩, hS.sel [3, 0, 4, 5, 6] (by decide), h13, h13k, h42⟩
        · rintro a w ⟨q45, s45, hF, hS, h44, h44k, h45⟩
          refine n_ib (n_sq ?_)
          refine q_region ?_
          refine q_x (v := (.int .i64 i_11)) hF hS (ex_move rfl) rfl rfl fun a hF => ?_
          refine q_x (v := (.int .i64 (w64 (i_11 + 1)))) hF hS (ex_ibin rfl rfl rfl) rfl rfl fun a hF => ?_
          refine q_x (v := (.int .i64 (w64 (i_11 + 1)))) hF hS (ex_assign rfl) rfl rfl fun a hF => ?_
          refine q_end ?_
          obtain rfl := someI hb1
          exact ⟨rfl, q45, s45, _, _, rfl, hF.sub ⟨rfl, rfl, rfl, rfl, rfl, rfl, trivial⟩, hS.sel [1, 2, 0, 3, 4] (by decide), h44, h44k, h45⟩
  · rintro e a w ⟨q48, s48, rfl, hF, hS, h47, h47k, h48⟩
    refine x_ib (n_sq ?_)
    refine q_seq ?_
    refine q_region ?_
    refine q_x (v := (.agg #[s9.v, s48.v])) hF hS (ex_loadA (vs := [s9.v, s48.v]) 2 0 Try.underlying46 rfl sz46 rfl rfl rfl rfl) rfl rfl fun a hF => ?_
    refine q_store (vs := [s9.v, s48.v]) (cs' := [s9.v, s48.v]) 3 0 hF hS sz46 rfl rfl rfl rfl rfl rfl rfl rfl fun a w hF hS => ?_
    refine q_end (n_sq (q_ret ?_))
    obtain rfl := someI hr
    exact ret_of hF hS rfl (.cellA (us := [s9.v, s48.v]) 3 0 Try.underlying46 rfl sz46 rfl rfl rfl rfl .nil) ⟨q9, q48, s9, s48, rfl, hS.sel [0, 1] (by decide), h47, h48⟩

theorem c_spec_SliceOf (p_c : impl_Cube) (p_dim : Int) (p_i : Int) (r : impl_Cube × Bool) (hr : spec_SliceOf p_c p_dim p_i = some r) (w0 : World) (m : Mem) (hv : Vis m w0) (s1 : Sl) (h1 : Rd m s1 p_c.Sizes) (s2 : Sl) (h2 : Rd m s2 p_c.Cells) :
    Ret Try.prog 34 [(.agg #[s1.v, s2.v]), (.int .i64 p_dim), (.int .i64 p_i)] w0 (fun v w => ∃ (q0' : Piece) (q1' : Piece) (s0' : Sl) (s1' : Sl), v = (.tuple #[(.agg #[s0'.v, s1'.v]), (.bool r.2)]) ∧ St [] w0 w m [q0', q1'] ∧ OwnL m 3 q0' s0' r.1.Sizes ∧ OwnL m 3 q1' s1' r.1.Cells) := by
  unfold spec_SliceOf at hr
  refine ret_start Try.func34 rfl 59 rfl rfl m hv fun a hF hS => ?_
  refine q_seq ?_
  refine q_region ?_
  refine q_box (cs := [s1.v, s2.v]) hF hS rfl rfl rfl fun a w b3 hF hS => ?_
  refine q_alloc (cs := [nilS.v, nilS.v]) hF hS rfl rfl rfl fun a w b4 hF hS => ?_
  refine q_x (v := (.bool false)) hF hS (ex_assign rfl) rfl rfl fun a hF => ?_
  refine q_end (n_sq ?_)
  refine q_seq ?_
  refine q_seq ?_
  obtain ⟨t_10, hj1, hr⟩ := bindS hr
  refine q_join (fun a w => Fr a 59 [(1, (.int .i64 p_dim)), (2, (.int .i64 p_i)), (3, (.pointer (some ⟨b3, 0, none⟩))), (6, (.pointer (some ⟨b4, 0, none⟩))), (32, (.bool t_10))] ∧ St [] w0 w m [[⟨b4, [nilS.v, nilS.v], 46⟩], [⟨b3, [s1.v, s2.v], 46⟩]]) ?_ ?_
  · refine q_region ?_
    refine q_x (v := (.agg #[s1.v, s2.v])) hF hS (ex_loadA (vs := [s1.v, s2.v]) 1 0 Try.underlying46 rfl sz46 rfl rfl rfl rfl) rfl rfl fun a hF => ?_
    obtain ⟨t_5, ht_5, hj1⟩ := bindS hj1
    refine q_call (vs := [(.agg #[s1.v, s2.v])]) hF hS Try.func67 (by kernel_rfl) rfl rfl rfl (c_spec_cbGood p_c t_5 ht_5 _ m hS.vis s1 h1 s2 h2) ?_
    rintro a w _ rfl hF hS
    refine q_x (v := (.bool (!t_5))) hF hS (ex_not rfl) rfl rfl fun a hF => ?_
    refine q_x (v := (.bool (!t_5))) hF hS (ex_move rfl) rfl rfl fun a hF => ?_
    rcases bcase (!t_5) with hc2 | hc2
    · have hj1 := cond_f hc2 hj1
      refine q_xg (v := (.int .i64 p_dim)) hF hS (ex_move rfl) (wanted_t hF rfl rfl rfl hc2) rfl fun a hF => ?_
      refine q_xg (v := (.pointer (some ⟨b3, 0, none⟩))) hF hS (ex_fieldAddr Try.underlying46 rfl sz33 rfl rfl) (wanted_t hF rfl rfl rfl hc2) rfl fun a hF => ?_
      refine q_xg (v := s1.v) hF hS (ex_load1 1 0 Try.underlying33 rfl rfl rfl rfl) (wanted_t hF rfl rfl rfl hc2) rfl fun a hF => ?_
      refine q_xg (v := (.int .i64 (goLen p_c.Sizes))) hF hS (ex_len Try.underlying33 rfl h1.len) (wanted_t hF rfl rfl rfl hc2) rfl fun a hF => ?_
      refine q_xg (v := (.int .i64 (w64 ((goLen p_c.Sizes) - 1)))) hF hS (ex_ibin rfl rfl rfl) (wanted_t hF rfl rfl rfl hc2) rfl fun a hF => ?_
      obtain ⟨t_6, ht_6, hj1⟩ := bindS hj1
      refine q_callg (vs := [(.int .i64 p_dim), (.int .i64 0), (.int .i64 (w64 ((goLen p_c.Sizes) - 1)))]) hF hS (wanted_t hF rfl rfl rfl hc2) Try.func44 (by kernel_rfl) rfl rfl rfl (c_spec_l1In p_dim 0 (w64 ((goLen p_c.Sizes) - 1)) t_6 ht_6 _ m hS.vis) ?_
      rintro a w _ rfl hF hS
      refine q_xg (v := (.bool (!t_6))) hF hS (ex_not rfl) (wanted_t hF rfl rfl rfl hc2) rfl fun a hF => ?_
      refine q_x (v := (.bool (!t_6))) hF hS (ex_pick_f rfl rfl hc2) rfl rfl fun a hF => ?_
      refine q_x (v := (.bool (!t_6))) hF hS (ex_move rfl) rfl rfl fun a hF => ?_
      rcases bcase (!t_6) with hc3 | hc3
      · have hj1 := cond_f hc3 hj1
        refine q_xg (v := (.int .i64 p_i)) hF hS (ex_move rfl) (wanted_t hF rfl rfl rfl hc3) rfl fun a hF => ?_
        refine q_xg (v := (.pointer (some ⟨b3, 0, none⟩))) hF hS (ex_fieldAddr Try.underlying46 rfl sz33 rfl rfl) (wanted_t hF rfl rfl rfl hc3) rfl fun a hF => ?_
        refine q_xg (v := s1.v) hF hS (ex_load1 1 0 Try.underlying33 rfl rfl rfl rfl) (wanted_t hF rfl rfl rfl hc3) rfl fun a hF => ?_
        refine q_xg (v := (.int .i64 p_dim)) hF hS (ex_move rfl) (wanted_t hF rfl rfl rfl hc3) rfl fun a hF => ?_
        obtain ⟨e_7, he_7, hj1⟩ := bindS hj1
        obtain ⟨vs8, at8, d8⟩ := h1.at he_7 1 rfl
        obtain rfl : vs8 = [(.int .i64 e_7)] := d8
        refine q_xg (v := (elP s1 (p_dim.toNat * 1))) hF hS (ex_indexAddr Try.underlying33 sz3 rfl rfl (h1.idx he_7)) (wanted_t hF rfl rfl rfl hc3) rfl fun a hF => ?_
        refine q_xg (v := (.int .i64 e_7)) hF hS (ex_loadE1 0 Try.underlying3 rfl rfl ((at8).at) rfl rfl) (wanted_t hF rfl rfl rfl hc3) rfl fun a hF => ?_
        obtain ⟨t_9, ht_9, hj1⟩ := bindS hj1
        refine q_callg (vs := [(.int .i64 p_i), (.int .i64 0), (.int .i64 e_7)]) hF hS (wanted_t hF rfl rfl rfl hc3) Try.func44 (by kernel_rfl) rfl rfl rfl (c_spec_l1In p_i 0 e_7 t_9 ht_9 _ m hS.vis) ?_
        rintro a w _ rfl hF hS
        refine q_xg (v := (.bool (!t_9))) hF hS (ex_not rfl) (wanted_t hF rfl rfl rfl hc3) rfl fun a hF => ?_
        refine q_x (v := (.bool (!t_9))) hF hS (ex_pick_f rfl rfl hc3) rfl rfl fun a hF => ?_
        refine q_end (n_jn ?_)
        obtain rfl := someI hj1
        exact ⟨hF.sub ⟨rfl, rfl, rfl, rfl, rfl, trivial⟩, hS⟩
      · have hj1 := cond_t hc3 hj1
        refine q_skip hF (wanted_f hF rfl rfl rfl hc3 rfl) rfl fun a hF => ?_
        refine q_skip hF (wanted_f hF rfl rfl rfl hc3 rfl) rfl fun a hF => ?_
        refine q_skip hF (wanted_f hF rfl rfl rfl hc3 rfl) rfl fun a hF => ?_
        refine q_skip hF (wanted_f hF rfl rfl rfl hc3 rfl) rfl fun a hF => ?_
        refine q_skip hF (wanted_f hF rfl rfl rfl hc3 rfl) rfl fun a hF => ?_
        refine q_skip hF (wanted_f hF rfl rfl rfl hc3 rfl) rfl fun a hF => ?_
        refine q_skip hF (wanted_f hF rfl rfl rfl hc3 rfl) rfl fun a hF => ?_
        refine q_skip hF (wanted_f hF rfl rfl rfl hc3 rfl) rfl fun a hF => ?_
        refine q_x (v := (.bool true)) hF hS (ex_pick_t rfl rfl hc3) rfl rfl fun a hF => ?_
        refine q_end (n_jn ?_)
        obtain rfl := someI hj1
        exact ⟨hF.sub ⟨rfl, rfl, rfl, rfl, rfl, trivial⟩, hS⟩
    · have hj1 := cond_t hc2 hj1
      refine q_skip hF (wanted_f hF rfl rfl rfl hc2 rfl) rfl fun a hF => ?_
      refine q_skip hF (wanted_f hF rfl rfl rfl hc2 rfl) rfl fun a hF => ?_
      refine q_skip hF (wanted_f hF rfl rfl rfl hc2 rfl) rfl fun a hF => ?_
      refine q_skip hF (wanted_f hF rfl rfl rfl hc2 rfl) rfl fun a hF => ?_
      refine q_skip hF (wanted_f hF rfl rfl rfl hc2 rfl) rfl fun a hF => ?_
      refine q_skip hF (wanted_f hF rfl rfl rfl hc2 rfl) rfl fun a hF => ?_
      refine q_skip hF (wanted_f hF rfl rfl rfl hc2 rfl) rfl fun a hF => ?_
      refine q_x (v := (.bool true)) hF hS (ex_pick_t rfl rfl hc2) rfl rfl fun a hF => ?_
      refine q_x (v := (.bool true)) hF hS (ex_move rfl) rfl rfl fun a hF => ?_
      refine q_skip hF (wanted_f hF rfl rfl rfl rfl rfl) rfl fun a hF => ?_
      refine q_skip hF (wanted_f hF rfl rfl rfl rfl rfl) rfl fun a hF => ?_
      refine q_skip hF (wanted_f hF rfl rfl rfl rfl rfl) rfl fun a hF => ?_
      refine q_skip hF (wanted_f hF rfl rfl rfl rfl rfl) rfl fun a hF => ?_
      refine q_skip hF (wanted_f hF rfl rfl rfl rfl rfl) rfl fun a hF => ?_
      refine q_skip hF (wanted_f hF rfl rfl rfl rfl rfl) rfl fun a hF => ?_
      refine q_skip hF (wanted_f hF rfl rfl rfl rfl rfl) rfl fun a hF => ?_
      refine q_skip hF (wanted_f hF rfl rfl rfl rfl rfl) rfl fun a hF => ?_
      refine q_x (v := (.bool true)) hF hS (ex_pick_t rfl rfl rfl) rfl rfl fun a hF => ?_
      refine q_end (n_jn ?_)
      obtain rfl := someI hj1
      exact ⟨hF.sub ⟨rfl, rfl, rfl, rfl, rfl, trivial⟩, hS⟩
  · rintro a w ⟨hF, hS⟩
    refine n_sq ?_
    rcases bcase (t_10) with hc4 | hc4
    · have hr := cond_f hc4 hr
      refine q_cond_f hF rfl hc4 ?_
      refine q_skipc (n_sq ?_)
      refine q_seq ?_
      refine q_region ?_
      refine q_x (v := nilS.v) hF hS (ex_assign rfl) rfl rfl fun a hF => ?_
      refine q_end (n_sq ?_)
      refine q_seq ?_
      refine q_seq ?_
      refine q_region ?_
      refine q_x (v := (.pointer (some ⟨b3, 0, none⟩))) hF hS (ex_fieldAddr Try.underlying46 rfl sz33 rfl rfl) rfl rfl fun a hF => ?_
      refine q_x (v := s1.v) hF hS (ex_load1 1 0 Try.underlying33 rfl rfl rfl rfl) rfl rfl fun a hF => ?_
      refine q_x (v := (.int .i64 (goLen p_c.Sizes))) hF hS (ex_len Try.underlying33 rfl h1.len) rfl rfl fun a hF => ?_
      refine q_x (v := (.int .i64 0)) hF hS (ex_move rfl) rfl rfl fun a hF => ?_
      refine q_end (n_sq ?_)
      refine q_block ?_
      obtain ⟨dims_19, hl5, hr⟩ := bindS hr
      refine q_loop (fun (s : (List Int) × Int) a w => ∃ (q12 : Piece), ∃ (s12 : Sl), ∃ dims_11, ∃ t_13, s = (dims_11, t_13) ∧ Fr a 59 [(1, (.int .i64 p_dim)), (2, (.int .i64 p_i)), (3, (.pointer (some ⟨b3, 0, none⟩))), (6, (.pointer (some ⟨b4, 0, none⟩))), (8, s12.v), (36, (.int .i64 (goLen p_c.Sizes))), (37, (.int .i64 t_13))] ∧ St [] w0 w m [q12, [⟨b4, [nilS.v, nilS.v], 46⟩], [⟨b3, [s1.v, s2.v], 46⟩]] ∧ OwnL m 3 q12 s12 dims_11) (fun (dims_19 : (List Int)) e a w => ∃ (q20 : Piece), ∃ (s20 : Sl), e = .exit 0 ∧ Fr a 59 [(1, (.int .i64 p_dim)), (2, (.int .i64 p_i)), (3, (.pointer (some ⟨b3, 0, none⟩))), (6, (.pointer (some ⟨b4, 0, none⟩))), (8, s20.v)] ∧ St [] w0 w m [q20, [⟨b4, [nilS.v, nilS.v], 46⟩], [⟨b3, [s1.v, s2.v], 46⟩]] ∧ OwnL m 3 q20 s20 dims_19) hl5 ⟨[], nilS, _, _, rfl, hF.sub ⟨rfl, rfl, rfl, rfl, rfl, rfl, rfl, trivial⟩, hS.sel [2, 0, 1] (by decide), (OwnL.nil (α := Int) m 3)⟩ ?_ ?_
      · clear hF hS
        rintro s a w st ⟨q12, s12, dims_11, t_13, rfl, hF, hS, h12⟩ hb5
        unfold spec_SliceOf_l1 at hb5
        refine q_seq ?_
        refine q_region ?_
        refine q_x (v := (.bool (decide (t_13 < (goLen p_c.Sizes))))) hF hS (ex_ibin rfl rfl rfl) rfl rfl fun a hF => ?_
        refine q_end (n_sq ?_)
        refine q_seq ?_
        rcases bcase (decide (t_13 < (goLen p_c.Sizes))) with hc6 | hc6
        · have hb5 := cond_f hc6 hb5
          refine q_cond_f hF rfl hc6 ?_
          refine q_exit (x_sq ?_)
          obtain rfl := someI hb5
          exact ⟨nofun, .inl ⟨q12, s12, rfl, hF.sub ⟨rfl, rfl, rfl, rfl, rfl, trivial⟩, hS, h12⟩⟩
        · have hb5 := cond_t hc6 hb5
          refine q_cond_t hF rfl hc6 ?_
          refine q_skipc (n_sq ?_)
          refine q_seq ?_
          refine q_block ?_
          refine q_seq ?_
          refine q_region ?_
          refine q_x (v := (.int .i64 t_13)) hF hS (ex_move rfl) rfl rfl fun a hF => ?_
          refine q_x (v := (.int .i64 t_13)) hF hS (ex_assign rfl) rfl rfl fun a hF => ?_
          refine q_end (n_sq ?_)
          refine q_seq ?_
          refine q_region ?_
          refine q_x (v := (.int .i64 t_13)) hF hS (ex_move rfl) rfl rfl fun a hF => ?_
          refine q_x (v := (.int .i64 p_dim)) hF hS (ex_move rfl) rfl rfl fun a hF => ?_
          refine q_x (v := (.bool (t_13 != p_dim))) hF hS (ex_ibin rfl rfl rfl) rfl rfl fun a hF => ?_
          refine q_end (n_sq ?_)
          obtain ⟨dims_17, hj7, hb5⟩ := bindS hb5
          refine q_join (fun a w => ∃ (q18 : Piece), ∃ (s18 : Sl), Fr a 59 [(1, (.int .i64 p_dim)), (2, (.int .i64 p_i)), (3, (.pointer (some ⟨b3, 0, none⟩))), (6, (.pointer (some ⟨b4, 0, none⟩))), (8, s18.v), (36, (.int .i64 (goLen p_c.Sizes))), (37, (.int .i64 t_13))] ∧ St [] w0 w m [q18, [⟨b4, [nilS.v, nilS.v], 46⟩], [⟨b3, [s1.v, s2.v], 46⟩]] ∧ OwnL m 3 q18 s18 dims_17) ?_ ?_
          · rcases bcase (t_13 != p_dim) with hc8 | hc8
            · have hj7 := cond_f hc8 hj7
              refine q_cond_f hF rfl hc8 ?_
              refine q_skipc (n_jn ?_)
              obtain rfl := someI hj7
              exact ⟨q12, s12, hF.sub ⟨rfl, rfl, rfl, rfl, rfl, rfl, rfl, trivial⟩, hS, h12⟩
            · have hj7 := cond_t hc8 hj7
              refine q_cond_t hF rfl hc8 ?_
              refine q_region ?_
              refine q_x (v := s12.v) hF hS (ex_move rfl) rfl rfl fun a hF => ?_
              refine q_x (v := (.int .i64 t_13)) hF hS (ex_move rfl) rfl rfl fun a hF => ?_
              refine q_do rfl fun _ hK => wp_buildSlice' (l := ([t_13] : List Int)) (cells := [(.int .i64 t_13)]) hF hS Try.underlying33 inf3 rfl rfl (by kernel_rfl) rfl rfl rfl ⟨rfl, rfl⟩ rfl rfl fun a w q14 s14 hF hS h14 _ => hK _ _ ?_
              have hS : St _ _ _ _ [q12, q14, [⟨b4, [nilS.v, nilS.v], 46⟩], [⟨b3, [s1.v, s2.v], 46⟩]] := hS.sel [1, 0, 2, 3] (by decide)
              obtain ⟨l_15, hl_15, hj7⟩ := bindS hj7
              refine q_do rfl fun _ hK => wp_append hF hS h12 Try.underlying33 inf3 rfl rfl rfl rfl (h14.vw hS (j := 1) rfl) rfl (by decide) hl_15 rfl fun a w q16 s16 hF hS h16 => hK _ _ ?_
              refine q_x (v := s16.v) hF hS (ex_assign rfl) rfl rfl fun a hF => ?_
              refine q_end (n_jn ?_)
              obtain rfl := someI hj7
              exact ⟨q16, s16, hF.sub ⟨rfl, rfl, rfl, rfl, rfl, rfl, rfl, trivial⟩, hS.mask [true, false, true, true], h16⟩
          · rintro a w ⟨q18, s18, hF, hS, h18⟩
            refine n_ib (n_sq ?_)
            refine q_region ?_
            refine q_x (v := (.int .i64 (w64 (t_13 + 1)))) hF hS (ex_ibin rfl rfl rfl) rfl rfl fun a hF => ?_
            refine q_x (v := (.int .i64 (w64 (t_13 + 1)))) hF hS (ex_move rfl) rfl rfl fun a hF => ?_
            refine q_end ?_
            obtain rfl := someI hb5
            exact ⟨rfl, q18, s18, _, _, rfl, hF.sub ⟨rfl, rfl, rfl, rfl, rfl, rfl, rfl, trivial⟩, hS, h18⟩
      · rintro e a w ⟨q20, s20, rfl, hF, hS, h20⟩
        refine x_ib (n_sq ?_)
        refine q_seq ?_
        refine q_region ?_
        refine q_x (v := (.pointer (some ⟨b3, 0, none⟩))) hF hS (ex_fieldAddr Try.underlying46 rfl sz33 rfl rfl) rfl rfl fun a hF => ?_
        refine q_x (v := s1.v) hF hS (ex_load1 2 0 Try.underlying33 rfl rfl rfl rfl) rfl rfl fun a hF => ?_
        obtain ⟨t_21, ht_21, hr⟩ := bindS hr
        refine q_call (vs := [s1.v]) hF hS Try.func75 (by kernel_rfl) rfl rfl rfl (c_spec_l1Own p_c.Sizes t_21 ht_21 _ m hS.vis s1 h1) ?_
        rintro a w _ ⟨q23, s23, rfl, hR22, h23⟩ hF hS2
        have hS : St _ _ _ _ [q23, q20, [⟨b4, [nilS.v, nilS.v], 46⟩], [⟨b3, [s1.v, s2.v], 46⟩]] := hS.joinF hR22
        refine q_x (v := s23.v) hF hS (ex_assign rfl) rfl rfl fun a hF => ?_
        refine q_end (n_sq ?_)
        refine q_seq ?_
        refine q_region ?_
        refine q_x (v := s23.v) hF hS (ex_move rfl) rfl rfl fun a hF => ?_
        refine q_x (v := (.int .i64 p_dim)) hF hS (ex_move rfl) rfl rfl fun a hF => ?_
        refine q_x (v := (.int .i64 p_i)) hF hS (ex_move rfl) rfl rfl fun a hF => ?_
        obtain ⟨e_24, he_24, hr⟩ := bindS hr
        obtain ⟨vs25, at25, d25⟩ := h23.at he_24 1 rfl
        obtain rfl : vs25 = [(.int .i64 e_24)] := d25
        refine q_x (v := (elP s23 (p_dim.toNat * 1))) hF hS (ex_indexAddr Try.underlying33 sz3 rfl rfl (h23.idx he_24)) rfl rfl fun a hF => ?_
        refine q_do rfl fun _ hK => wp_storeE (e' := p_i) (us := [(.int .i64 p_i)]) (vs := [(.int .i64 e_24)]) 0 hF hS h23 sz3 rfl rfl rfl rfl rfl rfl rfl he_24 at25 rfl rfl rfl fun w q26 hS h26 => hK _ _ ?_
        refine q_end (n_sq ?_)
        refine q_seq ?_
        refine q_region ?_
        refine q_x (v := (.agg #[s1.v, s2.v])) hF hS (ex_loadA (vs := [s1.v, s2.v]) 3 0 Try.underlying46 rfl sz46 rfl rfl rfl rfl) rfl rfl fun a hF => ?_
        refine q_x (v := s20.v) hF hS (ex_move rfl) rfl rfl fun a hF => ?_
        refine q_x (v := s23.v) hF hS (ex_move rfl) rfl rfl fun a hF => ?_
        obtain ⟨m28, hl28, hv28, hz28⟩ := hS.lend
        obtain ⟨t_27, ht_27, hr⟩ := bindS hr
        refine q_call (vs := [(.agg #[s1.v, s2.v]), s20.v, s23.v]) hF hS Try.func69 (by kernel_rfl) rfl rfl rfl (c_spec_cbFrom p_c dims_19 (goSet t_21 p_dim p_i) t_27 ht_27 _ m28 hv28 s1 (h1.mono hl28) s2 (h2.mono hl28) s20 (h20.froz hl28 (hz28 1 _ rfl)) s23 (h26.froz hl28 (hz28 0 _ rfl))) ?_
        rintro a w _ ⟨q30, q31, s30, s31, rfl, hR29, h30, h31⟩ hF hS2
        have hS : St _ _ _ _ [q30, q31, q26, q20, [⟨b4, [nilS.v, nilS.v], 46⟩], [⟨b3, [s1.v, s2.v], 46⟩]] := hS.joinF hR29
        have h30 := h30.any m
        have h31 := h31.any m
        refine q_store (vs := [s30.v, s31.v]) (cs' := [s30.v, s31.v]) 4 0 hF hS sz46 rfl rfl rfl rfl rfl rfl rfl rfl fun a w hF hS => ?_
        refine q_x (v := (.bool true)) hF hS (ex_assign rfl) rfl rfl fun a hF => ?_
        refine q_end (n_sq (q_ret ?_))
        obtain rfl := someI hr
        exact ret_of hF hS rfl (.cellA (us := [s30.v, s31.v]) 4 0 Try.underlying46 rfl sz46 rfl rfl rfl rfl (.tmp rfl .nil)) ⟨q30, q31, s30, s31, rfl, hS.sel [0, 1] (by decide), h30, h31⟩
    · have hr := cond_t hc4 hr
      refine q_cond_t hF rfl hc4 ?_
      refine q_seq ?_
      refine q_region ?_
      refine q_x (v := (.agg #[nilS.v, nilS.v])) hF hS (ex_build (cells := [nilS.v, nilS.v]) rfl (by kernel_rfl)) rfl rfl fun a hF => ?_
      refine q_store (vs := [nilS.v, nilS.v]) (cs' := [nilS.v, nilS.v]) 0 0 hF hS sz46 rfl rfl rfl rfl rfl rfl rfl rfl fun a w hF hS => ?_
      refine q_x (v := (.bool false)) hF hS (ex_assign rfl) rfl rfl fun a hF => ?_
      refine q_end (n_sq (q_ret (r_sq ?_)))
      obtain rfl := someI hr
      exact ret_of hF hS rfl (.cellA (us := [nilS.v, nilS.v]) 0 0 Try.underlying46 rfl sz46 rfl rfl rfl rfl (.tmp rfl .nil)) ⟨[], [], nilS, nilS, rfl, hS.sel [2, 3] (by decide), (OwnL.nil (α := Int) m 3), (OwnL.nil (α := Int) m 3)⟩

theorem c_spec_l1Most (p_a : Int) (p_b : Int) (r : Int) (hr : spec_l1Most p_a p_b = some r) (w0 : World) (m : Mem) (hv : Vis m w0) :
    Ret Try.prog 77 [(.int .i64 p_a), (.int .i64 p_b)] w0 (fun v _ => v = (.int .i64 r)) := by
  unfold spec_l1Most at hr
  refine ret_start Try.func77 rfl 10 rfl rfl m hv fun a hF hS => ?_
  refine q_seq ?_
  refine q_region ?_
  refine q_x (v := (.int .i64 0)) hF hS (ex_assign rfl) rfl rfl fun a hF => ?_
  refine q_end (n_sq ?_)
  refine q_seq ?_
  refine q_seq ?_
  refine q_region ?_
  refine q_x (v := (.int .i64 p_a)) hF hS (ex_move rfl) rfl rfl fun a hF => ?_
  refine q_x (v := (.int .i64 p_b)) hF hS (ex_move rfl) rfl rfl fun a hF => ?_
  refine q_x (v := (.bool (decide (p_b < p_a)))) hF hS (ex_ibin rfl rfl rfl) rfl rfl fun a hF => ?_
  refine q_end (n_sq ?_)
  rcases bcase (decide (p_b < p_a)) with hc1 | hc1
  · have hr := cond_f hc1 hr
    refine q_cond_f hF rfl hc1 ?_
    refine q_skipc (n_sq ?_)
    refine q_seq ?_
    refine q_region ?_
    refine q_x (v := (.int .i64 p_b)) hF hS (ex_move rfl) rfl rfl fun a hF => ?_
    refine q_x (v := (.int .i64 p_b)) hF hS (ex_assign rfl) rfl rfl fun a hF => ?_
    refine q_end (n_sq (q_ret ?_))
    obtain rfl := someI hr
    exact ret_of hF hS rfl (.tmp rfl .nil) rfl
  · have hr := cond_t hc1 hr
    refine q_cond_t hF rfl hc1 ?_
    refine q_seq ?_
    refine q_region ?_
    refine q_x (v := (.int .i64 p_a)) hF hS (ex_move rfl) rfl rfl fun a hF => ?_
    refine q_x (v := (.int .i64 p_a)) hF hS (ex_assign rfl) rfl rfl fun a hF => ?_
    refine q_end (n_sq (q_ret (r_sq ?_)))
    obtain rfl := someI hr
    exact ret_of hF hS rfl (.tmp rfl .nil) rfl

theorem c_spec_l1Least (p_a : Int) (p_b : Int) (r : Int) (hr : spec_l1Least p_a p_b = some r) (w0 : World) (m : Mem) (hv : Vis m w0) :
    Ret Try.prog 76 [(.int .i64 p_a), (.int .i64 p_b)] w0 (fun v _ => v = (.int .i64 r)) := by
  unfold spec_l1Least at hr
  refine ret_start Try.func76 rfl 10 rfl rfl m hv fun a hF hS => ?_
  refine q_seq ?_
  refine q_region ?_
  refine q_x (v := (.int .i64 0)) hF hS (ex_assign rfl) rfl rfl fun a hF => ?_
  refine q_end (n_sq ?_)
  refine q_seq ?_
  refine q_seq ?_
  refine q_region ?_
  refine q_x (v := (.int .i64 p_a)) hF hS (ex_move rfl) rfl rfl fun a hF => ?_
  refine q_x (v := (.int .i64 p_b)) hF hS (ex_move rfl) rfl rfl fun a hF => ?_
  refine q_x (v := (.bool (decide (p_a < p_b)))) hF hS (ex_ibin rfl rfl rfl) rfl rfl fun a hF => ?_
  refine q_end (n_sq ?_)
  rcases bcase (decide (p_a < p_b)) with hc1 | hc1
  · have hr := cond_f hc1 hr
    refine q_cond_f hF rfl hc1 ?_
    refine q_skipc (n_sq ?_)
    refine q_seq ?_
    refine q_region ?_
    refine q_x (v := (.int .i64 p_b)) hF hS (ex_move rfl) rfl rfl fun a hF => ?_
    refine q_x (v := (.int .i64 p_b)) hF hS (ex_assign rfl) rfl rfl fun a hF => ?_
    refine q_end (n_sq (q_ret ?_))
    obtain rfl := someI hr
    exact ret_of hF hS rfl (.tmp rfl .nil) rfl
  · have hr := cond_t hc1 hr
    refine q_cond_t hF rfl hc1 ?_
    refine q_seq ?_
    refine q_region ?_
    refine q_x (v := (.int .i64 p_a)) hF hS (ex_move rfl) rfl rfl fun a hF => ?_
    refine q_x (v := (.int .i64 p_a)) hF hS (ex_assign rfl) rfl rfl fun a hF => ?_
    refine q_end (n_sq (q_ret (r_sq ?_)))
    obtain rfl := someI hr
    exact ret_of hF hS rfl (.tmp rfl .nil) rfl

theorem c_spec_DrawGroupCube (p_code : List (K .u8)) (r : impl_Cube × Int × (List Int)) (hr : spec_DrawGroupCube p_code = some r) (w0 : World) (m : Mem) (hv : Vis m w0) (s1 : Sl) (h1 : Rd m s1 p_code) :
    Ret Try.prog 35 [s1.v] w0 (fun v w => ∃ (m' : Mem) (q1' : Piece) (q2' : Piece) (s0' : Sl) (s1' : Sl) (s2' : Sl), v = (.tuple #[(.agg #[s0'.v, s1'.v]), (.int .i64 r.2.1), s2'.v]) ∧ MLe [] w0.heap.size m m' ∧ St [] w0 w m' [q1', q2'] ∧ Rd m' s0' r.1.Sizes ∧ OwnL m' 3 q1' s1' r.1.Cells ∧ OwnL m' 3 q2' s2' r.2.2) := by
  unfold spec_DrawGroupCube at hr
  refine ret_start Try.func35 rfl 70 rfl rfl m hv fun a hF hS => ?_
  refine q_seq ?_
  refine q_region ?_
  refine q_alloc (cs := [nilS.v, nilS.v]) hF hS rfl rfl rfl fun a w b2 hF hS => ?_
  refine q_x (v := (.int .i64 0)) hF hS (ex_assign rfl) rfl rfl fun a hF => ?_
  refine q_x (v := nilS.v) hF hS (ex_assign rfl) rfl rfl fun a hF => ?_
  refine q_end (n_sq ?_)
  refine q_seq ?_
  refine q_region ?_
  refine q_x (v := s1.v) hF hS (ex_move rfl) rfl rfl fun a hF => ?_
  refine q_x (v := (.agg #[s1.v, (.int .i64 0), (.int .u64 0)])) hF hS (ex_build (cells := [s1.v, (.int .i64 0), (.int .u64 0)]) rfl (by kernel_rfl)) rfl rfl fun a hF => ?_
  refine q_box (cs := [s1.v, (.int .i64 0), (.int .u64 0)]) hF hS rfl rfl rfl fun a w b3 hF hS => ?_
  refine q_x (v := (.pointer (some ⟨b3, 0, none⟩))) hF hS (ex_assign rfl) rfl rfl fun a hF => ?_
  refine q_end (n_sq ?_)
  refine q_seq ?_
  refine q_region ?_
  refine q_x (v := (.pointer (some ⟨b3, 0, none⟩))) hF hS (ex_move rfl) rfl rfl fun a hF => ?_
  have hS4 : St _ _ _ _ ([[⟨b3, [s1.v, (.int .i64 0), (.int .u64 0)], 69⟩]] ++ [[⟨b2, [nilS.v, nilS.v], 46⟩]]) := hS
  have hE4 := hS4.enter
  obtain ⟨t_5, ht_5, hr⟩ := bindS hr
  refine q_do rfl fun _ hK => wp_callX (vs := [(.pointer (some ⟨b3, 0, none⟩))]) hF Try.func64 (by kernel_rfl) rfl rfl rfl (c_spec_l1Cur_cube (spec_l1Cur.mk p_code 0 (⟨0⟩ : K .u64)) t_5 ht_5 _ m b3 s1 h1 _ hE4) fun a w _ hR hF => hK _ _ ?_
  obtain ⟨m4', q7, s6, s7, rfl, hm4, hR4, h6, h7, hk8⟩ := hR
  have hS : St _ _ _ _ [[⟨b3, [s1.v, (.int .i64 t_5.2.at_), (.int .u64 t_5.2.seed.v)], 69⟩], q7, [⟨b2, [nilS.v, nilS.v], 46⟩]] := hS4.leave hR4 hm4
  have hm4 := MLe.weakX hS4 hm4
  have h8 : Rd m4' s1 t_5.2.code := by rw [hk8]; exact (h1.mono hm4.le)
  refine q_alloc (cs := [nilS.v, nilS.v]) hF hS rfl rfl rfl fun a w b9 hF hS => ?_
  refine q_store (vs := [s6.v, s7.v]) (cs' := [s6.v, s7.v]) 0 0 hF hS sz46 rfl rfl rfl rfl rfl rfl rfl rfl fun a w hF hS => ?_
  refine q_end (n_sq ?_)
  refine q_seq ?_
  refine q_region ?_
  refine q_x (v := (.pointer (some ⟨b3, 0, none⟩))) hF hS (ex_move rfl) rfl rfl fun a hF => ?_
  refine q_x (v := (.pointer (some ⟨b9, 0, none⟩))) hF hS (ex_fieldAddr Try.underlying46 rfl sz33 rfl rfl) rfl rfl fun a hF => ?_
  refine q_x (v := s6.v) hF hS (ex_load1 0 0 Try.underlying33 rfl rfl rfl rfl) rfl rfl fun a hF => ?_
  refine q_x (v := (.int .i64 (goLen t_5.1.Sizes))) hF hS (ex_len Try.underlying33 rfl h6.len) rfl rfl fun a hF => ?_
  refine q_x (v := (.int .i64 (w64 ((goLen t_5.1.Sizes) + 1)))) hF hS (ex_ibin rfl rfl rfl) rfl rfl fun a hF => ?_
  have hS : St _ _ _ _ [[⟨b3, [s1.v, (.int .i64 t_5.2.at_), (.int .u64 t_5.2.seed.v)], 69⟩], [⟨b9, [s6.v, s7.v], 46⟩], q7, [⟨b2, [nilS.v, nilS.v], 46⟩]] := hS.sel [1, 0, 2, 3] (by decide)
  have hS10 : St _ _ _ _ ([[⟨b3, [s1.v, (.int .i64 t_5.2.at_), (.int .u64 t_5.2.seed.v)], 69⟩]] ++ [[⟨b9, [s6.v, s7.v], 46⟩], q7, [⟨b2, [nilS.v, nilS.v], 46⟩]]) := hS
  have hE10 := hS10.enter
  obtain ⟨t_11, ht_11, hr⟩ := bindS hr
  refine q_do rfl fun _ hK => wp_callX (vs := [(.pointer (some ⟨b3, 0, none⟩)), (.int .i64 (w64 ((goLen t_5.1.Sizes) + 1)))]) hF Try.func41 (by kernel_rfl) rfl rfl rfl (c_spec_l1Cur_pick t_5.2 (w64 ((goLen t_5.1.Sizes) + 1)) t_11 ht_11 _ m4' b3 s1 h8 _ hE10) fun a w _ hR hF => hK _ _ ?_
  obtain ⟨rfl, hR10, hk12⟩ := hR
  have hS : St _ _ _ _ [[⟨b3, [s1.v, (.int .i64 t_11.2.at_), (.int .u64 t_11.2.seed.v)], 69⟩], [⟨b9, [s6.v, s7.v], 46⟩], q7, [⟨b2, [nilS.v, nilS.v], 46⟩]] := hS10.leaveF hR10
  have h12 : Rd m4' s1 t_11.2.code := by rw [hk12]; exact h8
  refine q_x (v := (.int .i64 t_11.1)) hF hS (ex_assign rfl) rfl rfl fun a hF => ?_
  refine q_end (n_sq ?_)
  refine q_seq ?_
  refine q_region ?_
  refine q_x (v := nilS.v) hF hS (ex_assign rfl) rfl rfl fun a hF => ?_
  refine q_end (n_sq ?_)
  refine q_seq ?_
  refine q_seq ?_
  refine q_region ?_
  refine q_x (v := (.int .i64 t_11.1)) hF hS (ex_move rfl) rfl rfl fun a hF => ?_
  refine q_x (v := (.pointer (some ⟨b9, 0, none⟩))) hF hS (ex_fieldAddr Try.underlying46 rfl sz33 rfl rfl) rfl rfl fun a hF => ?_
  refine q_x (v := s6.v) hF hS (ex_load1 1 0 Try.underlying33 rfl rfl rfl rfl) rfl rfl fun a hF => ?_
  refine q_x (v := (.int .i64 (goLen t_5.1.Sizes))) hF hS (ex_len Try.underlying33 rfl h6.len) rfl rfl fun a hF => ?_
  refine q_x (v := (.bool (decide (t_11.1 < (goLen t_5.1.Sizes))))) hF hS (ex_ibin rfl rfl rfl) rfl rfl fun a hF => ?_
  refine q_end (n_sq ?_)
  obtain ⟨j1, hj1, hr⟩ := bindS hr
  refine q_join (fun a w => ∃ (q45 : Piece), ∃ (s45 : Sl), ∃ groups_44, ∃ t_46, j1 = (groups_44, t_46) ∧ Fr a 70 [(2, (.pointer (some ⟨b2, 0, none⟩))), (5, (.pointer (some ⟨b3, 0, none⟩))), (6, (.pointer (some ⟨b9, 0, none⟩))), (7, (.int .i64 t_11.1)), (8, s45.v)] ∧ St [] w0 w m4' [q45, q7, [⟨b3, [s1.v, (.int .i64 t_46.at_), (.int .u64 t_46.seed.v)], 69⟩], [⟨b9, [s6.v, s7.v], 46⟩], [⟨b2, [nilS.v, nilS.v], 46⟩]] ∧ OwnL m4' 3 q45 s45 groups_44 ∧ Rd m4' s1 t_46.code ∧ t_46.code = p_code) ?_ ?_
  · rcases bcase (decide (t_11.1 < (goLen t_5.1.Sizes))) with hc2 | hc2
    · have hj1 := cond_f hc2 hj1
      refine q_cond_f hF rfl hc2 ?_
      refine q_skipc (n_jn ?_)
      obtain rfl := someI hj1
      exact ⟨[], nilS, _, _, rfl, hF.sub ⟨rfl, rfl, rfl, rfl, rfl, trivial⟩, hS.sel [4, 2, 0, 1, 3] (by decide), (OwnL.nil (α := Int) m4' 3), h12, (hk12.trans hk8)⟩
    · have hj1 := cond_t hc2 hj1
      refine q_cond_t hF rfl hc2 ?_
      refine q_seq ?_
      refine q_region ?_
      refine q_x (v := (.pointer (some ⟨b3, 0, none⟩))) hF hS (ex_move rfl) rfl rfl fun a hF => ?_
      refine q_x (v := (.pointer (some ⟨b9, 0, none⟩))) hF hS (ex_fieldAddr Try.underlying46 rfl sz33 rfl rfl) rfl rfl fun a hF => ?_
      refine q_x (v := s6.v) hF hS (ex_load1 1 0 Try.underlying33 rfl rfl rfl rfl) rfl rfl fun a hF => ?_
      refine q_x (v := (.int .i64 t_11.1)) hF hS (ex_move rfl) rfl rfl fun a hF => ?_
      obtain ⟨e_13, he_13, hj1⟩ := bindS hj1
      obtain ⟨vs14, at14, d14⟩ := h6.at he_13 1 rfl
      obtain rfl : vs14 = [(.int .i64 e_13)] := d14
      refine q_x (v := (elP s6 (t_11.1.toNat * 1))) hF hS (ex_indexAddr Try.underlying33 sz3 rfl rfl (h6.idx he_13)) rfl rfl fun a hF => ?_
      refine q_x (v := (.int .i64 e_13)) hF hS (ex_loadE1 0 Try.underlying3 rfl rfl ((at14).at) rfl rfl) rfl rfl fun a hF => ?_
      obtain ⟨t_15, ht_15, hj1⟩ := bindS hj1
      refine q_call (vs := [(.int .i64 e_13), (.int .i64 1)]) hF hS Try.func77 (by kernel_rfl) rfl rfl rfl (c_spec_l1Most e_13 1 t_15 ht_15 _ m4' hS.vis) ?_
      rintro a w _ rfl hF hS
      obtain ⟨t_16, ht_16, hj1⟩ := bindS hj1
      refine q_call (vs := [(.int .i64 3), (.int .i64 t_15)]) hF hS Try.func76 (by kernel_rfl) rfl rfl rfl (c_spec_l1Least 3 t_15 t_16 ht_16 _ m4' hS.vis) ?_
      rintro a w _ rfl hF hS
      have hS17 : St _ _ _ _ ([[⟨b3, [s1.v, (.int .i64 t_11.2.at_), (.int .u64 t_11.2.seed.v)], 69⟩]] ++ [[⟨b9, [s6.v, s7.v], 46⟩], q7, [⟨b2, [nilS.v, nilS.v], 46⟩]]) := hS
      have hE17 := hS17.enter
      obtain ⟨t_18, ht_18, hj1⟩ := bindS hj1
      refine q_do rfl fun _ hK => wp_callX (vs := [(.pointer (some ⟨b3, 0, none⟩)), (.int .i64 t_16)]) hF Try.func41 (by kernel_rfl) rfl rfl rfl (c_spec_l1Cur_pick t_11.2 t_16 t_18 ht_18 _ m4' b3 s1 h12 _ hE17) fun a w _ hR hF => hK _ _ ?_
      obtain ⟨rfl, hR17, hk19⟩ := hR
      have hS : St _ _ _ _ [[⟨b3, [s1.v, (.int .i64 t_18.2.at_), (.int .u64 t_18.2.seed.v)], 69⟩], [⟨b9, [s6.v, s7.v], 46⟩], q7, [⟨b2, [nilS.v, nilS.v], 46⟩]] := hS17.leaveF hR17
      have h19 : Rd m4' s1 t_18.2.code := by rw [hk19]; exact h12
      refine q_x (v := (.int .i64 (w64 (1 + t_18.1)))) hF hS (ex_ibin rfl rfl rfl) rfl rfl fun a hF => ?_
      refine q_x (v := (.int .i64 (w64 (1 + t_18.1)))) hF hS (ex_assign rfl) rfl rfl fun a hF => ?_
      refine q_end (n_sq ?_)
      refine q_seq ?_
      refine q_region ?_
      refine q_x (v := (.int .i64 0)) hF hS (ex_assign rfl) rfl rfl fun a hF => ?_
      refine q_end (n_sq ?_)
      refine q_block ?_
      obtain ⟨o3, hl3, hj1⟩ := bindS hj1
      refine q_loop (fun (s : (List Int) × Int × spec_l1Cur) a w => ∃ (q21 : Piece), ∃ (s21 : Sl), ∃ groups_20, ∃ i_22, ∃ t_23, s = (groups_20, i_22, t_23) ∧ Fr a 70 [(2, (.pointer (some ⟨b2, 0, none⟩))), (5, (.pointer (some ⟨b3, 0, none⟩))), (6, (.pointer (some ⟨b9, 0, none⟩))), (7, (.int .i64 t_11.1)), (8, s21.v), (9, (.int .i64 (w64 (1 + t_18.1)))), (10, (.int .i64 i_22))] ∧ St [] w0 w m4' [q21, [⟨b3, [s1.v, (.int .i64 t_23.at_), (.int .u64 t_23.seed.v)], 69⟩], [⟨b9, [s6.v, s7.v], 46⟩], q7, [⟨b2, [nilS.v, nilS.v], 46⟩]] ∧ OwnL m4' 3 q21 s21 groups_20 ∧ Rd m4' s1 t_23.code ∧ t_23.code = p_code) (fun (o : (List Int) × spec_l1Cur) e a w => ∃ (q41 : Piece), ∃ (s41 : Sl), ∃ groups_40, ∃ t_42, o = (groups_40, t_42) ∧ e = .exit 0 ∧ Fr a 70 [(2, (.pointer (some ⟨b2, 0, none⟩))), (5, (.pointer (some ⟨b3, 0, none⟩))), (6, (.pointer (some ⟨b9, 0, none⟩))), (7, (.int .i64 t_11.1)), (8, s41.v)] ∧ St [] w0 w m4' [q41, q7, [⟨b3, [s1.v, (.int .i64 t_42.at_), (.int .u64 t_42.seed.v)], 69⟩], [⟨b9, [s6.v, s7.v], 46⟩], [⟨b2, [nilS.v, nilS.v], 46⟩]] ∧ OwnL m4' 3 q41 s41 groups_40 ∧ Rd m4' s1 t_42.code ∧ t_42.code = p_code) hl3 ⟨[], nilS, _, _, _, rfl, hF.sub ⟨rfl, rfl, rfl, rfl, rfl, rfl, rfl, trivial⟩, hS.sel [4, 0, 1, 2, 3] (by decide), (OwnL.nil (α := Int) m4' 3), h19, (hk19.trans (hk12.trans hk8))⟩ ?_ ?_
      · clear hF hS
        rintro s a w st ⟨q21, s21, groups_20, i_22, t_23, rfl, hF, hS, h21, h24, h24k⟩ hb3
        unfold spec_DrawGroupCube_l1 at hb3
        refine q_seq ?_
        refine q_seq ?_
        refine q_region ?_
        refine q_x (v := (.int .i64 i_22)) hF hS (ex_move rfl) rfl rfl fun a hF => ?_
        refine q_x (v := (.pointer (some ⟨b9, 0, none⟩))) hF hS (ex_fieldAddr Try.underlying46 rfl sz33 rfl rfl) rfl rfl fun a hF => ?_
        refine q_x (v := s6.v) hF hS (ex_load1 2 0 Try.underlying33 rfl rfl rfl rfl) rfl rfl fun a hF => ?_
        refine q_x (v := (.int .i64 t_11.1)) hF hS (ex_move rfl) rfl rfl fun a hF => ?_
        obtain ⟨e_25, he_25, hb3⟩ := bindS hb3
        obtain ⟨vs26, at26, d26⟩ := h6.at he_25 1 rfl
        obtain rfl : vs26 = [(.int .i64 e_25)] := d26
        refine q_x (v := (elP s6 (t_11.1.toNat * 1))) hF hS (ex_indexAddr Try.underlying33 sz3 rfl rfl (h6.idx he_25)) rfl rfl fun a hF => ?_
        refine q_x (v := (.int .i64 e_25)) hF hS (ex_loadE1 0 Try.underlying3 rfl rfl ((at26).at) rfl rfl) rfl rfl fun a hF => ?_
        refine q_x (v := (.bool (decide (i_22 < e_25)))) hF hS (ex_ibin rfl rfl rfl) rfl rfl fun a hF => ?_
        refine q_end (n_sq ?_)
        rcases bcase (decide (i_22 < e_25)) with hc4 | hc4
        · have hb3 := cond_f hc4 hb3
          refine q_cond_f hF rfl hc4 ?_
          refine q_exit (x_sq ?_)
          obtain rfl := someI hb3
          exact ⟨nofun, .inl ⟨q21, s21, _, _, rfl, rfl, hF.sub ⟨rfl, rfl, rfl, rfl, rfl, trivial⟩, hS.sel [0, 3, 1, 2, 4] (by decide), h21, h24, h24k⟩⟩
        · have hb3 := cond_t hc4 hb3
          refine q_cond_t hF rfl hc4 ?_
          refine q_skipc (n_sq ?_)
          refine q_seq ?_
          refine q_block ?_
          refine q_seq ?_
          refine q_region ?_
          refine q_x (v := (.int .i64 i_22)) hF hS (ex_move rfl) rfl rfl fun a hF => ?_
          refine q_x (v := (.int .i64 (w64 (1 + t_18.1)))) hF hS (ex_move rfl) rfl rfl fun a hF => ?_
          refine q_x (v := (.bool (decide (i_22 < (w64 (1 + t_18.1)))))) hF hS (ex_ibin rfl rfl rfl) rfl rfl fun a hF => ?_
          refine q_end (n_sq ?_)
          obtain ⟨j5, hj5, hb3⟩ := bindS hb3
          refine q_join (fun a w => ∃ (q37 : Piece), ∃ (s37 : Sl), ∃ groups_36, ∃ t_38, j5 = (groups_36, t_38) ∧ Fr a 70 [(2, (.pointer (some ⟨b2, 0, none⟩))), (5, (.pointer (some ⟨b3, 0, none⟩))), (6, (.pointer (some ⟨b9, 0, none⟩))), (7, (.int .i64 t_11.1)), (8, s37.v), (9, (.int .i64 (w64 (1 + t_18.1)))), (10, (.int .i64 i_22))] ∧ St [] w0 w m4' [q37, q7, [⟨b3, [s1.v, (.int .i64 t_38.at_), (.int .u64 t_38.seed.v)], 69⟩], [⟨b9, [s6.v, s7.v], 46⟩], [⟨b2, [nilS.v, nilS.v], 46⟩]] ∧ OwnL m4' 3 q37 s37 groups_36 ∧ Rd m4' s1 t_38.code ∧ t_38.code = p_code) ?_ ?_
          · rcases bcase (decide (i_22 < (w64 (1 + t_18.1)))) with hc6 | hc6
            · have hj5 := cond_f hc6 hj5
              refine q_cond_f hF rfl hc6 ?_
              refine q_region ?_
              refine q_x (v := s21.v) hF hS (ex_move rfl) rfl rfl fun a hF => ?_
              refine q_x (v := (.pointer (some ⟨b3, 0, none⟩))) hF hS (ex_move rfl) rfl rfl fun a hF => ?_
              refine q_x (v := (.int .i64 (w64 (1 + t_18.1)))) hF hS (ex_move rfl) rfl rfl fun a hF => ?_
              have hS : St _ _ _ _ [[⟨b3, [s1.v, (.int .i64 t_23.at_), (.int .u64 t_23.seed.v)], 69⟩], q21, [⟨b9, [s6.v, s7.v], 46⟩], q7, [⟨b2, [nilS.v, nilS.v], 46⟩]] := hS.sel [1, 0, 2, 3, 4] (by decide)
              have hS27 : St _ _ _ _ ([[⟨b3, [s1.v, (.int .i64 t_23.at_), (.int .u64 t_23.seed.v)], 69⟩]] ++ [q21, [⟨b9, [s6.v, s7.v], 46⟩], q7, [⟨b2, [nilS.v, nilS.v], 46⟩]]) := hS
              have hE27 := hS27.enter
              obtain ⟨t_28, ht_28, hj5⟩ := bindS hj5
              refine q_do rfl fun _ hK => wp_callX (vs := [(.pointer (some ⟨b3, 0, none⟩)), (.int .i64 (w64 (1 + t_18.1)))]) hF Try.func41 (by kernel_rfl) rfl rfl rfl (c_spec_l1Cur_pick t_23 (w64 (1 + t_18.1)) t_28 ht_28 _ m4' b3 s1 h24 _ hE27) fun a w _ hR hF => hK _ _ ?_
              obtain ⟨rfl, hR27, hk29⟩ := hR
              have hS : St _ _ _ _ [[⟨b3, [s1.v, (.int .i64 t_28.2.at_), (.int .u64 t_28.2.seed.v)], 69⟩], q21, [⟨b9, [s6.v, s7.v], 46⟩], q7, [⟨b2, [nilS.v, nilS.v], 46⟩]] := hS27.leaveF hR27
              have h29 : Rd m4' s1 t_28.2.code := by rw [hk29]; exact h24
              refine q_do rfl fun _ hK => wp_buildSlice' (l := ([t_28.1] : List Int)) (cells := [(.int .i64 t_28.1)]) hF hS Try.underlying33 inf3 rfl rfl (by kernel_rfl) rfl rfl rfl ⟨rfl, rfl⟩ rfl rfl fun a w q30 s30 hF hS h30 _ => hK _ _ ?_
              have hS : St _ _ _ _ [q21, q30, [⟨b3, [s1.v, (.int .i64 t_28.2.at_), (.int .u64 t_28.2.seed.v)], 69⟩], [⟨b9, [s6.v, s7.v], 46⟩], q7, [⟨b2, [nilS.v, nilS.v], 46⟩]] := hS.sel [2, 0, 1, 3, 4, 5] (by decide)
              obtain ⟨l_31, hl_31, hj5⟩ := bindS hj5
              refine q_do rfl fun _ hK => wp_append hF hS h21 Try.underlying33 inf3 rfl rfl rfl rfl (h30.vw hS (j := 1) rfl) rfl (by decide) hl_31 rfl fun a w q32 s32 hF hS h32 => hK _ _ ?_
              refine q_x (v := s32.v) hF hS (ex_assign rfl) rfl rfl fun a hF => ?_
              refine q_end (n_jn ?_)
              obtain rfl := someI hj5
              exact ⟨q32, s32, _, _, rfl, hF.sub ⟨rfl, rfl, rfl, rfl, rfl, rfl, rfl, trivial⟩, hS.sel [0, 4, 2, 3, 5] (by decide), h32, h29, (hk29.trans h24k)⟩
            · have hj5 := cond_t hc6 hj5
              refine q_cond_t hF rfl hc6 ?_
              refine q_region ?_
              refine q_x (v := s21.v) hF hS (ex_move rfl) rfl rfl fun a hF => ?_
              refine q_x (v := (.int .i64 i_22)) hF hS (ex_move rfl) rfl rfl fun a hF => ?_
              refine q_do rfl fun _ hK => wp_buildSlice' (l := ([i_22] : List Int)) (cells := [(.int .i64 i_22)]) hF hS Try.underlying33 inf3 rfl rfl (by kernel_rfl) rfl rfl rfl ⟨rfl, rfl⟩ rfl rfl fun a w q33 s33 hF hS h33 _ => hK _ _ ?_
              have hS : St _ _ _ _ [q21, q33, [⟨b3, [s1.v, (.int .i64 t_23.at_), (.int .u64 t_23.seed.v)], 69⟩], [⟨b9, [s6.v, s7.v], 46⟩], q7, [⟨b2, [nilS.v, nilS.v], 46⟩]] := hS.sel [1, 0, 2, 3, 4, 5] (by decide)
              obtain ⟨l_34, hl_34, hj5⟩ := bindS hj5
              refine q_do rfl fun _ hK => wp_append hF hS h21 Try.underlying33 inf3 rfl rfl rfl rfl (h33.vw hS (j := 1) rfl) rfl (by decide) hl_34 rfl fun a w q35 s35 hF hS h35 => hK _ _ ?_
              refine q_x (v := s35.v) hF hS (ex_assign rfl) rfl rfl fun a hF => ?_
              refine q_end (n_jn ?_)
              obtain rfl := someI hj5
              exact ⟨q35, s35, _, _, rfl, hF.sub ⟨rfl, rfl, rfl, rfl, rfl, rfl, rfl, trivial⟩, hS.sel [0, 4, 2, 3, 5] (by decide), h35, h24, h24k⟩
          · rintro a w ⟨q37, s37, groups_36, t_38, rfl, hF, hS, h37, h39, h39k⟩
            refine n_ib (n_sq ?_)
            refine q_region ?_
            refine q_x (v := (.int .i64 i_22)) hF hS (ex_move rfl) rfl rfl fun a hF => ?_
            refine q_x (v := (.int .i64 (w64 (i_22 + 1)))) hF hS (ex_ibin rfl rfl rfl) rfl rfl fun a hF => ?_
            refine q_x (v := (.int .i64 (w64 (i_22 + 1)))) hF hS (ex_assign rfl) rfl rfl fun a hF => ?_
            refine q_end ?_
            obtain rfl := someI hb3
            exact ⟨rfl, q37, s37, _, _, _, rfl, hF.sub ⟨rfl, rfl, rfl, rfl, rfl, rfl, rfl, trivial⟩, hS.sel [0, 2, 3, 1, 4] (by decide), h37, h39, h39k⟩
      · rintro e a w ⟨q41, s41, groups_40, t_42, rfl, rfl, hF, hS, h41, h43, h43k⟩
        refine x_ib (n_jn ?_)
        obtain rfl := someI hj1
        exact ⟨q41, s41, _, _, rfl, hF.sub ⟨rfl, rfl, rfl, rfl, rfl, trivial⟩, hS, h41, h43, h43k⟩
  · rintro a w ⟨q45, s45, groups_44, t_46, rfl, hF, hS, h45, h47, h47k⟩
    refine n_sq ?_
    refine q_seq ?_
    refine q_seq ?_
    refine q_region ?_
    refine q_x (v := (.pointer (some ⟨b3, 0, none⟩))) hF hS (ex_move rfl) rfl rfl fun a hF => ?_
    have hS : St _ _ _ _ [[⟨b3, [s1.v, (.int .i64 t_46.at_), (.int .u64 t_46.seed.v)], 69⟩], q45, q7, [⟨b9, [s6.v, s7.v], 46⟩], [⟨b2, [nilS.v, nilS.v], 46⟩]] := hS.sel [2, 0, 1, 3, 4] (by decide)
    have hS48 : St _ _ _ _ ([[⟨b3, [s1.v, (.int .i64 t_46.at_), (.int .u64 t_46.seed.v)], 69⟩]] ++ [q45, q7, [⟨b9, [s6.v, s7.v], 46⟩], [⟨b2, [nilS.v, nilS.v], 46⟩]]) := hS
    have hE48 := hS48.enter
    obtain ⟨t_49, ht_49, hr⟩ := bindS hr
    refine q_do rfl fun _ hK => wp_callX (vs := [(.pointer (some ⟨b3, 0, none⟩)), (.int .i64 12)]) hF Try.func65 (by kernel_rfl) rfl rfl rfl (c_spec_l1Cur_one t_46 12 t_49 ht_49 _ m4' b3 s1 h47 _ hE48) fun a w _ hR hF => hK _ _ ?_
    obtain ⟨rfl, hR48, hk50⟩ := hR
    have hS : St _ _ _ _ [[⟨b3, [s1.v, (.int .i64 t_49.2.at_), (.int .u64 t_49.2.seed.v)], 69⟩], q45, q7, [⟨b9, [s6.v, s7.v], 46⟩], [⟨b2, [nilS.v, nilS.v], 46⟩]] := hS48.leaveF hR48
    have h50 : Rd m4' s1 t_49.2.code := by rw [hk50]; exact h47
    refine q_end (n_sq ?_)
    obtain ⟨groups_58, hj7, hr⟩ := bindS hr
    refine q_join (fun a w => ∃ (q59 : Piece), ∃ (s59 : Sl), Fr a 70 [(2, (.pointer (some ⟨b2, 0, none⟩))), (6, (.pointer (some ⟨b9, 0, none⟩))), (7, (.int .i64 t_11.1)), (8, s59.v)] ∧ St [] w0 w m4' [q59, q7, [⟨b9, [s6.v, s7.v], 46⟩], [⟨b2, [nilS.v, nilS.v], 46⟩]] ∧ OwnL m4' 3 q59 s59 groups_58) ?_ ?_
    · rcases bcase (t_49.1) with hc8 | hc8
      · have hj7 := cond_f hc8 hj7
        refine q_cond_f hF rfl hc8 ?_
        refine q_skipc (n_jn ?_)
        obtain rfl := someI hj7
        exact ⟨q45, s45, hF.sub ⟨rfl, rfl, rfl, rfl, trivial⟩, hS.mask [false, true, true, true, true], h45⟩
      · have hj7 := cond_t hc8 hj7
        refine q_cond_t hF rfl hc8 ?_
        refine q_region ?_
        refine q_x (v := s45.v) hF hS (ex_move rfl) rfl rfl fun a hF => ?_
        refine q_x (v := (.pointer (some ⟨b3, 0, none⟩))) hF hS (ex_move rfl) rfl rfl fun a hF => ?_
        refine q_do rfl fun _ hK => wp_buildSlice' (l := ([0, -1, 7] : List Int)) (cells := [(.int .i64 0), (.int .i64 (-1)), (.int .i64 7)]) hF hS Try.underlying33 inf3 rfl rfl (by kernel_rfl) rfl rfl rfl ⟨rfl, rfl, rfl, rfl⟩ rfl rfl fun a w q51 s51 hF hS h51 _ => hK _ _ ?_
        have hS : St _ _ _ _ [[⟨b3, [s1.v, (.int .i64 t_49.2.at_), (.int .u64 t_49.2.seed.v)], 69⟩], q51, q45, q7, [⟨b9, [s6.v, s7.v], 46⟩], [⟨b2, [nilS.v, nilS.v], 46⟩]] := hS.sel [1, 0, 2, 3, 4, 5] (by decide)
        have hS52 : St _ _ _ _ ([[⟨b3, [s1.v, (.int .i64 t_49.2.at_), (.int .u64 t_49.2.seed.v)], 69⟩]] ++ [q51, q45, q7, [⟨b9, [s6.v, s7.v], 46⟩], [⟨b2, [nilS.v, nilS.v], 46⟩]]) := hS
        obtain ⟨m52, hl52, hE52, hz52⟩ := hS52.lendX
        obtain ⟨t_53, ht_53, hj7⟩ := bindS hj7
        refine q_do rfl fun _ hK => wp_callX (vs := [(.pointer (some ⟨b3, 0, none⟩)), s51.v]) hF Try.func40 (by kernel_rfl) rfl rfl rfl (c_spec_l1Cur_among t_49.2 ([0, -1, 7] : List Int) t_53 ht_53 _ m52 b3 s1 (h50.mono hl52) s51 (h51.froz hl52 (hz52 0 _ rfl)) _ hE52) fun a w _ hR hF => hK _ _ ?_
        obtain ⟨rfl, hR52, hk54⟩ := hR
        have hS : St _ _ _ _ [[⟨b3, [s1.v, (.int .i64 t_53.2.at_), (.int .u64 t_53.2.seed.v)], 69⟩], q51, q45, q7, [⟨b9, [s6.v, s7.v], 46⟩], [⟨b2, [nilS.v, nilS.v], 46⟩]] := hS52.leaveF hR52
        have h54 : Rd m4' s1 t_53.2.code := by rw [hk54]; exact h50
        refine q_do rfl fun _ hK => wp_buildSlice' (l := ([t_53.1] : List Int)) (cells := [(.int .i64 t_53.1)]) hF hS Try.underlying33 inf3 rfl rfl (by kernel_rfl) rfl rfl rfl ⟨rfl, rfl⟩ rfl rfl fun a w q55 s55 hF hS h55 _ => hK _ _ ?_
        have hS : St _ _ _ _ [q45, q55, [⟨b3, [s1.v, (.int .i64 t_53.2.at_), (.int .u64 t_53.2.seed.v)], 69⟩], q51, q7, [⟨b9, [s6.v, s7.v], 46⟩], [⟨b2, [nilS.v, nilS.v], 46⟩]] := hS.sel [3, 0, 1, 2, 4, 5, 6] (by decide)
        obtain ⟨l_56, hl_56, hj7⟩ := bindS hj7
        refine q_do rfl fun _ hK => wp_append hF hS h45 Try.underlying33 inf3 rfl rfl rfl rfl (h55.vw hS (j := 1) rfl) rfl (by decide) hl_56 rfl fun a w q57 s57 hF hS h57 => hK _ _ ?_
        refine q_x (v := s57.v) hF hS (ex_assign rfl) rfl rfl fun a hF => ?_
        refine q_end (n_jn ?_)
        obtain rfl := someI hj7
        exact ⟨q57, s57, hF.sub ⟨rfl, rfl, rfl, rfl, trivial⟩, hS.mask [true, false, false, false, true, true, true], h57⟩
    · rintro a w ⟨q59, s59, hF, hS, h59⟩
      refine n_sq ?_
      refine q_seq ?_
      refine q_region ?_
      refine q_x (v := (.agg #[s6.v, s7.v])) hF hS (ex_loadA (vs := [s6.v, s7.v]) 2 0 Try.underlying46 rfl sz46 rfl rfl rfl rfl) rfl rfl fun a hF => ?_
      refine q_x (v := (.int .i64 t_11.1)) hF hS (ex_move rfl) rfl rfl fun a hF => ?_
      refine q_x (v := s59.v) hF hS (ex_move rfl) rfl rfl fun a hF => ?_
      refine q_store (vs := [s6.v, s7.v]) (cs' := [s6.v, s7.v]) 3 0 hF hS sz46 rfl rfl rfl rfl rfl rfl rfl rfl fun a w hF hS => ?_
      refine q_x (v := (.int .i64 t_11.1)) hF hS (ex_assign rfl) rfl rfl fun a hF => ?_
      refine q_x (v := s59.v) hF hS (ex_assign rfl) rfl rfl fun a hF => ?_
      refine q_end (n_sq (q_ret ?_))
      obtain rfl := someI hr
      exact ret_of hF hS rfl (.cellA (us := [s6.v, s7.v]) 3 0 Try.underlying46 rfl sz46 rfl rfl rfl rfl (.tmp rfl (.tmp rfl .nil))) ⟨m4', q7, q59, s6, s7, s59, rfl, hm4, hS.sel [1, 0] (by decide), h6, h7, h59⟩

theorem c_slices_Index_int_int (p_s : List Int) (p_v : Int) (r : Int) (hr : slices_Index_int_int p_s p_v = some r) (w0 : World) (m : Mem) (hv : Vis m w0) (s1 : Sl) (h1 : Rd m s1 p_s) :
    Ret Try.prog 98 [s1.v, (.int .i64 p_v)] w0 (fun v _ => v = (.int .i64 r)) := by
  unfold slices_Index_int_int at hr
  refine ret_start Try.func98 rfl 19 rfl rfl m hv fun a hF hS => ?_
  refine q_seq ?_
  refine q_region ?_
  refine q_x (v := (.int .i64 0)) hF hS (ex_assign rfl) rfl rfl fun a hF => ?_
  refine q_end (n_sq ?_)
  refine q_seq ?_
  refine q_seq ?_
  refine q_region ?_
  refine q_x (v := s1.v) hF hS (ex_move rfl) rfl rfl fun a hF => ?_
  refine q_x (v := (.int .i64 (goLen p_s))) hF hS (ex_len Try.underlying33 rfl h1.len) rfl rfl fun a hF => ?_
  refine q_x (v := (.int .i64 0)) hF hS (ex_move rfl) rfl rfl fun a hF => ?_
  refine q_end (n_sq ?_)
  refine q_block ?_
  obtain ⟨o1, hl1, hr⟩ := bindS hr
  refine q_loop (fun (t_2 : Int) a w => Fr a 19 [(0, s1.v), (1, (.int .i64 p_v)), (7, (.int .i64 (goLen p_s))), (8, (.int .i64 t_2))] ∧ St [] w0 w m []) (fun (o : (Unit) ⊕ (Int)) e a w => o = .inl () ∧ e = .exit 0 ∧ Fr a 19 [] ∧ St [] w0 w m []) hl1 ⟨hF.sub ⟨rfl, rfl, rfl, rfl, trivial⟩, hS⟩ ?_ ?_
  · clear hF hS
    rintro t_2 a w st ⟨hF, hS⟩ hb1
    unfold slices_Index_int_int_l1 at hb1
    refine q_seq ?_
    refine q_region ?_
    refine q_x (v := (.bool (decide (t_2 < (goLen p_s))))) hF hS (ex_ibin rfl rfl rfl) rfl rfl fun a hF => ?_
    refine q_end (n_sq ?_)
    refine q_seq ?_
    rcases bcase (decide (t_2 < (goLen p_s))) with hc2 | hc2
    · have hb1 := cond_f hc2 hb1
      refine q_cond_f hF rfl hc2 ?_
      refine q_exit (x_sq ?_)
      obtain rfl := someI hb1
      exact ⟨nofun, .inl ⟨rfl, rfl, hF.sub trivial, hS⟩⟩
    · have hb1 := cond_t hc2 hb1
      refine q_cond_t hF rfl hc2 ?_
      refine q_skipc (n_sq ?_)
      refine q_seq ?_
      refine q_block ?_
      refine q_seq ?_
      refine q_region ?_
      refine q_x (v := (.int .i64 t_2)) hF hS (ex_move rfl) rfl rfl fun a hF => ?_
      refine q_x (v := (.int .i64 t_2)) hF hS (ex_assign rfl) rfl rfl fun a hF => ?_
      refine q_end (n_sq ?_)
      refine q_seq ?_
      refine q_region ?_
      refine q_x (v := (.int .i64 p_v)) hF hS (ex_move rfl) rfl rfl fun a hF => ?_
      refine q_x (v := s1.v) hF hS (ex_move rfl) rfl rfl fun a hF => ?_
      refine q_x (v := (.int .i64 t_2)) hF hS (ex_move rfl) rfl rfl fun a hF => ?_
      obtain ⟨e_3, he_3, hb1⟩ := bindS hb1
      obtain ⟨vs4, at4, d4⟩ := h1.at he_3 1 rfl
      obtain rfl : vs4 = [(.int .i64 e_3)] := d4
      refine q_x (v := (elP s1 (t_2.toNat * 1))) hF hS (ex_indexAddr Try.underlying33 sz3 rfl rfl (h1.idx he_3)) rfl rfl fun a hF => ?_
      refine q_x (v := (.int .i64 e_3)) hF hS (ex_loadE1 0 Try.underlying3 rfl rfl ((at4).at) rfl rfl) rfl rfl fun a hF => ?_
      refine q_x (v := (.bool (p_v == e_3))) hF hS (ex_ibin rfl rfl rfl) rfl rfl fun a hF => ?_
      refine q_end (n_sq ?_)
      rcases bcase (p_v == e_3) with hc3 | hc3
      · have hb1 := cond_f hc3 hb1
        refine q_cond_f hF rfl hc3 ?_
        refine q_skipc (n_ib (n_sq ?_))
        refine q_region ?_
        refine q_x (v := (.int .i64 (w64 (t_2 + 1)))) hF hS (ex_ibin rfl rfl rfl) rfl rfl fun a hF => ?_
        refine q_x (v := (.int .i64 (w64 (t_2 + 1)))) hF hS (ex_move rfl) rfl rfl fun a hF => ?_
        refine q_end ?_
        obtain rfl := someI hb1
        exact ⟨rfl, hF.sub ⟨rfl, rfl, rfl, rfl, trivial⟩, hS⟩
      · have hb1 := cond_t hc3 hb1
        refine q_cond_t hF rfl hc3 ?_
        refine q_seq ?_
        refine q_region ?_
        refine q_x (v := (.int .i64 t_2)) hF hS (ex_move rfl) rfl rfl fun a hF => ?_
        refine q_x (v := (.int .i64 t_2)) hF hS (ex_assign rfl) rfl rfl fun a hF => ?_
        refine q_end (n_sq (q_ret (r_ib (r_sq ?_))))
        obtain rfl := someI hb1
        refine ⟨nofun, .inr fun ho => ?_⟩
        subst ho
        refine r_ib (r_sq ?_)
        obtain rfl := someI hr
        exact ret_of hF hS rfl (.tmp rfl .nil) rfl
  · rintro e a w ⟨rfl, rfl, hF, hS⟩
    refine x_ib (n_sq ?_)
    refine q_seq ?_
    refine q_region ?_
    refine q_x (v := (.int .i64 (-1))) hF hS (ex_assign rfl) rfl rfl fun a hF => ?_
    refine q_end (n_sq (q_ret ?_))
    obtain rfl := someI hr
    exact ret_of hF hS rfl (.tmp rfl .nil) rfl

theorem c_slices_Contains_int_int (p_s : List Int) (p_v : Int) (r : Bool) (hr : slices_Contains_int_int p_s p_v = some r) (w0 : World) (m : Mem) (hv : Vis m w0) (s1 : Sl) (h1 : Rd m s1 p_s) :
    Ret Try.prog 94 [s1.v, (.int .i64 p_v)] w0 (fun v _ => v = (.bool r)) := by
  unfold slices_Contains_int_int at hr
  refine ret_start Try.func94 rfl 9 rfl rfl m hv fun a hF hS => ?_
  refine q_seq ?_
  refine q_region ?_
  refine q_x (v := (.bool false)) hF hS (ex_assign rfl) rfl rfl fun a hF => ?_
  refine q_end (n_sq ?_)
  refine q_seq ?_
  refine q_region ?_
  refine q_x (v := s1.v) hF hS (ex_move rfl) rfl rfl fun a hF => ?_
  refine q_x (v := (.int .i64 p_v)) hF hS (ex_move rfl) rfl rfl fun a hF => ?_
  obtain ⟨t_2, ht_2, hr⟩ := bindS hr
  refine q_call (vs := [s1.v, (.int .i64 p_v)]) hF hS Try.func98 (by kernel_rfl) rfl rfl rfl (c_slices_Index_int_int p_s p_v t_2 ht_2 _ m hS.vis s1 h1) ?_
  rintro a w _ rfl hF hS
  refine q_x (v := (.bool (decide (0 ≤ t_2)))) hF hS (ex_ibin rfl rfl rfl) rfl rfl fun a hF => ?_
  refine q_x (v := (.bool (decide (0 ≤ t_2)))) hF hS (ex_assign rfl) rfl rfl fun a hF => ?_
  refine q_end (n_sq (q_ret ?_))
  obtain rfl := someI hr
  exact ret_of hF hS rfl (.tmp rfl .nil) rfl

theorem c_impl_groupNumbers (p_groups : List Int) (r : Int) (hr : impl_groupNumbers p_groups = some r) (w0 : World) (m : Mem) (hv : Vis m w0) (s1 : Sl) (h1 : Rd m s1 p_groups) :
    Ret Try.prog 78 [s1.v] w0 (fun v _ => v = (.int .i64 r)) := by
  unfold impl_groupNumbers at hr
  refine ret_start Try.func78 rfl 36 rfl rfl m hv fun a hF hS => ?_
  refine q_seq ?_
  refine q_region ?_
  refine q_x (v := (.int .i64 0)) hF hS (ex_assign rfl) rfl rfl fun a hF => ?_
  refine q_end (n_sq ?_)
  refine q_seq ?_
  refine q_region ?_
  refine q_x (v := (.int .i64 0)) hF hS (ex_assign rfl) rfl rfl fun a hF => ?_
  refine q_end (n_sq ?_)
  refine q_seq ?_
  refine q_seq ?_
  refine q_region ?_
  refine q_x (v := s1.v) hF hS (ex_move rfl) rfl rfl fun a hF => ?_
  refine q_x (v := (.int .i64 (goLen p_groups))) hF hS (ex_len Try.underlying33 rfl h1.len) rfl rfl fun a hF => ?_
  refine q_x (v := (.int .i64 0)) hF hS (ex_move rfl) rfl rfl fun a hF => ?_
  refine q_end (n_sq ?_)
  refine q_block ?_
  obtain ⟨o1, hl1, hr⟩ := bindS hr
  refine q_loop (fun (s : Int × Int) a w => ∃ n_2, ∃ t_3, s = (n_2, t_3) ∧ Fr a 36 [(0, s1.v), (3, (.int .i64 n_2)), (7, s1.v), (8, (.int .i64 (goLen p_groups))), (9, (.int .i64 t_3))] ∧ St [] w0 w m []) (fun (o : (Int) ⊕ (Int)) e a w => ∃ n_7, o = .inl n_7 ∧ e = .exit 0 ∧ Fr a 36 [(0, s1.v), (3, (.int .i64 n_7))] ∧ St [] w0 w m []) hl1 ⟨_, _, rfl, hF.sub ⟨rfl, rfl, rfl, rfl, rfl, trivial⟩, hS⟩ ?_ ?_
  · clear hF hS
    rintro s a w st ⟨n_2, t_3, rfl, hF, hS⟩ hb1
    unfold impl_groupNumbers_l1 at hb1
    refine q_seq ?_
    refine q_region ?_
    refine q_x (v := (.bool (decide (t_3 < (goLen p_groups))))) hF hS (ex_ibin rfl rfl rfl) rfl rfl fun a hF => ?_
    refine q_end (n_sq ?_)
    refine q_seq ?_
    rcases bcase (decide (t_3 < (goLen p_groups))) with hc2 | hc2
    · have hb1 := cond_f hc2 hb1
      refine q_cond_f hF rfl hc2 ?_
      refine q_exit (x_sq ?_)
      obtain rfl := someI hb1
      exact ⟨nofun, .inl ⟨_, rfl, rfl, hF.sub ⟨rfl, rfl, trivial⟩, hS⟩⟩
    · have hb1 := cond_t hc2 hb1
      refine q_cond_t hF rfl hc2 ?_
      refine q_skipc (n_sq ?_)
      refine q_seq ?_
      refine q_block ?_
      refine q_seq ?_
      refine q_region ?_
      obtain ⟨e_4, he_4, hb1⟩ := bindS hb1
      obtain ⟨vs5, at5, d5⟩ := h1.at he_4 1 rfl
      obtain rfl : vs5 = [(.int .i64 e_4)] := d5
      refine q_x (v := (elP s1 (t_3.toNat * 1))) hF hS (ex_indexAddr Try.underlying33 sz3 rfl rfl (h1.idx he_4)) rfl rfl fun a hF => ?_
      refine q_x (v := (.int .i64 e_4)) hF hS (ex_loadE1 0 Try.underlying3 rfl rfl ((at5).at) rfl rfl) rfl rfl fun a hF => ?_
      refine q_x (v := (.int .i64 e_4)) hF hS (ex_assign rfl) rfl rfl fun a hF => ?_
      refine q_end (n_sq ?_)
      refine q_seq ?_
      refine q_seq ?_
      obtain ⟨t_6, hj3, hb1⟩ := bindS hb1
      refine q_join (fun a w => Fr a 36 [(0, s1.v), (3, (.int .i64 n_2)), (5, (.int .i64 e_4)), (7, s1.v), (8, (.int .i64 (goLen p_groups))), (9, (.int .i64 t_3)), (20, (.bool t_6))] ∧ St [] w0 w m []) ?_ ?_
      · refine q_region ?_
        refine q_x (v := (.int .i64 e_4)) hF hS (ex_move rfl) rfl rfl fun a hF => ?_
        refine q_x (v := (.bool (decide (e_4 < 0)))) hF hS (ex_ibin rfl rfl rfl) rfl rfl fun a hF => ?_
        refine q_x (v := (.bool (decide (e_4 < 0)))) hF hS (ex_move rfl) rfl rfl fun a hF => ?_
        rcases bcase (decide (e_4 < 0)) with hc4 | hc4
        · have hj3 := cond_f hc4 hj3
          refine q_xg (v := (.int .i64 e_4)) hF hS (ex_move rfl) (wanted_t hF rfl rfl rfl hc4) rfl fun a hF => ?_
          refine q_xg (v := s1.v) hF hS (ex_move rfl) (wanted_t hF rfl rfl rfl hc4) rfl fun a hF => ?_
          refine q_xg (v := (.int .i64 (goLen p_groups))) hF hS (ex_len Try.underlying33 rfl h1.len) (wanted_t hF rfl rfl rfl hc4) rfl fun a hF => ?_
          refine q_xg (v := (.bool (decide ((goLen p_groups) ≤ e_4)))) hF hS (ex_ibin rfl rfl rfl) (wanted_t hF rfl rfl rfl hc4) rfl fun a hF => ?_
          refine q_x (v := (.bool (decide ((goLen p_groups) ≤ e_4)))) hF hS (ex_pick_f rfl rfl hc4) rfl rfl fun a hF => ?_
          refine q_end (n_jn ?_)
          obtain rfl := someI hj3
          exact ⟨hF.sub ⟨rfl, rfl, rfl, rfl, rfl, rfl, rfl, trivial⟩, hS⟩
        · have hj3 := cond_t hc4 hj3
          refine q_skip hF (wanted_f hF rfl rfl rfl hc4 rfl) rfl fun a hF => ?_
          refine q_skip hF (wanted_f hF rfl rfl rfl hc4 rfl) rfl fun a hF => ?_
          refine q_skip hF (wanted_f hF rfl rfl rfl hc4 rfl) rfl fun a hF => ?_
          refine q_skip hF (wanted_f hF rfl rfl rfl hc4 rfl) rfl fun a hF => ?_
          refine q_x (v := (.bool true)) hF hS (ex_pick_t rfl rfl hc4) rfl rfl fun a hF => ?_
          refine q_end (n_jn ?_)
          obtain rfl := someI hj3
          exact ⟨hF.sub ⟨rfl, rfl, rfl, rfl, rfl, rfl, rfl, trivial⟩, hS⟩
      · rintro a w ⟨hF, hS⟩
        refine n_sq ?_
        rcases bcase (t_6) with hc5 | hc5
        · have hb1 := cond_f hc5 hb1
          refine q_cond_f hF rfl hc5 ?_
          refine q_skipc (n_sq ?_)
          refine q_region ?_
          refine q_x (v := (.int .i64 n_2)) hF hS (ex_move rfl) rfl rfl fun a hF => ?_
          refine q_x (v := (.int .i64 e_4)) hF hS (ex_move rfl) rfl rfl fun a hF => ?_
          refine q_x (v := (.int .i64 (w64 (e_4 + 1)))) hF hS (ex_ibin rfl rfl rfl) rfl rfl fun a hF => ?_
          refine q_x (v := (.int .i64 (max n_2 (w64 (e_4 + 1))))) hF hS (ex_max rfl rfl) rfl rfl fun a hF => ?_
          refine q_x (v := (.int .i64 (max n_2 (w64 (e_4 + 1))))) hF hS (ex_assign rfl) rfl rfl fun a hF => ?_
          refine q_end (n_ib (n_sq ?_))
          refine q_region ?_
          refine q_x (v := (.int .i64 (w64 (t_3 + 1)))) hF hS (ex_ibin rfl rfl rfl) rfl rfl fun a hF => ?_
          refine q_x (v := (.int .i64 (w64 (t_3 + 1)))) hF hS (ex_move rfl) rfl rfl fun a hF => ?_
          refine q_end ?_
          obtain rfl := someI hb1
          exact ⟨rfl, _, _, rfl, hF.sub ⟨rfl, rfl, rfl, rfl, rfl, trivial⟩, hS⟩
        · have hb1 := cond_t hc5 hb1
          refine q_cond_t hF rfl hc5 ?_
          refine q_seq ?_
          refine q_region ?_
          refine q_x (v := (.int .i64 0)) hF hS (ex_assign rfl) rfl rfl fun a hF => ?_
          refine q_end (n_sq (q_ret (r_sq (r_ib (r_sq ?_)))))
          obtain rfl := someI hb1
          refine ⟨nofun, .inr fun ho => ?_⟩
          subst ho
          refine r_ib (r_sq ?_)
          obtain rfl := someI hr
          exact ret_of hF hS rfl (.tmp rfl .nil) rfl
  · rintro e a w ⟨n_7, rfl, rfl, hF, hS⟩
    refine x_ib (n_sq ?_)
    refine q_seq ?_
    refine q_seq ?_
    refine q_region ?_
    refine q_x (v := (.int .i64 n_7)) hF hS (ex_move rfl) rfl rfl fun a hF => ?_
    refine q_x (v := (.int .i64 0)) hF hS (ex_move rfl) rfl rfl fun a hF => ?_
    refine q_end (n_sq ?_)
    refine q_block ?_
    obtain ⟨o6, hl6, hr⟩ := bindS hr
    refine q_loop (fun (t_8 : Int) a w => Fr a 36 [(0, s1.v), (3, (.int .i64 n_7)), (26, (.int .i64 n_7)), (27, (.int .i64 t_8))] ∧ St [] w0 w m []) (fun (o : (Unit) ⊕ (Int)) e a w => o = .inl () ∧ e = .exit 2 ∧ Fr a 36 [(3, (.int .i64 n_7))] ∧ St [] w0 w m []) hl6 ⟨hF.sub ⟨rfl, rfl, rfl, rfl, trivial⟩, hS⟩ ?_ ?_
    · clear hF hS
      rintro t_8 a w st ⟨hF, hS⟩ hb6
      unfold impl_groupNumbers_l2 at hb6
      refine q_seq ?_
      refine q_region ?_
      refine q_x (v := (.bool (decide (t_8 < n_7)))) hF hS (ex_ibin rfl rfl rfl) rfl rfl fun a hF => ?_
      refine q_end (n_sq ?_)
      refine q_seq ?_
      rcases bcase (decide (t_8 < n_7)) with hc7 | hc7
      · have hb6 := cond_f hc7 hb6
        refine q_cond_f hF rfl hc7 ?_
        refine q_exit (x_sq ?_)
        obtain rfl := someI hb6
        exact ⟨nofun, .inl ⟨rfl, rfl, hF.sub ⟨rfl, trivial⟩, hS⟩⟩
      · have hb6 := cond_t hc7 hb6
        refine q_cond_t hF rfl hc7 ?_
        refine q_skipc (n_sq ?_)
        refine q_seq ?_
        refine q_block ?_
        refine q_seq ?_
        refine q_region ?_
        refine q_x (v := (.int .i64 t_8)) hF hS (ex_move rfl) rfl rfl fun a hF => ?_
        refine q_x (v := (.int .i64 t_8)) hF hS (ex_assign rfl) rfl rfl fun a hF => ?_
        refine q_end (n_sq ?_)
        refine q_seq ?_
        refine q_region ?_
        refine q_x (v := s1.v) hF hS (ex_move rfl) rfl rfl fun a hF => ?_
        refine q_x (v := (.int .i64 t_8)) hF hS (ex_move rfl) rfl rfl fun a hF => ?_
        obtain ⟨t_9, ht_9, hb6⟩ := bindS hb6
        refine q_call (vs := [s1.v, (.int .i64 t_8)]) hF hS Try.func94 (by kernel_rfl) rfl rfl rfl (c_slices_Contains_int_int p_groups t_8 t_9 ht_9 _ m hS.vis s1 h1) ?_
        rintro a w _ rfl hF hS
        refine q_x (v := (.bool (!t_9))) hF hS (ex_not rfl) rfl rfl fun a hF => ?_
        refine q_end (n_sq ?_)
        rcases bcase (!t_9) with hc8 | hc8
        · have hb6 := cond_f hc8 hb6
          refine q_cond_f hF rfl hc8 ?_
          refine q_skipc (n_ib (n_sq ?_))
          refine q_region ?_
          refine q_x (v := (.int .i64 (w64 (t_8 + 1)))) hF hS (ex_ibin rfl rfl rfl) rfl rfl fun a hF => ?_
          refine q_x (v := (.int .i64 (w64 (t_8 + 1)))) hF hS (ex_move rfl) rfl rfl fun a hF => ?_
          refine q_end ?_
          obtain rfl := someI hb6
          exact ⟨rfl, hF.sub ⟨rfl, rfl, rfl, rfl, trivial⟩, hS⟩
        · have hb6 := cond_t hc8 hb6
          refine q_cond_t hF rfl hc8 ?_
          refine q_seq ?_
          refine q_region ?_
          refine q_x (v := (.int .i64 0)) hF hS (ex_assign rfl) rfl rfl fun a hF => ?_
          refine q_end (n_sq (q_ret (r_ib (r_sq ?_))))
          obtain rfl := someI hb6
          refine ⟨nofun, .inr fun ho => ?_⟩
          subst ho
          refine r_ib (r_sq ?_)
          obtain rfl := someI hr
          exact ret_of hF hS rfl (.tmp rfl .nil) rfl
    · rintro e a w ⟨rfl, rfl, hF, hS⟩
      refine x_ib (n_sq ?_)
      refine q_seq ?_
      refine q_region ?_
      refine q_x (v := (.int .i64 n_7)) hF hS (ex_move rfl) rfl rfl fun a hF => ?_
      refine q_x (v := (.int .i64 n_7)) hF hS (ex_assign rfl) rfl rfl fun a hF => ?_
      refine q_end (n_sq (q_ret ?_))
      obtain rfl := someI hr
      exact ret_of hF hS rfl (.tmp rfl .nil) rfl

theorem c_impl_GroupCube (p_c : impl_Cube) (p_dim : Int) (p_groups : List Int) (r : impl_Cube × Bool) (hr : impl_GroupCube p_c p_dim p_groups = some r) (w0 : World) (m : Mem) (hv : Vis m w0) (s1 : Sl) (h1 : Rd m s1 p_c.Sizes) (s2 : Sl) (h2 : Rd m s2 p_c.Cells) (s3 : Sl) (h3 : Rd m s3 p_groups) :
    Ret Try.prog 36 [(.agg #[s1.v, s2.v]), (.int .i64 p_dim), s3.v] w0 (fun v w => ∃ (q0' : Piece) (q1' : Piece) (s0' : Sl) (s1' : Sl), v = (.tuple #[(.agg #[s0'.v, s1'.v]), (.bool r.2)]) ∧ St [] w0 w m [q0', q1'] ∧ OwnL m 3 q0' s0' r.1.Sizes ∧ OwnL m 3 q1' s1' r.1.Cells) := by
  unfold impl_GroupCube at hr
  refine ret_start Try.func36 rfl 112 rfl rfl m hv fun a hF hS => ?_
  refine q_seq ?_
  refine q_region ?_
  refine q_box (cs := [s1.v, s2.v]) hF hS rfl rfl rfl fun a w b4 hF hS => ?_
  refine q_alloc (cs := [nilS.v, nilS.v]) hF hS rfl rfl rfl fun a w b5 hF hS => ?_
  refine q_x (v := (.bool false)) hF hS (ex_assign rfl) rfl rfl fun a hF => ?_
  refine q_end (n_sq ?_)
  refine q_seq ?_
  refine q_seq ?_
  obtain ⟨t_10, hj1, hr⟩ := bindS hr
  refine q_join (fun a w => Fr a 112 [(1, (.int .i64 p_dim)), (2, s3.v), (3, (.pointer (some ⟨b4, 0, none⟩))), (6, (.pointer (some ⟨b5, 0, none⟩))), (41, (.bool t_10))] ∧ St [] w0 w m [[⟨b5, [nilS.v, nilS.v], 46⟩], [⟨b4, [s1.v, s2.v], 46⟩]]) ?_ ?_
  · refine q_region ?_
    refine q_x (v := (.agg #[s1.v, s2.v])) hF hS (ex_loadA (vs := [s1.v, s2.v]) 1 0 Try.underlying46 rfl sz46 rfl rfl rfl rfl) rfl rfl fun a hF => ?_
    obtain ⟨t_6, ht_6, hj1⟩ := bindS hj1
    refine q_call (vs := [(.agg #[s1.v, s2.v])]) hF hS Try.func27 (by kernel_rfl) rfl rfl rfl (c_impl_IsCube p_c t_6 ht_6 _ m hS.vis s1 h1 s2 h2) ?_
    rintro a w _ rfl hF hS
    refine q_x (v := (.bool (!t_6))) hF hS (ex_not rfl) rfl rfl fun a hF => ?_
    refine q_x (v := (.bool (!t_6))) hF hS (ex_move rfl) rfl rfl fun a hF => ?_
    rcases bcase (!t_6) with hc2 | hc2
    · have hj1 := cond_f hc2 hj1
      refine q_xg (v := (.int .i64 p_dim)) hF hS (ex_move rfl) (wanted_t hF rfl rfl rfl hc2) rfl fun a hF => ?_
      refine q_xg (v := (.bool (decide (p_dim < 0)))) hF hS (ex_ibin rfl rfl rfl) (wanted_t hF rfl rfl rfl hc2) rfl fun a hF => ?_
      refine q_x (v := (.bool (decide (p_dim < 0)))) hF hS (ex_pick_f rfl rfl hc2) rfl rfl fun a hF => ?_
      refine q_x (v := (.bool (decide (p_dim < 0)))) hF hS (ex_move rfl) rfl rfl fun a hF => ?_
      rcases bcase (decide (p_dim < 0)) with hc3 | hc3
      · have hj1 := cond_f hc3 hj1
        refine q_xg (v := (.int .i64 p_dim)) hF hS (ex_move rfl) (wanted_t hF rfl rfl rfl hc3) rfl fun a hF => ?_
        refine q_xg (v := (.pointer (some ⟨b4, 0, none⟩))) hF hS (ex_fieldAddr Try.underlying46 rfl sz33 rfl rfl) (wanted_t hF rfl rfl rfl hc3) rfl fun a hF => ?_
        refine q_xg (v := s1.v) hF hS (ex_load1 1 0 Try.underlying33 rfl rfl rfl rfl) (wanted_t hF rfl rfl rfl hc3) rfl fun a hF => ?_
        refine q_xg (v := (.int .i64 (goLen p_c.Sizes))) hF hS (ex_len Try.underlying33 rfl h1.len) (wanted_t hF rfl rfl rfl hc3) rfl fun a hF => ?_
        refine q_xg (v := (.bool (decide ((goLen p_c.Sizes) ≤ p_dim)))) hF hS (ex_ibin rfl rfl rfl) (wanted_t hF rfl rfl rfl hc3) rfl fun a hF => ?_
        refine q_x (v := (.bool (decide ((goLen p_c.Sizes) ≤ p_dim)))) hF hS (ex_pick_f rfl rfl hc3) rfl rfl fun a hF => ?_
        refine q_x (v := (.bool (decide ((goLen p_c.Sizes) ≤ p_dim)))) hF hS (ex_move rfl) rfl rfl fun a hF => ?_
        rcases bcase (decide ((goLen p_c.Sizes) ≤ p_dim)) with hc4 | hc4
        · have hj1 := cond_f hc4 hj1
          refine q_xg (v := s3.v) hF hS (ex_move rfl) (wanted_t hF rfl rfl rfl hc4) rfl fun a hF => ?_
          refine q_xg (v := (.int .i64 (goLen p_groups))) hF hS (ex_len Try.underlying33 rfl h3.len) (wanted_t hF rfl rfl rfl hc4) rfl fun a hF => ?_
          refine q_xg (v := (.pointer (some ⟨b4, 0, none⟩))) hF hS (ex_fieldAddr Try.underlying46 rfl sz33 rfl rfl) (wanted_t hF rfl rfl rfl hc4) rfl fun a hF => ?_
          refine q_xg (v := s1.v) hF hS (ex_load1 1 0 Try.underlying33 rfl rfl rfl rfl) (wanted_t hF rfl rfl rfl hc4) rfl fun a hF => ?_
          refine q_xg (v := (.int .i64 p_dim)) hF hS (ex_move rfl) (wanted_t hF rfl rfl rfl hc4) rfl fun a hF => ?_
          obtain ⟨e_7, he_7, hj1⟩ := bindS hj1
          obtain ⟨vs8, at8, d8⟩ := h1.at he_7 1 rfl
          obtain rfl : vs8 = [(.int .i64 e_7)] := d8
          refine q_xg (v := (elP s1 (p_dim.toNat * 1))) hF hS (ex_indexAddr Try.underlying33 sz3 rfl rfl (h1.idx he_7)) (wanted_t hF rfl rfl rfl hc4) rfl fun a hF => ?_
          refine q_xg (v := (.int .i64 e_7)) hF hS (ex_loadE1 0 Try.underlying3 rfl rfl ((at8).at) rfl rfl) (wanted_t hF rfl rfl rfl hc4) rfl fun a hF => ?_
          refine q_xg (v := (.bool ((goLen p_groups) != e_7))) hF hS (ex_ibin rfl rfl rfl) (wanted_t hF rfl rfl rfl hc4) rfl fun a hF => ?_
          refine q_x (v := (.bool ((goLen p_groups) != e_7))) hF hS (ex_pick_f rfl rfl hc4) rfl rfl fun a hF => ?_
          refine q_x (v := (.bool ((goLen p_groups) != e_7))) hF hS (ex_move rfl) rfl rfl fun a hF => ?_
          rcases bcase ((goLen p_groups) != e_7) with hc5 | hc5
          · have hj1 := cond_f hc5 hj1
            refine q_xg (v := s3.v) hF hS (ex_move rfl) (wanted_t hF rfl rfl rfl hc5) rfl fun a hF => ?_
            obtain ⟨t_9, ht_9, hj1⟩ := bindS hj1
            refine q_callg (vs := [s3.v]) hF hS (wanted_t hF rfl rfl rfl hc5) Try.func78 (by kernel_rfl) rfl rfl rfl (c_impl_groupNumbers p_groups t_9 ht_9 _ m hS.vis s3 h3) ?_
            rintro a w _ rfl hF hS
            refine q_xg (v := (.bool (t_9 == 0))) hF hS (ex_ibin rfl rfl rfl) (wanted_t hF rfl rfl rfl hc5) rfl fun a hF => ?_
            refine q_x (v := (.bool (t_9 == 0))) hF hS (ex_pick_f rfl rfl hc5) rfl rfl fun a hF => ?_
            refine q_end (n_jn ?_)
            obtain rfl := someI hj1
            exact ⟨hF.sub ⟨rfl, rfl, rfl, rfl, rfl, trivial⟩, hS⟩
          · have hj1 := cond_t hc5 hj1
            refine q_skip hF (wanted_f hF rfl rfl rfl hc5 rfl) rfl fun a hF => ?_
            refine q_skip hF (wanted_f hF rfl rfl rfl hc5 rfl) rfl fun a hF => ?_
            refine q_skip hF (wanted_f hF rfl rfl rfl hc5 rfl) rfl fun a hF => ?_
            refine q_x (v := (.bool true)) hF hS (ex_pick_t rfl rfl hc5) rfl rfl fun a hF => ?_
            refine q_end (n_jn ?_)
            obtain rfl := someI hj1
            exact ⟨hF.sub ⟨rfl, rfl, rfl, rfl, rfl, trivial⟩, hS⟩
        · have hj1 := cond_t hc4 hj1
          refine q_skip hF (wanted_f hF rfl rfl rfl hc4 rfl) rfl fun a hF => ?_
          refine q_skip hF (wanted_f hF rfl rfl rfl hc4 rfl) rfl fun a hF => ?_
          refine q_skip hF (wanted_f hF rfl rfl rfl hc4 rfl) rfl fun a hF => ?_
          refine q_skip hF (wanted_f hF rfl rfl rfl hc4 rfl) rfl fun a hF => ?_
          refine q_skip hF (wanted_f hF rfl rfl rfl hc4 rfl) rfl fun a hF => ?_
          refine q_skip hF (wanted_f hF rfl rfl rfl hc4 rfl) rfl fun a hF => ?_
          refine q_skip hF (wanted_f hF rfl rfl rfl hc4 rfl) rfl fun a hF => ?_
          refine q_skip hF (wanted_f hF rfl rfl rfl hc4 rfl) rfl fun a hF => ?_
          refine q_x (v := (.bool true)) hF hS (ex_pick_t rfl rfl hc4) rfl rfl fun a hF => ?_
          refine q_x (v := (.bool true)) hF hS (ex_move rfl) rfl rfl fun a hF => ?_
          refine q_skip hF (wanted_f hF rfl rfl rfl rfl rfl) rfl fun a hF => ?_
          refine q_skip hF (wanted_f hF rfl rfl rfl rfl rfl) rfl fun a hF => ?_
          refine q_skip hF (wanted_f hF rfl rfl rfl rfl rfl) rfl fun a hF => ?_
          refine q_x (v := (.bool true)) hF hS (ex_pick_t rfl rfl rfl) rfl rfl fun a hF => ?_
          refine q_end (n_jn ?_)
          obtain rfl := someI hj1
          exact ⟨hF.sub ⟨rfl, rfl, rfl, rfl, rfl, trivial⟩, hS⟩
      · have hj1 := cond_t hc3 hj1
        refine q_skip hF (wanted_f hF rfl rfl rfl hc3 rfl) rfl fun a hF => ?_
        refine q_skip hF (wanted_f hF rfl rfl rfl hc3 rfl) rfl fun a hF => ?_
        refine q_skip hF (wanted_f hF rfl rfl rfl hc3 rfl) rfl fun a hF => ?_
        refine q_skip hF (wanted_f hF rfl rfl rfl hc3 rfl) rfl fun a hF => ?_
        refine q_skip hF (wanted_f hF rfl rfl rfl hc3 rfl) rfl fun a hF => ?_
        refine q_x (v := (.bool true)) hF hS (ex_pick_t rfl rfl hc3) rfl rfl fun a hF => ?_
        refine q_x (v := (.bool true)) hF hS (ex_move rfl) rfl rfl fun a hF => ?_
        refine q_skip hF (wanted_f hF rfl rfl rfl rfl rfl) rfl fun a hF => ?_
        refine q_skip hF (wanted_f hF rfl rfl rfl rfl rfl) rfl fun a hF => ?_
        refine q_skip hF (wanted_f hF rfl rfl rfl rfl rfl) rfl fun a hF => ?_
        refine q_skip hF (wanted_f hF rfl rfl rfl rfl rfl) rfl fun a hF => ?_
        refine q_skip hF (wanted_f hF rfl rfl rfl rfl rfl) rfl fun a hF => ?_
        refine q_skip hF (wanted_f hF rfl rfl rfl rfl rfl) rfl fun a hF => ?_
        refine q_skip hF (wanted_f hF rfl rfl rfl rfl rfl) rfl fun a hF => ?_
        refine q_skip hF (wanted_f hF rfl rfl rfl rfl rfl) rfl fun a hF => ?_
        refine q_x (v := (.bool true)) hF hS (ex_pick_t rfl rfl rfl) rfl rfl fun a hF => ?_
        refine q_x (v := (.bool true)) hF hS (ex_move rfl) rfl rfl fun a hF => ?_
        refine q_skip hF (wanted_f hF rfl rfl rfl rfl rfl) rfl fun a hF => ?_
        refine q_skip hF (wanted_f hF rfl rfl rfl rfl rfl) rfl fun a hF => ?_
        refine q_skip hF (wanted_f hF rfl rfl rfl rfl rfl) rfl fun a hF => ?_
        refine q_x (v := (.bool true)) hF hS (ex_pick_t rfl rfl rfl) rfl rfl fun a hF => ?_
        refine q_end (n_jn ?_)
        obtain rfl := someI hj1
        exact ⟨hF.sub ⟨rfl, rfl, rfl, rfl, rfl, trivial⟩, hS⟩
    · have hj1 := cond_t hc2 hj1
      refine q_skip hF (wanted_f hF rfl rfl rfl hc2 rfl) rfl fun a hF => ?_
      refine q_skip hF (wanted_f hF rfl rfl rfl hc2 rfl) rfl fun a hF => ?_
      refine q_x (v := (.bool true)) hF hS (ex_pick_t rfl rfl hc2) rfl rfl fun a hF => ?_
      refine q_x (v := (.bool true)) hF hS (ex_move rfl) rfl rfl fun a hF => ?_
      refine q_skip hF (wanted_f hF rfl rfl rfl rfl rfl) rfl fun a hF => ?_
      refine q_skip hF (wanted_f hF rfl rfl rfl rfl rfl) rfl fun a hF => ?_
      refine q_skip hF (wanted_f hF rfl rfl rfl rfl rfl) rfl fun a hF => ?_
      refine q_skip hF (wanted_f hF rfl rfl rfl rfl rfl) rfl fun a hF => ?_
      refine q_skip hF (wanted_f hF rfl rfl rfl rfl rfl) rfl fun a hF => ?_
      refine q_x (v := (.bool true)) hF hS (ex_pick_t rfl rfl rfl) rfl rfl fun a hF => ?_
      refine q_x (v := (.bool true)) hF hS (ex_move rfl) rfl rfl fun a hF => ?_
      refine q_skip hF (wanted_f hF rfl rfl rfl rfl rfl) rfl fun a hF => ?_
      refine q_skip hF (wanted_f hF rfl rfl rfl rfl rfl) rfl fun a hF => ?_
      refine q_skip hF (wanted_f hF rfl rfl rfl rfl rfl) rfl fun a hF => ?_
      refine q_skip hF (wanted_f hF rfl rfl rfl rfl rfl) rfl fun a hF => ?_
      refine q_skip hF (wanted_f hF rfl rfl rfl rfl rfl) rfl fun a hF => ?_
      refine q_skip hF (wanted_f hF rfl rfl rfl rfl rfl) rfl fun a hF => ?_
      refine q_skip hF (wanted_f hF rfl rfl rfl rfl rfl) rfl fun a hF => ?_
      refine q_skip hF (wanted_f hF rfl rfl rfl rfl rfl) rfl fun a hF => ?_
      refine q_x (v := (.bool true)) hF hS (ex_pick_t rfl rfl rfl) rfl rfl fun a hF => ?_
      refine q_x (v := (.bool true)) hF hS (ex_move rfl) rfl rfl fun a hF => ?_
      refine q_skip hF (wanted_f hF rfl rfl rfl rfl rfl) rfl fun a hF => ?_
      refine q_skip hF (wanted_f hF rfl rfl rfl rfl rfl) rfl fun a hF => ?_
      refine q_skip hF (wanted_f hF rfl rfl rfl rfl rfl) rfl fun a hF => ?_
      refine q_x (v := (.bool true)) hF hS (ex_pick_t rfl rfl rfl) rfl rfl fun a hF => ?_
      refine q_end (n_jn ?_)
      obtain rfl := someI hj1
      exact ⟨hF.sub ⟨rfl, rfl, rfl, rfl, rfl, trivial⟩, hS⟩
  · rintro a w ⟨hF, hS⟩
    refine n_sq ?_
    rcases bcase (t_10) with hc6 | hc6
    · have hr := cond_f hc6 hr
      refine q_cond_f hF rfl hc6 ?_
      refine q_skipc (n_sq ?_)
      refine q_seq ?_
      refine q_region ?_
      refine q_x (v := (.pointer (some ⟨b4, 0, none⟩))) hF hS (ex_fieldAddr Try.underlying46 rfl sz33 rfl rfl) rfl rfl fun a hF => ?_
      refine q_x (v := s1.v) hF hS (ex_load1 1 0 Try.underlying33 rfl rfl rfl rfl) rfl rfl fun a hF => ?_
      obtain ⟨t_11, ht_11, hr⟩ := bindS hr
      refine q_call (vs := [s1.v]) hF hS Try.func74 (by kernel_rfl) rfl rfl rfl (c_slices_Clone_int_int p_c.Sizes t_11 ht_11 _ m hS.vis s1 h1) ?_
      rintro a w _ ⟨q13, s13, rfl, hR12, h13⟩ hF hS2
      have hS : St _ _ _ _ [q13, [⟨b5, [nilS.v, nilS.v], 46⟩], [⟨b4, [s1.v, s2.v], 46⟩]] := hS.joinF hR12
      refine q_x (v := s13.v) hF hS (ex_assign rfl) rfl rfl fun a hF => ?_
      refine q_end (n_sq ?_)
      refine q_seq ?_
      refine q_region ?_
      refine q_x (v := s13.v) hF hS (ex_move rfl) rfl rfl fun a hF => ?_
      refine q_x (v := (.int .i64 p_dim)) hF hS (ex_move rfl) rfl rfl fun a hF => ?_
      refine q_x (v := s3.v) hF hS (ex_move rfl) rfl rfl fun a hF => ?_
      obtain ⟨t_14, ht_14, hr⟩ := bindS hr
      refine q_call (vs := [s3.v]) hF hS Try.func78 (by kernel_rfl) rfl rfl rfl (c_impl_groupNumbers p_groups t_14 ht_14 _ m hS.vis s3 h3) ?_
      rintro a w _ rfl hF hS
      obtain ⟨e_15, he_15, hr⟩ := bindS hr
      obtain ⟨vs16, at16, d16⟩ := h13.at he_15 1 rfl
      obtain rfl : vs16 = [(.int .i64 e_15)] := d16
      refine q_x (v := (elP s13 (p_dim.toNat * 1))) hF hS (ex_indexAddr Try.underlying33 sz3 rfl rfl (h13.idx he_15)) rfl rfl fun a hF => ?_
      refine q_do rfl fun _ hK => wp_storeE (e' := t_14) (us := [(.int .i64 t_14)]) (vs := [(.int .i64 e_15)]) 0 hF hS h13 sz3 rfl rfl rfl rfl rfl rfl rfl he_15 at16 rfl rfl rfl fun w q17 hS h17 => hK _ _ ?_
      refine q_end (n_sq ?_)
      refine q_seq ?_
      refine q_region ?_
      refine q_x (v := s13.v) hF hS (ex_move rfl) rfl rfl fun a hF => ?_
      refine q_x (v := s13.v) hF hS (ex_move rfl) rfl rfl fun a hF => ?_
      obtain ⟨m19, hl19, hv19, hz19⟩ := hS.lend
      obtain ⟨t_18, ht_18, hr⟩ := bindS hr
      refine q_call (vs := [s13.v]) hF hS Try.func57 (by kernel_rfl) rfl rfl rfl (c_impl_cubeCells (goSet t_11 p_dim t_14) t_18 ht_18 _ m19 hv19 s13 (h17.froz hl19 (hz19 0 _ rfl))) ?_
      rintro a w _ rfl hF hS
      obtain ⟨l_20, hl_20, hr⟩ := bindS hr
      refine q_do rfl fun _ hK => wp_make (z := (0 : Int)) hF hS Try.underlying33 inf3 rfl rfl rfl rfl rfl (by decide) hl_20 rfl fun a w q21 s21 hF hS h21 _ => hK _ _ ?_
      refine q_x (v := (.agg #[s13.v, s21.v])) hF hS (ex_build (cells := [s13.v, s21.v]) rfl (by kernel_rfl)) rfl rfl fun a hF => ?_
      refine q_alloc (cs := [nilS.v, nilS.v]) hF hS rfl rfl rfl fun a w b22 hF hS => ?_
      refine q_store (vs := [s13.v, s21.v]) (cs' := [s13.v, s21.v]) 0 0 hF hS sz46 rfl rfl rfl rfl rfl rfl rfl rfl fun a w hF hS => ?_
      refine q_end (n_sq ?_)
      refine q_seq ?_
      refine q_seq ?_
      refine q_region ?_
      refine q_x (v := (.pointer (some ⟨b4, 1, none⟩))) hF hS (ex_fieldAddr Try.underlying46 rfl sz33 rfl rfl) rfl rfl fun a hF => ?_
      refine q_x (v := s2.v) hF hS (ex_load1 4 0 Try.underlying33 rfl rfl rfl rfl) rfl rfl fun a hF => ?_
      refine q_x (v := (.int .i64 (goLen p_c.Cells))) hF hS (ex_len Try.underlying33 rfl h2.len) rfl rfl fun a hF => ?_
      refine q_x (v := (.int .i64 0)) hF hS (ex_move rfl) rfl rfl fun a hF => ?_
      refine q_end (n_sq ?_)
      refine q_block ?_
      obtain ⟨out_59, hl7, hr⟩ := bindS hr
      refine q_loop (fun (s : Int × impl_Cube) a w => ∃ (q26 : Piece), ∃ t_23, ∃ out_24, s = (t_23, out_24) ∧ Fr a 112 [(1, (.int .i64 p_dim)), (2, s3.v), (3, (.pointer (some ⟨b4, 0, none⟩))), (6, (.pointer (some ⟨b5, 0, none⟩))), (8, s13.v), (9, (.pointer (some ⟨b22, 0, none⟩))), (57, s2.v), (58, (.int .i64 (goLen p_c.Cells))), (59, (.int .i64 t_23))] ∧ St [] w0 w m [q26, [⟨b22, [s13.v, s21.v], 46⟩], q17, [⟨b5, [nilS.v, nilS.v], 46⟩], [⟨b4, [s1.v, s2.v], 46⟩]] ∧ OwnL m 3 q17 s13 out_24.Sizes ∧ out_24.Sizes = goSet t_11 p_dim t_14 ∧ OwnL m 3 q26 s21 out_24.Cells) (fun (out_59 : impl_Cube) e a w => ∃ (q61 : Piece), e = .exit 0 ∧ Fr a 112 [(6, (.pointer (some ⟨b5, 0, none⟩))), (9, (.pointer (some ⟨b22, 0, none⟩)))] ∧ St [] w0 w m [q17, q61, [⟨b22, [s13.v, s21.v], 46⟩], [⟨b5, [nilS.v, nilS.v], 46⟩]] ∧ OwnL m 3 q17 s13 out_59.Sizes ∧ out_59.Sizes = goSet t_11 p_dim t_14 ∧ OwnL m 3 q61 s21 out_59.Cells) hl7 ⟨q21, _, _, rfl, hF.sub ⟨rfl, rfl, rfl, rfl, rfl, rfl, rfl, rfl, rfl, trivial⟩, hS.sel [1, 0, 2, 3, 4] (by decide), h17, rfl, h21⟩ ?_ ?_
      · clear hF hS
        rintro s a w st ⟨q26, t_23, out_24, rfl, hF, hS, h25, h25k, h26⟩ hb7
        unfold impl_GroupCube_l1 at hb7
        refine q_seq ?_
        refine q_region ?_
        refine q_x (v := (.bool (decide (t_23 < (goLen p_c.Cells))))) hF hS (ex_ibin rfl rfl rfl) rfl rfl fun a hF => ?_
        refine q_end (n_sq ?_)
        refine q_seq ?_
        rcases bcase (decide (t_23 < (goLen p_c.Cells))) with hc8 | hc8
        · have hb7 := cond_f hc8 hb7
          refine q_cond_f hF rfl hc8 ?_
          refine q_exit (x_sq ?_)
          obtain rfl := someI hb7
          exact ⟨nofun, .inl ⟨q26, rfl, hF.sub ⟨rfl, rfl, trivial⟩, hS.sel [2, 0, 1, 3] (by decide), h25, h25k, h26⟩⟩
        · have hb7 := cond_t hc8 hb7
          refine q_cond_t hF rfl hc8 ?_
          refine q_skipc (n_sq ?_)
          refine q_seq ?_
          refine q_block ?_
          refine q_seq ?_
          refine q_region ?_
          refine q_x (v := (.int .i64 t_23)) hF hS (ex_move rfl) rfl rfl fun a hF => ?_
          obtain ⟨e_27, he_27, hb7⟩ := bindS hb7
          obtain ⟨vs28, at28, d28⟩ := h2.at he_27 1 rfl
          obtain rfl : vs28 = [(.int .i64 e_27)] := d28
          refine q_x (v := (elP s2 (t_23.toNat * 1))) hF hS (ex_indexAddr Try.underlying33 sz3 rfl rfl (h2.idx he_27)) rfl rfl fun a hF => ?_
          refine q_x (v := (.int .i64 e_27)) hF hS (ex_loadE1 0 Try.underlying3 rfl rfl ((at28).at) rfl rfl) rfl rfl fun a hF => ?_
          refine q_x (v := (.int .i64 t_23)) hF hS (ex_assign rfl) rfl rfl fun a hF => ?_
          refine q_x (v := (.int .i64 e_27)) hF hS (ex_assign rfl) rfl rfl fun a hF => ?_
          refine q_end (n_sq ?_)
          refine q_seq ?_
          refine q_region ?_
          refine q_x (v := (.pointer (some ⟨b4, 0, none⟩))) hF hS (ex_fieldAddr Try.underlying46 rfl sz33 rfl rfl) rfl rfl fun a hF => ?_
          refine q_x (v := s1.v) hF hS (ex_load1 4 0 Try.underlying33 rfl rfl rfl rfl) rfl rfl fun a hF => ?_
          refine q_x (v := (.int .i64 t_23)) hF hS (ex_move rfl) rfl rfl fun a hF => ?_
          obtain ⟨t_29, ht_29, hb7⟩ := bindS hb7
          refine q_call (vs := [s1.v, (.int .i64 t_23)]) hF hS Try.func79 (by kernel_rfl) rfl rfl rfl (c_impl_indexOf p_c.Sizes t_23 t_29 ht_29 _ m hS.vis s1 h1) ?_
          rintro a w _ ⟨q31, s31, rfl, hR30, h31⟩ hF hS2
          have hS : St _ _ _ _ [q31, q26, [⟨b22, [s13.v, s21.v], 46⟩], q17, [⟨b5, [nilS.v, nilS.v], 46⟩], [⟨b4, [s1.v, s2.v], 46⟩]] := hS.joinF hR30
          refine q_x (v := s31.v) hF hS (ex_assign rfl) rfl rfl fun a hF => ?_
          refine q_end (n_sq ?_)
          refine q_seq ?_
          refine q_seq ?_
          refine e_region [] mixed fun w' hw' => ?_
          have hS := hS.below hw'
          refine e_p (v := s31.v) 0 hF rfl (ex_move rfl) rfl rfl (by kernel_rfl) (by kernel_rfl) (by kernel_rfl) fun a hF => ?_
          refine e_p (v := (.int .i64 p_dim)) 1 hF rfl (ex_move rfl) rfl rfl (by kernel_rfl) (by kernel_rfl) (by kernel_rfl) fun a hF => ?_
          obtain ⟨e_32, he_32, hb7⟩ := bindS hb7
          obtain ⟨vs33, at33, d33⟩ := h31.at he_32 1 rfl
          obtain rfl : vs33 = [(.int .i64 e_32)] := d33
          refine e_p (v := (elP s31 (p_dim.toNat * 1))) 2 hF rfl (ex_indexAddr Try.underlying33 sz3 rfl rfl (h31.idx he_32)) rfl rfl (by kernel_rfl) (by kernel_rfl) (by kernel_rfl) fun a hF => ?_
          refine e_x (v := (.int .i64 e_32)) 3 hF hS rfl (ex_loadE1 0 Try.underlying3 rfl rfl (at33.at 0 rfl) rfl rfl) rfl rfl (by kernel_rfl) (by kernel_rfl) (by kernel_rfl) (by kernel_rfl) fun a hF => ?_
          refine e_p (v := (.pointer (some ⟨b4, 0, none⟩))) 4 hF rfl (ex_fieldAddr Try.underlying46 rfl sz33 rfl rfl) rfl rfl (by kernel_rfl) (by kernel_rfl) (by kernel_rfl) fun a hF => ?_
          refine e_x (v := s1.v) 5 hF hS rfl (ex_load1 5 0 Try.underlying33 rfl rfl rfl rfl) rfl rfl (by kernel_rfl) (by kernel_rfl) (by kernel_rfl) (by kernel_rfl) fun a hF => ?_
          refine e_p (v := (.int .i64 p_dim)) 6 hF rfl (ex_move rfl) rfl rfl (by kernel_rfl) (by kernel_rfl) (by kernel_rfl) fun a hF => ?_
          obtain ⟨e_34, he_34, hb7⟩ := bindS hb7
          obtain ⟨vs35, at35, d35⟩ := h1.at he_34 1 rfl
          obtain rfl : vs35 = [(.int .i64 e_34)] := d35
          refine e_p (v := (elP s1 (p_dim.toNat * 1))) 7 hF rfl (ex_indexAddr Try.underlying33 sz3 rfl rfl (h1.idx he_34)) rfl rfl (by kernel_rfl) (by kernel_rfl) (by kernel_rfl) fun a hF => ?_
          refine e_x (v := (.int .i64 e_34)) 8 hF hS rfl (ex_loadE1 0 Try.underlying3 rfl rfl ((at35).at) rfl rfl) rfl rfl (by kernel_rfl) (by kernel_rfl) (by kernel_rfl) (by kernel_rfl) fun a hF => ?_
          refine e_p (v := (.bool (e_32 == e_34))) 9 hF rfl (ex_ibin rfl rfl rfl) rfl rfl (by kernel_rfl) (by kernel_rfl) (by kernel_rfl) fun a hF => ?_
          refine e_end (by kernel_rfl) (n_sq ?_) _
          obtain ⟨index_48, hj9, hb7⟩ := bindS hb7
          refine q_join (fun a w => ∃ (q49 : Piece), Fr a 112 [(1, (.int .i64 p_dim)), (2, s3.v), (3, (.pointer (some ⟨b4, 0, none⟩))), (6, (.pointer (some ⟨b5, 0, none⟩))), (8, s13.v), (9, (.pointer (some ⟨b22, 0, none⟩))), (11, (.int .i64 e_27)), (12, s31.v), (57, s2.v), (58, (.int .i64 (goLen p_c.Cells))), (59, (.int .i64 t_23))] ∧ St [] w0 w m [q17, q49, q26, [⟨b22, [s13.v, s21.v], 46⟩], [⟨b5, [nilS.v, nilS.v], 46⟩], [⟨b4, [s1.v, s2.v], 46⟩]] ∧ OwnL m 3 q49 s31 index_48) ?_ ?_
          · rcases bcase (e_32 == e_34) with hc10 | hc10
            · have hj9 := cond_f hc10 hj9
              refine q_cond_f hF rfl hc10 ?_
              refine q_region ?_
              refine q_x (v := s31.v) hF hS (ex_move rfl) rfl rfl fun a hF => ?_
              refine q_x (v := (.int .i64 p_dim)) hF hS (ex_move rfl) rfl rfl fun a hF => ?_
              refine q_x (v := s3.v) hF hS (ex_move rfl) rfl rfl fun a hF => ?_
              refine q_x (v := s31.v) hF hS (ex_move rfl) rfl rfl fun a hF => ?_
              refine q_x (v := (.int .i64 p_dim)) hF hS (ex_move rfl) rfl rfl fun a hF => ?_
              obtain ⟨e_36, he_36, hj9⟩ := bindS hj9
              obtain ⟨vs37, at37, d37⟩ := h31.at he_36 1 rfl
              obtain rfl : vs37 = [(.int .i64 e_36)] := d37
              refine q_x (v := (elP s31 (p_dim.toNat * 1))) hF hS (ex_indexAddr Try.underlying33 sz3 rfl rfl (h31.idx he_36)) rfl rfl fun a hF => ?_
              refine q_x (v := (.int .i64 e_36)) hF hS (ex_loadE1 0 Try.underlying3 rfl rfl (at37.at 0 rfl) rfl rfl) rfl rfl fun a hF => ?_
              obtain ⟨e_38, he_38, hj9⟩ := bindS hj9
              obtain ⟨vs39, at39, d39⟩ := h3.at he_38 1 rfl
              obtain rfl : vs39 = [(.int .i64 e_38)] := d39
              refine q_x (v := (elP s3 (e_36.toNat * 1))) hF hS (ex_indexAddr Try.underlying33 sz3 rfl rfl (h3.idx he_38)) rfl rfl fun a hF => ?_
              refine q_x (v := (.int .i64 e_38)) hF hS (ex_loadE1 0 Try.underlying3 rfl rfl ((at39).at) rfl rfl) rfl rfl fun a hF => ?_
              obtain ⟨e_40, he_40, hj9⟩ := bindS hj9
              obtain ⟨vs41, at41, d41⟩ := h31.at he_40 1 rfl
              obtain rfl : vs41 = [(.int .i64 e_40)] := d41
              refine q_x (v := (elP s31 (p_dim.toNat * 1))) hF hS (ex_indexAddr Try.underlying33 sz3 rfl rfl (h31.idx he_40)) rfl rfl fun a hF => ?_
              refine q_do rfl fun _ hK => wp_storeE (e' := e_38) (us := [(.int .i64 e_38)]) (vs := [(.int .i64 e_40)]) 0 hF hS h31 sz3 rfl rfl rfl rfl rfl rfl rfl he_40 at41 rfl rfl rfl fun w q42 hS h42 => hK _ _ ?_
              refine q_end (n_jn ?_)
              obtain rfl := someI hj9
              exact ⟨q42, hF.sub ⟨rfl, rfl, rfl, rfl, rfl, rfl, rfl, rfl, rfl, rfl, rfl, trivial⟩, hS.sel [3, 0, 1, 2, 4, 5] (by decide), h42⟩
            · have hj9 := cond_t hc10 hj9
              refine q_cond_t hF rfl hc10 ?_
              refine q_region ?_
              refine q_x (v := s31.v) hF hS (ex_move rfl) rfl rfl fun a hF => ?_
              refine q_x (v := (.int .i64 p_dim)) hF hS (ex_move rfl) rfl rfl fun a hF => ?_
              refine q_x (v := s13.v) hF hS (ex_move rfl) rfl rfl fun a hF => ?_
              refine q_x (v := (.int .i64 p_dim)) hF hS (ex_move rfl) rfl rfl fun a hF => ?_
              obtain ⟨e_43, he_43, hj9⟩ := bindS hj9
              obtain ⟨vs44, at44, d44⟩ := h17.at he_43 1 rfl
              obtain rfl : vs44 = [(.int .i64 e_43)] := d44
              refine q_x (v := (elP s13 (p_dim.toNat * 1))) hF hS (ex_indexAddr Try.underlying33 sz3 rfl rfl (h17.idx he_43)) rfl rfl fun a hF => ?_
              refine q_x (v := (.int .i64 e_43)) hF hS (ex_loadE1 0 Try.underlying3 rfl rfl (at44.at 3 rfl) rfl rfl) rfl rfl fun a hF => ?_
              obtain ⟨e_45, he_45, hj9⟩ := bindS hj9
              obtain ⟨vs46, at46, d46⟩ := h31.at he_45 1 rfl
              obtain rfl : vs46 = [(.int .i64 e_45)] := d46
              refine q_x (v := (elP s31 (p_dim.toNat * 1))) hF hS (ex_indexAddr Try.underlying33 sz3 rfl rfl (h31.idx he_45)) rfl rfl fun a hF => ?_
              refine q_do rfl fun _ hK => wp_storeE (e' := e_43) (us := [(.int .i64 e_43)]) (vs := [(.int .i64 e_45)]) 0 hF hS h31 sz3 rfl rfl rfl rfl rfl rfl rfl he_45 at46 rfl rfl rfl fun w q47 hS h47 => hK _ _ ?_
              refine q_end (n_jn ?_)
              obtain rfl := someI hj9
              exact ⟨q47, hF.sub ⟨rfl, rfl, rfl, rfl, rfl, rfl, rfl, rfl, rfl, rfl, rfl, trivial⟩, hS.sel [3, 0, 1, 2, 4, 5] (by decide), h47⟩
          · rintro a w ⟨q49, hF, hS, h49⟩
            refine n_sq ?_
            refine e_region [10] mixed fun w' hw' => ?_
            have hS := hS.below hw'
            refine e_p (v := (.pointer (some ⟨b22, 1, none⟩))) 0 hF rfl (ex_fieldAddr Try.underlying46 rfl sz33 rfl rfl) rfl rfl (by kernel_rfl) (by kernel_rfl) (by kernel_rfl) fun a hF => ?_
            refine e_x (v := s21.v) 1 hF hS rfl (ex_load1 3 0 Try.underlying33 rfl rfl rfl rfl) rfl rfl (by kernel_rfl) (by kernel_rfl) (by kernel_rfl) (by kernel_rfl) fun a hF => ?_
            refine e_p (v := s13.v) 2 hF rfl (ex_move rfl) rfl rfl (by kernel_rfl) (by kernel_rfl) (by kernel_rfl) fun a hF => ?_
            refine e_p (v := s31.v) 3 hF rfl (ex_move rfl) rfl rfl (by kernel_rfl) (by kernel_rfl) (by kernel_rfl) fun a hF => ?_
            refine e_p (v := (.int .i64 e_27)) 7 hF rfl (ex_move rfl) rfl rfl (by kernel_rfl) (by kernel_rfl) (by kernel_rfl) fun a hF => ?_
            refine e_one 4 (by kernel_rfl) ?_
            obtain ⟨m53, hl53, hv53, hz53⟩ := hS.lend
            obtain ⟨t_52, ht_52, hb7⟩ := bindS hb7
            refine e_call (vs := [s13.v, s31.v]) hF hS rfl Try.func73 (by kernel_rfl) rfl rfl rfl (c_impl_cellOf (goSet t_11 p_dim t_14) index_48 t_52 ht_52 _ m53 hv53 s13 (h17.froz hl53 (hz53 0 _ rfl)) s31 (h49.froz hl53 (hz53 1 _ rfl))) ?_
            rintro a w _ rfl hF hS
            obtain ⟨e_54, he_54, hb7⟩ := bindS hb7
            obtain ⟨vs55, at55, d55⟩ := h26.at he_54 1 rfl
            obtain rfl : vs55 = [(.int .i64 e_54)] := d55
            refine e_p (v := (elP s21 (t_52.toNat * 1))) 5 hF rfl (ex_indexAddr Try.underlying33 sz3 rfl rfl (h26.idx he_54)) rfl rfl (by kernel_rfl) (by kernel_rfl) (by kernel_rfl) fun a hF => ?_
            refine e_x (v := (.int .i64 e_54)) 6 hF hS rfl (ex_loadE1 0 Try.underlying3 rfl rfl (at55.at 2 rfl) rfl rfl) rfl rfl (by kernel_rfl) (by kernel_rfl) (by kernel_rfl) (by kernel_rfl) fun a hF => ?_
            refine e_p (v := (.int .i64 (w64 (e_54 + e_27)))) 8 hF rfl (ex_ibin rfl rfl rfl) rfl rfl (by kernel_rfl) (by kernel_rfl) (by kernel_rfl) fun a hF => ?_
            obtain ⟨e_56, he_56, hb7⟩ := bindS hb7
            obtain ⟨vs57, at57, d57⟩ := h26.at he_56 1 rfl
            obtain rfl : vs57 = [(.int .i64 e_56)] := d57
            refine e_p (v := (elP s21 (t_52.toNat * 1))) 9 hF rfl (ex_indexAddr Try.underlying33 sz3 rfl rfl (h26.idx he_56)) rfl rfl (by kernel_rfl) (by kernel_rfl) (by kernel_rfl) fun a hF => ?_
            refine e_one 10 (by kernel_rfl) ?_
            have hS : St _ _ _ _ [q26, q17, q49, [⟨b22, [s13.v, s21.v], 46⟩], [⟨b5, [nilS.v, nilS.v], 46⟩], [⟨b4, [s1.v, s2.v], 46⟩]] := hS.sel [2, 0, 1, 3, 4, 5] (by decide)
            refine e_opl rfl rfl rfl fun _ hK => wp_storeE (e' := (w64 (e_54 + e_27))) (us := [(.int .i64 (w64 (e_54 + e_27)))]) (vs := [(.int .i64 e_56)]) 0 hF hS h26 sz3 rfl rfl rfl rfl rfl rfl rfl he_56 at57 rfl rfl rfl fun w q58 hS h58 => hK _ _ ?_
            refine e_end (by kernel_rfl) (n_ib (n_sq ?_)) _
            refine q_region ?_
            refine q_x (v := (.int .i64 (w64 (t_23 + 1)))) hF hS (ex_ibin rfl rfl rfl) rfl rfl fun a hF => ?_
            refine q_x (v := (.int .i64 (w64 (t_23 + 1)))) hF hS (ex_move rfl) rfl rfl fun a hF => ?_
            refine q_end ?_
            obtain rfl := someI hb7
            exact ⟨rfl, q58, _, _, rfl, hF.sub ⟨rfl, rfl, rfl, rfl, rfl, rfl, rfl, rfl, rfl, trivial⟩, hS.sel [0, 3, 1, 4, 5] (by decide), h25, h25k, h58⟩
      · rintro e a w ⟨q61, rfl, hF, hS, h60, h60k, h61⟩
        refine x_ib (n_sq ?_)
        refine q_seq ?_
        refine q_seq ?_
        refine q_region ?_
        refine q_x (v := (.pointer (some ⟨b22, 1, none⟩))) hF hS (ex_fieldAddr Try.underlying46 rfl sz33 rfl rfl) rfl rfl fun a hF => ?_
        refine q_x (v := s21.v) hF hS (ex_load1 2 0 Try.underlying33 rfl rfl rfl rfl) rfl rfl fun a hF => ?_
        obtain ⟨m63, hl63, hv63, hz63⟩ := hS.lend
        obtain ⟨t_62, ht_62, hr⟩ := bindS hr
        refine q_call (vs := [s21.v]) hF hS Try.func80 (by kernel_rfl) rfl rfl rfl (c_impl_areCubeValues out_59.Cells t_62 ht_62 _ m63 hv63 s21 (h61.froz hl63 (hz63 1 _ rfl))) ?_
        rintro a w _ rfl hF hS
        refine q_x (v := (.bool (!t_62))) hF hS (ex_not rfl) rfl rfl fun a hF => ?_
        refine q_end (n_sq ?_)
        rcases bcase (!t_62) with hc11 | hc11
        · have hr := cond_f hc11 hr
          refine q_cond_f hF rfl hc11 ?_
          refine q_skipc (n_sq ?_)
          refine q_seq ?_
          refine q_region ?_
          refine q_x (v := (.agg #[s13.v, s21.v])) hF hS (ex_loadA (vs := [s13.v, s21.v]) 2 0 Try.underlying46 rfl sz46 rfl rfl rfl rfl) rfl rfl fun a hF => ?_
          refine q_store (vs := [s13.v, s21.v]) (cs' := [s13.v, s21.v]) 3 0 hF hS sz46 rfl rfl rfl rfl rfl rfl rfl rfl fun a w hF hS => ?_
          refine q_x (v := (.bool true)) hF hS (ex_assign rfl) rfl rfl fun a hF => ?_
          refine q_end (n_sq (q_ret ?_))
          obtain rfl := someI hr
          exact ret_of hF hS rfl (.cellA (us := [s13.v, s21.v]) 3 0 Try.underlying46 rfl sz46 rfl rfl rfl rfl (.tmp rfl .nil)) ⟨q17, q61, s13, s21, rfl, hS.sel [0, 1] (by decide), h60, h61⟩
        · have hr := cond_t hc11 hr
          refine q_cond_t hF rfl hc11 ?_
          refine q_seq ?_
          refine q_region ?_
          refine q_x (v := (.agg #[nilS.v, nilS.v])) hF hS (ex_build (cells := [nilS.v, nilS.v]) rfl (by kernel_rfl)) rfl rfl fun a hF => ?_
          refine q_store (vs := [nilS.v, nilS.v]) (cs' := [nilS.v, nilS.v]) 3 0 hF hS sz46 rfl rfl rfl rfl rfl rfl rfl rfl fun a w hF hS => ?_
          refine q_x (v := (.bool false)) hF hS (ex_assign rfl) rfl rfl fun a hF => ?_
          refine q_end (n_sq (q_ret (r_sq ?_)))
          obtain rfl := someI hr
          exact ret_of hF hS rfl (.cellA (us := [nilS.v, nilS.v]) 3 0 Try.underlying46 rfl sz46 rfl rfl rfl rfl (.tmp rfl .nil)) ⟨[], [], nilS, nilS, rfl, hS.sel [4, 5] (by decide), (OwnL.nil (α := Int) m 3), (OwnL.nil (α := Int) m 3)⟩
    · have hr := cond_t hc6 hr
      refine q_cond_t hF rfl hc6 ?_
      refine q_seq ?_
      refine q_region ?_
      refine q_x (v := (.agg #[nilS.v, nilS.v])) hF hS (ex_build (cells := [nilS.v, nilS.v]) rfl (by kernel_rfl)) rfl rfl fun a hF => ?_
      refine q_store (vs := [nilS.v, nilS.v]) (cs' := [nilS.v, nilS.v]) 0 0 hF hS sz46 rfl rfl rfl rfl rfl rfl rfl rfl fun a w hF hS => ?_
      refine q_x (v := (.bool false)) hF hS (ex_assign rfl) rfl rfl fun a hF => ?_
      refine q_end (n_sq (q_ret (r_sq ?_)))
      obtain rfl := someI hr
      exact ret_of hF hS rfl (.cellA (us := [nilS.v, nilS.v]) 0 0 Try.underlying46 rfl sz46 rfl rfl rfl rfl (.tmp rfl .nil)) ⟨[], [], nilS, nilS, rfl, hS.sel [2, 3] (by decide), (OwnL.nil (α := Int) m 3), (OwnL.nil (α := Int) m 3)⟩

theorem c_spec_l1Put (p_l : List Int) (p_n : Int) (r : (List Int)) (hr : spec_l1Put p_l p_n = some r) (w0 : World) (m : Mem) (hv : Vis m w0) (s1 : Sl) (h1 : Rd m s1 p_l) :
    Ret Try.prog 95 [s1.v, (.int .i64 p_n)] w0 (fun v w => ∃ (m' : Mem) (s0' : Sl), v = s0'.v ∧ MLe [] w0.heap.size m m' ∧ St [] w0 w m' [] ∧ Rd m' s0' r) := by
  unfold spec_l1Put at hr
  refine ret_start Try.func95 rfl 48 rfl rfl m hv fun a hF hS => ?_
  refine q_seq ?_
  refine q_region ?_
  refine q_x (v := nilS.v) hF hS (ex_assign rfl) rfl rfl fun a hF => ?_
  refine q_end (n_sq ?_)
  refine q_seq ?_
  refine q_region ?_
  refine q_x (v := (.int .i64 0)) hF hS (ex_assign rfl) rfl rfl fun a hF => ?_
  refine q_end (n_sq ?_)
  refine q_seq ?_
  refine q_block ?_
  obtain ⟨k_6, hl1, hr⟩ := bindS hr
  refine q_loop (fun (k_2 : Int) a w => Fr a 48 [(0, s1.v), (1, (.int .i64 p_n)), (5, (.int .i64 k_2))] ∧ St [] w0 w m []) (fun (k_6 : Int) e a w => e = .exit 0 ∧ Fr a 48 [(0, s1.v), (1, (.int .i64 p_n)), (5, (.int .i64 k_6))] ∧ St [] w0 w m []) hl1 ⟨hF.sub ⟨rfl, rfl, rfl, trivial⟩, hS⟩ ?_ ?_
  · clear hF hS
    rintro k_2 a w st ⟨hF, hS⟩ hb1
    unfold spec_l1Put_l1 at hb1
    refine q_seq ?_
    refine q_seq ?_
    obtain ⟨t_5, hj2, hb1⟩ := bindS hb1
    refine q_join (fun a w => Fr a 48 [(0, s1.v), (1, (.int .i64 p_n)), (5, (.int .i64 k_2)), (18, (.bool t_5))] ∧ St [] w0 w m []) ?_ ?_
    · refine q_region ?_
      refine q_x (v := (.int .i64 k_2)) hF hS (ex_move rfl) rfl rfl fun a hF => ?_
      refine q_x (v := s1.v) hF hS (ex_move rfl) rfl rfl fun a hF => ?_
      refine q_x (v := (.int .i64 (goLen p_l))) hF hS (ex_len Try.underlying33 rfl h1.len) rfl rfl fun a hF => ?_
      refine q_x (v := (.bool (decide (k_2 < (goLen p_l))))) hF hS (ex_ibin rfl rfl rfl) rfl rfl fun a hF => ?_
      refine q_x (v := (.bool (decide (k_2 < (goLen p_l))))) hF hS (ex_move rfl) rfl rfl fun a hF => ?_
      rcases bcase (decide (k_2 < (goLen p_l))) with hc3 | hc3
      · have hj2 := cond_f hc3 hj2
        refine q_skip hF (wanted_f hF rfl rfl rfl hc3 rfl) rfl fun a hF => ?_
        refine q_skip hF (wanted_f hF rfl rfl rfl hc3 rfl) rfl fun a hF => ?_
        refine q_skip hF (wanted_f hF rfl rfl rfl hc3 rfl) rfl fun a hF => ?_
        refine q_skip hF (wanted_f hF rfl rfl rfl hc3 rfl) rfl fun a hF => ?_
        refine q_skip hF (wanted_f hF rfl rfl rfl hc3 rfl) rfl fun a hF => ?_
        refine q_skip hF (wanted_f hF rfl rfl rfl hc3 rfl) rfl fun a hF => ?_
        refine q_x (v := (.bool false)) hF hS (ex_pick_f rfl rfl hc3) rfl rfl fun a hF => ?_
        refine q_end (n_jn ?_)
        obtain rfl := someI hj2
        exact ⟨hF.sub ⟨rfl, rfl, rfl, rfl, trivial⟩, hS⟩
      · have hj2 := cond_t hc3 hj2
        refine q_xg (v := s1.v) hF hS (ex_move rfl) (wanted_t hF rfl rfl rfl hc3) rfl fun a hF => ?_
        refine q_xg (v := (.int .i64 k_2)) hF hS (ex_move rfl) (wanted_t hF rfl rfl rfl hc3) rfl fun a hF => ?_
        obtain ⟨e_3, he_3, hj2⟩ := bindS hj2
        obtain ⟨vs4, at4, d4⟩ := h1.at he_3 1 rfl
        obtain rfl : vs4 = [(.int .i64 e_3)] := d4
        refine q_xg (v := (elP s1 (k_2.toNat * 1))) hF hS (ex_indexAddr Try.underlying33 sz3 rfl rfl (h1.idx he_3)) (wanted_t hF rfl rfl rfl hc3) rfl fun a hF => ?_
        refine q_xg (v := (.int .i64 e_3)) hF hS (ex_loadE1 0 Try.underlying3 rfl rfl ((at4).at) rfl rfl) (wanted_t hF rfl rfl rfl hc3) rfl fun a hF => ?_
        refine q_xg (v := (.int .i64 p_n)) hF hS (ex_move rfl) (wanted_t hF rfl rfl rfl hc3) rfl fun a hF => ?_
        refine q_xg (v := (.bool (decide (e_3 < p_n)))) hF hS (ex_ibin rfl rfl rfl) (wanted_t hF rfl rfl rfl hc3) rfl fun a hF => ?_
        refine q_x (v := (.bool (decide (e_3 < p_n)))) hF hS (ex_pick_t rfl rfl hc3) rfl rfl fun a hF => ?_
        refine q_end (n_jn ?_)
        obtain rfl := someI hj2
        exact ⟨hF.sub ⟨rfl, rfl, rfl, rfl, trivial⟩, hS⟩
    · rintro a w ⟨hF, hS⟩
      refine n_sq ?_
      rcases bcase (t_5) with hc4 | hc4
      · have hb1 := cond_f hc4 hb1
        refine q_cond_f hF rfl hc4 ?_
        refine q_exit (x_sq ?_)
        obtain rfl := someI hb1
        exact ⟨nofun, .inl ⟨rfl, hF.sub ⟨rfl, rfl, rfl, trivial⟩, hS⟩⟩
      · have hb1 := cond_t hc4 hb1
        refine q_cond_t hF rfl hc4 ?_
        refine q_skipc (n_sq ?_)
        refine q_block ?_
        refine q_region ?_
        refine q_x (v := (.int .i64 k_2)) hF hS (ex_move rfl) rfl rfl fun a hF => ?_
        refine q_x (v := (.int .i64 (w64 (k_2 + 1)))) hF hS (ex_ibin rfl rfl rfl) rfl rfl fun a hF => ?_
        refine q_x (v := (.int .i64 (w64 (k_2 + 1)))) hF hS (ex_assign rfl) rfl rfl fun a hF => ?_
        refine q_end (n_ib ?_)
        obtain rfl := someI hb1
        exact ⟨rfl, hF.sub ⟨rfl, rfl, rfl, trivial⟩, hS⟩
  · rintro e a w ⟨rfl, hF, hS⟩
    refine x_ib (n_sq ?_)
    refine q_seq ?_
    refine q_seq ?_
    obtain ⟨t_9, hj5, hr⟩ := bindS hr
    refine q_join (fun a w => Fr a 48 [(0, s1.v), (1, (.int .i64 p_n)), (5, (.int .i64 k_6)), (32, (.bool t_9))] ∧ St [] w0 w m []) ?_ ?_
    · refine q_region ?_
      refine q_x (v := (.int .i64 k_6)) hF hS (ex_move rfl) rfl rfl fun a hF => ?_
      refine q_x (v := s1.v) hF hS (ex_move rfl) rfl rfl fun a hF => ?_
      refine q_x (v := (.int .i64 (goLen p_l))) hF hS (ex_len Try.underlying33 rfl h1.len) rfl rfl fun a hF => ?_
      refine q_x (v := (.bool (decide (k_6 < (goLen p_l))))) hF hS (ex_ibin rfl rfl rfl) rfl rfl fun a hF => ?_
      refine q_x (v := (.bool (decide (k_6 < (goLen p_l))))) hF hS (ex_move rfl) rfl rfl fun a hF => ?_
      rcases bcase (decide (k_6 < (goLen p_l))) with hc6 | hc6
      · have hj5 := cond_f hc6 hj5
        refine q_skip hF (wanted_f hF rfl rfl rfl hc6 rfl) rfl fun a hF => ?_
        refine q_skip hF (wanted_f hF rfl rfl rfl hc6 rfl) rfl fun a hF => ?_
        refine q_skip hF (wanted_f hF rfl rfl rfl hc6 rfl) rfl fun a hF => ?_
        refine q_skip hF (wanted_f hF rfl rfl rfl hc6 rfl) rfl fun a hF => ?_
        refine q_skip hF (wanted_f hF rfl rfl rfl hc6 rfl) rfl fun a hF => ?_
        refine q_skip hF (wanted_f hF rfl rfl rfl hc6 rfl) rfl fun a hF => ?_
        refine q_x (v := (.bool false)) hF hS (ex_pick_f rfl rfl hc6) rfl rfl fun a hF => ?_
        refine q_end (n_jn ?_)
        obtain rfl := someI hj5
        exact ⟨hF.sub ⟨rfl, rfl, rfl, rfl, trivial⟩, hS⟩
      · have hj5 := cond_t hc6 hj5
        refine q_xg (v := s1.v) hF hS (ex_move rfl) (wanted_t hF rfl rfl rfl hc6) rfl fun a hF => ?_
        refine q_xg (v := (.int .i64 k_6)) hF hS (ex_move rfl) (wanted_t hF rfl rfl rfl hc6) rfl fun a hF => ?_
        obtain ⟨e_7, he_7, hj5⟩ := bindS hj5
        obtain ⟨vs8, at8, d8⟩ := h1.at he_7 1 rfl
        obtain rfl : vs8 = [(.int .i64 e_7)] := d8
        refine q_xg (v := (elP s1 (k_6.toNat * 1))) hF hS (ex_indexAddr Try.underlying33 sz3 rfl rfl (h1.idx he_7)) (wanted_t hF rfl rfl rfl hc6) rfl fun a hF => ?_
        refine q_xg (v := (.int .i64 e_7)) hF hS (ex_loadE1 0 Try.underlying3 rfl rfl ((at8).at) rfl rfl) (wanted_t hF rfl rfl rfl hc6) rfl fun a hF => ?_
        refine q_xg (v := (.int .i64 p_n)) hF hS (ex_move rfl) (wanted_t hF rfl rfl rfl hc6) rfl fun a hF => ?_
        refine q_xg (v := (.bool (e_7 == p_n))) hF hS (ex_ibin rfl rfl rfl) (wanted_t hF rfl rfl rfl hc6) rfl fun a hF => ?_
        refine q_x (v := (.bool (e_7 == p_n))) hF hS (ex_pick_t rfl rfl hc6) rfl rfl fun a hF => ?_
        refine q_end (n_jn ?_)
        obtain rfl := someI hj5
        exact ⟨hF.sub ⟨rfl, rfl, rfl, rfl, trivial⟩, hS⟩
    · rintro a w ⟨hF, hS⟩
      refine n_sq ?_
      rcases bcase (t_9) with hc7 | hc7
      · have hr := cond_f hc7 hr
        refine q_cond_f hF rfl hc7 ?_
        refine q_skipc (n_sq ?_)
        refine q_seq ?_
        refine q_region ?_
        refine q_do rfl fun _ hK => wp_build0 (α := Int) hF hS Try.underlying33 inf3 rfl fun a w q10 s10 hF hS h10 _ => hK _ _ ?_
        refine q_x (v := s1.v) hF hS (ex_move rfl) rfl rfl fun a hF => ?_
        refine q_x (v := (.int .i64 k_6)) hF hS (ex_move rfl) rfl rfl fun a hF => ?_
        obtain ⟨l_11, hl_11, hr⟩ := bindS hr
        have h12 : Rd m (subS s1 1 (0 : Int).toNat k_6.toNat s1.cap) l_11 := h1.sub' hl_11 1 rfl
        refine q_x (v := (subS s1 1 (0 : Int).toNat k_6.toNat s1.cap).v) hF hS (ex_slice Try.underlying33 sz3 rfl rfl rfl (.inl ⟨rfl, rfl⟩) (.inr ⟨_, rfl⟩) (h1.subok hl_11)) rfl rfl fun a hF => ?_
        obtain ⟨l_13, hl_13, hr⟩ := bindS hr
        refine q_do rfl fun _ hK => wp_append hF hS h10 Try.underlying33 inf3 rfl rfl rfl rfl (h12.vw hS.vis) rfl (by decide) hl_13 rfl fun a w q14 s14 hF hS h14 => hK _ _ ?_
        refine q_x (v := s14.v) hF hS (ex_assign rfl) rfl rfl fun a hF => ?_
        refine q_end (n_sq ?_)
        refine q_seq ?_
        refine q_region ?_
        refine q_x (v := s14.v) hF hS (ex_move rfl) rfl rfl fun a hF => ?_
        refine q_x (v := (.int .i64 p_n)) hF hS (ex_move rfl) rfl rfl fun a hF => ?_
        refine q_do rfl fun _ hK => wp_buildSlice' (l := ([p_n] : List Int)) (cells := [(.int .i64 p_n)]) hF hS Try.underlying33 inf3 rfl rfl (by kernel_rfl) rfl rfl rfl ⟨rfl, rfl⟩ rfl rfl fun a w q15 s15 hF hS h15 _ => hK _ _ ?_
        have hS : St _ _ _ _ [q14, q15] := hS.sel [1, 0] (by decide)
        obtain ⟨l_16, hl_16, hr⟩ := bindS hr
        refine q_do rfl fun _ hK => wp_append hF hS h14 Try.underlying33 inf3 rfl rfl rfl rfl (h15.vw hS (j := 1) rfl) rfl (by decide) hl_16 rfl fun a w q17 s17 hF hS h17 => hK _ _ ?_
        refine q_x (v := s17.v) hF hS (ex_assign rfl) rfl rfl fun a hF => ?_
        refine q_end (n_sq ?_)
        refine q_seq ?_
        refine q_region ?_
        refine q_x (v := s17.v) hF hS (ex_move rfl) rfl rfl fun a hF => ?_
        refine q_x (v := s1.v) hF hS (ex_move rfl) rfl rfl fun a hF => ?_
        refine q_x (v := (.int .i64 k_6)) hF hS (ex_move rfl) rfl rfl fun a hF => ?_
        obtain ⟨l_18, hl_18, hr⟩ := bindS hr
        have h19 : Rd m (subS s1 1 (k_6 : Int).toNat (goLen p_l).toNat s1.cap) l_18 := h1.sub' hl_18 1 rfl
        refine q_x (v := (subS s1 1 (k_6 : Int).toNat (goLen p_l).toNat s1.cap).v) hF hS (ex_slice Try.underlying33 sz3 rfl rfl rfl (.inr ⟨_, rfl⟩) (.inl ⟨rfl, h1.jlen⟩) (h1.subok hl_18)) rfl rfl fun a hF => ?_
        obtain ⟨l_20, hl_20, hr⟩ := bindS hr
        refine q_do rfl fun _ hK => wp_append hF hS h17 Try.underlying33 inf3 rfl rfl rfl rfl (h19.vw hS.vis) rfl (by decide) hl_20 rfl fun a w q21 s21 hF hS h21 => hK _ _ ?_
        refine q_x (v := s21.v) hF hS (ex_assign rfl) rfl rfl fun a hF => ?_
        refine q_end (n_sq (q_ret ?_))
        obtain rfl := someI hr
        obtain ⟨m22, hm22, hS, hz22⟩ := hS.freeze
        have h22 := h21.froz hm22.le hz22
        exact ret_of hF hS rfl (.tmp rfl .nil) ⟨m22, s21, rfl, hm22, hS.sel [] (by decide), h22⟩
      · have hr := cond_t hc7 hr
        refine q_cond_t hF rfl hc7 ?_
        refine q_seq ?_
        refine q_region ?_
        refine q_x (v := s1.v) hF hS (ex_move rfl) rfl rfl fun a hF => ?_
        refine q_x (v := s1.v) hF hS (ex_assign rfl) rfl rfl fun a hF => ?_
        refine q_end (n_sq (q_ret (r_sq ?_)))
        obtain rfl := someI hr
        exact ret_of hF hS rfl (.tmp rfl .nil) ⟨m, s1, rfl, (MLe.refl _ _), hS.sel [] (by decide), h1⟩

theorem c_spec_cbGroups (p_groups : List Int) (r : Int) (hr : spec_cbGroups p_groups = some r) (w0 : World) (m : Mem) (hv : Vis m w0) (s1 : Sl) (h1 : Rd m s1 p_groups) :
    Ret Try.prog 81 [s1.v] w0 (fun v _ => v = (.int .i64 r)) := by
  unfold spec_cbGroups at hr
  refine ret_start Try.func81 rfl 39 rfl rfl m hv fun a hF hS => ?_
  refine q_seq ?_
  refine q_region ?_
  refine q_x (v := (.int .i64 0)) hF hS (ex_assign rfl) rfl rfl fun a hF => ?_
  refine q_end (n_sq ?_)
  refine q_seq ?_
  refine q_region ?_
  refine q_x (v := nilS.v) hF hS (ex_assign rfl) rfl rfl fun a hF => ?_
  refine q_end (n_sq ?_)
  refine q_seq ?_
  refine q_seq ?_
  refine q_region ?_
  refine q_x (v := s1.v) hF hS (ex_move rfl) rfl rfl fun a hF => ?_
  refine q_x (v := (.int .i64 (goLen p_groups))) hF hS (ex_len Try.underlying33 rfl h1.len) rfl rfl fun a hF => ?_
  refine q_x (v := (.int .i64 0)) hF hS (ex_move rfl) rfl rfl fun a hF => ?_
  refine q_end (n_sq ?_)
  refine q_block ?_
  obtain ⟨met_11, hl1, hr⟩ := bindS hr
  refine q_loop (fun (s : (List Int) × Int) a w => ∃ (m5 : Mem), ∃ (s3 : Sl), ∃ met_2, ∃ t_4, s = (met_2, t_4) ∧ Fr a 39 [(3, s3.v), (6, s1.v), (7, (.int .i64 (goLen p_groups))), (8, (.int .i64 t_4))] ∧ St [] w0 w m5 [] ∧ MLe [] w0.heap.size m m5 ∧ Rd m5 s3 met_2) (fun (met_11 : (List Int)) e a w => ∃ (m13 : Mem), ∃ (s12 : Sl), e = .exit 0 ∧ Fr a 39 [(3, s12.v)] ∧ St [] w0 w m13 [] ∧ MLe [] w0.heap.size m m13 ∧ Rd m13 s12 met_11) hl1 ⟨m, nilS, _, _, rfl, hF.sub ⟨rfl, rfl, rfl, rfl, trivial⟩, hS, (MLe.refl _ _), (Rd.nil0 (α := Int) m)⟩ ?_ ?_
  · clear hF hS
    rintro s a w st ⟨m5, s3, met_2, t_4, rfl, hF, hS, hm5, h3⟩ hb1
    unfold spec_cbGroups_l1 at hb1
    refine q_seq ?_
    refine q_region ?_
    refine q_x (v := (.bool (decide (t_4 < (goLen p_groups))))) hF hS (ex_ibin rfl rfl rfl) rfl rfl fun a hF => ?_
    refine q_end (n_sq ?_)
    refine q_seq ?_
    rcases bcase (decide (t_4 < (goLen p_groups))) with hc2 | hc2
    · have hb1 := cond_f hc2 hb1
      refine q_cond_f hF rfl hc2 ?_
      refine q_exit (x_sq ?_)
      obtain rfl := someI hb1
      exact ⟨nofun, .inl ⟨m5, s3, rfl, hF.sub ⟨rfl, trivial⟩, hS, hm5, h3⟩⟩
    · have hb1 := cond_t hc2 hb1
      refine q_cond_t hF rfl hc2 ?_
      refine q_skipc (n_sq ?_)
      refine q_seq ?_
      refine q_block ?_
      refine q_seq ?_
      refine q_region ?_
      obtain ⟨e_6, he_6, hb1⟩ := bindS hb1
      obtain ⟨vs7, at7, d7⟩ := (h1.mono hm5.le).at he_6 1 rfl
      obtain rfl : vs7 = [(.int .i64 e_6)] := d7
      refine q_x (v := (elP s1 (t_4.toNat * 1))) hF hS (ex_indexAddr Try.underlying33 sz3 rfl rfl ((h1.mono hm5.le).idx he_6)) rfl rfl fun a hF => ?_
      refine q_x (v := (.int .i64 e_6)) hF hS (ex_loadE1 0 Try.underlying3 rfl rfl ((at7).at) rfl rfl) rfl rfl fun a hF => ?_
      refine q_x (v := (.int .i64 e_6)) hF hS (ex_assign rfl) rfl rfl fun a hF => ?_
      refine q_end (n_sq ?_)
      refine q_region ?_
      refine q_x (v := s3.v) hF hS (ex_move rfl) rfl rfl fun a hF => ?_
      refine q_x (v := (.int .i64 e_6)) hF hS (ex_move rfl) rfl rfl fun a hF => ?_
      obtain ⟨t_8, ht_8, hb1⟩ := bindS hb1
      refine q_call (vs := [s3.v, (.int .i64 e_6)]) hF hS Try.func95 (by kernel_rfl) rfl rfl rfl (c_spec_l1Put met_2 e_6 t_8 ht_8 _ m5 hS.vis s3 h3) ?_
      have hT := hS
      rintro a w _ ⟨m9, s10, rfl, hm9, hR9, h10⟩ hF hS2
      have hS : St _ _ _ _ [] := hS.join hR9 hm9
      have hm9 := MLe.weakX (O0 := []) hT hm9
      refine q_x (v := s10.v) hF hS (ex_assign rfl) rfl rfl fun a hF => ?_
      refine q_end (n_ib (n_sq ?_))
      refine q_region ?_
      refine q_x (v := (.int .i64 (w64 (t_4 + 1)))) hF hS (ex_ibin rfl rfl rfl) rfl rfl fun a hF => ?_
      refine q_x (v := (.int .i64 (w64 (t_4 + 1)))) hF hS (ex_move rfl) rfl rfl fun a hF => ?_
      refine q_end ?_
      obtain rfl := someI hb1
      exact ⟨rfl, m9, s10, _, _, rfl, hF.sub ⟨rfl, rfl, rfl, rfl, trivial⟩, hS, (hm5.trans hm9), h10⟩
  · rintro e a w ⟨m13, s12, rfl, hF, hS, hm13, h12⟩
    refine x_ib (n_sq ?_)
    refine q_seq ?_
    refine q_seq ?_
    obtain ⟨t_18, hj3, hr⟩ := bindS hr
    refine q_join (fun a w => Fr a 39 [(3, s12.v), (36, (.bool t_18))] ∧ St [] w0 w m13 []) ?_ ?_
    · refine q_region ?_
      refine q_x (v := s12.v) hF hS (ex_move rfl) rfl rfl fun a hF => ?_
      refine q_x (v := (.int .i64 (goLen met_11))) hF hS (ex_len Try.underlying33 rfl h12.len) rfl rfl fun a hF => ?_
      refine q_x (v := (.bool ((goLen met_11) == 0))) hF hS (ex_ibin rfl rfl rfl) rfl rfl fun a hF => ?_
      refine q_x (v := (.bool ((goLen met_11) == 0))) hF hS (ex_move rfl) rfl rfl fun a hF => ?_
      rcases bcase ((goLen met_11) == 0) with hc4 | hc4
      · have hj3 := cond_f hc4 hj3
        refine q_xg (v := s12.v) hF hS (ex_move rfl) (wanted_t hF rfl rfl rfl hc4) rfl fun a hF => ?_
        obtain ⟨e_14, he_14, hj3⟩ := bindS hj3
        obtain ⟨vs15, at15, d15⟩ := h12.at he_14 1 rfl
        obtain rfl : vs15 = [(.int .i64 e_14)] := d15
        refine q_xg (v := (elP s12 ((0 : Int).toNat * 1))) hF hS (ex_indexAddr Try.underlying33 sz3 rfl rfl (h12.idx he_14)) (wanted_t hF rfl rfl rfl hc4) rfl fun a hF => ?_
        refine q_xg (v := (.int .i64 e_14)) hF hS (ex_loadE1 0 Try.underlying3 rfl rfl ((at15).at) rfl rfl) (wanted_t hF rfl rfl rfl hc4) rfl fun a hF => ?_
        refine q_xg (v := (.bool (e_14 != 0))) hF hS (ex_ibin rfl rfl rfl) (wanted_t hF rfl rfl rfl hc4) rfl fun a hF => ?_
        refine q_x (v := (.bool (e_14 != 0))) hF hS (ex_pick_f rfl rfl hc4) rfl rfl fun a hF => ?_
        refine q_x (v := (.bool (e_14 != 0))) hF hS (ex_move rfl) rfl rfl fun a hF => ?_
        rcases bcase (e_14 != 0) with hc5 | hc5
        · have hj3 := cond_f hc5 hj3
          refine q_xg (v := s12.v) hF hS (ex_move rfl) (wanted_t hF rfl rfl rfl hc5) rfl fun a hF => ?_
          refine q_xg (v := s12.v) hF hS (ex_move rfl) (wanted_t hF rfl rfl rfl hc5) rfl fun a hF => ?_
          refine q_xg (v := (.int .i64 (goLen met_11))) hF hS (ex_len Try.underlying33 rfl h12.len) (wanted_t hF rfl rfl rfl hc5) rfl fun a hF => ?_
          refine q_xg (v := (.int .i64 (w64 ((goLen met_11) - 1)))) hF hS (ex_ibin rfl rfl rfl) (wanted_t hF rfl rfl rfl hc5) rfl fun a hF => ?_
          obtain ⟨e_16, he_16, hj3⟩ := bindS hj3
          obtain ⟨vs17, at17, d17⟩ := h12.at he_16 1 rfl
          obtain rfl : vs17 = [(.int .i64 e_16)] := d17
          refine q_xg (v := (elP s12 ((w64 ((goLen met_11) - 1)).toNat * 1))) hF hS (ex_indexAddr Try.underlying33 sz3 rfl rfl (h12.idx he_16)) (wanted_t hF rfl rfl rfl hc5) rfl fun a hF => ?_
          refine q_xg (v := (.int .i64 e_16)) hF hS (ex_loadE1 0 Try.underlying3 rfl rfl ((at17).at) rfl rfl) (wanted_t hF rfl rfl rfl hc5) rfl fun a hF => ?_
          refine q_xg (v := s12.v) hF hS (ex_move rfl) (wanted_t hF rfl rfl rfl hc5) rfl fun a hF => ?_
          refine q_xg (v := (.int .i64 (goLen met_11))) hF hS (ex_len Try.underlying33 rfl h12.len) (wanted_t hF rfl rfl rfl hc5) rfl fun a hF => ?_
          refine q_xg (v := (.int .i64 (w64 ((goLen met_11) - 1)))) hF hS (ex_ibin rfl rfl rfl) (wanted_t hF rfl rfl rfl hc5) rfl fun a hF => ?_
          refine q_xg (v := (.bool (e_16 != (w64 ((goLen met_11) - 1))))) hF hS (ex_ibin rfl rfl rfl) (wanted_t hF rfl rfl rfl hc5) rfl fun a hF => ?_
          refine q_x (v := (.bool (e_16 != (w64 ((goLen met_11) - 1))))) hF hS (ex_pick_f rfl rfl hc5) rfl rfl fun a hF => ?_
          refine q_end (n_jn ?_)
          obtain rfl := someI hj3
          exact ⟨hF.sub ⟨rfl, rfl, trivial⟩, hS⟩
        · have hj3 := cond_t hc5 hj3
          refine q_skip hF (wanted_f hF rfl rfl rfl hc5 rfl) rfl fun a hF => ?_
          refine q_skip hF (wanted_f hF rfl rfl rfl hc5 rfl) rfl fun a hF => ?_
          refine q_skip hF (wanted_f hF rfl rfl rfl hc5 rfl) rfl fun a hF => ?_
          refine q_skip hF (wanted_f hF rfl rfl rfl hc5 rfl) rfl fun a hF => ?_
          refine q_skip hF (wanted_f hF rfl rfl rfl hc5 rfl) rfl fun a hF => ?_
          refine q_skip hF (wanted_f hF rfl rfl rfl hc5 rfl) rfl fun a hF => ?_
          refine q_skip hF (wanted_f hF rfl rfl rfl hc5 rfl) rfl fun a hF => ?_
          refine q_skip hF (wanted_f hF rfl rfl rfl hc5 rfl) rfl fun a hF => ?_
          refine q_skip hF (wanted_f hF rfl rfl rfl hc5 rfl) rfl fun a hF => ?_
          refine q_skip hF (wanted_f hF rfl rfl rfl hc5 rfl) rfl fun a hF => ?_
          refine q_x (v := (.bool true)) hF hS (ex_pick_t rfl rfl hc5) rfl rfl fun a hF => ?_
          refine q_end (n_jn ?_)
          obtain rfl := someI hj3
          exact ⟨hF.sub ⟨rfl, rfl, trivial⟩, hS⟩
      · have hj3 := cond_t hc4 hj3
        refine q_skip hF (wanted_f hF rfl rfl rfl hc4 rfl) rfl fun a hF => ?_
        refine q_skip hF (wanted_f hF rfl rfl rfl hc4 rfl) rfl fun a hF => ?_
        refine q_skip hF (wanted_f hF rfl rfl rfl hc4 rfl) rfl fun a hF => ?_
        refine q_skip hF (wanted_f hF rfl rfl rfl hc4 rfl) rfl fun a hF => ?_
        refine q_x (v := (.bool true)) hF hS (ex_pick_t rfl rfl hc4) rfl rfl fun a hF => ?_
        refine q_x (v := (.bool true)) hF hS (ex_move rfl) rfl rfl fun a hF => ?_
        refine q_skip hF (wanted_f hF rfl rfl rfl rfl rfl) rfl fun a hF => ?_
        refine q_skip hF (wanted_f hF rfl rfl rfl rfl rfl) rfl fun a hF => ?_
        refine q_skip hF (wanted_f hF rfl rfl rfl rfl rfl) rfl fun a hF => ?_
        refine q_skip hF (wanted_f hF rfl rfl rfl rfl rfl) rfl fun a hF => ?_
        refine q_skip hF (wanted_f hF rfl rfl rfl rfl rfl) rfl fun a hF => ?_
        refine q_skip hF (wanted_f hF rfl rfl rfl rfl rfl) rfl fun a hF => ?_
        refine q_skip hF (wanted_f hF rfl rfl rfl rfl rfl) rfl fun a hF => ?_
        refine q_skip hF (wanted_f hF rfl rfl rfl rfl rfl) rfl fun a hF => ?_
        refine q_skip hF (wanted_f hF rfl rfl rfl rfl rfl) rfl fun a hF => ?_
        refine q_skip hF (wanted_f hF rfl rfl rfl rfl rfl) rfl fun a hF => ?_
        refine q_x (v := (.bool true)) hF hS (ex_pick_t rfl rfl rfl) rfl rfl fun a hF => ?_
        refine q_end (n_jn ?_)
        obtain rfl := someI hj3
        exact ⟨hF.sub ⟨rfl, rfl, trivial⟩, hS⟩
    · rintro a w ⟨hF, hS⟩
      refine n_sq ?_
      rcases bcase (t_18) with hc6 | hc6
      · have hr := cond_f hc6 hr
        refine q_cond_f hF rfl hc6 ?_
        refine q_skipc (n_sq ?_)
        refine q_seq ?_
        refine q_region ?_
        refine q_x (v := s12.v) hF hS (ex_move rfl) rfl rfl fun a hF => ?_
        refine q_x (v := (.int .i64 (goLen met_11))) hF hS (ex_len Try.underlying33 rfl h12.len) rfl rfl fun a hF => ?_
        refine q_x (v := (.int .i64 (goLen met_11))) hF hS (ex_assign rfl) rfl rfl fun a hF => ?_
        refine q_end (n_sq (q_ret ?_))
        obtain rfl := someI hr
        exact ret_of hF hS rfl (.tmp rfl .nil) rfl
      · have hr := cond_t hc6 hr
        refine q_cond_t hF rfl hc6 ?_
        refine q_seq ?_
        refine q_region ?_
        refine q_x (v := (.int .i64 0)) hF hS (ex_assign rfl) rfl rfl fun a hF => ?_
        refine q_end (n_sq (q_ret (r_sq ?_)))
        obtain rfl := someI hr
        exact ret_of hF hS rfl (.tmp rfl .nil) rfl

end Go.Proofs.Ytiikfhfnkppeeaa
