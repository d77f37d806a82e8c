/- The walks of the functions: each returns what its plain function says. -/
import Derived.Test.YtgaeknajcakinaaDoorGWalks1
namespace Go.Proofs.YtgaeknajcakinaaDoor
open Go.Gx Go.Gx.F Go.RowKit
set_option linter.all false
set_option maxRecDepth 10000


theorem c_impl_areasAt (p_g : impl_Geo) (p_level : Int) (r : (List Int)) (hr : impl_areasAt p_g p_level = some r) (w0 : World) (m : Mem) (hv : Vis m w0) (s1 : Sl) (h1 : Rd m s1 p_g.Parents) :
  Ret Tryd.prog 97 [(.agg #[s1.v]), (.int .i64 p_level)] w0 (fun v w => ∃ (q0' : Piece) (s0' : Sl), v = s0'.v ∧ St [] w0 w m [q0'] ∧ OwnL m 3 q0' s0' r) := by
 unfold impl_areasAt at hr
 refine ret_start Tryd.func97 rfl 24 rfl rfl m hv fun a hF hS => q_seq (q_region (q_box (cs := [s1.v]) hF hS rfl rfl rfl fun a w b2 hF hS => q_x (v := nilS.v) hF hS (ex_assign rfl) rfl rfl fun a hF => q_end (n_sq (q_seq (q_region (q_x (v := nilS.v) hF hS (ex_assign rfl) rfl rfl fun a hF => q_end (n_sq (q_seq (q_seq (q_region (q_x (v := (.pointer (some ⟨b2, 0, none⟩))) hF hS (ex_fieldAddr Tryd.underlying60 rfl sz42 rfl rfl) rfl rfl fun a hF => q_x (v := s1.v) hF hS (ex_load1 0 0 Tryd.underlying42 rfl rfl rfl rfl) rfl rfl fun a hF => q_x (v := (.int .i64 (goLen p_g.Parents))) hF hS (ex_len Tryd.underlying42 rfl h1.len) rfl rfl fun a hF => q_x (v := (.int .i64 0)) hF hS (ex_move rfl) rfl rfl fun a hF => q_end (n_sq (q_block ?_)))))))))))))
 obtain ⟨list_12, hl1, hr⟩ := bindS hr
 refine q_loop (fun (s : (List Int) × Int) a w => ∃ (q4 : Piece), ∃ (s4 : Sl), ∃ list_3, ∃ t_5, s = (list_3, t_5) ∧ Fr a 24 [(1, (.int .i64 p_level)), (2, (.pointer (some ⟨b2, 0, none⟩))), (5, s4.v), (9, (.int .i64 (goLen p_g.Parents))), (10, (.int .i64 t_5))] ∧ St [] w0 w m [q4, [⟨b2, [s1.v], 60⟩]] ∧ OwnL m 3 q4 s4 list_3) (fun (list_12 : (List Int)) e a w => ∃ (q13 : Piece), ∃ (s13 : Sl), e = .exit 0 ∧ Fr a 24 [(5, s13.v)] ∧ St [] w0 w m [q13] ∧ OwnL m 3 q13 s13 list_12) hl1 ⟨[], nilS, _, _, rfl, hF.sub ⟨rfl, rfl, rfl, rfl, rfl, trivial⟩, hS.sel [1, 0] (by decide), (OwnL.nil (α := Int) m 3)⟩ ?_ ?_
 ·clear hF hS
  rintro s a w st ⟨q4, s4, list_3, t_5, rfl, hF, hS, h4⟩ hb1
  unfold impl_areasAt_l1 at hb1
  refine q_seq (q_region (q_x (v := (.bool (decide (t_5 < (goLen p_g.Parents))))) hF hS (ex_ibin rfl rfl rfl) rfl rfl fun a hF => q_end (n_sq (q_seq ?_))))
  rcases bcase (decide (t_5 < (goLen p_g.Parents))) with hc2 | hc2
  ·have hb1 := cond_f hc2 hb1
   refine q_cond_f hF rfl hc2 (q_exit (x_sq ?_))
   obtain rfl := someI hb1
   exact ⟨nofun, .inl ⟨q4, s4, rfl, hF.sub ⟨rfl, trivial⟩, hS.mask [true, false], h4⟩⟩
  ·have hb1 := cond_t hc2 hb1
   refine q_cond_t hF rfl hc2 (q_skipc (n_sq (q_seq (q_block (q_seq (q_region (q_x (v := (.int .i64 t_5)) hF hS (ex_move rfl) rfl rfl fun a hF => q_x (v := (.int .i64 t_5)) hF hS (ex_assign rfl) rfl rfl fun a hF => q_end (n_sq (q_seq (q_region (q_x (v := (.agg #[s1.v])) hF hS (ex_loadA (vs := [s1.v]) 1 0 Tryd.underlying60 rfl sz60 rfl rfl rfl rfl) rfl rfl fun a hF => q_x (v := (.int .i64 t_5)) hF hS (ex_move rfl) rfl rfl fun a hF => ?_)))))))))))
   obtain ⟨t_6, ht_6, hb1⟩ := bindS hb1
   refine q_call (vs := [(.agg #[s1.v]), (.int .i64 t_5)]) hF hS Tryd.func128 (by kernel_rfl) rfl rfl rfl (c_impl_depthOf p_g t_5 t_6 ht_6 _ m hS.vis s1 h1) ?_
   rintro a w _ rfl hF hS
   refine q_x (v := (.int .i64 p_level)) hF hS (ex_move rfl) rfl rfl fun a hF => q_x (v := (.bool (t_6 == p_level))) hF hS (ex_ibin rfl rfl rfl) rfl rfl fun a hF => q_end (n_sq ?_)
   obtain ⟨list_10, hj3, hb1⟩ := bindS hb1
   refine q_join (fun a w => ∃ (q11 : Piece), ∃ (s11 : Sl), Fr a 24 [(1, (.int .i64 p_level)), (2, (.pointer (some ⟨b2, 0, none⟩))), (5, s11.v), (9, (.int .i64 (goLen p_g.Parents))), (10, (.int .i64 t_5))] ∧ St [] w0 w m [q11, [⟨b2, [s1.v], 60⟩]] ∧ OwnL m 3 q11 s11 list_10) ?_ ?_
   ·rcases bcase (t_6 == p_level) with hc4 | hc4
    ·have hj3 := cond_f hc4 hj3
     refine q_cond_f hF rfl hc4 (q_skipc (n_jn ?_))
     obtain rfl := someI hj3
     exact ⟨q4, s4, hF.sub ⟨rfl, rfl, rfl, rfl, rfl, trivial⟩, hS, h4⟩
    ·have hj3 := cond_t hc4 hj3
     refine q_cond_t hF rfl hc4 (q_region (q_x (v := s4.v) hF hS (ex_move rfl) rfl rfl fun a hF => q_x (v := (.int .i64 t_5)) hF hS (ex_move rfl) rfl rfl fun a hF => q_do rfl fun _ hK => wp_buildSlice' (l := ([t_5] : List Int)) (cells := [(.int .i64 t_5)]) hF hS Tryd.underlying42 inf3 rfl rfl (by kernel_rfl) rfl rfl rfl ⟨rfl, rfl⟩ rfl rfl fun a w q7 s7 hF hS h7 _ => hK _ _ ?_))
     have hS : St _ _ _ _ [q4, q7, [⟨b2, [s1.v], 60⟩]] := hS.sel [1, 0, 2] (by decide)
     obtain ⟨l_8, hl_8, hj3⟩ := bindS hj3
     refine q_do rfl fun _ hK => wp_append hF hS h4 Tryd.underlying42 inf3 rfl rfl rfl rfl (h7.vw hS (j := 1) rfl) rfl (by decide) hl_8 rfl fun a w q9 s9 hF hS h9 => hK _ _ (q_x (v := s9.v) hF hS (ex_assign rfl) rfl rfl fun a hF => q_end (n_jn ?_))
     obtain rfl := someI hj3
     exact ⟨q9, s9, hF.sub ⟨rfl, rfl, rfl, rfl, rfl, trivial⟩, hS.mask [true, false, true], h9⟩
   ·rintro a w ⟨q11, s11, hF, hS, h11⟩
    refine n_ib (n_sq ?_)
    refine q_region (q_x (v := (.int .i64 (w64 (t_5 + 1)))) hF hS (ex_ibin rfl rfl rfl) rfl rfl fun a hF => q_x (v := (.int .i64 (w64 (t_5 + 1)))) hF hS (ex_move rfl) rfl rfl fun a hF => q_end ?_)
    obtain rfl := someI hb1
    exact ⟨rfl, q11, s11, _, _, rfl, hF.sub ⟨rfl, rfl, rfl, rfl, rfl, trivial⟩, hS, h11⟩
 ·rintro e a w ⟨q13, s13, rfl, hF, hS, h13⟩
  refine x_ib (n_sq ?_)
  refine q_seq (q_region (q_x (v := s13.v) hF hS (ex_move rfl) rfl rfl fun a hF => q_x (v := s13.v) hF hS (ex_assign rfl) rfl rfl fun a hF => q_end (n_sq (q_ret ?_))))
  obtain rfl := someI hr
  exact ret_of hF hS rfl (.tmp rfl .nil) ⟨q13, s13, rfl, hS.sel [0] (by decide), h13⟩

theorem c_impl_LevelOf (p_g : impl_Geo) (p_level : Int) (r : (List Int) × Bool) (hr : impl_LevelOf p_g p_level = some r) (w0 : World) (m : Mem) (hv : Vis m w0) (s1 : Sl) (h1 : Rd m s1 p_g.Parents) :
  Ret Tryd.prog 42 [(.agg #[s1.v]), (.int .i64 p_level)] w0 (fun v w => ∃ (q0' : Piece) (s0' : Sl), v = (.tuple #[s0'.v, (.bool r.2)]) ∧ St [] w0 w m [q0'] ∧ OwnL m 3 q0' s0' r.1) := by
 unfold impl_LevelOf at hr
 refine ret_start Tryd.func42 rfl 17 rfl rfl m hv fun a hF hS => q_seq (q_region (q_box (cs := [s1.v]) hF hS rfl rfl rfl fun a w b2 hF hS => q_x (v := nilS.v) hF hS (ex_assign rfl) rfl rfl fun a hF => q_x (v := (.bool false)) hF hS (ex_assign rfl) rfl rfl fun a hF => q_end (n_sq (q_seq (q_seq (q_region (q_x (v := (.agg #[s1.v])) hF hS (ex_loadA (vs := [s1.v]) 0 0 Tryd.underlying60 rfl sz60 rfl rfl rfl rfl) rfl rfl fun a hF => ?_)))))))
 obtain ⟨t_3, ht_3, hr⟩ := bindS hr
 refine q_call (vs := [(.agg #[s1.v])]) hF hS Tryd.func37 (by kernel_rfl) rfl rfl rfl (c_impl_IsGeo p_g t_3 ht_3 _ m hS.vis s1 h1) ?_
 rintro a w _ rfl hF hS
 refine q_x (v := (.bool (!t_3))) hF hS (ex_not rfl) rfl rfl fun a hF => q_end (n_sq ?_)
 rcases bcase (!t_3) with hc1 | hc1
 ·have hr := cond_f hc1 hr
  refine q_cond_f hF rfl hc1 (q_skipc (n_sq (q_seq (q_region (q_x (v := (.agg #[s1.v])) hF hS (ex_loadA (vs := [s1.v]) 0 0 Tryd.underlying60 rfl sz60 rfl rfl rfl rfl) rfl rfl fun a hF => q_x (v := (.int .i64 p_level)) hF hS (ex_move rfl) rfl rfl fun a hF => ?_)))))
  obtain ⟨t_4, ht_4, hr⟩ := bindS hr
  refine q_call (vs := [(.agg #[s1.v]), (.int .i64 p_level)]) hF hS Tryd.func97 (by kernel_rfl) rfl rfl rfl (c_impl_areasAt p_g p_level t_4 ht_4 _ m hS.vis s1 h1) ?_
  rintro a w _ ⟨q6, s6, rfl, hR5, h6⟩ hF hS2
  have hS : St _ _ _ _ [q6, [⟨b2, [s1.v], 60⟩]] := hS.joinF hR5
  refine q_x (v := s6.v) hF hS (ex_assign rfl) rfl rfl fun a hF => q_end (n_sq (q_seq (q_region (q_x (v := s6.v) hF hS (ex_move rfl) rfl rfl fun a hF => q_x (v := s6.v) hF hS (ex_move rfl) rfl rfl fun a hF => q_x (v := (.int .i64 (goLen t_4))) hF hS (ex_len Tryd.underlying42 rfl h6.len) rfl rfl fun a hF => q_x (v := (.bool (decide (0 < (goLen t_4))))) hF hS (ex_ibin rfl rfl rfl) rfl rfl fun a hF => q_x (v := s6.v) hF hS (ex_assign rfl) rfl rfl fun a hF => q_x (v := (.bool (decide (0 < (goLen t_4))))) hF hS (ex_assign rfl) rfl rfl fun a hF => q_end (n_sq (q_ret ?_))))))
  obtain rfl := someI hr
  exact ret_of hF hS rfl (.tmp rfl (.tmp rfl .nil)) ⟨q6, s6, rfl, hS.sel [0] (by decide), h6⟩
 ·have hr := cond_t hc1 hr
  refine q_cond_t hF rfl hc1 (q_seq (q_region (q_x (v := nilS.v) hF hS (ex_assign rfl) rfl rfl fun a hF => q_x (v := (.bool false)) hF hS (ex_assign rfl) rfl rfl fun a hF => q_end (n_sq (q_ret (r_sq ?_))))))
  obtain rfl := someI hr
  exact ret_of hF hS rfl (.tmp rfl (.tmp rfl .nil)) ⟨[], nilS, rfl, hS.sel [1] (by decide), (OwnL.nil (α := Int) m 3)⟩

theorem c_spec_gDepth (p_g : impl_Geo) (p_i : Int) (r : Int) (hr : spec_gDepth p_g p_i = some r) (w0 : World) (m : Mem) (hv : Vis m w0) (s1 : Sl) (h1 : Rd m s1 p_g.Parents) :
  Ret Tryd.prog 129 [(.agg #[s1.v]), (.int .i64 p_i)] w0 (fun v _ => v = (.int .i64 r)) := by
 unfold spec_gDepth at hr
 refine ret_start Tryd.func129 rfl 20 rfl rfl m hv fun a hF hS => q_seq (q_region (q_box (cs := [s1.v]) hF hS rfl rfl rfl fun a w b2 hF hS => q_x (v := (.int .i64 0)) hF hS (ex_assign rfl) rfl rfl fun a hF => q_end (n_sq (q_seq (q_region (q_x (v := (.int .i64 0)) hF hS (ex_assign rfl) rfl rfl fun a hF => q_end (n_sq (q_seq (q_block ?_)))))))))
 obtain ⟨n_9, hl1, hr⟩ := bindS hr
 refine q_loop (fun (s : Int × Int) a w => ∃ i_3, ∃ n_4, s = (i_3, n_4) ∧ Fr a 20 [(1, (.int .i64 i_3)), (2, (.pointer (some ⟨b2, 0, none⟩))), (5, (.int .i64 n_4))] ∧ St [] w0 w m [[⟨b2, [s1.v], 60⟩]]) (fun (n_9 : Int) e a w => e = .exit 0 ∧ Fr a 20 [(5, (.int .i64 n_9))] ∧ St [] w0 w m []) hl1 ⟨_, _, rfl, hF.sub ⟨rfl, rfl, rfl, trivial⟩, hS⟩ ?_ ?_
 ·clear hF hS
  rintro s a w st ⟨i_3, n_4, rfl, hF, hS⟩ hb1
  unfold spec_gDepth_l1 at hb1
  refine q_seq (q_seq (q_region (q_x (v := (.pointer (some ⟨b2, 0, none⟩))) hF hS (ex_fieldAddr Tryd.underlying60 rfl sz42 rfl rfl) rfl rfl fun a hF => q_x (v := s1.v) hF hS (ex_load1 0 0 Tryd.underlying42 rfl rfl rfl rfl) rfl rfl fun a hF => q_x (v := (.int .i64 i_3)) hF hS (ex_move rfl) rfl rfl fun a hF => ?_)))
  obtain ⟨e_5, he_5, hb1⟩ := bindS hb1
  obtain ⟨vs6, at6, d6⟩ := h1.at he_5 1 rfl
  obtain rfl : vs6 = [(.int .i64 e_5)] := d6
  refine q_x (v := (elP s1 (i_3.toNat * 1))) hF hS (ex_indexAddr Tryd.underlying42 sz3 rfl rfl (h1.idx he_5)) rfl rfl fun a hF => q_x (v := (.int .i64 e_5)) hF hS (ex_loadE1 0 Tryd.underlying3 rfl rfl ((at6).at) rfl rfl) rfl rfl fun a hF => q_x (v := (.bool (decide (0 ≤ e_5)))) hF hS (ex_ibin rfl rfl rfl) rfl rfl fun a hF => q_end (n_sq ?_)
  rcases bcase (decide (0 ≤ e_5)) with hc2 | hc2
  ·have hb1 := cond_f hc2 hb1
   refine q_cond_f hF rfl hc2 (q_exit (x_sq ?_))
   obtain rfl := someI hb1
   exact ⟨nofun, .inl ⟨rfl, hF.sub ⟨rfl, trivial⟩, hS.mask [false]⟩⟩
  ·have hb1 := cond_t hc2 hb1
   refine q_cond_t hF rfl hc2 (q_skipc (n_sq (q_block (q_seq (q_region (q_x (v := (.pointer (some ⟨b2, 0, none⟩))) hF hS (ex_fieldAddr Tryd.underlying60 rfl sz42 rfl rfl) rfl rfl fun a hF => q_x (v := s1.v) hF hS (ex_load1 0 0 Tryd.underlying42 rfl rfl rfl rfl) rfl rfl fun a hF => q_x (v := (.int .i64 i_3)) hF hS (ex_move rfl) rfl rfl fun a hF => ?_))))))
   obtain ⟨e_7, he_7, hb1⟩ := bindS hb1
   obtain ⟨vs8, at8, d8⟩ := h1.at he_7 1 rfl
   obtain rfl : vs8 = [(.int .i64 e_7)] := d8
   refine q_x (v := (elP s1 (i_3.toNat * 1))) hF hS (ex_indexAddr Tryd.underlying42 sz3 rfl rfl (h1.idx he_7)) rfl rfl fun a hF => q_x (v := (.int .i64 e_7)) hF hS (ex_loadE1 0 Tryd.underlying3 rfl rfl ((at8).at) rfl rfl) rfl rfl fun a hF => q_x (v := (.int .i64 e_7)) hF hS (ex_assign rfl) rfl rfl fun a hF => q_end (n_sq (q_region (q_x (v := (.int .i64 n_4)) hF hS (ex_move rfl) rfl rfl fun a hF => q_x (v := (.int .i64 (w64 (n_4 + 1)))) hF hS (ex_ibin rfl rfl rfl) rfl rfl fun a hF => q_x (v := (.int .i64 (w64 (n_4 + 1)))) hF hS (ex_assign rfl) rfl rfl fun a hF => q_end (n_ib ?_))))
   obtain rfl := someI hb1
   exact ⟨rfl, _, _, rfl, hF.sub ⟨rfl, rfl, rfl, trivial⟩, hS⟩
 ·rintro e a w ⟨rfl, hF, hS⟩
  refine x_ib (n_sq ?_)
  refine q_seq (q_region (q_x (v := (.int .i64 n_9)) hF hS (ex_move rfl) rfl rfl fun a hF => q_x (v := (.int .i64 n_9)) hF hS (ex_assign rfl) rfl rfl fun a hF => q_end (n_sq (q_ret ?_))))
  obtain rfl := someI hr
  exact ret_of hF hS rfl (.tmp rfl .nil) rfl

theorem c_spec_gLevel (p_g : impl_Geo) (p_level : Int) (r : (List Int)) (hr : spec_gLevel p_g p_level = some r) (w0 : World) (m : Mem) (hv : Vis m w0) (s1 : Sl) (h1 : Rd m s1 p_g.Parents) :
  Ret Tryd.prog 98 [(.agg #[s1.v]), (.int .i64 p_level)] w0 (fun v w => ∃ (q0' : Piece) (s0' : Sl), v = s0'.v ∧ St [] w0 w m [q0'] ∧ OwnL m 3 q0' s0' r) := by
 unfold spec_gLevel at hr
 refine ret_start Tryd.func98 rfl 24 rfl rfl m hv fun a hF hS => q_seq (q_region (q_box (cs := [s1.v]) hF hS rfl rfl rfl fun a w b2 hF hS => q_x (v := nilS.v) hF hS (ex_assign rfl) rfl rfl fun a hF => q_end (n_sq (q_seq (q_region (q_x (v := nilS.v) hF hS (ex_assign rfl) rfl rfl fun a hF => q_end (n_sq (q_seq (q_seq (q_region (q_x (v := (.pointer (some ⟨b2, 0, none⟩))) hF hS (ex_fieldAddr Tryd.underlying60 rfl sz42 rfl rfl) rfl rfl fun a hF => q_x (v := s1.v) hF hS (ex_load1 0 0 Tryd.underlying42 rfl rfl rfl rfl) rfl rfl fun a hF => q_x (v := (.int .i64 (goLen p_g.Parents))) hF hS (ex_len Tryd.underlying42 rfl h1.len) rfl rfl fun a hF => q_x (v := (.int .i64 0)) hF hS (ex_move rfl) rfl rfl fun a hF => q_end (n_sq (q_block ?_)))))))))))))
 obtain ⟨out_12, hl1, hr⟩ := bindS hr
 refine q_loop (fun (s : (List Int) × Int) a w => ∃ (q4 : Piece), ∃ (s4 : Sl), ∃ out_3, ∃ t_5, s = (out_3, t_5) ∧ Fr a 24 [(1, (.int .i64 p_level)), (2, (.pointer (some ⟨b2, 0, none⟩))), (5, s4.v), (9, (.int .i64 (goLen p_g.Parents))), (10, (.int .i64 t_5))] ∧ St [] w0 w m [q4, [⟨b2, [s1.v], 60⟩]] ∧ OwnL m 3 q4 s4 out_3) (fun (out_12 : (List Int)) e a w => ∃ (q13 : Piece), ∃ (s13 : Sl), e = .exit 0 ∧ Fr a 24 [(5, s13.v)] ∧ St [] w0 w m [q13] ∧ OwnL m 3 q13 s13 out_12) hl1 ⟨[], nilS, _, _, rfl, hF.sub ⟨rfl, rfl, rfl, rfl, rfl, trivial⟩, hS.sel [1, 0] (by decide), (OwnL.nil (α := Int) m 3)⟩ ?_ ?_
 ·clear hF hS
  rintro s a w st ⟨q4, s4, out_3, t_5, rfl, hF, hS, h4⟩ hb1
  unfold spec_gLevel_l1 at hb1
  refine q_seq (q_region (q_x (v := (.bool (decide (t_5 < (goLen p_g.Parents))))) hF hS (ex_ibin rfl rfl rfl) rfl rfl fun a hF => q_end (n_sq (q_seq ?_))))
  rcases bcase (decide (t_5 < (goLen p_g.Parents))) with hc2 | hc2
  ·have hb1 := cond_f hc2 hb1
   refine q_cond_f hF rfl hc2 (q_exit (x_sq ?_))
   obtain rfl := someI hb1
   exact ⟨nofun, .inl ⟨q4, s4, rfl, hF.sub ⟨rfl, trivial⟩, hS.mask [true, false], h4⟩⟩
  ·have hb1 := cond_t hc2 hb1
   refine q_cond_t hF rfl hc2 (q_skipc (n_sq (q_seq (q_block (q_seq (q_region (q_x (v := (.int .i64 t_5)) hF hS (ex_move rfl) rfl rfl fun a hF => q_x (v := (.int .i64 t_5)) hF hS (ex_assign rfl) rfl rfl fun a hF => q_end (n_sq (q_seq (q_region (q_x (v := (.agg #[s1.v])) hF hS (ex_loadA (vs := [s1.v]) 1 0 Tryd.underlying60 rfl sz60 rfl rfl rfl rfl) rfl rfl fun a hF => q_x (v := (.int .i64 t_5)) hF hS (ex_move rfl) rfl rfl fun a hF => ?_)))))))))))
   obtain ⟨t_6, ht_6, hb1⟩ := bindS hb1
   refine q_call (vs := [(.agg #[s1.v]), (.int .i64 t_5)]) hF hS Tryd.func129 (by kernel_rfl) rfl rfl rfl (c_spec_gDepth p_g t_5 t_6 ht_6 _ m hS.vis s1 h1) ?_
   rintro a w _ rfl hF hS
   refine q_x (v := (.int .i64 p_level)) hF hS (ex_move rfl) rfl rfl fun a hF => q_x (v := (.bool (t_6 == p_level))) hF hS (ex_ibin rfl rfl rfl) rfl rfl fun a hF => q_end (n_sq ?_)
   obtain ⟨out_10, hj3, hb1⟩ := bindS hb1
   refine q_join (fun a w => ∃ (q11 : Piece), ∃ (s11 : Sl), Fr a 24 [(1, (.int .i64 p_level)), (2, (.pointer (some ⟨b2, 0, none⟩))), (5, s11.v), (9, (.int .i64 (goLen p_g.Parents))), (10, (.int .i64 t_5))] ∧ St [] w0 w m [q11, [⟨b2, [s1.v], 60⟩]] ∧ OwnL m 3 q11 s11 out_10) ?_ ?_
   ·rcases bcase (t_6 == p_level) with hc4 | hc4
    ·have hj3 := cond_f hc4 hj3
     refine q_cond_f hF rfl hc4 (q_skipc (n_jn ?_))
     obtain rfl := someI hj3
     exact ⟨q4, s4, hF.sub ⟨rfl, rfl, rfl, rfl, rfl, trivial⟩, hS, h4⟩
    ·have hj3 := cond_t hc4 hj3
     refine q_cond_t hF rfl hc4 (q_region (q_x (v := s4.v) hF hS (ex_move rfl) rfl rfl fun a hF => q_x (v := (.int .i64 t_5)) hF hS (ex_move rfl) rfl rfl fun a hF => q_do rfl fun _ hK => wp_buildSlice' (l := ([t_5] : List Int)) (cells := [(.int .i64 t_5)]) hF hS Tryd.underlying42 inf3 rfl rfl (by kernel_rfl) rfl rfl rfl ⟨rfl, rfl⟩ rfl rfl fun a w q7 s7 hF hS h7 _ => hK _ _ ?_))
     have hS : St _ _ _ _ [q4, q7, [⟨b2, [s1.v], 60⟩]] := hS.sel [1, 0, 2] (by decide)
     obtain ⟨l_8, hl_8, hj3⟩ := bindS hj3
     refine q_do rfl fun _ hK => wp_append hF hS h4 Tryd.underlying42 inf3 rfl rfl rfl rfl (h7.vw hS (j := 1) rfl) rfl (by decide) hl_8 rfl fun a w q9 s9 hF hS h9 => hK _ _ (q_x (v := s9.v) hF hS (ex_assign rfl) rfl rfl fun a hF => q_end (n_jn ?_))
     obtain rfl := someI hj3
     exact ⟨q9, s9, hF.sub ⟨rfl, rfl, rfl, rfl, rfl, trivial⟩, hS.mask [true, false, true], h9⟩
   ·rintro a w ⟨q11, s11, hF, hS, h11⟩
    refine n_ib (n_sq ?_)
    refine q_region (q_x (v := (.int .i64 (w64 (t_5 + 1)))) hF hS (ex_ibin rfl rfl rfl) rfl rfl fun a hF => q_x (v := (.int .i64 (w64 (t_5 + 1)))) hF hS (ex_move rfl) rfl rfl fun a hF => q_end ?_)
    obtain rfl := someI hb1
    exact ⟨rfl, q11, s11, _, _, rfl, hF.sub ⟨rfl, rfl, rfl, rfl, rfl, trivial⟩, hS, h11⟩
 ·rintro e a w ⟨q13, s13, rfl, hF, hS, h13⟩
  refine x_ib (n_sq ?_)
  refine q_seq (q_region (q_x (v := s13.v) hF hS (ex_move rfl) rfl rfl fun a hF => q_x (v := s13.v) hF hS (ex_assign rfl) rfl rfl fun a hF => q_end (n_sq (q_ret ?_))))
  obtain rfl := someI hr
  exact ret_of hF hS rfl (.tmp rfl .nil) ⟨q13, s13, rfl, hS.sel [0] (by decide), h13⟩

theorem c_spec_LevelOf (p_g : impl_Geo) (p_level : Int) (r : (List Int) × Bool) (hr : spec_LevelOf p_g p_level = some r) (w0 : World) (m : Mem) (hv : Vis m w0) (s1 : Sl) (h1 : Rd m s1 p_g.Parents) :
  Ret Tryd.prog 43 [(.agg #[s1.v]), (.int .i64 p_level)] w0 (fun v w => ∃ (q0' : Piece) (s0' : Sl), v = (.tuple #[s0'.v, (.bool r.2)]) ∧ St [] w0 w m [q0'] ∧ OwnL m 3 q0' s0' r.1) := by
 unfold spec_LevelOf at hr
 refine ret_start Tryd.func43 rfl 17 rfl rfl m hv fun a hF hS => q_seq (q_region (q_box (cs := [s1.v]) hF hS rfl rfl rfl fun a w b2 hF hS => q_x (v := nilS.v) hF hS (ex_assign rfl) rfl rfl fun a hF => q_x (v := (.bool false)) hF hS (ex_assign rfl) rfl rfl fun a hF => q_end (n_sq (q_seq (q_seq (q_region (q_x (v := (.agg #[s1.v])) hF hS (ex_loadA (vs := [s1.v]) 0 0 Tryd.underlying60 rfl sz60 rfl rfl rfl rfl) rfl rfl fun a hF => ?_)))))))
 obtain ⟨t_3, ht_3, hr⟩ := bindS hr
 refine q_call (vs := [(.agg #[s1.v])]) hF hS Tryd.func92 (by kernel_rfl) rfl rfl rfl (c_spec_gGood p_g t_3 ht_3 _ m hS.vis s1 h1) ?_
 rintro a w _ rfl hF hS
 refine q_x (v := (.bool (!t_3))) hF hS (ex_not rfl) rfl rfl fun a hF => q_end (n_sq ?_)
 rcases bcase (!t_3) with hc1 | hc1
 ·have hr := cond_f hc1 hr
  refine q_cond_f hF rfl hc1 (q_skipc (n_sq (q_seq (q_region (q_x (v := (.agg #[s1.v])) hF hS (ex_loadA (vs := [s1.v]) 0 0 Tryd.underlying60 rfl sz60 rfl rfl rfl rfl) rfl rfl fun a hF => q_x (v := (.int .i64 p_level)) hF hS (ex_move rfl) rfl rfl fun a hF => ?_)))))
  obtain ⟨t_4, ht_4, hr⟩ := bindS hr
  refine q_call (vs := [(.agg #[s1.v]), (.int .i64 p_level)]) hF hS Tryd.func98 (by kernel_rfl) rfl rfl rfl (c_spec_gLevel p_g p_level t_4 ht_4 _ m hS.vis s1 h1) ?_
  rintro a w _ ⟨q6, s6, rfl, hR5, h6⟩ hF hS2
  have hS : St _ _ _ _ [q6, [⟨b2, [s1.v], 60⟩]] := hS.joinF hR5
  refine q_x (v := s6.v) hF hS (ex_assign rfl) rfl rfl fun a hF => q_end (n_sq (q_seq (q_region (q_x (v := s6.v) hF hS (ex_move rfl) rfl rfl fun a hF => q_x (v := s6.v) hF hS (ex_move rfl) rfl rfl fun a hF => q_x (v := (.int .i64 (goLen t_4))) hF hS (ex_len Tryd.underlying42 rfl h6.len) rfl rfl fun a hF => q_x (v := (.bool (decide (0 < (goLen t_4))))) hF hS (ex_ibin rfl rfl rfl) rfl rfl fun a hF => q_x (v := s6.v) hF hS (ex_assign rfl) rfl rfl fun a hF => q_x (v := (.bool (decide (0 < (goLen t_4))))) hF hS (ex_assign rfl) rfl rfl fun a hF => q_end (n_sq (q_ret ?_))))))
  obtain rfl := someI hr
  exact ret_of hF hS rfl (.tmp rfl (.tmp rfl .nil)) ⟨q6, s6, rfl, hS.sel [0] (by decide), h6⟩
 ·have hr := cond_t hc1 hr
  refine q_cond_t hF rfl hc1 (q_seq (q_region (q_x (v := nilS.v) hF hS (ex_assign rfl) rfl rfl fun a hF => q_x (v := (.bool false)) hF hS (ex_assign rfl) rfl rfl fun a hF => q_end (n_sq (q_ret (r_sq ?_))))))
  obtain rfl := someI hr
  exact ret_of hF hS rfl (.tmp rfl (.tmp rfl .nil)) ⟨[], nilS, rfl, hS.sel [1] (by decide), (OwnL.nil (α := Int) m 3)⟩

theorem c_spec_l1Cur_one (p_c : spec_l1Cur) (p_n : Int) (r : Bool × spec_l1Cur) (hr : spec_l1Cur_one p_c p_n = some r) (w0 : World) (m : Mem) (b_p_c : Nat) (s1 : Sl) (h1 : Rd m s1 p_c.code) (X : List Nat) (hS : St X w0 w0 m [[⟨b_p_c, [s1.v, (.int .i64 p_c.at_), (.int .u64 p_c.seed.v)], 76⟩]]) :
  RetX Tryd.prog 50 [(.pointer (some ⟨b_p_c, 0, none⟩)), (.int .i64 p_n)] w0 (fun v w => v = (.bool r.1) ∧ St X w0 w m [[⟨b_p_c, [s1.v, (.int .i64 r.2.at_), (.int .u64 r.2.seed.v)], 76⟩]] ∧ r.2.code = p_c.code) := by
 unfold spec_l1Cur_one at hr
 refine ret_startX Tryd.func50 rfl 9 rfl rfl fun a hF => q_seq (q_region (q_x (v := (.bool false)) hF hS (ex_assign rfl) rfl rfl fun a hF => q_end (n_sq (q_seq (q_region (q_x (v := (.pointer (some ⟨b_p_c, 0, none⟩))) hF hS (ex_move rfl) rfl rfl fun a hF => q_x (v := (.int .i64 p_n)) hF hS (ex_move rfl) rfl rfl fun a hF => ?_))))))
 have hS2 : St _ _ _ _ ([[⟨b_p_c, [s1.v, (.int .i64 p_c.at_), (.int .u64 p_c.seed.v)], 76⟩]] ++ []) := hS
 have hE2 := hS2.enter
 obtain ⟨t_3, ht_3, hr⟩ := bindS hr
 refine q_do rfl fun _ hK => wp_callX (vs := [(.pointer (some ⟨b_p_c, 0, none⟩)), (.int .i64 p_n)]) hF Tryd.func52 (by kernel_rfl) rfl rfl rfl (c_spec_l1Cur_pick p_c p_n t_3 ht_3 _ m b_p_c s1 h1 _ hE2) fun a w _ hR hF => hK _ _ ?_
 obtain ⟨rfl, hR2, hk4⟩ := hR
 have hS : St _ _ _ _ [[⟨b_p_c, [s1.v, (.int .i64 t_3.2.at_), (.int .u64 t_3.2.seed.v)], 76⟩]] := hS2.leaveF hR2
 have h4 : Rd m s1 t_3.2.code := by rw [hk4]; exact h1
 refine q_x (v := (.bool (t_3.1 == 0))) hF hS (ex_ibin rfl rfl rfl) rfl rfl fun a hF => q_x (v := (.bool (t_3.1 == 0))) hF hS (ex_assign rfl) rfl rfl fun a hF => q_end (n_sq (q_ret ?_))
 obtain rfl := someI hr
 exact ret_ofX hF hS rfl (.tmp rfl .nil) ⟨rfl, hS.sel [0] (by decide), hk4⟩

theorem c_spec_l1Cur_spoilt (p_c : spec_l1Cur) (p_t : List UInt8) (p_with : List UInt8) (r : (List UInt8) × spec_l1Cur) (hr : spec_l1Cur_spoilt p_c p_t p_with = some r) (w0 : World) (m : Mem) (b_p_c : Nat) (s1 : Sl) (h1 : Rd m s1 p_c.code) (X : List Nat) (hS : St X w0 w0 m [[⟨b_p_c, [s1.v, (.int .i64 p_c.at_), (.int .u64 p_c.seed.v)], 76⟩]]) :
  RetX Tryd.prog 100 [(.pointer (some ⟨b_p_c, 0, none⟩)), (strV p_t), (strV p_with)] w0 (fun v w => v = (strV r.1) ∧ St X w0 w m [[⟨b_p_c, [s1.v, (.int .i64 r.2.at_), (.int .u64 r.2.seed.v)], 76⟩]] ∧ r.2.code = p_c.code) := by
 unfold spec_l1Cur_spoilt at hr
 refine ret_startX Tryd.func100 rfl 68 rfl rfl fun a hF => q_seq (q_region (q_x (v := (strV ([] : List UInt8))) hF hS (ex_assign rfl) rfl rfl fun a hF => q_end (n_sq (q_seq (q_seq (q_region (q_x (v := (.pointer (some ⟨b_p_c, 0, none⟩))) hF hS (ex_move rfl) rfl rfl fun a hF => ?_)))))))
 have hS2 : St _ _ _ _ ([[⟨b_p_c, [s1.v, (.int .i64 p_c.at_), (.int .u64 p_c.seed.v)], 76⟩]] ++ []) := hS
 have hE2 := hS2.enter
 obtain ⟨t_3, ht_3, hr⟩ := bindS hr
 refine q_do rfl fun _ hK => wp_callX (vs := [(.pointer (some ⟨b_p_c, 0, none⟩)), (.int .i64 2)]) hF Tryd.func52 (by kernel_rfl) rfl rfl rfl (c_spec_l1Cur_pick p_c 2 t_3 ht_3 _ m b_p_c s1 h1 _ hE2) fun a w _ hR hF => hK _ _ ?_
 obtain ⟨rfl, hR2, hk4⟩ := hR
 have hS : St _ _ _ _ [[⟨b_p_c, [s1.v, (.int .i64 t_3.2.at_), (.int .u64 t_3.2.seed.v)], 76⟩]] := hS2.leaveF hR2
 have h4 : Rd m s1 t_3.2.code := by rw [hk4]; exact h1
 refine q_x (v := (.int .i64 (w64 (1 + t_3.1)))) hF hS (ex_ibin rfl rfl rfl) rfl rfl fun a hF => q_x (v := (.int .i64 (w64 (1 + t_3.1)))) hF hS (ex_assign rfl) rfl rfl fun a hF => q_end (n_sq (q_block ?_))
 obtain ⟨o1, hl1, hr⟩ := bindS hr
 refine q_loop (fun (s : (List UInt8) × Int × spec_l1Cur) a w => ∃ t_5, ∃ n_6, ∃ p_c_7, s = (t_5, n_6, p_c_7) ∧ Fr a 68 [(0, (.pointer (some ⟨b_p_c, 0, none⟩))), (1, (strV t_5)), (2, (strV p_with)), (7, (.int .i64 n_6))] ∧ St X w0 w m [[⟨b_p_c, [s1.v, (.int .i64 p_c_7.at_), (.int .u64 p_c_7.seed.v)], 76⟩]] ∧ Rd m s1 p_c_7.code ∧ p_c_7.code = p_c.code) (fun (o : (List UInt8) × spec_l1Cur) e a w => ∃ t_34, ∃ p_c_35, o = (t_34, p_c_35) ∧ e = .exit 0 ∧ Fr a 68 [(1, (strV t_34))] ∧ St X w0 w m [[⟨b_p_c, [s1.v, (.int .i64 p_c_35.at_), (.int .u64 p_c_35.seed.v)], 76⟩]] ∧ Rd m s1 p_c_35.code ∧ p_c_35.code = p_c.code) hl1 ⟨_, _, _, rfl, hF.sub ⟨rfl, rfl, rfl, rfl, trivial⟩, hS, h4, hk4⟩ ?_ ?_
 ·clear hF hS
  rintro s a w st ⟨t_5, n_6, p_c_7, rfl, hF, hS, h8, h8k⟩ hb1
  unfold spec_l1Cur_spoilt_l1 at hb1
  refine q_seq (q_seq ?_)
  obtain ⟨t_9, hj2, hb1⟩ := bindS hb1
  refine q_join (fun a w => Fr a 68 [(0, (.pointer (some ⟨b_p_c, 0, none⟩))), (1, (strV t_5)), (2, (strV p_with)), (7, (.int .i64 n_6)), (19, (.bool t_9))] ∧ St X w0 w m [[⟨b_p_c, [s1.v, (.int .i64 p_c_7.at_), (.int .u64 p_c_7.seed.v)], 76⟩]]) ?_ ?_
  ·refine q_region (q_x (v := (.int .i64 n_6)) hF hS (ex_move rfl) rfl rfl fun a hF => q_x (v := (.bool (decide (0 < n_6)))) hF hS (ex_ibin rfl rfl rfl) rfl rfl fun a hF => q_x (v := (.bool (decide (0 < n_6)))) hF hS (ex_move rfl) rfl rfl fun a hF => ?_)
   rcases bcase (decide (0 < n_6)) with hc3 | hc3
   ·have hj2 := cond_f hc3 hj2
    refine q_skip hF (wanted_f hF rfl rfl rfl hc3 rfl) rfl fun a hF => q_skip hF (wanted_f hF rfl rfl rfl hc3 rfl) rfl fun a hF => q_skip hF (wanted_f hF rfl rfl rfl hc3 rfl) rfl fun a hF => q_x (v := (.bool false)) hF hS (ex_pick_f rfl rfl hc3) rfl rfl fun a hF => q_end (n_jn ?_)
    obtain rfl := someI hj2
    exact ⟨hF.sub ⟨rfl, rfl, rfl, rfl, rfl, trivial⟩, hS⟩
   ·have hj2 := cond_t hc3 hj2
    refine q_xg (v := (strV t_5)) hF hS (ex_move rfl) (wanted_t hF rfl rfl rfl hc3) rfl fun a hF => q_xg (v := (.int .i64 (goLen t_5))) hF hS (ex_strLen Tryd.underlying9 rfl) (wanted_t hF rfl rfl rfl hc3) rfl fun a hF => q_xg (v := (.bool (decide (0 < (goLen t_5))))) hF hS (ex_ibin rfl rfl rfl) (wanted_t hF rfl rfl rfl hc3) rfl fun a hF => q_x (v := (.bool (decide (0 < (goLen t_5))))) hF hS (ex_pick_t rfl rfl hc3) rfl rfl fun a hF => q_end (n_jn ?_)
    obtain rfl := someI hj2
    exact ⟨hF.sub ⟨rfl, rfl, rfl, rfl, rfl, trivial⟩, hS⟩
  ·rintro a w ⟨hF, hS⟩
   refine n_sq ?_
   rcases bcase (t_9) with hc4 | hc4
   ·have hb1 := cond_f hc4 hb1
    refine q_cond_f hF rfl hc4 (q_exit (x_sq ?_))
    obtain rfl := someI hb1
    exact ⟨nofun, .inl ⟨_, _, rfl, rfl, hF.sub ⟨rfl, trivial⟩, hS, h8, h8k⟩⟩
   ·have hb1 := cond_t hc4 hb1
    refine q_cond_t hF rfl hc4 (q_skipc (n_sq (q_seq (q_block (q_seq (q_region (q_x (v := (.pointer (some ⟨b_p_c, 0, none⟩))) hF hS (ex_move rfl) rfl rfl fun a hF => q_x (v := (strV t_5)) hF hS (ex_move rfl) rfl rfl fun a hF => q_x (v := (.int .i64 (goLen t_5))) hF hS (ex_strLen Tryd.underlying9 rfl) rfl rfl fun a hF => ?_)))))))
    have hS10 : St _ _ _ _ ([[⟨b_p_c, [s1.v, (.int .i64 p_c_7.at_), (.int .u64 p_c_7.seed.v)], 76⟩]] ++ []) := hS
    have hE10 := hS10.enter
    obtain ⟨t_11, ht_11, hb1⟩ := bindS hb1
    refine q_do rfl fun _ hK => wp_callX (vs := [(.pointer (some ⟨b_p_c, 0, none⟩)), (.int .i64 (goLen t_5))]) hF Tryd.func52 (by kernel_rfl) rfl rfl rfl (c_spec_l1Cur_pick p_c_7 (goLen t_5) t_11 ht_11 _ m b_p_c s1 h8 _ hE10) fun a w _ hR hF => hK _ _ ?_
    obtain ⟨rfl, hR10, hk12⟩ := hR
    have hS : St _ _ _ _ [[⟨b_p_c, [s1.v, (.int .i64 t_11.2.at_), (.int .u64 t_11.2.seed.v)], 76⟩]] := hS10.leaveF hR10
    have h12 : Rd m s1 t_11.2.code := by rw [hk12]; exact h8
    refine q_x (v := (.int .i64 t_11.1)) hF hS (ex_assign rfl) rfl rfl fun a hF => q_end (n_sq (q_seq (q_region (q_x (v := (strV p_with)) hF hS (ex_move rfl) rfl rfl fun a hF => q_x (v := (.pointer (some ⟨b_p_c, 0, none⟩))) hF hS (ex_move rfl) rfl rfl fun a hF => q_x (v := (strV p_with)) hF hS (ex_move rfl) rfl rfl fun a hF => q_x (v := (.int .i64 (goLen p_with))) hF hS (ex_strLen Tryd.underlying9 rfl) rfl rfl fun a hF => ?_))))
    have hS13 : St _ _ _ _ ([[⟨b_p_c, [s1.v, (.int .i64 t_11.2.at_), (.int .u64 t_11.2.seed.v)], 76⟩]] ++ []) := hS
    have hE13 := hS13.enter
    obtain ⟨t_14, ht_14, hb1⟩ := bindS hb1
    refine q_do rfl fun _ hK => wp_callX (vs := [(.pointer (some ⟨b_p_c, 0, none⟩)), (.int .i64 (goLen p_with))]) hF Tryd.func52 (by kernel_rfl) rfl rfl rfl (c_spec_l1Cur_pick t_11.2 (goLen p_with) t_14 ht_14 _ m b_p_c s1 h12 _ hE13) fun a w _ hR hF => hK _ _ ?_
    obtain ⟨rfl, hR13, hk15⟩ := hR
    have hS : St _ _ _ _ [[⟨b_p_c, [s1.v, (.int .i64 t_14.2.at_), (.int .u64 t_14.2.seed.v)], 76⟩]] := hS13.leaveF hR13
    have h15 : Rd m s1 t_14.2.code := by rw [hk15]; exact h12
    obtain ⟨t_16, ht_16, hb1⟩ := bindS hb1
    refine q_x (v := (.int .u8 t_16)) hF hS (ex_strIdx Tryd.underlying9 rfl rfl ht_16) rfl rfl fun a hF => q_do rfl fun _ hK => wp_buildSlice' (l := ([(⟨t_16⟩ : K .u8)] : List (K .u8))) (cells := [(.int .u8 t_16)]) hF hS Tryd.underlying22 inf5 rfl rfl (by kernel_rfl) rfl rfl rfl ⟨rfl, rfl⟩ rfl rfl fun a w q17 s17 hF hS h17 _ => hK _ _ (q_x (v := (strV (goBytes ([(⟨t_16⟩ : K .u8)] : List (K .u8))))) hF hS (ex_toStr Tryd.underlying22 Tryd.underlying5 Tryd.underlying9 rfl (fun X w0 w hS => h17.vw hS (j := 0) rfl)) rfl rfl fun a hF => q_x (v := (strV (goBytes ([(⟨t_16⟩ : K .u8)] : List (K .u8))))) hF hS (ex_assign rfl) rfl rfl fun a hF => q_end (n_sq (q_seq (q_region (q_x (v := (.pointer (some ⟨b_p_c, 0, none⟩))) hF hS (ex_move rfl) rfl rfl fun a hF => ?_)))))
    have hS : St _ _ _ _ [[⟨b_p_c, [s1.v, (.int .i64 t_14.2.at_), (.int .u64 t_14.2.seed.v)], 76⟩], q17] := hS.sel [1, 0] (by decide)
    have hS18 : St _ _ _ _ ([[⟨b_p_c, [s1.v, (.int .i64 t_14.2.at_), (.int .u64 t_14.2.seed.v)], 76⟩]] ++ [q17]) := hS
    have hE18 := hS18.enter
    obtain ⟨t_19, ht_19, hb1⟩ := bindS hb1
    refine q_do rfl fun _ hK => wp_callX (vs := [(.pointer (some ⟨b_p_c, 0, none⟩)), (.int .i64 3)]) hF Tryd.func52 (by kernel_rfl) rfl rfl rfl (c_spec_l1Cur_pick t_14.2 3 t_19 ht_19 _ m b_p_c s1 h15 _ hE18) fun a w _ hR hF => hK _ _ ?_
    obtain ⟨rfl, hR18, hk20⟩ := hR
    have hS : St _ _ _ _ [[⟨b_p_c, [s1.v, (.int .i64 t_19.2.at_), (.int .u64 t_19.2.seed.v)], 76⟩], q17] := hS18.leaveF hR18
    have h20 : Rd m s1 t_19.2.code := by rw [hk20]; exact h15
    refine q_end (n_sq (q_block (q_seq (q_region (q_x (v := (.bool (t_19.1 == 0))) hF hS (ex_ibin rfl rfl rfl) rfl rfl fun a hF => q_x (v := (.bool (t_19.1 == 0))) hF hS (ex_assign rfl) rfl rfl fun a hF => q_end (n_sq ?_))))))
    obtain ⟨t_33, hj5, hb1⟩ := bindS hb1
    refine q_join (fun a w => Fr a 68 [(0, (.pointer (some ⟨b_p_c, 0, none⟩))), (1, (strV t_33)), (2, (strV p_with)), (7, (.int .i64 n_6))] ∧ St X w0 w m [[⟨b_p_c, [s1.v, (.int .i64 t_19.2.at_), (.int .u64 t_19.2.seed.v)], 76⟩]]) ?_ ?_
    ·rcases bcase (t_19.1 == 0) with hc6 | hc6
     ·have hj5 := cond_f hc6 hj5
      refine q_cond_f hF rfl hc6 (q_seq (q_region (q_x (v := (.bool (t_19.1 == 1))) hF hS (ex_ibin rfl rfl rfl) rfl rfl fun a hF => q_x (v := (.bool (t_19.1 == 1))) hF hS (ex_assign rfl) rfl rfl fun a hF => q_end (n_sq ?_))))
      obtain ⟨t_28, hj7, hj5⟩ := bindS hj5
      refine q_join (fun a w => Fr a 68 [(0, (.pointer (some ⟨b_p_c, 0, none⟩))), (1, (strV t_28)), (2, (strV p_with)), (7, (.int .i64 n_6))] ∧ St X w0 w m [[⟨b_p_c, [s1.v, (.int .i64 t_19.2.at_), (.int .u64 t_19.2.seed.v)], 76⟩]]) ?_ ?_
      ·rcases bcase (t_19.1 == 1) with hc8 | hc8
       ·have hj7 := cond_f hc8 hj7
        refine q_cond_f hF rfl hc8 (e_region ⟨[], []⟩ mixed fun w' hw' => ?_)
        have hS := hS.below hw'
        refine e_p (v := (strV t_5)) 0 hF rfl (ex_move rfl) rfl rfl (by kernel_rfl) (by kernel_rfl) (by kernel_rfl) fun a hF => e_p (v := (.int .i64 t_11.1)) 1 hF rfl (ex_move rfl) rfl rfl (by kernel_rfl) (by kernel_rfl) (by kernel_rfl) fun a hF => ?_
        obtain ⟨t_21, ht_21, hj7⟩ := bindS hj7
        refine e_p (v := (strV t_21)) 2 hF rfl (ex_strSub Tryd.underlying9 rfl rfl rfl (.inl ⟨rfl, rfl⟩) (.inr ⟨_, rfl⟩) ht_21) rfl rfl (by kernel_rfl) (by kernel_rfl) (by kernel_rfl) fun a hF => e_p (v := (strV t_5)) 3 hF rfl (ex_move rfl) rfl rfl (by kernel_rfl) (by kernel_rfl) (by kernel_rfl) fun a hF => e_p (v := (.int .i64 t_11.1)) 4 hF rfl (ex_move rfl) rfl rfl (by kernel_rfl) (by kernel_rfl) (by kernel_rfl) fun a hF => e_p (v := (.int .i64 (w64 (t_11.1 + 1)))) 5 hF rfl (ex_ibin rfl rfl rfl) rfl rfl (by kernel_rfl) (by kernel_rfl) (by kernel_rfl) fun a hF => ?_
        obtain ⟨t_22, ht_22, hj7⟩ := bindS hj7
        refine e_p (v := (strV t_22)) 6 hF rfl (ex_strSub Tryd.underlying9 rfl rfl rfl (.inr ⟨_, rfl⟩) (.inl ⟨rfl, rfl⟩) ht_22) rfl rfl (by kernel_rfl) (by kernel_rfl) (by kernel_rfl) fun a hF => ?_
        obtain ⟨t_23, ht_23, hj7⟩ := bindS hj7
        refine e_p (v := (strV t_23)) 7 hF rfl (ex_strCat rfl rfl ht_23) rfl rfl (by kernel_rfl) (by kernel_rfl) (by kernel_rfl) fun a hF => e_p (v := (strV t_23)) 8 hF rfl (ex_assign rfl) rfl rfl (by kernel_rfl) (by kernel_rfl) (by kernel_rfl) fun a hF => e_end (by kernel_rfl) (n_jn ?_) _
        obtain rfl := someI hj7
        exact ⟨hF.sub ⟨rfl, rfl, rfl, rfl, trivial⟩, hS.mask [true, false]⟩
       ·have hj7 := cond_t hc8 hj7
        refine q_cond_t hF rfl hc8 (e_region ⟨[], []⟩ mixed fun w' hw' => ?_)
        have hS := hS.below hw'
        refine e_p (v := (strV t_5)) 0 hF rfl (ex_move rfl) rfl rfl (by kernel_rfl) (by kernel_rfl) (by kernel_rfl) fun a hF => e_p (v := (.int .i64 t_11.1)) 1 hF rfl (ex_move rfl) rfl rfl (by kernel_rfl) (by kernel_rfl) (by kernel_rfl) fun a hF => ?_
        obtain ⟨t_24, ht_24, hj7⟩ := bindS hj7
        refine e_p (v := (strV t_24)) 2 hF rfl (ex_strSub Tryd.underlying9 rfl rfl rfl (.inl ⟨rfl, rfl⟩) (.inr ⟨_, rfl⟩) ht_24) rfl rfl (by kernel_rfl) (by kernel_rfl) (by kernel_rfl) fun a hF => e_p (v := (strV (goBytes ([(⟨t_16⟩ : K .u8)] : List (K .u8))))) 3 hF rfl (ex_move rfl) rfl rfl (by kernel_rfl) (by kernel_rfl) (by kernel_rfl) fun a hF => ?_
        obtain ⟨t_25, ht_25, hj7⟩ := bindS hj7
        refine e_p (v := (strV t_25)) 4 hF rfl (ex_strCat rfl rfl ht_25) rfl rfl (by kernel_rfl) (by kernel_rfl) (by kernel_rfl) fun a hF => e_p (v := (strV t_5)) 5 hF rfl (ex_move rfl) rfl rfl (by kernel_rfl) (by kernel_rfl) (by kernel_rfl) fun a hF => e_p (v := (.int .i64 t_11.1)) 6 hF rfl (ex_move rfl) rfl rfl (by kernel_rfl) (by kernel_rfl) (by kernel_rfl) fun a hF => e_p (v := (.int .i64 (w64 (t_11.1 + 1)))) 7 hF rfl (ex_ibin rfl rfl rfl) rfl rfl (by kernel_rfl) (by kernel_rfl) (by kernel_rfl) fun a hF => ?_
        obtain ⟨t_26, ht_26, hj7⟩ := bindS hj7
        refine e_p (v := (strV t_26)) 8 hF rfl (ex_strSub Tryd.underlying9 rfl rfl rfl (.inr ⟨_, rfl⟩) (.inl ⟨rfl, rfl⟩) ht_26) rfl rfl (by kernel_rfl) (by kernel_rfl) (by kernel_rfl) fun a hF => ?_
        obtain ⟨t_27, ht_27, hj7⟩ := bindS hj7
        refine e_p (v := (strV t_27)) 9 hF rfl (ex_strCat rfl rfl ht_27) rfl rfl (by kernel_rfl) (by kernel_rfl) (by kernel_rfl) fun a hF => e_p (v := (strV t_27)) 10 hF rfl (ex_assign rfl) rfl rfl (by kernel_rfl) (by kernel_rfl) (by kernel_rfl) fun a hF => e_end (by kernel_rfl) (n_jn ?_) _
        obtain rfl := someI hj7
        exact ⟨hF.sub ⟨rfl, rfl, rfl, rfl, trivial⟩, hS.mask [true, false]⟩
      ·rintro a w ⟨hF, hS⟩
       refine n_jn ?_
       obtain rfl := someI hj5
       exact ⟨hF.sub ⟨rfl, rfl, rfl, rfl, trivial⟩, hS⟩
     ·have hj5 := cond_t hc6 hj5
      refine q_cond_t hF rfl hc6 (e_region ⟨[], []⟩ mixed fun w' hw' => ?_)
      have hS := hS.below hw'
      refine e_p (v := (strV t_5)) 0 hF rfl (ex_move rfl) rfl rfl (by kernel_rfl) (by kernel_rfl) (by kernel_rfl) fun a hF => e_p (v := (.int .i64 t_11.1)) 1 hF rfl (ex_move rfl) rfl rfl (by kernel_rfl) (by kernel_rfl) (by kernel_rfl) fun a hF => ?_
      obtain ⟨t_29, ht_29, hj5⟩ := bindS hj5
      refine e_p (v := (strV t_29)) 2 hF rfl (ex_strSub Tryd.underlying9 rfl rfl rfl (.inl ⟨rfl, rfl⟩) (.inr ⟨_, rfl⟩) ht_29) rfl rfl (by kernel_rfl) (by kernel_rfl) (by kernel_rfl) fun a hF => e_p (v := (strV (goBytes ([(⟨t_16⟩ : K .u8)] : List (K .u8))))) 3 hF rfl (ex_move rfl) rfl rfl (by kernel_rfl) (by kernel_rfl) (by kernel_rfl) fun a hF => ?_
      obtain ⟨t_30, ht_30, hj5⟩ := bindS hj5
      refine e_p (v := (strV t_30)) 4 hF rfl (ex_strCat rfl rfl ht_30) rfl rfl (by kernel_rfl) (by kernel_rfl) (by kernel_rfl) fun a hF => e_p (v := (strV t_5)) 5 hF rfl (ex_move rfl) rfl rfl (by kernel_rfl) (by kernel_rfl) (by kernel_rfl) fun a hF => e_p (v := (.int .i64 t_11.1)) 6 hF rfl (ex_move rfl) rfl rfl (by kernel_rfl) (by kernel_rfl) (by kernel_rfl) fun a hF => ?_
      obtain ⟨t_31, ht_31, hj5⟩ := bindS hj5
      refine e_p (v := (strV t_31)) 7 hF rfl (ex_strSub Tryd.underlying9 rfl rfl rfl (.inr ⟨_, rfl⟩) (.inl ⟨rfl, rfl⟩) ht_31) rfl rfl (by kernel_rfl) (by kernel_rfl) (by kernel_rfl) fun a hF => ?_
      obtain ⟨t_32, ht_32, hj5⟩ := bindS hj5
      refine e_p (v := (strV t_32)) 8 hF rfl (ex_strCat rfl rfl ht_32) rfl rfl (by kernel_rfl) (by kernel_rfl) (by kernel_rfl) fun a hF => e_p (v := (strV t_32)) 9 hF rfl (ex_assign rfl) rfl rfl (by kernel_rfl) (by kernel_rfl) (by kernel_rfl) fun a hF => e_end (by kernel_rfl) (n_jn ?_) _
      obtain rfl := someI hj5
      exact ⟨hF.sub ⟨rfl, rfl, rfl, rfl, trivial⟩, hS.mask [true, false]⟩
    ·rintro a w ⟨hF, hS⟩
     refine n_ib (n_ib (n_sq ?_))
     refine q_region (q_x (v := (.int .i64 n_6)) hF hS (ex_move rfl) rfl rfl fun a hF => q_x (v := (.int .i64 (w64 (n_6 - 1)))) hF hS (ex_ibin rfl rfl rfl) rfl rfl fun a hF => q_x (v := (.int .i64 (w64 (n_6 - 1)))) hF hS (ex_assign rfl) rfl rfl fun a hF => q_end ?_)
     obtain rfl := someI hb1
     exact ⟨rfl, _, _, _, rfl, hF.sub ⟨rfl, rfl, rfl, rfl, trivial⟩, hS, h20, (hk20.trans (hk15.trans (hk12.trans h8k)))⟩
 ·rintro e a w ⟨t_34, p_c_35, rfl, rfl, hF, hS, h36, h36k⟩
  refine x_ib (n_sq ?_)
  refine q_seq (q_region (q_x (v := (strV t_34)) hF hS (ex_move rfl) rfl rfl fun a hF => q_x (v := (strV t_34)) hF hS (ex_assign rfl) rfl rfl fun a hF => q_end (n_sq (q_ret ?_))))
  obtain rfl := someI hr
  exact ret_ofX hF hS rfl (.tmp rfl .nil) ⟨rfl, hS.sel [0] (by decide), h36k⟩

theorem c_spec_DrawParseGeo (p_code : List (K .u8)) (r : (List UInt8)) (hr : spec_DrawParseGeo p_code = some r) (w0 : World) (m : Mem) (hv : Vis m w0) (s1 : Sl) (h1 : Rd m s1 p_code) :
  Ret Tryd.prog 44 [s1.v] w0 (fun v _ => v = (strV r)) := by
 unfold spec_DrawParseGeo at hr
 refine ret_start Tryd.func44 rfl 17 rfl rfl m hv fun a hF hS => q_seq (q_region (q_x (v := (strV ([] : List UInt8))) hF hS (ex_assign rfl) rfl rfl fun a hF => q_end (n_sq (q_seq (q_region (q_x (v := s1.v) hF hS (ex_move rfl) rfl rfl fun a hF => q_x (v := (.agg #[s1.v, (.int .i64 0), (.int .u64 0)])) hF hS (ex_build (cells := [s1.v, (.int .i64 0), (.int .u64 0)]) rfl (by kernel_rfl)) rfl rfl fun a hF => q_box (cs := [s1.v, (.int .i64 0), (.int .u64 0)]) hF hS rfl rfl rfl fun a w b2 hF hS => q_x (v := (.pointer (some ⟨b2, 0, none⟩))) hF hS (ex_assign rfl) rfl rfl fun a hF => q_end (n_sq (q_seq (q_region (q_x (v := (.pointer (some ⟨b2, 0, none⟩))) hF hS (ex_move rfl) rfl rfl fun a hF => ?_))))))))))
 have hS3 : St _ _ _ _ ([[⟨b2, [s1.v, (.int .i64 0), (.int .u64 0)], 76⟩]] ++ []) := hS
 have hE3 := hS3.enter
 obtain ⟨t_4, ht_4, hr⟩ := bindS hr
 refine q_do rfl fun _ hK => wp_callX (vs := [(.pointer (some ⟨b2, 0, none⟩))]) hF Tryd.func99 (by kernel_rfl) rfl rfl rfl (c_spec_l1Cur_geo (spec_l1Cur.mk p_code 0 (⟨0⟩ : K .u64)) t_4 ht_4 _ m b2 s1 h1 _ hE3) fun a w _ hR hF => hK _ _ ?_
 obtain ⟨m3', q5, s5, rfl, hm3, hR3, h5, hk6⟩ := hR
 have hS : St _ _ _ _ [[⟨b2, [s1.v, (.int .i64 t_4.2.at_), (.int .u64 t_4.2.seed.v)], 76⟩], q5] := hS3.leave hR3 hm3
 have hm3 := MLe.weakX hS3 hm3
 have h6 : Rd m3' s1 t_4.2.code := by rw [hk6]; exact (h1.mono hm3.le)
 obtain ⟨m8, hl8, hv8, hz8⟩ := hS.lend
 obtain ⟨t_7, ht_7, hr⟩ := bindS hr
 refine q_call (vs := [(.agg #[s5.v]), (.int .i64 0)]) hF hS Tryd.func93 (by kernel_rfl) rfl rfl rfl (c_spec_gText t_4.1 0 t_7 ht_7 _ m8 hv8 s5 (h5.froz hl8 (hz8 1 _ rfl))) ?_
 rintro a w _ rfl hF hS
 refine q_x (v := (strV t_7)) hF hS (ex_assign rfl) rfl rfl fun a hF => q_end (n_sq (q_seq (q_seq (q_region (q_x (v := (.pointer (some ⟨b2, 0, none⟩))) hF hS (ex_move rfl) rfl rfl fun a hF => ?_)))))
 have hS9 : St _ _ _ _ ([[⟨b2, [s1.v, (.int .i64 t_4.2.at_), (.int .u64 t_4.2.seed.v)], 76⟩]] ++ [q5]) := hS
 have hE9 := hS9.enter
 obtain ⟨t_10, ht_10, hr⟩ := bindS hr
 refine q_do rfl fun _ hK => wp_callX (vs := [(.pointer (some ⟨b2, 0, none⟩)), (.int .i64 3)]) hF Tryd.func50 (by kernel_rfl) rfl rfl rfl (c_spec_l1Cur_one t_4.2 3 t_10 ht_10 _ m3' b2 s1 h6 _ hE9) fun a w _ hR hF => hK _ _ ?_
 obtain ⟨rfl, hR9, hk11⟩ := hR
 have hS : St _ _ _ _ [[⟨b2, [s1.v, (.int .i64 t_10.2.at_), (.int .u64 t_10.2.seed.v)], 76⟩], q5] := hS9.leaveF hR9
 have h11 : Rd m3' s1 t_10.2.code := by rw [hk11]; exact h6
 refine q_end (n_sq ?_)
 rcases bcase (t_10.1) with hc1 | hc1
 ·have hr := cond_f hc1 hr
  refine q_cond_f hF rfl hc1 (q_skipc (n_sq (q_seq (q_region (q_x (v := (strV t_7)) hF hS (ex_move rfl) rfl rfl fun a hF => q_x (v := (strV t_7)) hF hS (ex_assign rfl) rfl rfl fun a hF => q_end (n_sq (q_ret ?_)))))))
  obtain rfl := someI hr
  exact ret_of hF hS rfl (.tmp rfl .nil) rfl
 ·have hr := cond_t hc1 hr
  refine q_cond_t hF rfl hc1 (q_seq (q_region (q_x (v := (.pointer (some ⟨b2, 0, none⟩))) hF hS (ex_move rfl) rfl rfl fun a hF => q_x (v := (strV t_7)) hF hS (ex_move rfl) rfl rfl fun a hF => ?_)))
  have hS12 : St _ _ _ _ ([[⟨b2, [s1.v, (.int .i64 t_10.2.at_), (.int .u64 t_10.2.seed.v)], 76⟩]] ++ [q5]) := hS
  have hE12 := hS12.enter
  obtain ⟨t_13, ht_13, hr⟩ := bindS hr
  refine q_do rfl fun _ hK => wp_callX (vs := [(.pointer (some ⟨b2, 0, none⟩)), (strV t_7), (strV ([40, 41, 48, 49, 50, 51, 32, 57] : List UInt8))]) hF Tryd.func100 (by kernel_rfl) rfl rfl rfl (c_spec_l1Cur_spoilt t_10.2 t_7 ([40, 41, 48, 49, 50, 51, 32, 57] : List UInt8) t_13 ht_13 _ m3' b2 s1 h11 _ hE12) fun a w _ hR hF => hK _ _ ?_
  obtain ⟨rfl, hR12, hk14⟩ := hR
  have hS : St _ _ _ _ [[⟨b2, [s1.v, (.int .i64 t_13.2.at_), (.int .u64 t_13.2.seed.v)], 76⟩], q5] := hS12.leaveF hR12
  have h14 : Rd m3' s1 t_13.2.code := by rw [hk14]; exact h11
  refine q_x (v := (strV t_13.1)) hF hS (ex_assign rfl) rfl rfl fun a hF => q_end (n_sq (q_ret (r_sq ?_)))
  obtain rfl := someI hr
  exact ret_of hF hS rfl (.tmp rfl .nil) rfl

theorem c_spec_l1Most (p_a : Int) (p_b : Int) (r : Int) (hr : spec_l1Most p_a p_b = some r) (w0 : World) (m : Mem) (hv : Vis m w0) :
  Ret Tryd.prog 130 [(.int .i64 p_a), (.int .i64 p_b)] w0 (fun v _ => v = (.int .i64 r)) := by
 unfold spec_l1Most at hr
 refine ret_start Tryd.func130 rfl 10 rfl rfl m hv fun a hF hS => q_seq (q_region (q_x (v := (.int .i64 0)) hF hS (ex_assign rfl) rfl rfl fun a hF => q_end (n_sq (q_seq (q_seq (q_region (q_x (v := (.int .i64 p_a)) hF hS (ex_move rfl) rfl rfl fun a hF => q_x (v := (.int .i64 p_b)) hF hS (ex_move rfl) rfl rfl fun a hF => q_x (v := (.bool (decide (p_b < p_a)))) hF hS (ex_ibin rfl rfl rfl) rfl rfl fun a hF => q_end (n_sq ?_))))))))
 rcases bcase (decide (p_b < p_a)) with hc1 | hc1
 ·have hr := cond_f hc1 hr
  refine q_cond_f hF rfl hc1 (q_skipc (n_sq (q_seq (q_region (q_x (v := (.int .i64 p_b)) hF hS (ex_move rfl) rfl rfl fun a hF => q_x (v := (.int .i64 p_b)) hF hS (ex_assign rfl) rfl rfl fun a hF => q_end (n_sq (q_ret ?_)))))))
  obtain rfl := someI hr
  exact ret_of hF hS rfl (.tmp rfl .nil) rfl
 ·have hr := cond_t hc1 hr
  refine q_cond_t hF rfl hc1 (q_seq (q_region (q_x (v := (.int .i64 p_a)) hF hS (ex_move rfl) rfl rfl fun a hF => q_x (v := (.int .i64 p_a)) hF hS (ex_assign rfl) rfl rfl fun a hF => q_end (n_sq (q_ret (r_sq ?_))))))
  obtain rfl := someI hr
  exact ret_of hF hS rfl (.tmp rfl .nil) rfl

theorem c_spec_gParse (p_s : List UInt8) (r : impl_Geo × Bool) (hr : spec_gParse p_s = some r) (w0 : World) (m : Mem) (hv : Vis m w0) :
  Ret Tryd.prog 101 [(strV p_s)] w0 (fun v w => ∃ (q0' : Piece) (s0' : Sl), v = (.tuple #[(.agg #[s0'.v]), (.bool r.2)]) ∧ St [] w0 w m [q0'] ∧ OwnL m 3 q0' s0' r.1.Parents) := by
 unfold spec_gParse at hr
 refine ret_start Tryd.func101 rfl 112 rfl rfl m hv fun a hF hS => q_seq (q_region (q_alloc (cs := [nilS.v]) hF hS rfl rfl rfl fun a w b1 hF hS => q_x (v := (.bool false)) hF hS (ex_assign rfl) rfl rfl fun a hF => q_end (n_sq (q_seq (q_region ?_)))))
 obtain ⟨l_2, hl_2, hr⟩ := bindS hr
 refine q_do rfl fun _ hK => wp_make (z := (0 : Int)) hF hS Tryd.underlying42 inf3 rfl rfl rfl rfl rfl (by decide) hl_2 rfl fun a w q3 s3 hF hS h3 _ => hK _ _ (q_x (v := s3.v) hF hS (ex_assign rfl) rfl rfl fun a hF => q_end (n_sq (q_seq (q_region (q_x (v := (.int .i64 0)) hF hS (ex_assign rfl) rfl rfl fun a hF => q_end (n_sq (q_seq (q_region (q_x (v := nilS.v) hF hS (ex_assign rfl) rfl rfl fun a hF => q_end (n_sq (q_seq (q_region (q_x (v := (.int .i64 (-1))) hF hS (ex_assign rfl) rfl rfl fun a hF => q_x (v := (.int .i64 (-1))) hF hS (ex_assign rfl) rfl rfl fun a hF => q_end (n_sq (q_seq (q_seq (q_region (q_x (v := (.int .i64 0)) hF hS (ex_assign rfl) rfl rfl fun a hF => q_end (n_sq (q_block ?_))))))))))))))))))))
 obtain ⟨o1, hl1, hr⟩ := bindS hr
 refine q_loop (fun (s : (List Int) × Int × (List Int) × Int × Int × Int) a w => ∃ (q5 : Piece), ∃ (q8 : Piece), ∃ (s8 : Sl), ∃ parents_4, ∃ n_6, ∃ stack_7, ∃ last_9, ∃ digits_10, ∃ i_11, s = (parents_4, n_6, stack_7, last_9, digits_10, i_11) ∧ Fr a 112 [(0, (strV p_s)), (2, (.pointer (some ⟨b1, 0, none⟩))), (4, s3.v), (5, (.int .i64 n_6)), (6, s8.v), (7, (.int .i64 last_9)), (8, (.int .i64 digits_10)), (9, (.int .i64 i_11))] ∧ St [] w0 w m [q5, q8, [⟨b1, [nilS.v], 60⟩]] ∧ OwnL m 3 q5 s3 parents_4 ∧ OwnL m 3 q8 s8 stack_7) (fun (o : ((List Int) × Int) ⊕ (impl_Geo × Bool)) e a w => ∃ (q51 : Piece), ∃ parents_50, ∃ n_52, o = .inl (parents_50, n_52) ∧ e = .exit 0 ∧ Fr a 112 [(0, (strV p_s)), (2, (.pointer (some ⟨b1, 0, none⟩))), (4, s3.v), (5, (.int .i64 n_52))] ∧ St [] w0 w m [q51, [⟨b1, [nilS.v], 60⟩]] ∧ OwnL m 3 q51 s3 parents_50) hl1 ⟨q3, [], nilS, _, _, _, _, _, _, rfl, hF.sub ⟨rfl, rfl, rfl, rfl, rfl, rfl, rfl, rfl, trivial⟩, hS.sel [0, 2, 1] (by decide), h3, (OwnL.nil (α := Int) m 3)⟩ ?_ ?_
 ·clear hF hS
  rintro s a w st ⟨q5, q8, s8, parents_4, n_6, stack_7, last_9, digits_10, i_11, rfl, hF, hS, h5, h8⟩ hb1
  unfold spec_gParse_l1 at hb1
  refine q_seq (q_seq (q_region (q_x (v := (.int .i64 i_11)) hF hS (ex_move rfl) rfl rfl fun a hF => q_x (v := (strV p_s)) hF hS (ex_move rfl) rfl rfl fun a hF => q_x (v := (.int .i64 (goLen p_s))) hF hS (ex_strLen Tryd.underlying9 rfl) rfl rfl fun a hF => q_x (v := (.bool (decide (i_11 ≤ (goLen p_s))))) hF hS (ex_ibin rfl rfl rfl) rfl rfl fun a hF => q_end (n_sq ?_))))
  rcases bcase (decide (i_11 ≤ (goLen p_s))) with hc2 | hc2
  ·have hb1 := cond_f hc2 hb1
   refine q_cond_f hF rfl hc2 (q_exit (x_sq ?_))
   obtain rfl := someI hb1
   exact ⟨nofun, .inl ⟨q5, _, _, rfl, rfl, hF.sub ⟨rfl, rfl, rfl, rfl, trivial⟩, hS.mask [true, false, true], h5⟩⟩
  ·have hb1 := cond_t hc2 hb1
   refine q_cond_t hF rfl hc2 (q_skipc (n_sq (q_seq ?_)))
   obtain ⟨j3, hj3, hb1⟩ := bindS hb1
   refine q_join (fun a w => ∃ (q44 : Piece), ∃ (q47 : Piece), ∃ (s47 : Sl), ∃ parents_43, ∃ n_45, ∃ stack_46, ∃ last_48, ∃ digits_49, j3 = .inl (parents_43, n_45, stack_46, last_48, digits_49) ∧ Fr a 112 [(0, (strV p_s)), (2, (.pointer (some ⟨b1, 0, none⟩))), (4, s3.v), (5, (.int .i64 n_45)), (6, s47.v), (7, (.int .i64 last_48)), (8, (.int .i64 digits_49)), (9, (.int .i64 i_11))] ∧ St [] w0 w m [q44, q47, [⟨b1, [nilS.v], 60⟩]] ∧ OwnL m 3 q44 s3 parents_43 ∧ OwnL m 3 q47 s47 stack_46) ?_ ?_
   ·refine q_block (q_seq (q_seq ?_))
    obtain ⟨t_14, hj4, hj3⟩ := bindS hj3
    refine q_join (fun a w => Fr a 112 [(0, (strV p_s)), (2, (.pointer (some ⟨b1, 0, none⟩))), (4, s3.v), (5, (.int .i64 n_6)), (6, s8.v), (7, (.int .i64 last_9)), (8, (.int .i64 digits_10)), (9, (.int .i64 i_11)), (34, (.bool t_14))] ∧ St [] w0 w m [q5, q8, [⟨b1, [nilS.v], 60⟩]]) ?_ ?_
    ·refine q_region (q_x (v := (.int .i64 i_11)) hF hS (ex_move rfl) rfl rfl fun a hF => q_x (v := (strV p_s)) hF hS (ex_move rfl) rfl rfl fun a hF => q_x (v := (.int .i64 (goLen p_s))) hF hS (ex_strLen Tryd.underlying9 rfl) rfl rfl fun a hF => q_x (v := (.bool (decide (i_11 < (goLen p_s))))) hF hS (ex_ibin rfl rfl rfl) rfl rfl fun a hF => q_x (v := (.bool (decide (i_11 < (goLen p_s))))) hF hS (ex_move rfl) rfl rfl fun a hF => ?_)
     rcases bcase (decide (i_11 < (goLen p_s))) with hc5 | hc5
     ·have hj4 := cond_f hc5 hj4
      refine q_skip hF (wanted_f hF rfl rfl rfl hc5 rfl) rfl fun a hF => q_skip hF (wanted_f hF rfl rfl rfl hc5 rfl) rfl fun a hF => q_skip hF (wanted_f hF rfl rfl rfl hc5 rfl) rfl fun a hF => q_skip hF (wanted_f hF rfl rfl rfl hc5 rfl) rfl fun a hF => q_x (v := (.bool false)) hF hS (ex_pick_f rfl rfl hc5) rfl rfl fun a hF => q_x (v := (.bool false)) hF hS (ex_move rfl) rfl rfl fun a hF => q_skip hF (wanted_f hF rfl rfl rfl rfl rfl) rfl fun a hF => q_skip hF (wanted_f hF rfl rfl rfl rfl rfl) rfl fun a hF => q_skip hF (wanted_f hF rfl rfl rfl rfl rfl) rfl fun a hF => q_skip hF (wanted_f hF rfl rfl rfl rfl rfl) rfl fun a hF => q_x (v := (.bool false)) hF hS (ex_pick_f rfl rfl rfl) rfl rfl fun a hF => q_end (n_jn ?_)
      obtain rfl := someI hj4
      exact ⟨hF.sub ⟨rfl, rfl, rfl, rfl, rfl, rfl, rfl, rfl, rfl, trivial⟩, hS⟩
     ·have hj4 := cond_t hc5 hj4
      refine q_xg (v := (strV p_s)) hF hS (ex_move rfl) (wanted_t hF rfl rfl rfl hc5) rfl fun a hF => q_xg (v := (.int .i64 i_11)) hF hS (ex_move rfl) (wanted_t hF rfl rfl rfl hc5) rfl fun a hF => ?_
      obtain ⟨t_12, ht_12, hj4⟩ := bindS hj4
      refine q_xg (v := (.int .u8 t_12)) hF hS (ex_strIdx Tryd.underlying9 rfl rfl ht_12) (wanted_t hF rfl rfl rfl hc5) rfl fun a hF => q_xg (v := (.bool (decide (48 ≤ t_12)))) hF hS (ex_ibin rfl rfl rfl) (wanted_t hF rfl rfl rfl hc5) rfl fun a hF => q_x (v := (.bool (decide (48 ≤ t_12)))) hF hS (ex_pick_t rfl rfl hc5) rfl rfl fun a hF => q_x (v := (.bool (decide (48 ≤ t_12)))) hF hS (ex_move rfl) rfl rfl fun a hF => ?_
      rcases bcase (decide (48 ≤ t_12)) with hc6 | hc6
      ·have hj4 := cond_f hc6 hj4
       refine q_skip hF (wanted_f hF rfl rfl rfl hc6 rfl) rfl fun a hF => q_skip hF (wanted_f hF rfl rfl rfl hc6 rfl) rfl fun a hF => q_skip hF (wanted_f hF rfl rfl rfl hc6 rfl) rfl fun a hF => q_skip hF (wanted_f hF rfl rfl rfl hc6 rfl) rfl fun a hF => q_x (v := (.bool false)) hF hS (ex_pick_f rfl rfl hc6) rfl rfl fun a hF => q_end (n_jn ?_)
       obtain rfl := someI hj4
       exact ⟨hF.sub ⟨rfl, rfl, rfl, rfl, rfl, rfl, rfl, rfl, rfl, trivial⟩, hS⟩
      ·have hj4 := cond_t hc6 hj4
       refine q_xg (v := (strV p_s)) hF hS (ex_move rfl) (wanted_t hF rfl rfl rfl hc6) rfl fun a hF => q_xg (v := (.int .i64 i_11)) hF hS (ex_move rfl) (wanted_t hF rfl rfl rfl hc6) rfl fun a hF => ?_
       obtain ⟨t_13, ht_13, hj4⟩ := bindS hj4
       refine q_xg (v := (.int .u8 t_13)) hF hS (ex_strIdx Tryd.underlying9 rfl rfl ht_13) (wanted_t hF rfl rfl rfl hc6) rfl fun a hF => q_xg (v := (.bool (decide (t_13 ≤ 57)))) hF hS (ex_ibin rfl rfl rfl) (wanted_t hF rfl rfl rfl hc6) rfl fun a hF => q_x (v := (.bool (decide (t_13 ≤ 57)))) hF hS (ex_pick_t rfl rfl hc6) rfl rfl fun a hF => q_end (n_jn ?_)
       obtain rfl := someI hj4
       exact ⟨hF.sub ⟨rfl, rfl, rfl, rfl, rfl, rfl, rfl, rfl, rfl, trivial⟩, hS⟩
    ·rintro a w ⟨hF, hS⟩
     refine n_sq ?_
     rcases bcase (t_14) with hc7 | hc7
     ·have hj3 := cond_f hc7 hj3
      refine q_cond_f hF rfl hc7 (q_skipc (n_sq (q_seq (q_seq (q_region (q_x (v := (.int .i64 digits_10)) hF hS (ex_move rfl) rfl rfl fun a hF => q_x (v := (.bool (decide (0 ≤ digits_10)))) hF hS (ex_ibin rfl rfl rfl) rfl rfl fun a hF => q_end (n_sq ?_)))))))
      obtain ⟨j8, hj8, hj3⟩ := bindS hj3
      refine q_join (fun a w => ∃ (q22 : Piece), ∃ parents_21, ∃ n_23, ∃ last_24, ∃ digits_25, j8 = (parents_21, n_23, last_24, digits_25) ∧ Fr a 112 [(0, (strV p_s)), (2, (.pointer (some ⟨b1, 0, none⟩))), (4, s3.v), (5, (.int .i64 n_23)), (6, s8.v), (7, (.int .i64 last_24)), (8, (.int .i64 digits_25)), (9, (.int .i64 i_11))] ∧ St [] w0 w m [q22, q8, [⟨b1, [nilS.v], 60⟩]] ∧ OwnL m 3 q22 s3 parents_21) ?_ ?_
      ·rcases bcase (decide (0 ≤ digits_10)) with hc9 | hc9
       ·have hj8 := cond_f hc9 hj8
        refine q_cond_f hF rfl hc9 (q_skipc (n_jn ?_))
        obtain rfl := someI hj8
        exact ⟨q5, _, _, _, _, rfl, hF.sub ⟨rfl, rfl, rfl, rfl, rfl, rfl, rfl, rfl, trivial⟩, hS, h5⟩
       ·have hj8 := cond_t hc9 hj8
        refine q_cond_t hF rfl hc9 (q_seq (q_region (q_x (v := (.int .i64 (-1))) hF hS (ex_assign rfl) rfl rfl fun a hF => q_end (n_sq (q_seq (q_seq (q_region (q_x (v := s8.v) hF hS (ex_move rfl) rfl rfl fun a hF => q_x (v := (.int .i64 (goLen stack_7))) hF hS (ex_len Tryd.underlying42 rfl h8.len) rfl rfl fun a hF => q_x (v := (.bool (decide (0 < (goLen stack_7))))) hF hS (ex_ibin rfl rfl rfl) rfl rfl fun a hF => q_end (n_sq ?_)))))))))
        obtain ⟨up_17, hj10, hj8⟩ := bindS hj8
        refine q_join (fun a w => Fr a 112 [(0, (strV p_s)), (2, (.pointer (some ⟨b1, 0, none⟩))), (4, s3.v), (5, (.int .i64 n_6)), (6, s8.v), (8, (.int .i64 digits_10)), (9, (.int .i64 i_11)), (10, (.int .i64 up_17))] ∧ St [] w0 w m [q5, q8, [⟨b1, [nilS.v], 60⟩]]) ?_ ?_
        ·rcases bcase (decide (0 < (goLen stack_7))) with hc11 | hc11
         ·have hj10 := cond_f hc11 hj10
          refine q_cond_f hF rfl hc11 (q_skipc (n_jn ?_))
          obtain rfl := someI hj10
          exact ⟨hF.sub ⟨rfl, rfl, rfl, rfl, rfl, rfl, rfl, rfl, trivial⟩, hS⟩
         ·have hj10 := cond_t hc11 hj10
          refine q_cond_t hF rfl hc11 (q_region (q_x (v := s8.v) hF hS (ex_move rfl) rfl rfl fun a hF => q_x (v := s8.v) hF hS (ex_move rfl) rfl rfl fun a hF => q_x (v := (.int .i64 (goLen stack_7))) hF hS (ex_len Tryd.underlying42 rfl h8.len) rfl rfl fun a hF => q_x (v := (.int .i64 (w64 ((goLen stack_7) - 1)))) hF hS (ex_ibin rfl rfl rfl) rfl rfl fun a hF => ?_))
          obtain ⟨e_15, he_15, hj10⟩ := bindS hj10
          obtain ⟨vs16, at16, d16⟩ := h8.at he_15 1 rfl
          obtain rfl : vs16 = [(.int .i64 e_15)] := d16
          refine q_x (v := (elP s8 ((w64 ((goLen stack_7) - 1)).toNat * 1))) hF hS (ex_indexAddr Tryd.underlying42 sz3 rfl rfl (h8.idx he_15)) rfl rfl fun a hF => q_x (v := (.int .i64 e_15)) hF hS (ex_loadE1 0 Tryd.underlying3 rfl rfl (at16.at 1 rfl) rfl rfl) rfl rfl fun a hF => q_x (v := (.int .i64 e_15)) hF hS (ex_assign rfl) rfl rfl fun a hF => q_end (n_jn ?_)
          obtain rfl := someI hj10
          exact ⟨hF.sub ⟨rfl, rfl, rfl, rfl, rfl, rfl, rfl, rfl, trivial⟩, hS⟩
        ·rintro a w ⟨hF, hS⟩
         refine n_sq ?_
         refine q_seq (q_region (q_x (v := s3.v) hF hS (ex_move rfl) rfl rfl fun a hF => q_x (v := (.int .i64 digits_10)) hF hS (ex_move rfl) rfl rfl fun a hF => q_x (v := (.int .i64 up_17)) hF hS (ex_move rfl) rfl rfl fun a hF => ?_))
         obtain ⟨e_18, he_18, hj8⟩ := bindS hj8
         obtain ⟨vs19, at19, d19⟩ := h5.at he_18 1 rfl
         obtain rfl : vs19 = [(.int .i64 e_18)] := d19
         refine q_x (v := (elP s3 (digits_10.toNat * 1))) hF hS (ex_indexAddr Tryd.underlying42 sz3 rfl rfl (h5.idx he_18)) rfl rfl fun a hF => q_do rfl fun _ hK => wp_storeE (e' := up_17) (us := [(.int .i64 up_17)]) (vs := [(.int .i64 e_18)]) 0 hF hS h5 sz3 rfl rfl rfl rfl rfl rfl rfl he_18 at19 rfl rfl rfl fun w q20 hS h20 => hK _ _ (q_end (n_sq (q_seq (q_region (q_x (v := (.int .i64 digits_10)) hF hS (ex_move rfl) rfl rfl fun a hF => q_x (v := (.int .i64 digits_10)) hF hS (ex_assign rfl) rfl rfl fun a hF => q_end (n_sq (q_seq (q_region (q_x (v := (.int .i64 (-1))) hF hS (ex_assign rfl) rfl rfl fun a hF => q_end (n_sq (q_region (q_x (v := (.int .i64 n_6)) hF hS (ex_move rfl) rfl rfl fun a hF => q_x (v := (.int .i64 (w64 (n_6 + 1)))) hF hS (ex_ibin rfl rfl rfl) rfl rfl fun a hF => q_x (v := (.int .i64 (w64 (n_6 + 1)))) hF hS (ex_assign rfl) rfl rfl fun a hF => q_end (n_jn ?_)))))))))))))
         obtain rfl := someI hj8
         exact ⟨q20, _, _, _, _, rfl, hF.sub ⟨rfl, rfl, rfl, rfl, rfl, rfl, rfl, rfl, trivial⟩, hS, h20⟩
      ·rintro a w ⟨q22, parents_21, n_23, last_24, digits_25, rfl, hF, hS, h22⟩
       refine n_sq ?_
       refine q_seq (q_seq (q_region (q_x (v := (.int .i64 i_11)) hF hS (ex_move rfl) rfl rfl fun a hF => q_x (v := (strV p_s)) hF hS (ex_move rfl) rfl rfl fun a hF => q_x (v := (.int .i64 (goLen p_s))) hF hS (ex_strLen Tryd.underlying9 rfl) rfl rfl fun a hF => q_x (v := (.bool (i_11 == (goLen p_s)))) hF hS (ex_ibin rfl rfl rfl) rfl rfl fun a hF => q_end (n_sq ?_))))
       rcases bcase (i_11 == (goLen p_s)) with hc12 | hc12
       ·have hj3 := cond_f hc12 hj3
        refine q_cond_f hF rfl hc12 (q_skipc (n_sq (q_seq (q_region (q_x (v := (strV p_s)) hF hS (ex_move rfl) rfl rfl fun a hF => q_x (v := (.int .i64 i_11)) hF hS (ex_move rfl) rfl rfl fun a hF => ?_)))))
        obtain ⟨t_26, ht_26, hj3⟩ := bindS hj3
        refine q_x (v := (.int .u8 t_26)) hF hS (ex_strIdx Tryd.underlying9 rfl rfl ht_26) rfl rfl fun a hF => q_end (n_sq (q_block (q_seq (q_region (q_x (v := (.bool (t_26 == 40))) hF hS (ex_ibin rfl rfl rfl) rfl rfl fun a hF => q_x (v := (.bool (t_26 == 40))) hF hS (ex_assign rfl) rfl rfl fun a hF => q_end (n_sq ?_))))))
        obtain ⟨j13, hj13, hj3⟩ := bindS hj3
        refine q_join (fun a w => ∃ (q35 : Piece), ∃ (s35 : Sl), ∃ stack_34, j13 = .inl stack_34 ∧ Fr a 112 [(0, (strV p_s)), (2, (.pointer (some ⟨b1, 0, none⟩))), (4, s3.v), (5, (.int .i64 n_23)), (6, s35.v), (7, (.int .i64 last_24)), (8, (.int .i64 digits_25)), (9, (.int .i64 i_11))] ∧ St [] w0 w m [q22, q35, [⟨b1, [nilS.v], 60⟩]] ∧ OwnL m 3 q35 s35 stack_34) ?_ ?_
        ·rcases bcase (t_26 == 40) with hc14 | hc14
         ·have hj13 := cond_f hc14 hj13
          refine q_cond_f hF rfl hc14 (q_seq (q_region (q_x (v := (.bool (t_26 == 41))) hF hS (ex_ibin rfl rfl rfl) rfl rfl fun a hF => q_x (v := (.bool (t_26 == 41))) hF hS (ex_assign rfl) rfl rfl fun a hF => q_end (n_sq ?_))))
          obtain ⟨j15, hj15, hj13⟩ := bindS hj13
          refine q_join (fun a w => ∃ (q30 : Piece), ∃ (s30 : Sl), ∃ stack_29, j15 = .inl stack_29 ∧ Fr a 112 [(0, (strV p_s)), (2, (.pointer (some ⟨b1, 0, none⟩))), (4, s3.v), (5, (.int .i64 n_23)), (6, s30.v), (7, (.int .i64 last_24)), (8, (.int .i64 digits_25)), (9, (.int .i64 i_11))] ∧ St [] w0 w m [q22, q30, [⟨b1, [nilS.v], 60⟩]] ∧ OwnL m 3 q30 s30 stack_29) ?_ ?_
          ·rcases bcase (t_26 == 41) with hc16 | hc16
           ·have hj15 := cond_f hc16 hj15
            refine q_cond_f hF rfl hc16 (q_skipc (n_jn ?_))
            obtain rfl := someI hj15
            exact ⟨q8, s8, _, rfl, hF.sub ⟨rfl, rfl, rfl, rfl, rfl, rfl, rfl, rfl, trivial⟩, hS, h8⟩
           ·have hj15 := cond_t hc16 hj15
            refine q_cond_t hF rfl hc16 (q_seq (q_seq (q_region (q_x (v := s8.v) hF hS (ex_move rfl) rfl rfl fun a hF => q_x (v := (.int .i64 (goLen stack_7))) hF hS (ex_len Tryd.underlying42 rfl h8.len) rfl rfl fun a hF => q_x (v := (.bool ((goLen stack_7) == 0))) hF hS (ex_ibin rfl rfl rfl) rfl rfl fun a hF => q_end (n_sq ?_)))))
            rcases bcase ((goLen stack_7) == 0) with hc17 | hc17
            ·have hj15 := cond_f hc17 hj15
             refine q_cond_f hF rfl hc17 (q_skipc (n_sq (q_region (q_x (v := s8.v) hF hS (ex_move rfl) rfl rfl fun a hF => q_x (v := s8.v) hF hS (ex_move rfl) rfl rfl fun a hF => q_x (v := (.int .i64 (goLen stack_7))) hF hS (ex_len Tryd.underlying42 rfl h8.len) rfl rfl fun a hF => q_x (v := (.int .i64 (w64 ((goLen stack_7) - 1)))) hF hS (ex_ibin rfl rfl rfl) rfl rfl fun a hF => ?_))))
             obtain ⟨l_27, hl_27, hj15⟩ := bindS hj15
             have h28 : OwnL m 3 q8 (subS s8 1 (0 : Int).toNat (w64 ((goLen stack_7) - 1)).toNat s8.cap) l_27 := h8.sub0 hl_27
             refine q_x (v := (subS s8 1 (0 : Int).toNat (w64 ((goLen stack_7) - 1)).toNat s8.cap).v) hF hS (ex_slice Tryd.underlying42 sz3 rfl rfl rfl (.inl ⟨rfl, rfl⟩) (.inr ⟨_, rfl⟩) (h8.subok hl_27)) rfl rfl fun a hF => q_x (v := (subS s8 1 (0 : Int).toNat (w64 ((goLen stack_7) - 1)).toNat s8.cap).v) hF hS (ex_assign rfl) rfl rfl fun a hF => q_end (n_jn ?_)
             obtain rfl := someI hj15
             exact ⟨q8, (subS s8 1 (0 : Int).toNat (w64 ((goLen stack_7) - 1)).toNat s8.cap), _, rfl, hF.sub ⟨rfl, rfl, rfl, rfl, rfl, rfl, rfl, rfl, trivial⟩, hS, h28⟩
            ·have hj15 := cond_t hc17 hj15
             refine q_cond_t hF rfl hc17 (q_seq (q_region (q_x (v := (.agg #[nilS.v])) hF hS (ex_build (cells := [nilS.v]) rfl (by kernel_rfl)) rfl rfl fun a hF => q_store (vs := [nilS.v]) (cs' := [nilS.v]) 2 0 hF hS sz60 rfl rfl rfl rfl rfl rfl rfl rfl fun a w hF hS => q_x (v := (.bool false)) hF hS (ex_assign rfl) rfl rfl fun a hF => q_end (n_sq (q_ret (r_sq (r_jn ?_)))))))
             obtain rfl := someI hj15
             refine r_jn ?_
             obtain rfl := someI hj13
             refine r_ib (r_ib (r_jn ?_))
             obtain rfl := someI hj3
             refine r_sq ?_
             obtain rfl := someI hb1
             refine ⟨nofun, .inr fun ho => ?_⟩
             subst ho
             refine r_ib (r_sq ?_)
             obtain rfl := someI hr
             exact ret_of hF hS rfl (.cellA (us := [nilS.v]) 2 0 Tryd.underlying60 rfl sz60 rfl rfl rfl rfl (.tmp rfl .nil)) ⟨[], nilS, rfl, hS.sel [3] (by decide), (OwnL.nil (α := Int) m 3)⟩
          ·rintro a w ⟨q30, s30, stack_29, rfl, hF, hS, h30⟩
           refine n_jn ?_
           obtain rfl := someI hj13
           exact ⟨q30, s30, _, rfl, hF.sub ⟨rfl, rfl, rfl, rfl, rfl, rfl, rfl, rfl, trivial⟩, hS, h30⟩
         ·have hj13 := cond_t hc14 hj13
          refine q_cond_t hF rfl hc14 (q_region (q_x (v := s8.v) hF hS (ex_move rfl) rfl rfl fun a hF => q_x (v := (.int .i64 last_24)) hF hS (ex_move rfl) rfl rfl fun a hF => q_do rfl fun _ hK => wp_buildSlice' (l := ([last_24] : List Int)) (cells := [(.int .i64 last_24)]) hF hS Tryd.underlying42 inf3 rfl rfl (by kernel_rfl) rfl rfl rfl ⟨rfl, rfl⟩ rfl rfl fun a w q31 s31 hF hS h31 _ => hK _ _ ?_))
          have hS : St _ _ _ _ [q8, q31, q22, [⟨b1, [nilS.v], 60⟩]] := hS.sel [2, 0, 1, 3] (by decide)
          obtain ⟨l_32, hl_32, hj13⟩ := bindS hj13
          refine q_do rfl fun _ hK => wp_append hF hS h8 Tryd.underlying42 inf3 rfl rfl rfl rfl (h31.vw hS (j := 1) rfl) rfl (by decide) hl_32 rfl fun a w q33 s33 hF hS h33 => hK _ _ (q_x (v := s33.v) hF hS (ex_assign rfl) rfl rfl fun a hF => q_end (n_jn ?_))
          obtain rfl := someI hj13
          exact ⟨q33, s33, _, rfl, hF.sub ⟨rfl, rfl, rfl, rfl, rfl, rfl, rfl, rfl, trivial⟩, hS.sel [2, 0, 3] (by decide), h33⟩
        ·rintro a w ⟨q35, s35, stack_34, rfl, hF, hS, h35⟩
         refine n_ib (n_ib (n_jn ?_))
         obtain rfl := someI hj3
         exact ⟨q22, q35, s35, _, _, _, _, _, rfl, hF.sub ⟨rfl, rfl, rfl, rfl, rfl, rfl, rfl, rfl, trivial⟩, hS, h22, h35⟩
       ·have hj3 := cond_t hc12 hj3
        refine q_cond_t hF rfl hc12 (q_exit (x_sq (x_ibn rfl (x_jn ?_))))
        obtain rfl := someI hj3
        refine x_sq ?_
        obtain rfl := someI hb1
        exact ⟨nofun, .inl ⟨q22, _, _, rfl, rfl, hF.sub ⟨rfl, rfl, rfl, rfl, trivial⟩, hS.mask [true, false, true], h22⟩⟩
     ·have hj3 := cond_t hc7 hj3
      refine q_cond_t hF rfl hc7 (q_seq (e_region ⟨[], []⟩ mixed fun w' hw' => ?_))
      have hS := hS.below hw'
      refine e_p (v := (.int .i64 digits_10)) 0 hF rfl (ex_move rfl) rfl rfl (by kernel_rfl) (by kernel_rfl) (by kernel_rfl) fun a hF => e_p (v := (strV p_s)) 3 hF rfl (ex_move rfl) rfl rfl (by kernel_rfl) (by kernel_rfl) (by kernel_rfl) fun a hF => e_p (v := (.int .i64 i_11)) 4 hF rfl (ex_move rfl) rfl rfl (by kernel_rfl) (by kernel_rfl) (by kernel_rfl) fun a hF => ?_
      obtain ⟨t_39, ht_39, hj3⟩ := bindS hj3
      refine e_p (v := (.int .u8 t_39)) 5 hF rfl (ex_strIdx Tryd.underlying9 rfl rfl ht_39) rfl rfl (by kernel_rfl) (by kernel_rfl) (by kernel_rfl) fun a hF => e_p (v := (.int .u8 (IntKind.wrap .u8 (t_39 - 48)))) 6 hF rfl (ex_ibin rfl rfl rfl) rfl rfl (by kernel_rfl) (by kernel_rfl) (by kernel_rfl) fun a hF => e_p (v := (.int .i64 (w64 (IntKind.wrap .u8 (t_39 - 48))))) 7 hF rfl (ex_conv Tryd.underlying5 Tryd.underlying3 rfl) rfl rfl (by kernel_rfl) (by kernel_rfl) (by kernel_rfl) fun a hF => e_one 1 (by kernel_rfl) ?_
      obtain ⟨t_42, ht_42, hj3⟩ := bindS hj3
      refine e_call (vs := [(.int .i64 digits_10), (.int .i64 0)]) hF hS rfl Tryd.func130 (by kernel_rfl) rfl rfl rfl (c_spec_l1Most digits_10 0 t_42 ht_42 _ m hS.vis) ?_
      rintro a w _ rfl hF hS
      refine e_p (v := (.int .i64 (w64 (10 * t_42)))) 2 hF rfl (ex_ibin rfl rfl rfl) rfl rfl (by kernel_rfl) (by kernel_rfl) (by kernel_rfl) fun a hF => e_p (v := (.int .i64 (w64 ((w64 (10 * t_42)) + (w64 (IntKind.wrap .u8 (t_39 - 48))))))) 8 hF rfl (ex_ibin rfl rfl rfl) rfl rfl (by kernel_rfl) (by kernel_rfl) (by kernel_rfl) fun a hF => e_p (v := (.int .i64 (w64 ((w64 (10 * t_42)) + (w64 (IntKind.wrap .u8 (t_39 - 48))))))) 9 hF rfl (ex_assign rfl) rfl rfl (by kernel_rfl) (by kernel_rfl) (by kernel_rfl) fun a hF => e_end (by kernel_rfl) (n_sq ?_) _
      refine q_seq (q_seq (q_region (q_x (v := (.int .i64 (w64 ((w64 (10 * t_42)) + (w64 (IntKind.wrap .u8 (t_39 - 48))))))) hF hS (ex_move rfl) rfl rfl fun a hF => q_x (v := (.bool (decide (30 ≤ (w64 ((w64 (10 * t_42)) + (w64 (IntKind.wrap .u8 (t_39 - 48))))))))) hF hS (ex_ibin rfl rfl rfl) rfl rfl fun a hF => q_end (n_sq ?_))))
      rcases bcase (decide (30 ≤ (w64 ((w64 (10 * t_42)) + (w64 (IntKind.wrap .u8 (t_39 - 48))))))) with hc18 | hc18
      ·have hj3 := cond_f hc18 hj3
       refine q_cond_f hF rfl hc18 (q_skipc (n_sq (q_exit (x_sq (x_ib (n_jn ?_))))))
       obtain rfl := someI hj3
       exact ⟨q5, q8, s8, _, _, _, _, _, rfl, hF.sub ⟨rfl, rfl, rfl, rfl, rfl, rfl, rfl, rfl, trivial⟩, hS, h5, h8⟩
      ·have hj3 := cond_t hc18 hj3
       refine q_cond_t hF rfl hc18 (q_seq (q_region (q_x (v := (.agg #[nilS.v])) hF hS (ex_build (cells := [nilS.v]) rfl (by kernel_rfl)) rfl rfl fun a hF => q_store (vs := [nilS.v]) (cs' := [nilS.v]) 2 0 hF hS sz60 rfl rfl rfl rfl rfl rfl rfl rfl fun a w hF hS => q_x (v := (.bool false)) hF hS (ex_assign rfl) rfl rfl fun a hF => q_end (n_sq (q_ret (r_sq (r_sq (r_ib (r_jn ?_)))))))))
       obtain rfl := someI hj3
       refine r_sq ?_
       obtain rfl := someI hb1
       refine ⟨nofun, .inr fun ho => ?_⟩
       subst ho
       refine r_ib (r_sq ?_)
       obtain rfl := someI hr
       exact ret_of hF hS rfl (.cellA (us := [nilS.v]) 2 0 Tryd.underlying60 rfl sz60 rfl rfl rfl rfl (.tmp rfl .nil)) ⟨[], nilS, rfl, hS.sel [3] (by decide), (OwnL.nil (α := Int) m 3)⟩
   ·rintro a w ⟨q44, q47, s47, parents_43, n_45, stack_46, last_48, digits_49, rfl, hF, hS, h44, h47⟩
    refine n_sq ?_
    refine q_region (q_x (v := (.int .i64 i_11)) hF hS (ex_move rfl) rfl rfl fun a hF => q_x (v := (.int .i64 (w64 (i_11 + 1)))) hF hS (ex_ibin rfl rfl rfl) rfl rfl fun a hF => q_x (v := (.int .i64 (w64 (i_11 + 1)))) hF hS (ex_assign rfl) rfl rfl fun a hF => q_end ?_)
    obtain rfl := someI hb1
    exact ⟨rfl, q44, q47, s47, _, _, _, _, _, _, rfl, hF.sub ⟨rfl, rfl, rfl, rfl, rfl, rfl, rfl, rfl, trivial⟩, hS, h44, h47⟩
 ·rintro e a w ⟨q51, parents_50, n_52, rfl, rfl, hF, hS, h51⟩
  refine x_ib (n_sq ?_)
  refine q_seq (q_seq ?_)
  obtain ⟨t_53, hj19, hr⟩ := bindS hr
  refine q_join (fun a w => Fr a 112 [(0, (strV p_s)), (2, (.pointer (some ⟨b1, 0, none⟩))), (4, s3.v), (5, (.int .i64 n_52)), (94, (.bool t_53))] ∧ St [] w0 w m [q51, [⟨b1, [nilS.v], 60⟩]]) ?_ ?_
  ·refine q_region (q_x (v := (.int .i64 n_52)) hF hS (ex_move rfl) rfl rfl fun a hF => q_x (v := (.bool (decide (n_52 < 1)))) hF hS (ex_ibin rfl rfl rfl) rfl rfl fun a hF => q_x (v := (.bool (decide (n_52 < 1)))) hF hS (ex_move rfl) rfl rfl fun a hF => ?_)
   rcases bcase (decide (n_52 < 1)) with hc20 | hc20
   ·have hj19 := cond_f hc20 hj19
    refine q_xg (v := (.int .i64 n_52)) hF hS (ex_move rfl) (wanted_t hF rfl rfl rfl hc20) rfl fun a hF => q_xg (v := (.bool (decide (30 < n_52)))) hF hS (ex_ibin rfl rfl rfl) (wanted_t hF rfl rfl rfl hc20) rfl fun a hF => q_x (v := (.bool (decide (30 < n_52)))) hF hS (ex_pick_f rfl rfl hc20) rfl rfl fun a hF => q_end (n_jn ?_)
    obtain rfl := someI hj19
    exact ⟨hF.sub ⟨rfl, rfl, rfl, rfl, rfl, trivial⟩, hS⟩
   ·have hj19 := cond_t hc20 hj19
    refine q_skip hF (wanted_f hF rfl rfl rfl hc20 rfl) rfl fun a hF => q_skip hF (wanted_f hF rfl rfl rfl hc20 rfl) rfl fun a hF => q_x (v := (.bool true)) hF hS (ex_pick_t rfl rfl hc20) rfl rfl fun a hF => q_end (n_jn ?_)
    obtain rfl := someI hj19
    exact ⟨hF.sub ⟨rfl, rfl, rfl, rfl, rfl, trivial⟩, hS⟩
  ·rintro a w ⟨hF, hS⟩
   refine n_sq ?_
   rcases bcase (t_53) with hc21 | hc21
   ·have hr := cond_f hc21 hr
    refine q_cond_f hF rfl hc21 (q_skipc (n_sq (q_seq (q_region (q_x (v := s3.v) hF hS (ex_move rfl) rfl rfl fun a hF => q_x (v := (.int .i64 n_52)) hF hS (ex_move rfl) rfl rfl fun a hF => ?_)))))
    obtain ⟨l_54, hl_54, hr⟩ := bindS hr
    have h55 : OwnL m 3 q51 (subS s3 1 (0 : Int).toNat n_52.toNat s3.cap) l_54 := h51.sub0 hl_54
    refine q_x (v := (subS s3 1 (0 : Int).toNat n_52.toNat s3.cap).v) hF hS (ex_slice Tryd.underlying42 sz3 rfl rfl rfl (.inl ⟨rfl, rfl⟩) (.inr ⟨_, rfl⟩) (h51.subok hl_54)) rfl rfl fun a hF => ?_
    obtain ⟨m57, hl57, hv57, hz57⟩ := hS.lend
    obtain ⟨t_56, ht_56, hr⟩ := bindS hr
    refine q_call (vs := [(subS s3 1 (0 : Int).toNat n_52.toNat s3.cap).v]) hF hS Tryd.func84 (by kernel_rfl) rfl rfl rfl (c_spec_l1Own l_54 t_56 ht_56 _ m57 hv57 (subS s3 1 (0 : Int).toNat n_52.toNat s3.cap) (h55.froz hl57 (hz57 0 _ rfl))) ?_
    rintro a w _ ⟨q59, s59, rfl, hR58, h59⟩ hF hS2
    have hS : St _ _ _ _ [q59, q51, [⟨b1, [nilS.v], 60⟩]] := hS.joinF hR58
    have h59 := h59.any m
    refine q_x (v := (.agg #[s59.v])) hF hS (ex_build (cells := [s59.v]) rfl (by kernel_rfl)) rfl rfl fun a hF => q_alloc (cs := [nilS.v]) hF hS rfl rfl rfl fun a w b60 hF hS => q_store (vs := [s59.v]) (cs' := [s59.v]) 0 0 hF hS sz60 rfl rfl rfl rfl rfl rfl rfl rfl fun a w hF hS => q_end (n_sq (q_seq (q_seq ?_)))
    obtain ⟨t_65, hj22, hr⟩ := bindS hr
    refine q_join (fun a w => Fr a 112 [(2, (.pointer (some ⟨b1, 0, none⟩))), (11, (.pointer (some ⟨b60, 0, none⟩))), (109, (.bool t_65))] ∧ St [] w0 w m [q59, [⟨b60, [s59.v], 60⟩], [⟨b1, [nilS.v], 60⟩]]) ?_ ?_
    ·refine q_region (q_x (v := (.agg #[s59.v])) hF hS (ex_loadA (vs := [s59.v]) 0 0 Tryd.underlying60 rfl sz60 rfl rfl rfl rfl) rfl rfl fun a hF => ?_)
     obtain ⟨m62, hl62, hv62, hz62⟩ := hS.lend
     obtain ⟨t_61, ht_61, hj22⟩ := bindS hj22
     refine q_call (vs := [(.agg #[s59.v])]) hF hS Tryd.func92 (by kernel_rfl) rfl rfl rfl (c_spec_gGood (impl_Geo.mk t_56) t_61 ht_61 _ m62 hv62 s59 (h59.froz hl62 (hz62 1 _ rfl))) ?_
     rintro a w _ rfl hF hS
     refine q_x (v := (.bool (!t_61))) hF hS (ex_not rfl) rfl rfl fun a hF => q_x (v := (.bool (!t_61))) hF hS (ex_move rfl) rfl rfl fun a hF => ?_
     rcases bcase (!t_61) with hc23 | hc23
     ·have hj22 := cond_f hc23 hj22
      refine q_xg (v := (.agg #[s59.v])) hF hS (ex_loadA (vs := [s59.v]) 0 0 Tryd.underlying60 rfl sz60 rfl rfl rfl rfl) (wanted_t hF rfl rfl rfl hc23) rfl fun a hF => ?_
      obtain ⟨m64, hl64, hv64, hz64⟩ := hS.lend
      obtain ⟨t_63, ht_63, hj22⟩ := bindS hj22
      refine q_callg (vs := [(.agg #[s59.v]), (.int .i64 0)]) hF hS (wanted_t hF rfl rfl rfl hc23) Tryd.func93 (by kernel_rfl) rfl rfl rfl (c_spec_gText (impl_Geo.mk t_56) 0 t_63 ht_63 _ m64 hv64 s59 (h59.froz hl64 (hz64 1 _ rfl))) ?_
      rintro a w _ rfl hF hS
      refine q_xg (v := (strV p_s)) hF hS (ex_move rfl) (wanted_t hF rfl rfl rfl hc23) rfl fun a hF => q_xg (v := (.bool (t_63 != p_s))) hF hS (ex_strNe rfl rfl) (wanted_t hF rfl rfl rfl hc23) rfl fun a hF => q_x (v := (.bool (t_63 != p_s))) hF hS (ex_pick_f rfl rfl hc23) rfl rfl fun a hF => q_end (n_jn ?_)
      obtain rfl := someI hj22
      exact ⟨hF.sub ⟨rfl, rfl, rfl, trivial⟩, hS.sel [1, 0, 3] (by decide)⟩
     ·have hj22 := cond_t hc23 hj22
      refine q_skip hF (wanted_f hF rfl rfl rfl hc23 rfl) rfl fun a hF => q_skip hF (wanted_f hF rfl rfl rfl hc23 rfl) rfl fun a hF => q_skip hF (wanted_f hF rfl rfl rfl hc23 rfl) rfl fun a hF => q_skip hF (wanted_f hF rfl rfl rfl hc23 rfl) rfl fun a hF => q_x (v := (.bool true)) hF hS (ex_pick_t rfl rfl hc23) rfl rfl fun a hF => q_end (n_jn ?_)
      obtain rfl := someI hj22
      exact ⟨hF.sub ⟨rfl, rfl, rfl, trivial⟩, hS.sel [1, 0, 3] (by decide)⟩
    ·rintro a w ⟨hF, hS⟩
     refine n_sq ?_
     rcases bcase (t_65) with hc24 | hc24
     ·have hr := cond_f hc24 hr
      refine q_cond_f hF rfl hc24 (q_skipc (n_sq (q_seq (q_region (q_x (v := (.agg #[s59.v])) hF hS (ex_loadA (vs := [s59.v]) 1 0 Tryd.underlying60 rfl sz60 rfl rfl rfl rfl) rfl rfl fun a hF => q_store (vs := [s59.v]) (cs' := [s59.v]) 2 0 hF hS sz60 rfl rfl rfl rfl rfl rfl rfl rfl fun a w hF hS => q_x (v := (.bool true)) hF hS (ex_assign rfl) rfl rfl fun a hF => q_end (n_sq (q_ret ?_)))))))
      obtain rfl := someI hr
      exact ret_of hF hS rfl (.cellA (us := [s59.v]) 2 0 Tryd.underlying60 rfl sz60 rfl rfl rfl rfl (.tmp rfl .nil)) ⟨q59, s59, rfl, hS.sel [0] (by decide), h59⟩
     ·have hr := cond_t hc24 hr
      refine q_cond_t hF rfl hc24 (q_seq (q_region (q_x (v := (.agg #[nilS.v])) hF hS (ex_build (cells := [nilS.v]) rfl (by kernel_rfl)) rfl rfl fun a hF => q_store (vs := [nilS.v]) (cs' := [nilS.v]) 2 0 hF hS sz60 rfl rfl rfl rfl rfl rfl rfl rfl fun a w hF hS => q_x (v := (.bool false)) hF hS (ex_assign rfl) rfl rfl fun a hF => q_end (n_sq (q_ret (r_sq ?_))))))
      obtain rfl := someI hr
      exact ret_of hF hS rfl (.cellA (us := [nilS.v]) 2 0 Tryd.underlying60 rfl sz60 rfl rfl rfl rfl (.tmp rfl .nil)) ⟨[], nilS, rfl, hS.sel [3] (by decide), (OwnL.nil (α := Int) m 3)⟩
   ·have hr := cond_t hc21 hr
    refine q_cond_t hF rfl hc21 (q_seq (q_region (q_x (v := (.agg #[nilS.v])) hF hS (ex_build (cells := [nilS.v]) rfl (by kernel_rfl)) rfl rfl fun a hF => q_store (vs := [nilS.v]) (cs' := [nilS.v]) 1 0 hF hS sz60 rfl rfl rfl rfl rfl rfl rfl rfl fun a w hF hS => q_x (v := (.bool false)) hF hS (ex_assign rfl) rfl rfl fun a hF => q_end (n_sq (q_ret (r_sq ?_))))))
    obtain rfl := someI hr
    exact ret_of hF hS rfl (.cellA (us := [nilS.v]) 1 0 Tryd.underlying60 rfl sz60 rfl rfl rfl rfl (.tmp rfl .nil)) ⟨[], nilS, rfl, hS.sel [2] (by decide), (OwnL.nil (α := Int) m 3)⟩

theorem c_spec_ParseGeo (p_s : List UInt8) (r : impl_Geo × Bool) (hr : spec_ParseGeo p_s = some r) (w0 : World) (m : Mem) (hv : Vis m w0) :
  Ret Tryd.prog 45 [(strV p_s)] w0 (fun v w => ∃ (q0' : Piece) (s0' : Sl), v = (.tuple #[(.agg #[s0'.v]), (.bool r.2)]) ∧ St [] w0 w m [q0'] ∧ OwnL m 3 q0' s0' r.1.Parents) := by
 unfold spec_ParseGeo at hr
 refine ret_start Tryd.func45 rfl 8 rfl rfl m hv fun a hF hS => q_seq (q_region (q_alloc (cs := [nilS.v]) hF hS rfl rfl rfl fun a w b1 hF hS => q_x (v := (.bool false)) hF hS (ex_assign rfl) rfl rfl fun a hF => q_end (n_sq (q_seq (q_region (q_x (v := (strV p_s)) hF hS (ex_move rfl) rfl rfl fun a hF => ?_))))))
 obtain ⟨t_2, ht_2, hr⟩ := bindS hr
 refine q_call (vs := [(strV p_s)]) hF hS Tryd.func101 (by kernel_rfl) rfl rfl rfl (c_spec_gParse p_s t_2 ht_2 _ m hS.vis) ?_
 rintro a w _ ⟨q4, s4, rfl, hR3, h4⟩ hF hS2
 have hS : St _ _ _ _ [q4, [⟨b1, [nilS.v], 60⟩]] := hS.joinF hR3
 refine q_x (v := (.agg #[s4.v])) hF hS (ex_extract rfl rfl) rfl rfl fun a hF => q_x (v := (.bool t_2.2)) hF hS (ex_extract rfl rfl) rfl rfl fun a hF => q_store (vs := [s4.v]) (cs' := [s4.v]) 1 0 hF hS sz60 rfl rfl rfl rfl rfl rfl rfl rfl fun a w hF hS => q_x (v := (.bool t_2.2)) hF hS (ex_assign rfl) rfl rfl fun a hF => q_end (n_sq (q_ret ?_))
 obtain rfl := someI hr
 exact ret_of hF hS rfl (.cellA (us := [s4.v]) 1 0 Tryd.underlying60 rfl sz60 rfl rfl rfl rfl (.tmp rfl .nil)) ⟨q4, s4, rfl, hS.sel [0] (by decide), h4⟩

theorem c_spec_DrawSumsUp (p_code : List (K .u8)) (r : impl_Geo × (List Int)) (hr : spec_DrawSumsUp p_code = some r) (w0 : World) (m : Mem) (hv : Vis m w0) (s1 : Sl) (h1 : Rd m s1 p_code) :
  Ret Tryd.prog 46 [s1.v] w0 (fun v w => ∃ (m' : Mem) (q0' : Piece) (q1' : Piece) (s0' : Sl) (s1' : Sl), v = (.tuple #[(.agg #[s0'.v]), s1'.v]) ∧ MLe [] w0.heap.size m m' ∧ St [] w0 w m' [q0', q1'] ∧ OwnL m' 3 q0' s0' r.1.Parents ∧ OwnL m' 3 q1' s1' r.2) := by
 unfold spec_DrawSumsUp at hr
 refine ret_start Tryd.func46 rfl 43 rfl rfl m hv fun a hF hS => q_seq (q_region (q_alloc (cs := [nilS.v]) hF hS rfl rfl rfl fun a w b2 hF hS => q_x (v := nilS.v) hF hS (ex_assign rfl) rfl rfl fun a hF => q_end (n_sq (q_seq (q_region (q_x (v := s1.v) hF hS (ex_move rfl) rfl rfl fun a hF => q_x (v := (.agg #[s1.v, (.int .i64 0), (.int .u64 0)])) hF hS (ex_build (cells := [s1.v, (.int .i64 0), (.int .u64 0)]) rfl (by kernel_rfl)) rfl rfl fun a hF => q_box (cs := [s1.v, (.int .i64 0), (.int .u64 0)]) hF hS rfl rfl rfl fun a w b3 hF hS => q_x (v := (.pointer (some ⟨b3, 0, none⟩))) hF hS (ex_assign rfl) rfl rfl fun a hF => q_end (n_sq (q_seq (q_region (q_x (v := (.pointer (some ⟨b3, 0, none⟩))) hF hS (ex_move rfl) rfl rfl fun a hF => ?_))))))))))
 have hS4 : St _ _ _ _ ([[⟨b3, [s1.v, (.int .i64 0), (.int .u64 0)], 76⟩]] ++ [[⟨b2, [nilS.v], 60⟩]]) := hS
 have hE4 := hS4.enter
 obtain ⟨t_5, ht_5, hr⟩ := bindS hr
 refine q_do rfl fun _ hK => wp_callX (vs := [(.pointer (some ⟨b3, 0, none⟩))]) hF Tryd.func102 (by kernel_rfl) rfl rfl rfl (c_spec_l1Cur_anyGeo (spec_l1Cur.mk p_code 0 (⟨0⟩ : K .u64)) t_5 ht_5 _ m b3 s1 h1 _ hE4) fun a w _ hR hF => hK _ _ ?_
 obtain ⟨m4', q6, s6, rfl, hm4, hR4, h6, hk7⟩ := hR
 have hS : St _ _ _ _ [[⟨b3, [s1.v, (.int .i64 t_5.2.at_), (.int .u64 t_5.2.seed.v)], 76⟩], q6, [⟨b2, [nilS.v], 60⟩]] := hS4.leave hR4 hm4
 have hm4 := MLe.weakX hS4 hm4
 have h7 : Rd m4' s1 t_5.2.code := by rw [hk7]; exact (h1.mono hm4.le)
 refine q_alloc (cs := [nilS.v]) hF hS rfl rfl rfl fun a w b8 hF hS => q_store (vs := [s6.v]) (cs' := [s6.v]) 0 0 hF hS sz60 rfl rfl rfl rfl rfl rfl rfl rfl fun a w hF hS => q_end (n_sq (q_seq (q_region (q_x (v := nilS.v) hF hS (ex_assign rfl) rfl rfl fun a hF => q_end (n_sq (q_seq (q_seq (q_region (q_x (v := (.pointer (some ⟨b8, 0, none⟩))) hF hS (ex_fieldAddr Tryd.underlying60 rfl sz42 rfl rfl) rfl rfl fun a hF => q_x (v := s6.v) hF hS (ex_load1 0 0 Tryd.underlying42 rfl rfl rfl rfl) rfl rfl fun a hF => q_x (v := (.int .i64 (goLen t_5.1.Parents))) hF hS (ex_len Tryd.underlying42 rfl h6.len) rfl rfl fun a hF => q_x (v := (.int .i64 0)) hF hS (ex_move rfl) rfl rfl fun a hF => q_end (n_sq (q_block ?_)))))))))))
 obtain ⟨o1, hl1, hr⟩ := bindS hr
 refine q_loop (fun (s : (List Int) × Int × spec_l1Cur) a w => ∃ (q10 : Piece), ∃ (s10 : Sl), ∃ l_9, ∃ t_11, ∃ t_12, s = (l_9, t_11, t_12) ∧ Fr a 43 [(2, (.pointer (some ⟨b2, 0, none⟩))), (4, (.pointer (some ⟨b3, 0, none⟩))), (5, (.pointer (some ⟨b8, 0, none⟩))), (6, s10.v), (14, (.int .i64 (goLen t_5.1.Parents))), (15, (.int .i64 t_11))] ∧ St [] w0 w m4' [q10, [⟨b8, [s6.v], 60⟩], [⟨b3, [s1.v, (.int .i64 t_12.at_), (.int .u64 t_12.seed.v)], 76⟩], q6, [⟨b2, [nilS.v], 60⟩]] ∧ OwnL m4' 3 q10 s10 l_9 ∧ Rd m4' s1 t_12.code ∧ t_12.code = p_code) (fun (o : (List Int) × spec_l1Cur) e a w => ∃ (q21 : Piece), ∃ (s21 : Sl), ∃ l_20, ∃ t_22, o = (l_20, t_22) ∧ e = .exit 0 ∧ Fr a 43 [(2, (.pointer (some ⟨b2, 0, none⟩))), (4, (.pointer (some ⟨b3, 0, none⟩))), (5, (.pointer (some ⟨b8, 0, none⟩))), (6, s21.v)] ∧ St [] w0 w m4' [q21, q6, [⟨b8, [s6.v], 60⟩], [⟨b3, [s1.v, (.int .i64 t_22.at_), (.int .u64 t_22.seed.v)], 76⟩], [⟨b2, [nilS.v], 60⟩]] ∧ OwnL m4' 3 q21 s21 l_20 ∧ Rd m4' s1 t_22.code ∧ t_22.code = p_code) hl1 ⟨[], nilS, _, _, _, rfl, hF.sub ⟨rfl, rfl, rfl, rfl, rfl, rfl, trivial⟩, hS.sel [4, 0, 1, 2, 3] (by decide), (OwnL.nil (α := Int) m4' 3), h7, hk7⟩ ?_ ?_
 ·clear hF hS
  rintro s a w st ⟨q10, s10, l_9, t_11, t_12, rfl, hF, hS, h10, h13, h13k⟩ hb1
  unfold spec_DrawSumsUp_l1 at hb1
  refine q_seq (q_region (q_x (v := (.bool (decide (t_11 < (goLen t_5.1.Parents))))) hF hS (ex_ibin rfl rfl rfl) rfl rfl fun a hF => q_end (n_sq (q_seq ?_))))
  rcases bcase (decide (t_11 < (goLen t_5.1.Parents))) with hc2 | hc2
  ·have hb1 := cond_f hc2 hb1
   refine q_cond_f hF rfl hc2 (q_exit (x_sq ?_))
   obtain rfl := someI hb1
   exact ⟨nofun, .inl ⟨q10, s10, _, _, rfl, rfl, hF.sub ⟨rfl, rfl, rfl, rfl, trivial⟩, hS.sel [0, 3, 1, 2, 4] (by decide), h10, h13, h13k⟩⟩
  ·have hb1 := cond_t hc2 hb1
   refine q_cond_t hF rfl hc2 (q_skipc (n_sq (q_seq (q_block (q_region (q_x (v := s10.v) hF hS (ex_move rfl) rfl rfl fun a hF => q_x (v := (.pointer (some ⟨b3, 0, none⟩))) hF hS (ex_move rfl) rfl rfl fun a hF => ?_))))))
   have hS : St _ _ _ _ [[⟨b3, [s1.v, (.int .i64 t_12.at_), (.int .u64 t_12.seed.v)], 76⟩], q10, [⟨b8, [s6.v], 60⟩], q6, [⟨b2, [nilS.v], 60⟩]] := hS.sel [2, 0, 1, 3, 4] (by decide)
   have hS14 : St _ _ _ _ ([[⟨b3, [s1.v, (.int .i64 t_12.at_), (.int .u64 t_12.seed.v)], 76⟩]] ++ [q10, [⟨b8, [s6.v], 60⟩], q6, [⟨b2, [nilS.v], 60⟩]]) := hS
   have hE14 := hS14.enter
   obtain ⟨t_15, ht_15, hb1⟩ := bindS hb1
   refine q_do rfl fun _ hK => wp_callX (vs := [(.pointer (some ⟨b3, 0, none⟩)), (.int .i64 30)]) hF Tryd.func52 (by kernel_rfl) rfl rfl rfl (c_spec_l1Cur_pick t_12 30 t_15 ht_15 _ m4' b3 s1 h13 _ hE14) fun a w _ hR hF => hK _ _ ?_
   obtain ⟨rfl, hR14, hk16⟩ := hR
   have hS : St _ _ _ _ [[⟨b3, [s1.v, (.int .i64 t_15.2.at_), (.int .u64 t_15.2.seed.v)], 76⟩], q10, [⟨b8, [s6.v], 60⟩], q6, [⟨b2, [nilS.v], 60⟩]] := hS14.leaveF hR14
   have h16 : Rd m4' s1 t_15.2.code := by rw [hk16]; exact h13
   refine q_x (v := (.int .i64 (w64 (t_15.1 - 4)))) hF hS (ex_ibin rfl rfl rfl) rfl rfl fun a hF => q_do rfl fun _ hK => wp_buildSlice' (l := ([(w64 (t_15.1 - 4))] : List Int)) (cells := [(.int .i64 (w64 (t_15.1 - 4)))]) hF hS Tryd.underlying42 inf3 rfl rfl (by kernel_rfl) rfl rfl rfl ⟨rfl, rfl⟩ rfl rfl fun a w q17 s17 hF hS h17 _ => hK _ _ ?_
   have hS : St _ _ _ _ [q10, q17, [⟨b3, [s1.v, (.int .i64 t_15.2.at_), (.int .u64 t_15.2.seed.v)], 76⟩], [⟨b8, [s6.v], 60⟩], q6, [⟨b2, [nilS.v], 60⟩]] := hS.sel [2, 0, 1, 3, 4, 5] (by decide)
   obtain ⟨l_18, hl_18, hb1⟩ := bindS hb1
   refine q_do rfl fun _ hK => wp_append hF hS h10 Tryd.underlying42 inf3 rfl rfl rfl rfl (h17.vw hS (j := 1) rfl) rfl (by decide) hl_18 rfl fun a w q19 s19 hF hS h19 => hK _ _ (q_x (v := s19.v) hF hS (ex_assign rfl) rfl rfl fun a hF => q_end (n_ib (n_sq (q_region (q_x (v := (.int .i64 (w64 (t_11 + 1)))) hF hS (ex_ibin rfl rfl rfl) rfl rfl fun a hF => q_x (v := (.int .i64 (w64 (t_11 + 1)))) hF hS (ex_move rfl) rfl rfl fun a hF => q_end ?_)))))
   obtain rfl := someI hb1
   exact ⟨rfl, q19, s19, _, _, _, rfl, hF.sub ⟨rfl, rfl, rfl, rfl, rfl, rfl, trivial⟩, hS.sel [0, 3, 2, 4, 5] (by decide), h19, h16, (hk16.trans h13k)⟩
 ·rintro e a w ⟨q21, s21, l_20, t_22, rfl, rfl, hF, hS, h21, h23, h23k⟩
  refine x_ib (n_sq ?_)
  refine q_seq (q_seq (q_region (q_x (v := (.pointer (some ⟨b3, 0, none⟩))) hF hS (ex_move rfl) rfl rfl fun a hF => ?_)))
  have hS : St _ _ _ _ [[⟨b3, [s1.v, (.int .i64 t_22.at_), (.int .u64 t_22.seed.v)], 76⟩], q21, q6, [⟨b8, [s6.v], 60⟩], [⟨b2, [nilS.v], 60⟩]] := hS.sel [3, 0, 1, 2, 4] (by decide)
  have hS24 : St _ _ _ _ ([[⟨b3, [s1.v, (.int .i64 t_22.at_), (.int .u64 t_22.seed.v)], 76⟩]] ++ [q21, q6, [⟨b8, [s6.v], 60⟩], [⟨b2, [nilS.v], 60⟩]]) := hS
  have hE24 := hS24.enter
  obtain ⟨t_25, ht_25, hr⟩ := bindS hr
  refine q_do rfl fun _ hK => wp_callX (vs := [(.pointer (some ⟨b3, 0, none⟩)), (.int .i64 24)]) hF Tryd.func52 (by kernel_rfl) rfl rfl rfl (c_spec_l1Cur_pick t_22 24 t_25 ht_25 _ m4' b3 s1 h23 _ hE24) fun a w _ hR hF => hK _ _ ?_
  obtain ⟨rfl, hR24, hk26⟩ := hR
  have hS : St _ _ _ _ [[⟨b3, [s1.v, (.int .i64 t_25.2.at_), (.int .u64 t_25.2.seed.v)], 76⟩], q21, q6, [⟨b8, [s6.v], 60⟩], [⟨b2, [nilS.v], 60⟩]] := hS24.leaveF hR24
  have h26 : Rd m4' s1 t_25.2.code := by rw [hk26]; exact h23
  refine q_end (n_sq (q_block (q_seq (q_region (q_x (v := (.bool (t_25.1 == 0))) hF hS (ex_ibin rfl rfl rfl) rfl rfl fun a hF => q_x (v := (.bool (t_25.1 == 0))) hF hS (ex_assign rfl) rfl rfl fun a hF => q_end (n_sq ?_))))))
  obtain ⟨l_41, hj3, hr⟩ := bindS hr
  refine q_join (fun a w => ∃ (q42 : Piece), ∃ (s42 : Sl), Fr a 43 [(2, (.pointer (some ⟨b2, 0, none⟩))), (5, (.pointer (some ⟨b8, 0, none⟩))), (6, s42.v)] ∧ St [] w0 w m4' [q42, q6, [⟨b8, [s6.v], 60⟩], [⟨b2, [nilS.v], 60⟩]] ∧ OwnL m4' 3 q42 s42 l_41) ?_ ?_
  ·rcases bcase (t_25.1 == 0) with hc4 | hc4
   ·have hj3 := cond_f hc4 hj3
    refine q_cond_f hF rfl hc4 (q_seq (q_region (q_x (v := (.bool (t_25.1 == 1))) hF hS (ex_ibin rfl rfl rfl) rfl rfl fun a hF => q_x (v := (.bool (t_25.1 == 1))) hF hS (ex_assign rfl) rfl rfl fun a hF => q_end (n_sq ?_))))
    obtain ⟨l_36, hj5, hj3⟩ := bindS hj3
    refine q_join (fun a w => ∃ (q37 : Piece), Fr a 43 [(2, (.pointer (some ⟨b2, 0, none⟩))), (5, (.pointer (some ⟨b8, 0, none⟩))), (6, s21.v)] ∧ St [] w0 w m4' [q37, q6, [⟨b8, [s6.v], 60⟩], [⟨b2, [nilS.v], 60⟩]] ∧ OwnL m4' 3 q37 s21 l_36) ?_ ?_
    ·rcases bcase (t_25.1 == 1) with hc6 | hc6
     ·have hj5 := cond_f hc6 hj5
      refine q_cond_f hF rfl hc6 (q_skipc (n_jn ?_))
      obtain rfl := someI hj5
      exact ⟨q21, hF.sub ⟨rfl, rfl, rfl, trivial⟩, hS.mask [false, true, true, true, true], h21⟩
     ·have hj5 := cond_t hc6 hj5
      refine q_cond_t hF rfl hc6 (q_seq (q_region (q_x (v := s21.v) hF hS (ex_move rfl) rfl rfl fun a hF => q_x (v := (.int .i64 (goLen l_20))) hF hS (ex_len Tryd.underlying42 rfl h21.len) rfl rfl fun a hF => q_x (v := (.bool (decide (0 < (goLen l_20))))) hF hS (ex_ibin rfl rfl rfl) rfl rfl fun a hF => q_end (n_sq ?_))))
      obtain ⟨l_34, hj7, hj5⟩ := bindS hj5
      refine q_join (fun a w => ∃ (q35 : Piece), Fr a 43 [(2, (.pointer (some ⟨b2, 0, none⟩))), (5, (.pointer (some ⟨b8, 0, none⟩))), (6, s21.v)] ∧ St [] w0 w m4' [q35, q6, [⟨b8, [s6.v], 60⟩], [⟨b2, [nilS.v], 60⟩]] ∧ OwnL m4' 3 q35 s21 l_34) ?_ ?_
      ·rcases bcase (decide (0 < (goLen l_20))) with hc8 | hc8
       ·have hj7 := cond_f hc8 hj7
        refine q_cond_f hF rfl hc8 (q_skipc (n_jn ?_))
        obtain rfl := someI hj7
        exact ⟨q21, hF.sub ⟨rfl, rfl, rfl, trivial⟩, hS.mask [false, true, true, true, true], h21⟩
       ·have hj7 := cond_t hc8 hj7
        refine q_cond_t hF rfl hc8 (q_region (q_x (v := s21.v) hF hS (ex_move rfl) rfl rfl fun a hF => q_x (v := (.pointer (some ⟨b3, 0, none⟩))) hF hS (ex_move rfl) rfl rfl fun a hF => q_do rfl fun _ hK => wp_buildSlice' (l := ([1000000, 1000001, -1000001] : List Int)) (cells := [(.int .i64 1000000), (.int .i64 1000001), (.int .i64 (-1000001))]) hF hS Tryd.underlying42 inf3 rfl rfl (by kernel_rfl) rfl rfl rfl ⟨rfl, rfl, rfl, rfl⟩ rfl rfl fun a w q27 s27 hF hS h27 _ => hK _ _ ?_))
        have hS : St _ _ _ _ [[⟨b3, [s1.v, (.int .i64 t_25.2.at_), (.int .u64 t_25.2.seed.v)], 76⟩], q27, q21, q6, [⟨b8, [s6.v], 60⟩], [⟨b2, [nilS.v], 60⟩]] := hS.sel [1, 0, 2, 3, 4, 5] (by decide)
        have hS28 : St _ _ _ _ ([[⟨b3, [s1.v, (.int .i64 t_25.2.at_), (.int .u64 t_25.2.seed.v)], 76⟩]] ++ [q27, q21, q6, [⟨b8, [s6.v], 60⟩], [⟨b2, [nilS.v], 60⟩]]) := hS
        obtain ⟨m28, hl28, hE28, hz28⟩ := hS28.lendX
        obtain ⟨t_29, ht_29, hj7⟩ := bindS hj7
        refine q_do rfl fun _ hK => wp_callX (vs := [(.pointer (some ⟨b3, 0, none⟩)), s27.v]) hF Tryd.func60 (by kernel_rfl) rfl rfl rfl (c_spec_l1Cur_among t_25.2 ([1000000, 1000001, -1000001] : List Int) t_29 ht_29 _ m28 b3 s1 (h26.mono hl28) s27 (h27.froz hl28 (hz28 0 _ rfl)) _ hE28) fun a w _ hR hF => hK _ _ ?_
        obtain ⟨rfl, hR28, hk30⟩ := hR
        have hS : St _ _ _ _ [[⟨b3, [s1.v, (.int .i64 t_29.2.at_), (.int .u64 t_29.2.seed.v)], 76⟩], q27, q21, q6, [⟨b8, [s6.v], 60⟩], [⟨b2, [nilS.v], 60⟩]] := hS28.leaveF hR28
        have h30 : Rd m4' s1 t_29.2.code := by rw [hk30]; exact h26
        obtain ⟨e_31, he_31, hj7⟩ := bindS hj7
        obtain ⟨vs32, at32, d32⟩ := h21.at he_31 1 rfl
        obtain rfl : vs32 = [(.int .i64 e_31)] := d32
        refine q_x (v := (elP s21 ((0 : Int).toNat * 1))) hF hS (ex_indexAddr Tryd.underlying42 sz3 rfl rfl (h21.idx he_31)) rfl rfl fun a hF => ?_
        have hS : St _ _ _ _ [q21, [⟨b3, [s1.v, (.int .i64 t_29.2.at_), (.int .u64 t_29.2.seed.v)], 76⟩], q27, q6, [⟨b8, [s6.v], 60⟩], [⟨b2, [nilS.v], 60⟩]] := hS.sel [2, 0, 1, 3, 4, 5] (by decide)
        refine q_do rfl fun _ hK => wp_storeE (e' := t_29.1) (us := [(.int .i64 t_29.1)]) (vs := [(.int .i64 e_31)]) 0 hF hS h21 sz3 rfl rfl rfl rfl rfl rfl rfl he_31 at32 rfl rfl rfl fun w q33 hS h33 => hK _ _ (q_end (n_jn ?_))
        obtain rfl := someI hj7
        exact ⟨q33, hF.sub ⟨rfl, rfl, rfl, trivial⟩, hS.mask [true, false, false, true, true, true], h33⟩
      ·rintro a w ⟨q35, hF, hS, h35⟩
       refine n_jn ?_
       obtain rfl := someI hj5
       exact ⟨q35, hF.sub ⟨rfl, rfl, rfl, trivial⟩, hS, h35⟩
    ·rintro a w ⟨q37, hF, hS, h37⟩
     refine n_jn ?_
     obtain rfl := someI hj3
     exact ⟨q37, s21, hF.sub ⟨rfl, rfl, rfl, trivial⟩, hS, h37⟩
   ·have hj3 := cond_t hc4 hj3
    refine q_cond_t hF rfl hc4 (q_region (q_x (v := s21.v) hF hS (ex_move rfl) rfl rfl fun a hF => q_do rfl fun _ hK => wp_buildSlice' (l := ([0] : List Int)) (cells := [(.int .i64 0)]) hF hS Tryd.underlying42 inf3 rfl rfl (by kernel_rfl) rfl rfl rfl ⟨rfl, rfl⟩ rfl rfl fun a w q38 s38 hF hS h38 _ => hK _ _ ?_))
    have hS : St _ _ _ _ [q21, q38, [⟨b3, [s1.v, (.int .i64 t_25.2.at_), (.int .u64 t_25.2.seed.v)], 76⟩], q6, [⟨b8, [s6.v], 60⟩], [⟨b2, [nilS.v], 60⟩]] := hS.sel [2, 0, 1, 3, 4, 5] (by decide)
    obtain ⟨l_39, hl_39, hj3⟩ := bindS hj3
    refine q_do rfl fun _ hK => wp_append hF hS h21 Tryd.underlying42 inf3 rfl rfl rfl rfl (h38.vw hS (j := 1) rfl) rfl (by decide) hl_39 rfl fun a w q40 s40 hF hS h40 => hK _ _ (q_x (v := s40.v) hF hS (ex_assign rfl) rfl rfl fun a hF => q_end (n_jn ?_))
    obtain rfl := someI hj3
    exact ⟨q40, s40, hF.sub ⟨rfl, rfl, rfl, trivial⟩, hS.mask [true, false, false, true, true, true], h40⟩
  ·rintro a w ⟨q42, s42, hF, hS, h42⟩
   refine n_ib (n_sq ?_)
   refine q_seq (q_region (q_x (v := (.agg #[s6.v])) hF hS (ex_loadA (vs := [s6.v]) 2 0 Tryd.underlying60 rfl sz60 rfl rfl rfl rfl) rfl rfl fun a hF => q_x (v := s42.v) hF hS (ex_move rfl) rfl rfl fun a hF => q_store (vs := [s6.v]) (cs' := [s6.v]) 3 0 hF hS sz60 rfl rfl rfl rfl rfl rfl rfl rfl fun a w hF hS => q_x (v := s42.v) hF hS (ex_assign rfl) rfl rfl fun a hF => q_end (n_sq (q_ret ?_))))
   obtain rfl := someI hr
   exact ret_of hF hS rfl (.cellA (us := [s6.v]) 3 0 Tryd.underlying60 rfl sz60 rfl rfl rfl rfl (.tmp rfl .nil)) ⟨m4', q6, q42, s6, s42, rfl, hm4, hS.sel [1, 0] (by decide), h6, h42⟩

theorem c_impl_areSmallIntegers (p_list : List Int) (p_n : Int) (r : Bool) (hr : impl_areSmallIntegers p_list p_n = some r) (w0 : World) (m : Mem) (hv : Vis m w0) (s1 : Sl) (h1 : Rd m s1 p_list) :
  Ret Tryd.prog 103 [s1.v, (.int .i64 p_n)] w0 (fun v _ => v = (.bool r)) := by
 unfold impl_areSmallIntegers at hr
 refine ret_start Tryd.func103 rfl 24 rfl rfl m hv fun a hF hS => q_seq (q_region (q_x (v := (.bool false)) hF hS (ex_assign rfl) rfl rfl fun a hF => q_end (n_sq (q_seq (q_seq (q_region (q_x (v := s1.v) hF hS (ex_move rfl) rfl rfl fun a hF => q_x (v := (.int .i64 (goLen p_list))) hF hS (ex_len Tryd.underlying42 rfl h1.len) rfl rfl fun a hF => q_x (v := (.int .i64 p_n)) hF hS (ex_move rfl) rfl rfl fun a hF => q_x (v := (.bool ((goLen p_list) != p_n))) hF hS (ex_ibin rfl rfl rfl) rfl rfl fun a hF => q_end (n_sq ?_))))))))
 rcases bcase ((goLen p_list) != p_n) with hc1 | hc1
 ·have hr := cond_f hc1 hr
  refine q_cond_f hF rfl hc1 (q_skipc (n_sq (q_seq (q_seq (q_region (q_x (v := s1.v) hF hS (ex_move rfl) rfl rfl fun a hF => q_x (v := (.int .i64 (goLen p_list))) hF hS (ex_len Tryd.underlying42 rfl h1.len) rfl rfl fun a hF => q_x (v := (.int .i64 0)) hF hS (ex_move rfl) rfl rfl fun a hF => q_end (n_sq (q_block ?_))))))))
  obtain ⟨o2, hl2, hr⟩ := bindS hr
  refine q_loop (fun (t_2 : Int) a w => Fr a 24 [(11, s1.v), (12, (.int .i64 (goLen p_list))), (13, (.int .i64 t_2))] ∧ St [] w0 w m []) (fun (o : (Unit) ⊕ (Bool)) e a w => o = .inl () ∧ e = .exit 0 ∧ Fr a 24 [] ∧ St [] w0 w m []) hl2 ⟨hF.sub ⟨rfl, rfl, rfl, trivial⟩, hS⟩ ?_ ?_
  ·clear hF hS
   rintro t_2 a w st ⟨hF, hS⟩ hb2
   unfold impl_areSmallIntegers_l1 at hb2
   refine q_seq (q_region (q_x (v := (.bool (decide (t_2 < (goLen p_list))))) hF hS (ex_ibin rfl rfl rfl) rfl rfl fun a hF => q_end (n_sq (q_seq ?_))))
   rcases bcase (decide (t_2 < (goLen p_list))) with hc3 | hc3
   ·have hb2 := cond_f hc3 hb2
    refine q_cond_f hF rfl hc3 (q_exit (x_sq ?_))
    obtain rfl := someI hb2
    exact ⟨nofun, .inl ⟨rfl, rfl, hF.sub trivial, hS⟩⟩
   ·have hb2 := cond_t hc3 hb2
    refine q_cond_t hF rfl hc3 (q_skipc (n_sq (q_seq (q_block (q_seq (q_region ?_))))))
    obtain ⟨e_3, he_3, hb2⟩ := bindS hb2
    obtain ⟨vs4, at4, d4⟩ := h1.at he_3 1 rfl
    obtain rfl : vs4 = [(.int .i64 e_3)] := d4
    refine q_x (v := (elP s1 (t_2.toNat * 1))) hF hS (ex_indexAddr Tryd.underlying42 sz3 rfl rfl (h1.idx he_3)) rfl rfl fun a hF => q_x (v := (.int .i64 e_3)) hF hS (ex_loadE1 0 Tryd.underlying3 rfl rfl ((at4).at) rfl rfl) rfl rfl fun a hF => q_x (v := (.int .i64 e_3)) hF hS (ex_assign rfl) rfl rfl fun a hF => q_end (n_sq (q_seq ?_))
    obtain ⟨t_5, hj4, hb2⟩ := bindS hb2
    refine q_join (fun a w => Fr a 24 [(11, s1.v), (12, (.int .i64 (goLen p_list))), (13, (.int .i64 t_2)), (22, (.bool t_5))] ∧ St [] w0 w m []) ?_ ?_
    ·refine q_region (q_x (v := (.int .i64 e_3)) hF hS (ex_move rfl) rfl rfl fun a hF => q_x (v := (.bool (decide (e_3 < (-1000000))))) hF hS (ex_ibin rfl rfl rfl) rfl rfl fun a hF => q_x (v := (.bool (decide (e_3 < (-1000000))))) hF hS (ex_move rfl) rfl rfl fun a hF => ?_)
     rcases bcase (decide (e_3 < (-1000000))) with hc5 | hc5
     ·have hj4 := cond_f hc5 hj4
      refine q_xg (v := (.int .i64 e_3)) hF hS (ex_move rfl) (wanted_t hF rfl rfl rfl hc5) rfl fun a hF => q_xg (v := (.bool (decide (1000000 < e_3)))) hF hS (ex_ibin rfl rfl rfl) (wanted_t hF rfl rfl rfl hc5) rfl fun a hF => q_x (v := (.bool (decide (1000000 < e_3)))) hF hS (ex_pick_f rfl rfl hc5) rfl rfl fun a hF => q_end (n_jn ?_)
      obtain rfl := someI hj4
      exact ⟨hF.sub ⟨rfl, rfl, rfl, rfl, trivial⟩, hS⟩
     ·have hj4 := cond_t hc5 hj4
      refine q_skip hF (wanted_f hF rfl rfl rfl hc5 rfl) rfl fun a hF => q_skip hF (wanted_f hF rfl rfl rfl hc5 rfl) rfl fun a hF => q_x (v := (.bool true)) hF hS (ex_pick_t rfl rfl hc5) rfl rfl fun a hF => q_end (n_jn ?_)
      obtain rfl := someI hj4
      exact ⟨hF.sub ⟨rfl, rfl, rfl, rfl, trivial⟩, hS⟩
    ·rintro a w ⟨hF, hS⟩
     refine n_sq ?_
     rcases bcase (t_5) with hc6 | hc6
     ·have hb2 := cond_f hc6 hb2
      refine q_cond_f hF rfl hc6 (q_skipc (n_ib (n_sq (q_region (q_x (v := (.int .i64 (w64 (t_2 + 1)))) hF hS (ex_ibin rfl rfl rfl) rfl rfl fun a hF => q_x (v := (.int .i64 (w64 (t_2 + 1)))) hF hS (ex_move rfl) rfl rfl fun a hF => q_end ?_)))))
      obtain rfl := someI hb2
      exact ⟨rfl, hF.sub ⟨rfl, rfl, rfl, trivial⟩, hS⟩
     ·have hb2 := cond_t hc6 hb2
      refine q_cond_t hF rfl hc6 (q_seq (q_region (q_x (v := (.bool false)) hF hS (ex_assign rfl) rfl rfl fun a hF => q_end (n_sq (q_ret (r_ib (r_sq ?_)))))))
      obtain rfl := someI hb2
      refine ⟨nofun, .inr fun ho => ?_⟩
      subst ho
      refine r_ib (r_sq ?_)
      obtain rfl := someI hr
      exact ret_of hF hS rfl (.tmp rfl .nil) rfl
  ·rintro e a w ⟨rfl, rfl, hF, hS⟩
   refine x_ib (n_sq ?_)
   refine q_seq (q_region (q_x (v := (.bool true)) hF hS (ex_assign rfl) rfl rfl fun a hF => q_end (n_sq (q_ret ?_))))
   obtain rfl := someI hr
   exact ret_of hF hS rfl (.tmp rfl .nil) rfl
 ·have hr := cond_t hc1 hr
  refine q_cond_t hF rfl hc1 (q_seq (q_region (q_x (v := (.bool false)) hF hS (ex_assign rfl) rfl rfl fun a hF => q_end (n_sq (q_ret (r_sq ?_))))))
  obtain rfl := someI hr
  exact ret_of hF hS rfl (.tmp rfl .nil) rfl

theorem c_impl_SumsUp (p_g : impl_Geo) (p_values : List Int) (r : (List Int) × Bool) (hr : impl_SumsUp p_g p_values = some r) (w0 : World) (m : Mem) (hv : Vis m w0) (s1 : Sl) (h1 : Rd m s1 p_g.Parents) (s2 : Sl) (h2 : Rd m s2 p_values) :
  Ret Tryd.prog 47 [(.agg #[s1.v]), s2.v] w0 (fun v w => ∃ (q0' : Piece) (s0' : Sl), v = (.tuple #[s0'.v, (.bool r.2)]) ∧ St [] w0 w m [q0'] ∧ OwnL m 3 q0' s0' r.1) := by
 unfold impl_SumsUp at hr
 refine ret_start Tryd.func47 rfl 43 rfl rfl m hv fun a hF hS => q_seq (q_region (q_box (cs := [s1.v]) hF hS rfl rfl rfl fun a w b3 hF hS => q_x (v := nilS.v) hF hS (ex_assign rfl) rfl rfl fun a hF => q_x (v := (.bool false)) hF hS (ex_assign rfl) rfl rfl fun a hF => q_end (n_sq (q_seq (q_seq ?_)))))
 obtain ⟨t_6, hj1, hr⟩ := bindS hr
 refine q_join (fun a w => Fr a 43 [(1, s2.v), (2, (.pointer (some ⟨b3, 0, none⟩))), (18, (.bool t_6))] ∧ St [] w0 w m [[⟨b3, [s1.v], 60⟩]]) ?_ ?_
 ·refine q_region (q_x (v := (.agg #[s1.v])) hF hS (ex_loadA (vs := [s1.v]) 0 0 Tryd.underlying60 rfl sz60 rfl rfl rfl rfl) rfl rfl fun a hF => ?_)
  obtain ⟨t_4, ht_4, hj1⟩ := bindS hj1
  refine q_call (vs := [(.agg #[s1.v])]) hF hS Tryd.func37 (by kernel_rfl) rfl rfl rfl (c_impl_IsGeo p_g t_4 ht_4 _ m hS.vis s1 h1) ?_
  rintro a w _ rfl hF hS
  refine q_x (v := (.bool (!t_4))) hF hS (ex_not rfl) rfl rfl fun a hF => q_x (v := (.bool (!t_4))) hF hS (ex_move rfl) rfl rfl fun a hF => ?_
  rcases bcase (!t_4) with hc2 | hc2
  ·have hj1 := cond_f hc2 hj1
   refine q_xg (v := s2.v) hF hS (ex_move rfl) (wanted_t hF rfl rfl rfl hc2) rfl fun a hF => q_xg (v := (.pointer (some ⟨b3, 0, none⟩))) hF hS (ex_fieldAddr Tryd.underlying60 rfl sz42 rfl rfl) (wanted_t hF rfl rfl rfl hc2) rfl fun a hF => q_xg (v := s1.v) hF hS (ex_load1 0 0 Tryd.underlying42 rfl rfl rfl rfl) (wanted_t hF rfl rfl rfl hc2) rfl fun a hF => q_xg (v := (.int .i64 (goLen p_g.Parents))) hF hS (ex_len Tryd.underlying42 rfl h1.len) (wanted_t hF rfl rfl rfl hc2) rfl fun a hF => ?_
   obtain ⟨t_5, ht_5, hj1⟩ := bindS hj1
   refine q_callg (vs := [s2.v, (.int .i64 (goLen p_g.Parents))]) hF hS (wanted_t hF rfl rfl rfl hc2) Tryd.func103 (by kernel_rfl) rfl rfl rfl (c_impl_areSmallIntegers p_values (goLen p_g.Parents) t_5 ht_5 _ m hS.vis s2 h2) ?_
   rintro a w _ rfl hF hS
   refine q_xg (v := (.bool (!t_5))) hF hS (ex_not rfl) (wanted_t hF rfl rfl rfl hc2) rfl fun a hF => q_x (v := (.bool (!t_5))) hF hS (ex_pick_f rfl rfl hc2) rfl rfl fun a hF => q_end (n_jn ?_)
   obtain rfl := someI hj1
   exact ⟨hF.sub ⟨rfl, rfl, rfl, trivial⟩, hS⟩
  ·have hj1 := cond_t hc2 hj1
   refine q_skip hF (wanted_f hF rfl rfl rfl hc2 rfl) rfl fun a hF => q_skip hF (wanted_f hF rfl rfl rfl hc2 rfl) rfl fun a hF => q_skip hF (wanted_f hF rfl rfl rfl hc2 rfl) rfl fun a hF => q_skip hF (wanted_f hF rfl rfl rfl hc2 rfl) rfl fun a hF => q_skip hF (wanted_f hF rfl rfl rfl hc2 rfl) rfl fun a hF => q_skip hF (wanted_f hF rfl rfl rfl hc2 rfl) rfl fun a hF => q_x (v := (.bool true)) hF hS (ex_pick_t rfl rfl hc2) rfl rfl fun a hF => q_end (n_jn ?_)
   obtain rfl := someI hj1
   exact ⟨hF.sub ⟨rfl, rfl, rfl, trivial⟩, hS⟩
 ·rintro a w ⟨hF, hS⟩
  refine n_sq ?_
  rcases bcase (t_6) with hc3 | hc3
  ·have hr := cond_f hc3 hr
   refine q_cond_f hF rfl hc3 (q_skipc (n_sq (q_seq (q_region (q_x (v := s2.v) hF hS (ex_move rfl) rfl rfl fun a hF => ?_)))))
   obtain ⟨t_7, ht_7, hr⟩ := bindS hr
   refine q_call (vs := [s2.v]) hF hS Tryd.func81 (by kernel_rfl) rfl rfl rfl (c_slices_Clone_int_int p_values t_7 ht_7 _ m hS.vis s2 h2) ?_
   rintro a w _ ⟨q9, s9, rfl, hR8, h9⟩ hF hS2
   have hS : St _ _ _ _ [q9, [⟨b3, [s1.v], 60⟩]] := hS.joinF hR8
   refine q_x (v := s9.v) hF hS (ex_assign rfl) rfl rfl fun a hF => q_end (n_sq (q_seq (q_seq (q_region (q_x (v := s9.v) hF hS (ex_move rfl) rfl rfl fun a hF => q_x (v := (.int .i64 (goLen t_7))) hF hS (ex_len Tryd.underlying42 rfl h9.len) rfl rfl fun a hF => q_x (v := (.int .i64 (w64 ((goLen t_7) - 1)))) hF hS (ex_ibin rfl rfl rfl) rfl rfl fun a hF => q_x (v := (.int .i64 (w64 ((goLen t_7) - 1)))) hF hS (ex_assign rfl) rfl rfl fun a hF => q_end (n_sq (q_block ?_)))))))
   obtain ⟨sums_22, hl4, hr⟩ := bindS hr
   refine q_loop (fun (s : (List Int) × Int) a w => ∃ (q11 : Piece), ∃ sums_10, ∃ i_12, s = (sums_10, i_12) ∧ Fr a 43 [(2, (.pointer (some ⟨b3, 0, none⟩))), (6, s9.v), (7, (.int .i64 i_12))] ∧ St [] w0 w m [q11, [⟨b3, [s1.v], 60⟩]] ∧ OwnL m 3 q11 s9 sums_10) (fun (sums_22 : (List Int)) e a w => ∃ (q23 : Piece), e = .exit 0 ∧ Fr a 43 [(6, s9.v)] ∧ St [] w0 w m [q23] ∧ OwnL m 3 q23 s9 sums_22) hl4 ⟨q9, _, _, rfl, hF.sub ⟨rfl, rfl, rfl, trivial⟩, hS, h9⟩ ?_ ?_
   ·clear hF hS
    rintro s a w st ⟨q11, sums_10, i_12, rfl, hF, hS, h11⟩ hb4
    unfold impl_SumsUp_l1 at hb4
    refine q_seq (q_seq (q_region (q_x (v := (.int .i64 i_12)) hF hS (ex_move rfl) rfl rfl fun a hF => q_x (v := (.bool (decide (0 < i_12)))) hF hS (ex_ibin rfl rfl rfl) rfl rfl fun a hF => q_end (n_sq ?_))))
    rcases bcase (decide (0 < i_12)) with hc5 | hc5
    ·have hb4 := cond_f hc5 hb4
     refine q_cond_f hF rfl hc5 (q_exit (x_sq ?_))
     obtain rfl := someI hb4
     exact ⟨nofun, .inl ⟨q11, rfl, hF.sub ⟨rfl, trivial⟩, hS.mask [true, false], h11⟩⟩
    ·have hb4 := cond_t hc5 hb4
     refine q_cond_t hF rfl hc5 (q_skipc (n_sq (q_seq (q_block (e_region ⟨[14], [b3]⟩ mixed fun w' hw' => ?_)))))
     have hS := hS.below hw'
     refine e_p (v := s9.v) 0 hF rfl (ex_move rfl) rfl rfl (by kernel_rfl) (by kernel_rfl) (by kernel_rfl) fun a hF => e_p (v := (.pointer (some ⟨b3, 0, none⟩))) 1 hF rfl (ex_fieldAddr Tryd.underlying60 rfl sz42 rfl rfl) rfl rfl (by kernel_rfl) (by kernel_rfl) (by kernel_rfl) fun a hF => e_xb (v := s1.v) 2 1 hF hS (.head _) rfl rfl (ex_load1 0 0 Tryd.underlying42 rfl rfl rfl rfl) rfl rfl (by kernel_rfl) (by kernel_rfl) (by kernel_rfl) fun a hF => e_p (v := (.int .i64 i_12)) 3 hF rfl (ex_move rfl) rfl rfl (by kernel_rfl) (by kernel_rfl) (by kernel_rfl) fun a hF => ?_
     obtain ⟨e_13, he_13, hb4⟩ := bindS hb4
     obtain ⟨vs14, at14, d14⟩ := h1.at he_13 1 rfl
     obtain rfl : vs14 = [(.int .i64 e_13)] := d14
     refine e_p (v := (elP s1 (i_12.toNat * 1))) 4 hF rfl (ex_indexAddr Tryd.underlying42 sz3 rfl rfl (h1.idx he_13)) rfl rfl (by kernel_rfl) (by kernel_rfl) (by kernel_rfl) fun a hF => e_x (v := (.int .i64 e_13)) 5 hF hS rfl (ex_loadE1 0 Tryd.underlying3 rfl rfl ((at14).at) rfl rfl) rfl rfl (by kernel_rfl) (by kernel_rfl) (by kernel_rfl) (by kernel_rfl) fun a hF => ?_
     obtain ⟨e_15, he_15, hb4⟩ := bindS hb4
     obtain ⟨vs16, at16, d16⟩ := h11.at he_15 1 rfl
     obtain rfl : vs16 = [(.int .i64 e_15)] := d16
     refine e_p (v := (elP s9 (e_13.toNat * 1))) 6 hF rfl (ex_indexAddr Tryd.underlying42 sz3 rfl rfl (h11.idx he_15)) rfl rfl (by kernel_rfl) (by kernel_rfl) (by kernel_rfl) fun a hF => e_x (v := (.int .i64 e_15)) 7 hF hS rfl (ex_loadE1 0 Tryd.underlying3 rfl rfl (at16.at 0 rfl) rfl rfl) rfl rfl (by kernel_rfl) (by kernel_rfl) (by kernel_rfl) (by kernel_rfl) fun a hF => e_p (v := s9.v) 8 hF rfl (ex_move rfl) rfl rfl (by kernel_rfl) (by kernel_rfl) (by kernel_rfl) fun a hF => e_p (v := (.int .i64 i_12)) 9 hF rfl (ex_move rfl) rfl rfl (by kernel_rfl) (by kernel_rfl) (by kernel_rfl) fun a hF => ?_
     obtain ⟨e_17, he_17, hb4⟩ := bindS hb4
     obtain ⟨vs18, at18, d18⟩ := h11.at he_17 1 rfl
     obtain rfl : vs18 = [(.int .i64 e_17)] := d18
     refine e_p (v := (elP s9 (i_12.toNat * 1))) 10 hF rfl (ex_indexAddr Tryd.underlying42 sz3 rfl rfl (h11.idx he_17)) rfl rfl (by kernel_rfl) (by kernel_rfl) (by kernel_rfl) fun a hF => e_x (v := (.int .i64 e_17)) 11 hF hS rfl (ex_loadE1 0 Tryd.underlying3 rfl rfl (at18.at 0 rfl) rfl rfl) rfl rfl (by kernel_rfl) (by kernel_rfl) (by kernel_rfl) (by kernel_rfl) fun a hF => e_p (v := (.int .i64 (w64 (e_15 + e_17)))) 12 hF rfl (ex_ibin rfl rfl rfl) rfl rfl (by kernel_rfl) (by kernel_rfl) (by kernel_rfl) fun a hF => ?_
     obtain ⟨e_19, he_19, hb4⟩ := bindS hb4
     obtain ⟨vs20, at20, d20⟩ := h11.at he_19 1 rfl
     obtain rfl : vs20 = [(.int .i64 e_19)] := d20
     refine e_p (v := (elP s9 (e_13.toNat * 1))) 13 hF rfl (ex_indexAddr Tryd.underlying42 sz3 rfl rfl (h11.idx he_19)) rfl rfl (by kernel_rfl) (by kernel_rfl) (by kernel_rfl) fun a hF => e_one 14 (by kernel_rfl) ?_
     have hSo := hS
     refine e_opl rfl rfl rfl fun _ hK => wp_storeE (e' := (w64 (e_15 + e_17))) (us := [(.int .i64 (w64 (e_15 + e_17)))]) (vs := [(.int .i64 e_19)]) 0 hF hS h11 sz3 rfl rfl rfl rfl rfl rfl rfl he_19 at20 rfl rfl rfl fun w q21 hS h21 => hK _ _ (⟨kpC hSo hS 1 1 rfl rfl kpN, ?_⟩)
     refine e_end (by kernel_rfl) (n_ib (n_sq ?_)) _
     refine q_region (q_x (v := (.int .i64 i_12)) hF hS (ex_move rfl) rfl rfl fun a hF => q_x (v := (.int .i64 (w64 (i_12 - 1)))) hF hS (ex_ibin rfl rfl rfl) rfl rfl fun a hF => q_x (v := (.int .i64 (w64 (i_12 - 1)))) hF hS (ex_assign rfl) rfl rfl fun a hF => q_end ?_)
     obtain rfl := someI hb4
     exact ⟨rfl, q21, _, _, rfl, hF.sub ⟨rfl, rfl, rfl, trivial⟩, hS, h21⟩
   ·rintro e a w ⟨q23, rfl, hF, hS, h23⟩
    refine x_ib (n_sq ?_)
    refine q_seq (q_region (q_x (v := s9.v) hF hS (ex_move rfl) rfl rfl fun a hF => q_x (v := s9.v) hF hS (ex_assign rfl) rfl rfl fun a hF => q_x (v := (.bool true)) hF hS (ex_assign rfl) rfl rfl fun a hF => q_end (n_sq (q_ret ?_))))
    obtain rfl := someI hr
    exact ret_of hF hS rfl (.tmp rfl (.tmp rfl .nil)) ⟨q23, s9, rfl, hS.sel [0] (by decide), h23⟩
  ·have hr := cond_t hc3 hr
   refine q_cond_t hF rfl hc3 (q_seq (q_region (q_x (v := nilS.v) hF hS (ex_assign rfl) rfl rfl fun a hF => q_x (v := (.bool false)) hF hS (ex_assign rfl) rfl rfl fun a hF => q_end (n_sq (q_ret (r_sq ?_))))))
   obtain rfl := someI hr
   exact ret_of hF hS rfl (.tmp rfl (.tmp rfl .nil)) ⟨[], nilS, rfl, hS.sel [1] (by decide), (OwnL.nil (α := Int) m 3)⟩

theorem c_spec_l1All (p_l : List Int) (p_lo : Int) (p_hi : Int) (r : Bool) (hr : spec_l1All p_l p_lo p_hi = some r) (w0 : World) (m : Mem) (hv : Vis m w0) (s1 : Sl) (h1 : Rd m s1 p_l) :
  Ret Tryd.prog 104 [s1.v, (.int .i64 p_lo), (.int .i64 p_hi)] w0 (fun v _ => v = (.bool r)) := by
 unfold spec_l1All at hr
 refine ret_start Tryd.func104 rfl 21 rfl rfl m hv fun a hF hS => q_seq (q_region (q_x (v := (.bool false)) hF hS (ex_assign rfl) rfl rfl fun a hF => q_end (n_sq (q_seq (q_seq (q_region (q_x (v := s1.v) hF hS (ex_move rfl) rfl rfl fun a hF => q_x (v := (.int .i64 (goLen p_l))) hF hS (ex_len Tryd.underlying42 rfl h1.len) rfl rfl fun a hF => q_x (v := (.int .i64 0)) hF hS (ex_move rfl) rfl rfl fun a hF => q_end (n_sq (q_block ?_)))))))))
 obtain ⟨o1, hl1, hr⟩ := bindS hr
 refine q_loop (fun (t_2 : Int) a w => Fr a 21 [(1, (.int .i64 p_lo)), (2, (.int .i64 p_hi)), (9, s1.v), (10, (.int .i64 (goLen p_l))), (11, (.int .i64 t_2))] ∧ St [] w0 w m []) (fun (o : (Unit) ⊕ (Bool)) e a w => o = .inl () ∧ e = .exit 0 ∧ Fr a 21 [] ∧ St [] w0 w m []) hl1 ⟨hF.sub ⟨rfl, rfl, rfl, rfl, rfl, trivial⟩, hS⟩ ?_ ?_
 ·clear hF hS
  rintro t_2 a w st ⟨hF, hS⟩ hb1
  unfold spec_l1All_l1 at hb1
  refine q_seq (q_region (q_x (v := (.bool (decide (t_2 < (goLen p_l))))) hF hS (ex_ibin rfl rfl rfl) rfl rfl fun a hF => q_end (n_sq (q_seq ?_))))
  rcases bcase (decide (t_2 < (goLen p_l))) with hc2 | hc2
  ·have hb1 := cond_f hc2 hb1
   refine q_cond_f hF rfl hc2 (q_exit (x_sq ?_))
   obtain rfl := someI hb1
   exact ⟨nofun, .inl ⟨rfl, rfl, hF.sub trivial, hS⟩⟩
  ·have hb1 := cond_t hc2 hb1
   refine q_cond_t hF rfl hc2 (q_skipc (n_sq (q_seq (q_block (q_seq (q_region ?_))))))
   obtain ⟨e_3, he_3, hb1⟩ := bindS hb1
   obtain ⟨vs4, at4, d4⟩ := h1.at he_3 1 rfl
   obtain rfl : vs4 = [(.int .i64 e_3)] := d4
   refine q_x (v := (elP s1 (t_2.toNat * 1))) hF hS (ex_indexAddr Tryd.underlying42 sz3 rfl rfl (h1.idx he_3)) rfl rfl fun a hF => q_x (v := (.int .i64 e_3)) hF hS (ex_loadE1 0 Tryd.underlying3 rfl rfl ((at4).at) rfl rfl) rfl rfl fun a hF => q_x (v := (.int .i64 e_3)) hF hS (ex_assign rfl) rfl rfl fun a hF => q_end (n_sq (q_seq (q_region (q_x (v := (.int .i64 e_3)) hF hS (ex_move rfl) rfl rfl fun a hF => q_x (v := (.int .i64 p_lo)) hF hS (ex_move rfl) rfl rfl fun a hF => q_x (v := (.int .i64 p_hi)) hF hS (ex_move rfl) rfl rfl fun a hF => ?_))))
   obtain ⟨t_5, ht_5, hb1⟩ := bindS hb1
   refine q_call (vs := [(.int .i64 e_3), (.int .i64 p_lo), (.int .i64 p_hi)]) hF hS Tryd.func62 (by kernel_rfl) rfl rfl rfl (c_spec_l1In e_3 p_lo p_hi t_5 ht_5 _ m hS.vis) ?_
   rintro a w _ rfl hF hS
   refine q_x (v := (.bool (!t_5))) hF hS (ex_not rfl) rfl rfl fun a hF => q_end (n_sq ?_)
   rcases bcase (!t_5) with hc3 | hc3
   ·have hb1 := cond_f hc3 hb1
    refine q_cond_f hF rfl hc3 (q_skipc (n_ib (n_sq (q_region (q_x (v := (.int .i64 (w64 (t_2 + 1)))) hF hS (ex_ibin rfl rfl rfl) rfl rfl fun a hF => q_x (v := (.int .i64 (w64 (t_2 + 1)))) hF hS (ex_move rfl) rfl rfl fun a hF => q_end ?_)))))
    obtain rfl := someI hb1
    exact ⟨rfl, hF.sub ⟨rfl, rfl, rfl, rfl, rfl, trivial⟩, hS⟩
   ·have hb1 := cond_t hc3 hb1
    refine q_cond_t hF rfl hc3 (q_seq (q_region (q_x (v := (.bool false)) hF hS (ex_assign rfl) rfl rfl fun a hF => q_end (n_sq (q_ret (r_ib (r_sq ?_)))))))
    obtain rfl := someI hb1
    refine ⟨nofun, .inr fun ho => ?_⟩
    subst ho
    refine r_ib (r_sq ?_)
    obtain rfl := someI hr
    exact ret_of hF hS rfl (.tmp rfl .nil) rfl
 ·rintro e a w ⟨rfl, rfl, hF, hS⟩
  refine x_ib (n_sq ?_)
  refine q_seq (q_region (q_x (v := (.bool true)) hF hS (ex_assign rfl) rfl rfl fun a hF => q_end (n_sq (q_ret ?_))))
  obtain rfl := someI hr
  exact ret_of hF hS rfl (.tmp rfl .nil) rfl

theorem c_spec_gSums (p_g : impl_Geo) (p_values : List Int) (r : (List Int)) (hr : spec_gSums p_g p_values = some r) (w0 : World) (m : Mem) (hv : Vis m w0) (s1 : Sl) (h1 : Rd m s1 p_g.Parents) (s2 : Sl) (h2 : Rd m s2 p_values) :
  Ret Tryd.prog 105 [(.agg #[s1.v]), s2.v] w0 (fun v w => ∃ (q0' : Piece) (s0' : Sl), v = s0'.v ∧ St [] w0 w m [q0'] ∧ OwnL m 3 q0' s0' r) := by
 unfold spec_gSums at hr
 refine ret_start Tryd.func105 rfl 31 rfl rfl m hv fun a hF hS => q_seq (q_region (q_box (cs := [s1.v]) hF hS rfl rfl rfl fun a w b3 hF hS => q_x (v := nilS.v) hF hS (ex_assign rfl) rfl rfl fun a hF => q_end (n_sq (q_seq (q_region (q_x (v := s2.v) hF hS (ex_move rfl) rfl rfl fun a hF => ?_))))))
 obtain ⟨t_4, ht_4, hr⟩ := bindS hr
 refine q_call (vs := [s2.v]) hF hS Tryd.func84 (by kernel_rfl) rfl rfl rfl (c_spec_l1Own p_values t_4 ht_4 _ m hS.vis s2 h2) ?_
 rintro a w _ ⟨q6, s6, rfl, hR5, h6⟩ hF hS2
 have hS : St _ _ _ _ [q6, [⟨b3, [s1.v], 60⟩]] := hS.joinF hR5
 refine q_x (v := s6.v) hF hS (ex_assign rfl) rfl rfl fun a hF => q_end (n_sq (q_seq (q_seq (q_region (q_x (v := s6.v) hF hS (ex_move rfl) rfl rfl fun a hF => q_x (v := (.int .i64 (goLen t_4))) hF hS (ex_len Tryd.underlying42 rfl h6.len) rfl rfl fun a hF => q_x (v := (.int .i64 (w64 ((goLen t_4) - 1)))) hF hS (ex_ibin rfl rfl rfl) rfl rfl fun a hF => q_x (v := (.int .i64 (w64 ((goLen t_4) - 1)))) hF hS (ex_assign rfl) rfl rfl fun a hF => q_end (n_sq (q_block ?_)))))))
 obtain ⟨out_19, hl1, hr⟩ := bindS hr
 refine q_loop (fun (s : (List Int) × Int) a w => ∃ (q8 : Piece), ∃ out_7, ∃ i_9, s = (out_7, i_9) ∧ Fr a 31 [(2, (.pointer (some ⟨b3, 0, none⟩))), (5, s6.v), (6, (.int .i64 i_9))] ∧ St [] w0 w m [q8, [⟨b3, [s1.v], 60⟩]] ∧ OwnL m 3 q8 s6 out_7) (fun (out_19 : (List Int)) e a w => ∃ (q20 : Piece), e = .exit 0 ∧ Fr a 31 [(5, s6.v)] ∧ St [] w0 w m [q20] ∧ OwnL m 3 q20 s6 out_19) hl1 ⟨q6, _, _, rfl, hF.sub ⟨rfl, rfl, rfl, trivial⟩, hS, h6⟩ ?_ ?_
 ·clear hF hS
  rintro s a w st ⟨q8, out_7, i_9, rfl, hF, hS, h8⟩ hb1
  unfold spec_gSums_l1 at hb1
  refine q_seq (q_seq (q_region (q_x (v := (.int .i64 i_9)) hF hS (ex_move rfl) rfl rfl fun a hF => q_x (v := (.bool (decide (0 < i_9)))) hF hS (ex_ibin rfl rfl rfl) rfl rfl fun a hF => q_end (n_sq ?_))))
  rcases bcase (decide (0 < i_9)) with hc2 | hc2
  ·have hb1 := cond_f hc2 hb1
   refine q_cond_f hF rfl hc2 (q_exit (x_sq ?_))
   obtain rfl := someI hb1
   exact ⟨nofun, .inl ⟨q8, rfl, hF.sub ⟨rfl, trivial⟩, hS.mask [true, false], h8⟩⟩
  ·have hb1 := cond_t hc2 hb1
   refine q_cond_t hF rfl hc2 (q_skipc (n_sq (q_seq (q_block (e_region ⟨[14], [b3]⟩ mixed fun w' hw' => ?_)))))
   have hS := hS.below hw'
   refine e_p (v := s6.v) 0 hF rfl (ex_move rfl) rfl rfl (by kernel_rfl) (by kernel_rfl) (by kernel_rfl) fun a hF => e_p (v := (.pointer (some ⟨b3, 0, none⟩))) 1 hF rfl (ex_fieldAddr Tryd.underlying60 rfl sz42 rfl rfl) rfl rfl (by kernel_rfl) (by kernel_rfl) (by kernel_rfl) fun a hF => e_xb (v := s1.v) 2 1 hF hS (.head _) rfl rfl (ex_load1 0 0 Tryd.underlying42 rfl rfl rfl rfl) rfl rfl (by kernel_rfl) (by kernel_rfl) (by kernel_rfl) fun a hF => e_p (v := (.int .i64 i_9)) 3 hF rfl (ex_move rfl) rfl rfl (by kernel_rfl) (by kernel_rfl) (by kernel_rfl) fun a hF => ?_
   obtain ⟨e_10, he_10, hb1⟩ := bindS hb1
   obtain ⟨vs11, at11, d11⟩ := h1.at he_10 1 rfl
   obtain rfl : vs11 = [(.int .i64 e_10)] := d11
   refine e_p (v := (elP s1 (i_9.toNat * 1))) 4 hF rfl (ex_indexAddr Tryd.underlying42 sz3 rfl rfl (h1.idx he_10)) rfl rfl (by kernel_rfl) (by kernel_rfl) (by kernel_rfl) fun a hF => e_x (v := (.int .i64 e_10)) 5 hF hS rfl (ex_loadE1 0 Tryd.underlying3 rfl rfl ((at11).at) rfl rfl) rfl rfl (by kernel_rfl) (by kernel_rfl) (by kernel_rfl) (by kernel_rfl) fun a hF => ?_
   obtain ⟨e_12, he_12, hb1⟩ := bindS hb1
   obtain ⟨vs13, at13, d13⟩ := h8.at he_12 1 rfl
   obtain rfl : vs13 = [(.int .i64 e_12)] := d13
   refine e_p (v := (elP s6 (e_10.toNat * 1))) 6 hF rfl (ex_indexAddr Tryd.underlying42 sz3 rfl rfl (h8.idx he_12)) rfl rfl (by kernel_rfl) (by kernel_rfl) (by kernel_rfl) fun a hF => e_x (v := (.int .i64 e_12)) 7 hF hS rfl (ex_loadE1 0 Tryd.underlying3 rfl rfl (at13.at 0 rfl) rfl rfl) rfl rfl (by kernel_rfl) (by kernel_rfl) (by kernel_rfl) (by kernel_rfl) fun a hF => e_p (v := s6.v) 8 hF rfl (ex_move rfl) rfl rfl (by kernel_rfl) (by kernel_rfl) (by kernel_rfl) fun a hF => e_p (v := (.int .i64 i_9)) 9 hF rfl (ex_move rfl) rfl rfl (by kernel_rfl) (by kernel_rfl) (by kernel_rfl) fun a hF => ?_
   obtain ⟨e_14, he_14, hb1⟩ := bindS hb1
   obtain ⟨vs15, at15, d15⟩ := h8.at he_14 1 rfl
   obtain rfl : vs15 = [(.int .i64 e_14)] := d15
   refine e_p (v := (elP s6 (i_9.toNat * 1))) 10 hF rfl (ex_indexAddr Tryd.underlying42 sz3 rfl rfl (h8.idx he_14)) rfl rfl (by kernel_rfl) (by kernel_rfl) (by kernel_rfl) fun a hF => e_x (v := (.int .i64 e_14)) 11 hF hS rfl (ex_loadE1 0 Tryd.underlying3 rfl rfl (at15.at 0 rfl) rfl rfl) rfl rfl (by kernel_rfl) (by kernel_rfl) (by kernel_rfl) (by kernel_rfl) fun a hF => e_p (v := (.int .i64 (w64 (e_12 + e_14)))) 12 hF rfl (ex_ibin rfl rfl rfl) rfl rfl (by kernel_rfl) (by kernel_rfl) (by kernel_rfl) fun a hF => ?_
   obtain ⟨e_16, he_16, hb1⟩ := bindS hb1
   obtain ⟨vs17, at17, d17⟩ := h8.at he_16 1 rfl
   obtain rfl : vs17 = [(.int .i64 e_16)] := d17
   refine e_p (v := (elP s6 (e_10.toNat * 1))) 13 hF rfl (ex_indexAddr Tryd.underlying42 sz3 rfl rfl (h8.idx he_16)) rfl rfl (by kernel_rfl) (by kernel_rfl) (by kernel_rfl) fun a hF => e_one 14 (by kernel_rfl) ?_
   have hSo := hS
   refine e_opl rfl rfl rfl fun _ hK => wp_storeE (e' := (w64 (e_12 + e_14))) (us := [(.int .i64 (w64 (e_12 + e_14)))]) (vs := [(.int .i64 e_16)]) 0 hF hS h8 sz3 rfl rfl rfl rfl rfl rfl rfl he_16 at17 rfl rfl rfl fun w q18 hS h18 => hK _ _ (⟨kpC hSo hS 1 1 rfl rfl kpN, ?_⟩)
   refine e_end (by kernel_rfl) (n_ib (n_sq ?_)) _
   refine q_region (q_x (v := (.int .i64 i_9)) hF hS (ex_move rfl) rfl rfl fun a hF => q_x (v := (.int .i64 (w64 (i_9 - 1)))) hF hS (ex_ibin rfl rfl rfl) rfl rfl fun a hF => q_x (v := (.int .i64 (w64 (i_9 - 1)))) hF hS (ex_assign rfl) rfl rfl fun a hF => q_end ?_)
   obtain rfl := someI hb1
   exact ⟨rfl, q18, _, _, rfl, hF.sub ⟨rfl, rfl, rfl, trivial⟩, hS, h18⟩
 ·rintro e a w ⟨q20, rfl, hF, hS, h20⟩
  refine x_ib (n_sq ?_)
  refine q_seq (q_region (q_x (v := s6.v) hF hS (ex_move rfl) rfl rfl fun a hF => q_x (v := s6.v) hF hS (ex_assign rfl) rfl rfl fun a hF => q_end (n_sq (q_ret ?_))))
  obtain rfl := someI hr
  exact ret_of hF hS rfl (.tmp rfl .nil) ⟨q20, s6, rfl, hS.sel [0] (by decide), h20⟩

theorem c_spec_SumsUp (p_g : impl_Geo) (p_values : List Int) (r : (List Int) × Bool) (hr : spec_SumsUp p_g p_values = some r) (w0 : World) (m : Mem) (hv : Vis m w0) (s1 : Sl) (h1 : Rd m s1 p_g.Parents) (s2 : Sl) (h2 : Rd m s2 p_values) :
  Ret Tryd.prog 48 [(.agg #[s1.v]), s2.v] w0 (fun v w => ∃ (q0' : Piece) (s0' : Sl), v = (.tuple #[s0'.v, (.bool r.2)]) ∧ St [] w0 w m [q0'] ∧ OwnL m 3 q0' s0' r.1) := by
 unfold spec_SumsUp at hr
 refine ret_start Tryd.func48 rfl 25 rfl rfl m hv fun a hF hS => q_seq (q_region (q_box (cs := [s1.v]) hF hS rfl rfl rfl fun a w b3 hF hS => q_x (v := nilS.v) hF hS (ex_assign rfl) rfl rfl fun a hF => q_x (v := (.bool false)) hF hS (ex_assign rfl) rfl rfl fun a hF => q_end (n_sq (q_seq (q_seq ?_)))))
 obtain ⟨t_6, hj1, hr⟩ := bindS hr
 refine q_join (fun a w => Fr a 25 [(1, s2.v), (2, (.pointer (some ⟨b3, 0, none⟩))), (21, (.bool t_6))] ∧ St [] w0 w m [[⟨b3, [s1.v], 60⟩]]) ?_ ?_
 ·refine q_region (q_x (v := (.agg #[s1.v])) hF hS (ex_loadA (vs := [s1.v]) 0 0 Tryd.underlying60 rfl sz60 rfl rfl rfl rfl) rfl rfl fun a hF => ?_)
  obtain ⟨t_4, ht_4, hj1⟩ := bindS hj1
  refine q_call (vs := [(.agg #[s1.v])]) hF hS Tryd.func92 (by kernel_rfl) rfl rfl rfl (c_spec_gGood p_g t_4 ht_4 _ m hS.vis s1 h1) ?_
  rintro a w _ rfl hF hS
  refine q_x (v := (.bool (!t_4))) hF hS (ex_not rfl) rfl rfl fun a hF => q_x (v := (.bool (!t_4))) hF hS (ex_move rfl) rfl rfl fun a hF => ?_
  rcases bcase (!t_4) with hc2 | hc2
  ·have hj1 := cond_f hc2 hj1
   refine q_xg (v := s2.v) hF hS (ex_move rfl) (wanted_t hF rfl rfl rfl hc2) rfl fun a hF => q_xg (v := (.int .i64 (goLen p_values))) hF hS (ex_len Tryd.underlying42 rfl h2.len) (wanted_t hF rfl rfl rfl hc2) rfl fun a hF => q_xg (v := (.pointer (some ⟨b3, 0, none⟩))) hF hS (ex_fieldAddr Tryd.underlying60 rfl sz42 rfl rfl) (wanted_t hF rfl rfl rfl hc2) rfl fun a hF => q_xg (v := s1.v) hF hS (ex_load1 0 0 Tryd.underlying42 rfl rfl rfl rfl) (wanted_t hF rfl rfl rfl hc2) rfl fun a hF => q_xg (v := (.int .i64 (goLen p_g.Parents))) hF hS (ex_len Tryd.underlying42 rfl h1.len) (wanted_t hF rfl rfl rfl hc2) rfl fun a hF => q_xg (v := (.bool ((goLen p_values) != (goLen p_g.Parents)))) hF hS (ex_ibin rfl rfl rfl) (wanted_t hF rfl rfl rfl hc2) rfl fun a hF => q_x (v := (.bool ((goLen p_values) != (goLen p_g.Parents)))) hF hS (ex_pick_f rfl rfl hc2) rfl rfl fun a hF => q_x (v := (.bool ((goLen p_values) != (goLen p_g.Parents)))) hF hS (ex_move rfl) rfl rfl fun a hF => ?_
   rcases bcase ((goLen p_values) != (goLen p_g.Parents)) with hc3 | hc3
   ·have hj1 := cond_f hc3 hj1
    refine q_xg (v := s2.v) hF hS (ex_move rfl) (wanted_t hF rfl rfl rfl hc3) rfl fun a hF => ?_
    obtain ⟨t_5, ht_5, hj1⟩ := bindS hj1
    refine q_callg (vs := [s2.v, (.int .i64 (-1000000)), (.int .i64 1000000)]) hF hS (wanted_t hF rfl rfl rfl hc3) Tryd.func104 (by kernel_rfl) rfl rfl rfl (c_spec_l1All p_values (-1000000) 1000000 t_5 ht_5 _ m hS.vis s2 h2) ?_
    rintro a w _ rfl hF hS
    refine q_xg (v := (.bool (!t_5))) hF hS (ex_not rfl) (wanted_t hF rfl rfl rfl hc3) rfl fun a hF => q_x (v := (.bool (!t_5))) hF hS (ex_pick_f rfl rfl hc3) rfl rfl fun a hF => q_end (n_jn ?_)
    obtain rfl := someI hj1
    exact ⟨hF.sub ⟨rfl, rfl, rfl, trivial⟩, hS⟩
   ·have hj1 := cond_t hc3 hj1
    refine q_skip hF (wanted_f hF rfl rfl rfl hc3 rfl) rfl fun a hF => q_skip hF (wanted_f hF rfl rfl rfl hc3 rfl) rfl fun a hF => q_skip hF (wanted_f hF rfl rfl rfl hc3 rfl) rfl fun a hF => q_x (v := (.bool true)) hF hS (ex_pick_t rfl rfl hc3) rfl rfl fun a hF => q_end (n_jn ?_)
    obtain rfl := someI hj1
    exact ⟨hF.sub ⟨rfl, rfl, rfl, trivial⟩, hS⟩
  ·have hj1 := cond_t hc2 hj1
   refine q_skip hF (wanted_f hF rfl rfl rfl hc2 rfl) rfl fun a hF => q_skip hF (wanted_f hF rfl rfl rfl hc2 rfl) rfl fun a hF => q_skip hF (wanted_f hF rfl rfl rfl hc2 rfl) rfl fun a hF => q_skip hF (wanted_f hF rfl rfl rfl hc2 rfl) rfl fun a hF => q_skip hF (wanted_f hF rfl rfl rfl hc2 rfl) rfl fun a hF => q_skip hF (wanted_f hF rfl rfl rfl hc2 rfl) rfl fun a hF => q_x (v := (.bool true)) hF hS (ex_pick_t rfl rfl hc2) rfl rfl fun a hF => q_x (v := (.bool true)) hF hS (ex_move rfl) rfl rfl fun a hF => q_skip hF (wanted_f hF rfl rfl rfl rfl rfl) rfl fun a hF => q_skip hF (wanted_f hF rfl rfl rfl rfl rfl) rfl fun a hF => q_skip hF (wanted_f hF rfl rfl rfl rfl rfl) rfl fun a hF => q_x (v := (.bool true)) hF hS (ex_pick_t rfl rfl rfl) rfl rfl fun a hF => q_end (n_jn ?_)
   obtain rfl := someI hj1
   exact ⟨hF.sub ⟨rfl, rfl, rfl, trivial⟩, hS⟩
 ·rintro a w ⟨hF, hS⟩
  refine n_sq ?_
  rcases bcase (t_6) with hc4 | hc4
  ·have hr := cond_f hc4 hr
   refine q_cond_f hF rfl hc4 (q_skipc (n_sq (q_seq (q_region (q_x (v := (.agg #[s1.v])) hF hS (ex_loadA (vs := [s1.v]) 0 0 Tryd.underlying60 rfl sz60 rfl rfl rfl rfl) rfl rfl fun a hF => q_x (v := s2.v) hF hS (ex_move rfl) rfl rfl fun a hF => ?_)))))
   obtain ⟨t_7, ht_7, hr⟩ := bindS hr
   refine q_call (vs := [(.agg #[s1.v]), s2.v]) hF hS Tryd.func105 (by kernel_rfl) rfl rfl rfl (c_spec_gSums p_g p_values t_7 ht_7 _ m hS.vis s1 h1 s2 h2) ?_
   rintro a w _ ⟨q9, s9, rfl, hR8, h9⟩ hF hS2
   have hS : St _ _ _ _ [q9, [⟨b3, [s1.v], 60⟩]] := hS.joinF hR8
   refine q_x (v := s9.v) hF hS (ex_assign rfl) rfl rfl fun a hF => q_x (v := (.bool true)) hF hS (ex_assign rfl) rfl rfl fun a hF => q_end (n_sq (q_ret ?_))
   obtain rfl := someI hr
   exact ret_of hF hS rfl (.tmp rfl (.tmp rfl .nil)) ⟨q9, s9, rfl, hS.sel [0] (by decide), h9⟩
  ·have hr := cond_t hc4 hr
   refine q_cond_t hF rfl hc4 (q_seq (q_region (q_x (v := nilS.v) hF hS (ex_assign rfl) rfl rfl fun a hF => q_x (v := (.bool false)) hF hS (ex_assign rfl) rfl rfl fun a hF => q_end (n_sq (q_ret (r_sq ?_))))))
   obtain rfl := someI hr
   exact ret_of hF hS rfl (.tmp rfl (.tmp rfl .nil)) ⟨[], nilS, rfl, hS.sel [1] (by decide), (OwnL.nil (α := Int) m 3)⟩

theorem c_laws_pSum (p_l : List Int) (r : Int) (hr : laws_pSum p_l = some r) (w0 : World) (m : Mem) (hv : Vis m w0) (s1 : Sl) (h1 : Rd m s1 p_l) :
  Ret Tryd.prog 49 [s1.v] w0 (fun v _ => v = (.int .i64 r)) := by
 unfold laws_pSum at hr
 refine ret_start Tryd.func49 rfl 17 rfl rfl m hv fun a hF hS => q_seq (q_region (q_x (v := (.int .i64 0)) hF hS (ex_assign rfl) rfl rfl fun a hF => q_end (n_sq (q_seq (q_region (q_x (v := (.int .i64 0)) hF hS (ex_assign rfl) rfl rfl fun a hF => q_end (n_sq (q_seq (q_seq (q_region (q_x (v := s1.v) hF hS (ex_move rfl) rfl rfl fun a hF => q_x (v := (.int .i64 (goLen p_l))) hF hS (ex_len Tryd.underlying42 rfl h1.len) rfl rfl fun a hF => q_x (v := (.int .i64 0)) hF hS (ex_move rfl) rfl rfl fun a hF => q_end (n_sq (q_block ?_)))))))))))))
 obtain ⟨sum_6, hl1, hr⟩ := bindS hr
 refine q_loop (fun (s : Int × Int) a w => ∃ sum_2, ∃ t_3, s = (sum_2, t_3) ∧ Fr a 17 [(3, (.int .i64 sum_2)), (6, s1.v), (7, (.int .i64 (goLen p_l))), (8, (.int .i64 t_3))] ∧ St [] w0 w m []) (fun (sum_6 : Int) e a w => e = .exit 0 ∧ Fr a 17 [(3, (.int .i64 sum_6))] ∧ St [] w0 w m []) hl1 ⟨_, _, rfl, hF.sub ⟨rfl, rfl, rfl, rfl, trivial⟩, hS⟩ ?_ ?_
 ·clear hF hS
  rintro s a w st ⟨sum_2, t_3, rfl, hF, hS⟩ hb1
  unfold laws_pSum_l1 at hb1
  refine q_seq (q_region (q_x (v := (.bool (decide (t_3 < (goLen p_l))))) hF hS (ex_ibin rfl rfl rfl) rfl rfl fun a hF => q_end (n_sq (q_seq ?_))))
  rcases bcase (decide (t_3 < (goLen p_l))) with hc2 | hc2
  ·have hb1 := cond_f hc2 hb1
   refine q_cond_f hF rfl hc2 (q_exit (x_sq ?_))
   obtain rfl := someI hb1
   exact ⟨nofun, .inl ⟨rfl, hF.sub ⟨rfl, trivial⟩, hS⟩⟩
  ·have hb1 := cond_t hc2 hb1
   refine q_cond_t hF rfl hc2 (q_skipc (n_sq (q_seq (q_block (q_seq (q_region ?_))))))
   obtain ⟨e_4, he_4, hb1⟩ := bindS hb1
   obtain ⟨vs5, at5, d5⟩ := h1.at he_4 1 rfl
   obtain rfl : vs5 = [(.int .i64 e_4)] := d5
   refine q_x (v := (elP s1 (t_3.toNat * 1))) hF hS (ex_indexAddr Tryd.underlying42 sz3 rfl rfl (h1.idx he_4)) rfl rfl fun a hF => q_x (v := (.int .i64 e_4)) hF hS (ex_loadE1 0 Tryd.underlying3 rfl rfl ((at5).at) rfl rfl) rfl rfl fun a hF => q_x (v := (.int .i64 e_4)) hF hS (ex_assign rfl) rfl rfl fun a hF => q_end (n_sq (q_region (q_x (v := (.int .i64 sum_2)) hF hS (ex_move rfl) rfl rfl fun a hF => q_x (v := (.int .i64 e_4)) hF hS (ex_move rfl) rfl rfl fun a hF => q_x (v := (.int .i64 (w64 (sum_2 + e_4)))) hF hS (ex_ibin rfl rfl rfl) rfl rfl fun a hF => q_x (v := (.int .i64 (w64 (sum_2 + e_4)))) hF hS (ex_assign rfl) rfl rfl fun a hF => q_end (n_ib (n_sq (q_region (q_x (v := (.int .i64 (w64 (t_3 + 1)))) hF hS (ex_ibin rfl rfl rfl) rfl rfl fun a hF => q_x (v := (.int .i64 (w64 (t_3 + 1)))) hF hS (ex_move rfl) rfl rfl fun a hF => q_end ?_)))))))
   obtain rfl := someI hb1
   exact ⟨rfl, _, _, rfl, hF.sub ⟨rfl, rfl, rfl, rfl, trivial⟩, hS⟩
 ·rintro e a w ⟨rfl, hF, hS⟩
  refine x_ib (n_sq ?_)
  refine q_seq (q_region (q_x (v := (.int .i64 sum_6)) hF hS (ex_move rfl) rfl rfl fun a hF => q_x (v := (.int .i64 sum_6)) hF hS (ex_assign rfl) rfl rfl fun a hF => q_end (n_sq (q_ret ?_))))
  obtain rfl := someI hr
  exact ret_of hF hS rfl (.tmp rfl .nil) rfl

theorem c_laws_FnGeos (p_code : List (K .u8)) (p_more : List (K .u8)) (r : Bool) (hr : laws_FnGeos p_code p_more = some r) (w0 : World) (m : Mem) (hv : Vis m w0) (ht : Tbl m) (s1 : Sl) (h1 : Rd m s1 p_code) (s2 : Sl) (h2 : Rd m s2 p_more) :
  Ret Tryd.prog 5 [s1.v, s2.v] w0 (fun v _ => v = (.bool r)) := by
 unfold laws_FnGeos at hr
 refine ret_start Tryd.func5 rfl 193 rfl rfl m hv fun a hF hS => q_seq (q_region (q_x (v := (.bool false)) hF hS (ex_assign rfl) rfl rfl fun a hF => q_end (n_sq (q_seq (q_seq (q_region (q_x (v := s1.v) hF hS (ex_move rfl) rfl rfl fun a hF => q_x (v := s2.v) hF hS (ex_move rfl) rfl rfl fun a hF => ?_)))))))
 obtain ⟨t_3, ht_3, hr⟩ := bindS hr
 refine q_call (vs := [s1.v, s2.v]) hF hS Tryd.func33 (by kernel_rfl) rfl rfl rfl (c_laws_big p_code p_more t_3 ht_3 _ m hS.vis s1 h1 s2 h2) ?_
 rintro a w _ rfl hF hS
 refine q_end (n_sq ?_)
 rcases bcase (t_3) with hc1 | hc1
 ·have hr := cond_f hc1 hr
  refine q_cond_f hF rfl hc1 (q_skipc (n_sq (q_seq (q_region (q_x (v := s1.v) hF hS (ex_move rfl) rfl rfl fun a hF => ?_)))))
  obtain ⟨t_4, ht_4, hr⟩ := bindS hr
  refine q_call (vs := [s1.v]) hF hS Tryd.func34 (by kernel_rfl) rfl rfl rfl (c_spec_DrawGeoText p_code t_4 ht_4 _ m hS.vis s1 h1) ?_
  have hT := hS
  rintro a w _ ⟨m5, q6, s6, rfl, hm5, hR5, h6⟩ hF hS2
  have hS : St _ _ _ _ [q6] := hS.join hR5 hm5
  have hm5 := MLe.weakX (O0 := []) hT hm5
  refine q_alloc (cs := [nilS.v]) hF hS rfl rfl rfl fun a w b7 hF hS => q_store (vs := [s6.v]) (cs' := [s6.v]) 0 0 hF hS sz60 rfl rfl rfl rfl rfl rfl rfl rfl fun a w hF hS => q_end (n_sq (q_seq (q_region (q_x (v := (.agg #[s6.v])) hF hS (ex_loadA (vs := [s6.v]) 0 0 Tryd.underlying60 rfl sz60 rfl rfl rfl rfl) rfl rfl fun a hF => ?_))))
  obtain ⟨m9, hl9, hv9, hz9⟩ := hS.lend
  obtain ⟨t_8, ht_8, hr⟩ := bindS hr
  refine q_call (vs := [(.agg #[s6.v])]) hF hS Tryd.func35 (by kernel_rfl) rfl rfl rfl (c_impl_GeoText t_4 t_8 ht_8 _ m9 hv9 ((ht.mono hm5.le).mono hl9) s6 (h6.froz hl9 (hz9 1 _ rfl))) ?_
  rintro a w _ rfl hF hS
  refine q_x (v := (.tuple #[(strV t_8.1), (.bool t_8.2)])) hF hS (ex_move rfl) rfl rfl fun a hF => q_x (v := (strV t_8.1)) hF hS (ex_extract rfl rfl) rfl rfl fun a hF => q_x (v := (.bool t_8.2)) hF hS (ex_extract rfl rfl) rfl rfl fun a hF => q_x (v := (strV t_8.1)) hF hS (ex_assign rfl) rfl rfl fun a hF => q_x (v := (.bool t_8.2)) hF hS (ex_assign rfl) rfl rfl fun a hF => q_end (n_sq (q_seq (q_region (q_x (v := (.agg #[s6.v])) hF hS (ex_loadA (vs := [s6.v]) 0 0 Tryd.underlying60 rfl sz60 rfl rfl rfl rfl) rfl rfl fun a hF => ?_))))
  obtain ⟨m11, hl11, hv11, hz11⟩ := hS.lend
  obtain ⟨t_10, ht_10, hr⟩ := bindS hr
  refine q_call (vs := [(.agg #[s6.v])]) hF hS Tryd.func36 (by kernel_rfl) rfl rfl rfl (c_spec_GeoText t_4 t_10 ht_10 _ m11 hv11 s6 (h6.froz hl11 (hz11 1 _ rfl))) ?_
  rintro a w _ rfl hF hS
  refine q_x (v := (.tuple #[(strV t_10.1), (.bool t_10.2)])) hF hS (ex_move rfl) rfl rfl fun a hF => q_x (v := (strV t_10.1)) hF hS (ex_extract rfl rfl) rfl rfl fun a hF => q_x (v := (.bool t_10.2)) hF hS (ex_extract rfl rfl) rfl rfl fun a hF => q_x (v := (strV t_10.1)) hF hS (ex_assign rfl) rfl rfl fun a hF => q_x (v := (.bool t_10.2)) hF hS (ex_assign rfl) rfl rfl fun a hF => q_end (n_sq (q_seq (q_seq ?_)))
  obtain ⟨t_14, hj2, hr⟩ := bindS hr
  refine q_join (fun a w => Fr a 193 [(1, s2.v), (5, (.pointer (some ⟨b7, 0, none⟩))), (6, (strV t_8.1)), (7, (.bool t_8.2)), (61, (.bool t_14))] ∧ St [] w0 w m5 [q6, [⟨b7, [s6.v], 60⟩]]) ?_ ?_
  ·refine q_region (q_x (v := (.bool t_8.2)) hF hS (ex_move rfl) rfl rfl fun a hF => q_x (v := (.bool t_10.2)) hF hS (ex_move rfl) rfl rfl fun a hF => q_x (v := (.bool (t_8.2 != t_10.2))) hF hS (ex_bne Tryd.underlying4 rfl rfl) rfl rfl fun a hF => q_x (v := (.bool (t_8.2 != t_10.2))) hF hS (ex_move rfl) rfl rfl fun a hF => ?_)
   rcases bcase (t_8.2 != t_10.2) with hc3 | hc3
   ·have hj2 := cond_f hc3 hj2
    refine q_xg (v := (strV t_8.1)) hF hS (ex_move rfl) (wanted_t hF rfl rfl rfl hc3) rfl fun a hF => q_xg (v := (strV t_10.1)) hF hS (ex_move rfl) (wanted_t hF rfl rfl rfl hc3) rfl fun a hF => q_xg (v := (.bool (t_8.1 != t_10.1))) hF hS (ex_strNe rfl rfl) (wanted_t hF rfl rfl rfl hc3) rfl fun a hF => q_x (v := (.bool (t_8.1 != t_10.1))) hF hS (ex_pick_f rfl rfl hc3) rfl rfl fun a hF => q_x (v := (.bool (t_8.1 != t_10.1))) hF hS (ex_move rfl) rfl rfl fun a hF => ?_
    rcases bcase (t_8.1 != t_10.1) with hc4 | hc4
    ·have hj2 := cond_f hc4 hj2
     refine q_xg (v := (.bool t_8.2)) hF hS (ex_move rfl) (wanted_t hF rfl rfl rfl hc4) rfl fun a hF => q_xg (v := (.agg #[s6.v])) hF hS (ex_loadA (vs := [s6.v]) 0 0 Tryd.underlying60 rfl sz60 rfl rfl rfl rfl) (wanted_t hF rfl rfl rfl hc4) rfl fun a hF => ?_
     obtain ⟨m13, hl13, hv13, hz13⟩ := hS.lend
     obtain ⟨t_12, ht_12, hj2⟩ := bindS hj2
     refine q_callg (vs := [(.agg #[s6.v])]) hF hS (wanted_t hF rfl rfl rfl hc4) Tryd.func37 (by kernel_rfl) rfl rfl rfl (c_impl_IsGeo t_4 t_12 ht_12 _ m13 hv13 s6 (h6.froz hl13 (hz13 1 _ rfl))) ?_
     rintro a w _ rfl hF hS
     refine q_xg (v := (.bool (t_8.2 != t_12))) hF hS (ex_bne Tryd.underlying4 rfl rfl) (wanted_t hF rfl rfl rfl hc4) rfl fun a hF => q_x (v := (.bool (t_8.2 != t_12))) hF hS (ex_pick_f rfl rfl hc4) rfl rfl fun a hF => q_end (n_jn ?_)
     obtain rfl := someI hj2
     exact ⟨hF.sub ⟨rfl, rfl, rfl, rfl, rfl, trivial⟩, hS.sel [1, 0] (by decide)⟩
    ·have hj2 := cond_t hc4 hj2
     refine q_skip hF (wanted_f hF rfl rfl rfl hc4 rfl) rfl fun a hF => q_skip hF (wanted_f hF rfl rfl rfl hc4 rfl) rfl fun a hF => q_skip hF (wanted_f hF rfl rfl rfl hc4 rfl) rfl fun a hF => q_skip hF (wanted_f hF rfl rfl rfl hc4 rfl) rfl fun a hF => q_x (v := (.bool true)) hF hS (ex_pick_t rfl rfl hc4) rfl rfl fun a hF => q_end (n_jn ?_)
     obtain rfl := someI hj2
     exact ⟨hF.sub ⟨rfl, rfl, rfl, rfl, rfl, trivial⟩, hS.sel [1, 0] (by decide)⟩
   ·have hj2 := cond_t hc3 hj2
    refine q_skip hF (wanted_f hF rfl rfl rfl hc3 rfl) rfl fun a hF => q_skip hF (wanted_f hF rfl rfl rfl hc3 rfl) rfl fun a hF => q_skip hF (wanted_f hF rfl rfl rfl hc3 rfl) rfl fun a hF => q_x (v := (.bool true)) hF hS (ex_pick_t rfl rfl hc3) rfl rfl fun a hF => q_x (v := (.bool true)) hF hS (ex_move rfl) rfl rfl fun a hF => q_skip hF (wanted_f hF rfl rfl rfl rfl rfl) rfl fun a hF => q_skip hF (wanted_f hF rfl rfl rfl rfl rfl) rfl fun a hF => q_skip hF (wanted_f hF rfl rfl rfl rfl rfl) rfl fun a hF => q_skip hF (wanted_f hF rfl rfl rfl rfl rfl) rfl fun a hF => q_x (v := (.bool true)) hF hS (ex_pick_t rfl rfl rfl) rfl rfl fun a hF => q_end (n_jn ?_)
    obtain rfl := someI hj2
    exact ⟨hF.sub ⟨rfl, rfl, rfl, rfl, rfl, trivial⟩, hS.sel [1, 0] (by decide)⟩
  ·rintro a w ⟨hF, hS⟩
   refine n_sq ?_
   rcases bcase (t_14) with hc5 | hc5
   ·have hr := cond_f hc5 hr
    refine q_cond_f hF rfl hc5 (q_skipc (n_sq (q_seq (q_seq (q_region (q_x (v := (.bool t_8.2)) hF hS (ex_move rfl) rfl rfl fun a hF => q_end (n_sq ?_)))))))
    obtain ⟨j6, hj6, hr⟩ := bindS hr
    refine q_join (fun a w => j6 = .inl () ∧ Fr a 193 [(1, s2.v)] ∧ St [] w0 w m5 []) ?_ ?_
    ·rcases bcase (t_8.2) with hc7 | hc7
     ·have hj6 := cond_f hc7 hj6
      refine q_cond_f hF rfl hc7 (q_skipc (n_jn ?_))
      obtain rfl := someI hj6
      exact ⟨rfl, hF.sub ⟨rfl, trivial⟩, hS.mask [false, false]⟩
     ·have hj6 := cond_t hc7 hj6
      refine q_cond_t hF rfl hc7 (q_seq (q_region (q_x (v := (strV t_8.1)) hF hS (ex_move rfl) rfl rfl fun a hF => ?_)))
      obtain ⟨t_15, ht_15, hj6⟩ := bindS hj6
      refine q_call (vs := [(strV t_8.1)]) hF hS Tryd.func38 (by kernel_rfl) rfl rfl rfl (c_impl_ParseGeo t_8.1 t_15 ht_15 _ m5 hS.vis (ht.mono hm5.le)) ?_
      rintro a w _ ⟨q17, s17, rfl, hR16, h17⟩ hF hS2
      have hS : St _ _ _ _ [q17, q6, [⟨b7, [s6.v], 60⟩]] := hS.joinF hR16
      refine q_x (v := (.tuple #[(.agg #[s17.v]), (.bool t_15.2)])) hF hS (ex_move rfl) rfl rfl fun a hF => q_x (v := (.agg #[s17.v])) hF hS (ex_extract rfl rfl) rfl rfl fun a hF => q_x (v := (.bool t_15.2)) hF hS (ex_extract rfl rfl) rfl rfl fun a hF => q_alloc (cs := [nilS.v]) hF hS rfl rfl rfl fun a w b18 hF hS => q_store (vs := [s17.v]) (cs' := [s17.v]) 0 0 hF hS sz60 rfl rfl rfl rfl rfl rfl rfl rfl fun a w hF hS => q_x (v := (.bool t_15.2)) hF hS (ex_assign rfl) rfl rfl fun a hF => q_end (n_sq (q_seq (q_seq ?_)))
      obtain ⟨t_21, hj8, hj6⟩ := bindS hj6
      refine q_join (fun a w => Fr a 193 [(1, s2.v), (5, (.pointer (some ⟨b7, 0, none⟩))), (77, (.bool t_21))] ∧ St [] w0 w m5 [q6, [⟨b7, [s6.v], 60⟩]]) ?_ ?_
      ·refine q_region (q_x (v := (.bool t_15.2)) hF hS (ex_move rfl) rfl rfl fun a hF => q_x (v := (.bool (!t_15.2))) hF hS (ex_not rfl) rfl rfl fun a hF => q_x (v := (.bool (!t_15.2))) hF hS (ex_move rfl) rfl rfl fun a hF => ?_)
       rcases bcase (!t_15.2) with hc9 | hc9
       ·have hj8 := cond_f hc9 hj8
        refine q_xg (v := (.pointer (some ⟨b18, 0, none⟩))) hF hS (ex_fieldAddr Tryd.underlying60 rfl sz42 rfl rfl) (wanted_t hF rfl rfl rfl hc9) rfl fun a hF => q_xg (v := s17.v) hF hS (ex_load1 0 0 Tryd.underlying42 rfl rfl rfl rfl) (wanted_t hF rfl rfl rfl hc9) rfl fun a hF => q_xg (v := (.pointer (some ⟨b7, 0, none⟩))) hF hS (ex_fieldAddr Tryd.underlying60 rfl sz42 rfl rfl) (wanted_t hF rfl rfl rfl hc9) rfl fun a hF => q_xg (v := s6.v) hF hS (ex_load1 3 0 Tryd.underlying42 rfl rfl rfl rfl) (wanted_t hF rfl rfl rfl hc9) rfl fun a hF => ?_
        obtain ⟨m20, hl20, hv20, hz20⟩ := hS.lend
        obtain ⟨t_19, ht_19, hj8⟩ := bindS hj8
        refine q_callg (vs := [s17.v, s6.v]) hF hS (wanted_t hF rfl rfl rfl hc9) Tryd.func39 (by kernel_rfl) rfl rfl rfl (c_laws_sameInts t_15.1.Parents t_4.Parents t_19 ht_19 _ m20 hv20 s17 (h17.froz hl20 (hz20 1 _ rfl)) s6 (h6.froz hl20 (hz20 2 _ rfl))) ?_
        rintro a w _ rfl hF hS
        refine q_xg (v := (.bool (!t_19))) hF hS (ex_not rfl) (wanted_t hF rfl rfl rfl hc9) rfl fun a hF => q_x (v := (.bool (!t_19))) hF hS (ex_pick_f rfl rfl hc9) rfl rfl fun a hF => q_end (n_jn ?_)
        obtain rfl := someI hj8
        exact ⟨hF.sub ⟨rfl, rfl, rfl, trivial⟩, hS.mask [false, false, true, true]⟩
       ·have hj8 := cond_t hc9 hj8
        refine q_skip hF (wanted_f hF rfl rfl rfl hc9 rfl) rfl fun a hF => q_skip hF (wanted_f hF rfl rfl rfl hc9 rfl) rfl fun a hF => q_skip hF (wanted_f hF rfl rfl rfl hc9 rfl) rfl fun a hF => q_skip hF (wanted_f hF rfl rfl rfl hc9 rfl) rfl fun a hF => q_skip hF (wanted_f hF rfl rfl rfl hc9 rfl) rfl fun a hF => q_skip hF (wanted_f hF rfl rfl rfl hc9 rfl) rfl fun a hF => q_x (v := (.bool true)) hF hS (ex_pick_t rfl rfl hc9) rfl rfl fun a hF => q_end (n_jn ?_)
        obtain rfl := someI hj8
        exact ⟨hF.sub ⟨rfl, rfl, rfl, trivial⟩, hS.mask [false, false, true, true]⟩
      ·rintro a w ⟨hF, hS⟩
       refine n_sq ?_
       rcases bcase (t_21) with hc10 | hc10
       ·have hj6 := cond_f hc10 hj6
        refine q_cond_f hF rfl hc10 (q_skipc (n_sq (q_seq (q_region (q_x (v := (.agg #[s6.v])) hF hS (ex_loadA (vs := [s6.v]) 1 0 Tryd.underlying60 rfl sz60 rfl rfl rfl rfl) rfl rfl fun a hF => ?_)))))
        obtain ⟨m23, hl23, hv23, hz23⟩ := hS.lend
        obtain ⟨t_22, ht_22, hj6⟩ := bindS hj6
        refine q_call (vs := [(.agg #[s6.v])]) hF hS Tryd.func40 (by kernel_rfl) rfl rfl rfl (c_impl_LeavesOf t_4 t_22 ht_22 _ m23 hv23 s6 (h6.froz hl23 (hz23 0 _ rfl))) ?_
        rintro a w _ ⟨q25, s25, rfl, hR24, h25⟩ hF hS2
        have hS : St _ _ _ _ [q25, q6, [⟨b7, [s6.v], 60⟩]] := hS.joinF hR24
        have h25 := h25.any m5
        refine q_x (v := (.tuple #[s25.v, (.bool t_22.2)])) hF hS (ex_move rfl) rfl rfl fun a hF => q_x (v := s25.v) hF hS (ex_extract rfl rfl) rfl rfl fun a hF => q_x (v := (.bool t_22.2)) hF hS (ex_extract rfl rfl) rfl rfl fun a hF => q_x (v := s25.v) hF hS (ex_assign rfl) rfl rfl fun a hF => q_x (v := (.bool t_22.2)) hF hS (ex_assign rfl) rfl rfl fun a hF => q_end (n_sq (q_seq (q_region (q_x (v := (.agg #[s6.v])) hF hS (ex_loadA (vs := [s6.v]) 2 0 Tryd.underlying60 rfl sz60 rfl rfl rfl rfl) rfl rfl fun a hF => ?_))))
        obtain ⟨m27, hl27, hv27, hz27⟩ := hS.lend
        obtain ⟨t_26, ht_26, hj6⟩ := bindS hj6
        refine q_call (vs := [(.agg #[s6.v])]) hF hS Tryd.func41 (by kernel_rfl) rfl rfl rfl (c_spec_LeavesOf t_4 t_26 ht_26 _ m27 hv27 s6 (h6.froz hl27 (hz27 1 _ rfl))) ?_
        rintro a w _ ⟨q29, s29, rfl, hR28, h29⟩ hF hS2
        have hS : St _ _ _ _ [q29, q25, q6, [⟨b7, [s6.v], 60⟩]] := hS.joinF hR28
        have h29 := h29.any m5
        refine q_x (v := (.tuple #[s29.v, (.bool t_26.2)])) hF hS (ex_move rfl) rfl rfl fun a hF => q_x (v := s29.v) hF hS (ex_extract rfl rfl) rfl rfl fun a hF => q_x (v := (.bool t_26.2)) hF hS (ex_extract rfl rfl) rfl rfl fun a hF => q_x (v := s29.v) hF hS (ex_assign rfl) rfl rfl fun a hF => q_x (v := (.bool t_26.2)) hF hS (ex_assign rfl) rfl rfl fun a hF => q_end (n_sq (q_seq (q_seq ?_)))
        obtain ⟨t_32, hj11, hj6⟩ := bindS hj6
        refine q_join (fun a w => Fr a 193 [(1, s2.v), (5, (.pointer (some ⟨b7, 0, none⟩))), (95, (.bool t_32))] ∧ St [] w0 w m5 [q6, [⟨b7, [s6.v], 60⟩]]) ?_ ?_
        ·refine q_region (q_x (v := (.bool t_22.2)) hF hS (ex_move rfl) rfl rfl fun a hF => q_x (v := (.bool (!t_22.2))) hF hS (ex_not rfl) rfl rfl fun a hF => q_x (v := (.bool (!t_22.2))) hF hS (ex_move rfl) rfl rfl fun a hF => ?_)
         rcases bcase (!t_22.2) with hc12 | hc12
         ·have hj11 := cond_f hc12 hj11
          refine q_xg (v := s25.v) hF hS (ex_move rfl) (wanted_t hF rfl rfl rfl hc12) rfl fun a hF => q_xg (v := s29.v) hF hS (ex_move rfl) (wanted_t hF rfl rfl rfl hc12) rfl fun a hF => ?_
          obtain ⟨m31, hl31, hv31, hz31⟩ := hS.lend
          obtain ⟨t_30, ht_30, hj11⟩ := bindS hj11
          refine q_callg (vs := [s25.v, s29.v]) hF hS (wanted_t hF rfl rfl rfl hc12) Tryd.func39 (by kernel_rfl) rfl rfl rfl (c_laws_sameInts t_22.1 t_26.1 t_30 ht_30 _ m31 hv31 s25 (h25.froz hl31 (hz31 1 _ rfl)) s29 (h29.froz hl31 (hz31 0 _ rfl))) ?_
          rintro a w _ rfl hF hS
          refine q_xg (v := (.bool (!t_30))) hF hS (ex_not rfl) (wanted_t hF rfl rfl rfl hc12) rfl fun a hF => q_x (v := (.bool (!t_30))) hF hS (ex_pick_f rfl rfl hc12) rfl rfl fun a hF => q_end (n_jn ?_)
          obtain rfl := someI hj11
          exact ⟨hF.sub ⟨rfl, rfl, rfl, trivial⟩, hS.mask [false, false, true, true]⟩
         ·have hj11 := cond_t hc12 hj11
          refine q_skip hF (wanted_f hF rfl rfl rfl hc12 rfl) rfl fun a hF => q_skip hF (wanted_f hF rfl rfl rfl hc12 rfl) rfl fun a hF => q_skip hF (wanted_f hF rfl rfl rfl hc12 rfl) rfl fun a hF => q_skip hF (wanted_f hF rfl rfl rfl hc12 rfl) rfl fun a hF => q_x (v := (.bool true)) hF hS (ex_pick_t rfl rfl hc12) rfl rfl fun a hF => q_end (n_jn ?_)
          obtain rfl := someI hj11
          exact ⟨hF.sub ⟨rfl, rfl, rfl, trivial⟩, hS.mask [false, false, true, true]⟩
        ·rintro a w ⟨hF, hS⟩
         refine n_sq ?_
         rcases bcase (t_32) with hc13 | hc13
         ·have hj6 := cond_f hc13 hj6
          refine q_cond_f hF rfl hc13 (q_skipc (n_sq (q_seq (q_region (q_x (v := (.int .i64 0)) hF hS (ex_assign rfl) rfl rfl fun a hF => q_end (n_sq (q_seq (q_seq (q_region (q_x (v := (.int .i64 0)) hF hS (ex_assign rfl) rfl rfl fun a hF => q_end (n_sq (q_block ?_))))))))))))
          obtain ⟨o14, hl14, hj6⟩ := bindS hj6
          refine q_loop (fun (s : Int × Int) a w => ∃ n_33, ∃ level_34, s = (n_33, level_34) ∧ Fr a 193 [(1, s2.v), (5, (.pointer (some ⟨b7, 0, none⟩))), (16, (.int .i64 n_33)), (17, (.int .i64 level_34))] ∧ St [] w0 w m5 [q6, [⟨b7, [s6.v], 60⟩]]) (fun (o : (Int) ⊕ ((Unit) ⊕ (Bool))) e a w => ∃ n_46, o = .inl n_46 ∧ e = .exit 0 ∧ Fr a 193 [(1, s2.v), (5, (.pointer (some ⟨b7, 0, none⟩))), (16, (.int .i64 n_46))] ∧ St [] w0 w m5 [q6, [⟨b7, [s6.v], 60⟩]]) hl14 ⟨_, _, rfl, hF.sub ⟨rfl, rfl, rfl, rfl, trivial⟩, hS⟩ ?_ ?_
          ·clear hF hS
           rintro s a w st ⟨n_33, level_34, rfl, hF, hS⟩ hb14
           unfold laws_FnGeos_l1 at hb14
           refine q_seq (q_seq (q_region (q_x (v := (.int .i64 level_34)) hF hS (ex_move rfl) rfl rfl fun a hF => q_x (v := (.pointer (some ⟨b7, 0, none⟩))) hF hS (ex_fieldAddr Tryd.underlying60 rfl sz42 rfl rfl) rfl rfl fun a hF => q_x (v := s6.v) hF hS (ex_load1 1 0 Tryd.underlying42 rfl rfl rfl rfl) rfl rfl fun a hF => q_x (v := (.int .i64 (goLen t_4.Parents))) hF hS (ex_len Tryd.underlying42 rfl h6.len) rfl rfl fun a hF => q_x (v := (.bool (decide (level_34 < (goLen t_4.Parents))))) hF hS (ex_ibin rfl rfl rfl) rfl rfl fun a hF => q_end (n_sq ?_))))
           rcases bcase (decide (level_34 < (goLen t_4.Parents))) with hc15 | hc15
           ·have hb14 := cond_f hc15 hb14
            refine q_cond_f hF rfl hc15 (q_exit (x_sq ?_))
            obtain rfl := someI hb14
            exact ⟨nofun, .inl ⟨_, rfl, rfl, hF.sub ⟨rfl, rfl, rfl, trivial⟩, hS⟩⟩
           ·have hb14 := cond_t hc15 hb14
            refine q_cond_t hF rfl hc15 (q_skipc (n_sq (q_seq (q_block (q_seq (q_region (q_x (v := (.agg #[s6.v])) hF hS (ex_loadA (vs := [s6.v]) 1 0 Tryd.underlying60 rfl sz60 rfl rfl rfl rfl) rfl rfl fun a hF => q_x (v := (.int .i64 level_34)) hF hS (ex_move rfl) rfl rfl fun a hF => ?_)))))))
            obtain ⟨m36, hl36, hv36, hz36⟩ := hS.lend
            obtain ⟨t_35, ht_35, hb14⟩ := bindS hb14
            refine q_call (vs := [(.agg #[s6.v]), (.int .i64 level_34)]) hF hS Tryd.func42 (by kernel_rfl) rfl rfl rfl (c_impl_LevelOf t_4 level_34 t_35 ht_35 _ m36 hv36 s6 (h6.froz hl36 (hz36 0 _ rfl))) ?_
            rintro a w _ ⟨q38, s38, rfl, hR37, h38⟩ hF hS2
            have hS : St _ _ _ _ [q38, q6, [⟨b7, [s6.v], 60⟩]] := hS.joinF hR37
            have h38 := h38.any m5
            refine q_x (v := (.tuple #[s38.v, (.bool t_35.2)])) hF hS (ex_move rfl) rfl rfl fun a hF => q_x (v := s38.v) hF hS (ex_extract rfl rfl) rfl rfl fun a hF => q_x (v := (.bool t_35.2)) hF hS (ex_extract rfl rfl) rfl rfl fun a hF => q_x (v := s38.v) hF hS (ex_assign rfl) rfl rfl fun a hF => q_x (v := (.bool t_35.2)) hF hS (ex_assign rfl) rfl rfl fun a hF => q_end (n_sq (q_seq (q_region (q_x (v := (.agg #[s6.v])) hF hS (ex_loadA (vs := [s6.v]) 2 0 Tryd.underlying60 rfl sz60 rfl rfl rfl rfl) rfl rfl fun a hF => q_x (v := (.int .i64 level_34)) hF hS (ex_move rfl) rfl rfl fun a hF => ?_))))
            obtain ⟨m40, hl40, hv40, hz40⟩ := hS.lend
            obtain ⟨t_39, ht_39, hb14⟩ := bindS hb14
            refine q_call (vs := [(.agg #[s6.v]), (.int .i64 level_34)]) hF hS Tryd.func43 (by kernel_rfl) rfl rfl rfl (c_spec_LevelOf t_4 level_34 t_39 ht_39 _ m40 hv40 s6 (h6.froz hl40 (hz40 1 _ rfl))) ?_
            rintro a w _ ⟨q42, s42, rfl, hR41, h42⟩ hF hS2
            have hS : St _ _ _ _ [q42, q38, q6, [⟨b7, [s6.v], 60⟩]] := hS.joinF hR41
            have h42 := h42.any m5
            refine q_x (v := (.tuple #[s42.v, (.bool t_39.2)])) hF hS (ex_move rfl) rfl rfl fun a hF => q_x (v := s42.v) hF hS (ex_extract rfl rfl) rfl rfl fun a hF => q_x (v := (.bool t_39.2)) hF hS (ex_extract rfl rfl) rfl rfl fun a hF => q_x (v := s42.v) hF hS (ex_assign rfl) rfl rfl fun a hF => q_x (v := (.bool t_39.2)) hF hS (ex_assign rfl) rfl rfl fun a hF => q_end (n_sq (q_seq (q_seq ?_)))
            obtain ⟨t_45, hj16, hb14⟩ := bindS hb14
            refine q_join (fun a w => Fr a 193 [(1, s2.v), (5, (.pointer (some ⟨b7, 0, none⟩))), (16, (.int .i64 n_33)), (17, (.int .i64 level_34)), (18, s38.v), (123, (.bool t_45))] ∧ St [] w0 w m5 [q38, q6, [⟨b7, [s6.v], 60⟩]]) ?_ ?_
            ·refine q_region (q_x (v := (.bool t_35.2)) hF hS (ex_move rfl) rfl rfl fun a hF => q_x (v := (.bool t_39.2)) hF hS (ex_move rfl) rfl rfl fun a hF => q_x (v := (.bool (t_35.2 != t_39.2))) hF hS (ex_bne Tryd.underlying4 rfl rfl) rfl rfl fun a hF => q_x (v := (.bool (t_35.2 != t_39.2))) hF hS (ex_move rfl) rfl rfl fun a hF => ?_)
             rcases bcase (t_35.2 != t_39.2) with hc17 | hc17
             ·have hj16 := cond_f hc17 hj16
              refine q_xg (v := s38.v) hF hS (ex_move rfl) (wanted_t hF rfl rfl rfl hc17) rfl fun a hF => q_xg (v := s42.v) hF hS (ex_move rfl) (wanted_t hF rfl rfl rfl hc17) rfl fun a hF => ?_
              obtain ⟨m44, hl44, hv44, hz44⟩ := hS.lend
              obtain ⟨t_43, ht_43, hj16⟩ := bindS hj16
              refine q_callg (vs := [s38.v, s42.v]) hF hS (wanted_t hF rfl rfl rfl hc17) Tryd.func39 (by kernel_rfl) rfl rfl rfl (c_laws_sameInts t_35.1 t_39.1 t_43 ht_43 _ m44 hv44 s38 (h38.froz hl44 (hz44 1 _ rfl)) s42 (h42.froz hl44 (hz44 0 _ rfl))) ?_
              rintro a w _ rfl hF hS
              refine q_xg (v := (.bool (!t_43))) hF hS (ex_not rfl) (wanted_t hF rfl rfl rfl hc17) rfl fun a hF => q_x (v := (.bool (!t_43))) hF hS (ex_pick_f rfl rfl hc17) rfl rfl fun a hF => q_end (n_jn ?_)
              obtain rfl := someI hj16
              exact ⟨hF.sub ⟨rfl, rfl, rfl, rfl, rfl, rfl, trivial⟩, hS.mask [false, true, true, true]⟩
             ·have hj16 := cond_t hc17 hj16
              refine q_skip hF (wanted_f hF rfl rfl rfl hc17 rfl) rfl fun a hF => q_skip hF (wanted_f hF rfl rfl rfl hc17 rfl) rfl fun a hF => q_skip hF (wanted_f hF rfl rfl rfl hc17 rfl) rfl fun a hF => q_skip hF (wanted_f hF rfl rfl rfl hc17 rfl) rfl fun a hF => q_x (v := (.bool true)) hF hS (ex_pick_t rfl rfl hc17) rfl rfl fun a hF => q_end (n_jn ?_)
              obtain rfl := someI hj16
              exact ⟨hF.sub ⟨rfl, rfl, rfl, rfl, rfl, rfl, trivial⟩, hS.mask [false, true, true, true]⟩
            ·rintro a w ⟨hF, hS⟩
             refine n_sq ?_
             rcases bcase (t_45) with hc18 | hc18
             ·have hb14 := cond_f hc18 hb14
              refine q_cond_f hF rfl hc18 (q_skipc (n_sq (q_region (q_x (v := (.int .i64 n_33)) hF hS (ex_move rfl) rfl rfl fun a hF => q_x (v := s38.v) hF hS (ex_move rfl) rfl rfl fun a hF => q_x (v := (.int .i64 (goLen t_35.1))) hF hS (ex_len Tryd.underlying42 rfl h38.len) rfl rfl fun a hF => q_x (v := (.int .i64 (w64 (n_33 + (goLen t_35.1))))) hF hS (ex_ibin rfl rfl rfl) rfl rfl fun a hF => q_x (v := (.int .i64 (w64 (n_33 + (goLen t_35.1))))) hF hS (ex_assign rfl) rfl rfl fun a hF => q_end (n_ib (n_sq (q_region (q_x (v := (.int .i64 level_34)) hF hS (ex_move rfl) rfl rfl fun a hF => q_x (v := (.int .i64 (w64 (level_34 + 1)))) hF hS (ex_ibin rfl rfl rfl) rfl rfl fun a hF => q_x (v := (.int .i64 (w64 (level_34 + 1)))) hF hS (ex_assign rfl) rfl rfl fun a hF => q_end ?_))))))))
              obtain rfl := someI hb14
              exact ⟨rfl, _, _, rfl, hF.sub ⟨rfl, rfl, rfl, rfl, trivial⟩, hS.mask [false, true, true]⟩
             ·have hb14 := cond_t hc18 hb14
              refine q_cond_t hF rfl hc18 (q_seq (q_region (q_x (v := (.bool false)) hF hS (ex_assign rfl) rfl rfl fun a hF => q_end (n_sq (q_ret (r_sq (r_ib (r_sq ?_))))))))
              obtain rfl := someI hb14
              refine ⟨nofun, .inr fun ho => ?_⟩
              subst ho
              refine r_ib (r_sq (r_jn ?_))
              obtain rfl := someI hj6
              refine r_sq ?_
              obtain rfl := someI hr
              exact ret_of hF hS rfl (.tmp rfl .nil) rfl
          ·rintro e a w ⟨n_46, rfl, rfl, hF, hS⟩
           refine x_ib (n_sq ?_)
           refine q_seq (q_region (q_x (v := (.int .i64 n_46)) hF hS (ex_move rfl) rfl rfl fun a hF => q_x (v := (.pointer (some ⟨b7, 0, none⟩))) hF hS (ex_fieldAddr Tryd.underlying60 rfl sz42 rfl rfl) rfl rfl fun a hF => q_x (v := s6.v) hF hS (ex_load1 1 0 Tryd.underlying42 rfl rfl rfl rfl) rfl rfl fun a hF => q_x (v := (.int .i64 (goLen t_4.Parents))) hF hS (ex_len Tryd.underlying42 rfl h6.len) rfl rfl fun a hF => q_x (v := (.bool (n_46 != (goLen t_4.Parents)))) hF hS (ex_ibin rfl rfl rfl) rfl rfl fun a hF => q_end (n_sq ?_)))
           rcases bcase (n_46 != (goLen t_4.Parents)) with hc19 | hc19
           ·have hj6 := cond_f hc19 hj6
            refine q_cond_f hF rfl hc19 (q_skipc (n_jn ?_))
            obtain rfl := someI hj6
            exact ⟨rfl, hF.sub ⟨rfl, trivial⟩, hS.mask [false, false]⟩
           ·have hj6 := cond_t hc19 hj6
            refine q_cond_t hF rfl hc19 (q_seq (q_region (q_x (v := (.bool false)) hF hS (ex_assign rfl) rfl rfl fun a hF => q_end (n_sq (q_ret (r_jn ?_))))))
            obtain rfl := someI hj6
            refine r_sq ?_
            obtain rfl := someI hr
            exact ret_of hF hS rfl (.tmp rfl .nil) rfl
         ·have hj6 := cond_t hc13 hj6
          refine q_cond_t hF rfl hc13 (q_seq (q_region (q_x (v := (.bool false)) hF hS (ex_assign rfl) rfl rfl fun a hF => q_end (n_sq (q_ret (r_sq (r_jn ?_)))))))
          obtain rfl := someI hj6
          refine r_sq ?_
          obtain rfl := someI hr
          exact ret_of hF hS rfl (.tmp rfl .nil) rfl
       ·have hj6 := cond_t hc10 hj6
        refine q_cond_t hF rfl hc10 (q_seq (q_region (q_x (v := (.bool false)) hF hS (ex_assign rfl) rfl rfl fun a hF => q_end (n_sq (q_ret (r_sq (r_jn ?_)))))))
        obtain rfl := someI hj6
        refine r_sq ?_
        obtain rfl := someI hr
        exact ret_of hF hS rfl (.tmp rfl .nil) rfl
    ·rintro a w ⟨rfl, hF, hS⟩
     refine n_sq ?_
     refine q_seq (q_region (q_x (v := s2.v) hF hS (ex_move rfl) rfl rfl fun a hF => ?_))
     obtain ⟨t_47, ht_47, hr⟩ := bindS hr
     refine q_call (vs := [s2.v]) hF hS Tryd.func44 (by kernel_rfl) rfl rfl rfl (c_spec_DrawParseGeo p_more t_47 ht_47 _ m5 hS.vis s2 (h2.mono hm5.le)) ?_
     rintro a w _ rfl hF hS
     refine q_x (v := (strV t_47)) hF hS (ex_assign rfl) rfl rfl fun a hF => q_end (n_sq (q_seq (q_region (q_x (v := (strV t_47)) hF hS (ex_move rfl) rfl rfl fun a hF => ?_))))
     obtain ⟨t_48, ht_48, hr⟩ := bindS hr
     refine q_call (vs := [(strV t_47)]) hF hS Tryd.func38 (by kernel_rfl) rfl rfl rfl (c_impl_ParseGeo t_47 t_48 ht_48 _ m5 hS.vis (ht.mono hm5.le)) ?_
     rintro a w _ ⟨q50, s50, rfl, hR49, h50⟩ hF hS2
     have hS : St _ _ _ _ [q50] := hS.joinF hR49
     refine q_x (v := (.tuple #[(.agg #[s50.v]), (.bool t_48.2)])) hF hS (ex_move rfl) rfl rfl fun a hF => q_x (v := (.agg #[s50.v])) hF hS (ex_extract rfl rfl) rfl rfl fun a hF => q_x (v := (.bool t_48.2)) hF hS (ex_extract rfl rfl) rfl rfl fun a hF => q_alloc (cs := [nilS.v]) hF hS rfl rfl rfl fun a w b51 hF hS => q_store (vs := [s50.v]) (cs' := [s50.v]) 0 0 hF hS sz60 rfl rfl rfl rfl rfl rfl rfl rfl fun a w hF hS => q_x (v := (.bool t_48.2)) hF hS (ex_assign rfl) rfl rfl fun a hF => q_end (n_sq (q_seq (q_region (q_x (v := (strV t_47)) hF hS (ex_move rfl) rfl rfl fun a hF => ?_))))
     obtain ⟨t_52, ht_52, hr⟩ := bindS hr
     refine q_call (vs := [(strV t_47)]) hF hS Tryd.func45 (by kernel_rfl) rfl rfl rfl (c_spec_ParseGeo t_47 t_52 ht_52 _ m5 hS.vis) ?_
     rintro a w _ ⟨q54, s54, rfl, hR53, h54⟩ hF hS2
     have hS : St _ _ _ _ [q54, [⟨b51, [s50.v], 60⟩], q50] := hS.joinF hR53
     refine q_x (v := (.tuple #[(.agg #[s54.v]), (.bool t_52.2)])) hF hS (ex_move rfl) rfl rfl fun a hF => q_x (v := (.agg #[s54.v])) hF hS (ex_extract rfl rfl) rfl rfl fun a hF => q_x (v := (.bool t_52.2)) hF hS (ex_extract rfl rfl) rfl rfl fun a hF => q_alloc (cs := [nilS.v]) hF hS rfl rfl rfl fun a w b55 hF hS => q_store (vs := [s54.v]) (cs' := [s54.v]) 0 0 hF hS sz60 rfl rfl rfl rfl rfl rfl rfl rfl fun a w hF hS => q_x (v := (.bool t_52.2)) hF hS (ex_assign rfl) rfl rfl fun a hF => q_end (n_sq (q_seq (q_seq ?_)))
     obtain ⟨t_58, hj20, hr⟩ := bindS hr
     refine q_join (fun a w => Fr a 193 [(1, s2.v), (155, (.bool t_58))] ∧ St [] w0 w m5 []) ?_ ?_
     ·refine q_region (q_x (v := (.bool t_48.2)) hF hS (ex_move rfl) rfl rfl fun a hF => q_x (v := (.bool t_52.2)) hF hS (ex_move rfl) rfl rfl fun a hF => q_x (v := (.bool (t_48.2 != t_52.2))) hF hS (ex_bne Tryd.underlying4 rfl rfl) rfl rfl fun a hF => q_x (v := (.bool (t_48.2 != t_52.2))) hF hS (ex_move rfl) rfl rfl fun a hF => ?_)
      rcases bcase (t_48.2 != t_52.2) with hc21 | hc21
      ·have hj20 := cond_f hc21 hj20
       refine q_xg (v := (.pointer (some ⟨b51, 0, none⟩))) hF hS (ex_fieldAddr Tryd.underlying60 rfl sz42 rfl rfl) (wanted_t hF rfl rfl rfl hc21) rfl fun a hF => q_xg (v := s50.v) hF hS (ex_load1 2 0 Tryd.underlying42 rfl rfl rfl rfl) (wanted_t hF rfl rfl rfl hc21) rfl fun a hF => q_xg (v := (.pointer (some ⟨b55, 0, none⟩))) hF hS (ex_fieldAddr Tryd.underlying60 rfl sz42 rfl rfl) (wanted_t hF rfl rfl rfl hc21) rfl fun a hF => q_xg (v := s54.v) hF hS (ex_load1 0 0 Tryd.underlying42 rfl rfl rfl rfl) (wanted_t hF rfl rfl rfl hc21) rfl fun a hF => ?_
       obtain ⟨m57, hl57, hv57, hz57⟩ := hS.lend
       obtain ⟨t_56, ht_56, hj20⟩ := bindS hj20
       refine q_callg (vs := [s50.v, s54.v]) hF hS (wanted_t hF rfl rfl rfl hc21) Tryd.func39 (by kernel_rfl) rfl rfl rfl (c_laws_sameInts t_48.1.Parents t_52.1.Parents t_56 ht_56 _ m57 hv57 s50 (h50.froz hl57 (hz57 3 _ rfl)) s54 (h54.froz hl57 (hz57 1 _ rfl))) ?_
       rintro a w _ rfl hF hS
       refine q_xg (v := (.bool (!t_56))) hF hS (ex_not rfl) (wanted_t hF rfl rfl rfl hc21) rfl fun a hF => q_x (v := (.bool (!t_56))) hF hS (ex_pick_f rfl rfl hc21) rfl rfl fun a hF => q_end (n_jn ?_)
       obtain rfl := someI hj20
       exact ⟨hF.sub ⟨rfl, rfl, trivial⟩, hS.mask [false, false, false, false]⟩
      ·have hj20 := cond_t hc21 hj20
       refine q_skip hF (wanted_f hF rfl rfl rfl hc21 rfl) rfl fun a hF => q_skip hF (wanted_f hF rfl rfl rfl hc21 rfl) rfl fun a hF => q_skip hF (wanted_f hF rfl rfl rfl hc21 rfl) rfl fun a hF => q_skip hF (wanted_f hF rfl rfl rfl hc21 rfl) rfl fun a hF => q_skip hF (wanted_f hF rfl rfl rfl hc21 rfl) rfl fun a hF => q_skip hF (wanted_f hF rfl rfl rfl hc21 rfl) rfl fun a hF => q_x (v := (.bool true)) hF hS (ex_pick_t rfl rfl hc21) rfl rfl fun a hF => q_end (n_jn ?_)
       obtain rfl := someI hj20
       exact ⟨hF.sub ⟨rfl, rfl, trivial⟩, hS.mask [false, false, false, false]⟩
     ·rintro a w ⟨hF, hS⟩
      refine n_sq ?_
      rcases bcase (t_58) with hc22 | hc22
      ·have hr := cond_f hc22 hr
       refine q_cond_f hF rfl hc22 (q_skipc (n_sq (q_seq (q_region (q_x (v := s2.v) hF hS (ex_move rfl) rfl rfl fun a hF => ?_)))))
       obtain ⟨t_59, ht_59, hr⟩ := bindS hr
       refine q_call (vs := [s2.v]) hF hS Tryd.func46 (by kernel_rfl) rfl rfl rfl (c_spec_DrawSumsUp p_more t_59 ht_59 _ m5 hS.vis s2 (h2.mono hm5.le)) ?_
       have hT := hS
       rintro a w _ ⟨m60, q61, q62, s61, s62, rfl, hm60, hR60, h61, h62⟩ hF hS2
       have hS : St _ _ _ _ [q61, q62] := hS.join hR60 hm60
       have hm60 := MLe.weakX (O0 := []) hT hm60
       refine q_x (v := (.tuple #[(.agg #[s61.v]), s62.v])) hF hS (ex_move rfl) rfl rfl fun a hF => q_x (v := (.agg #[s61.v])) hF hS (ex_extract rfl rfl) rfl rfl fun a hF => q_x (v := s62.v) hF hS (ex_extract rfl rfl) rfl rfl fun a hF => q_alloc (cs := [nilS.v]) hF hS rfl rfl rfl fun a w b63 hF hS => q_store (vs := [s61.v]) (cs' := [s61.v]) 0 0 hF hS sz60 rfl rfl rfl rfl rfl rfl rfl rfl fun a w hF hS => q_x (v := s62.v) hF hS (ex_assign rfl) rfl rfl fun a hF => q_end (n_sq (q_seq (q_region (q_x (v := (.agg #[s61.v])) hF hS (ex_loadA (vs := [s61.v]) 0 0 Tryd.underlying60 rfl sz60 rfl rfl rfl rfl) rfl rfl fun a hF => q_x (v := s62.v) hF hS (ex_move rfl) rfl rfl fun a hF => ?_))))
       obtain ⟨m65, hl65, hv65, hz65⟩ := hS.lend
       obtain ⟨t_64, ht_64, hr⟩ := bindS hr
       refine q_call (vs := [(.agg #[s61.v]), s62.v]) hF hS Tryd.func47 (by kernel_rfl) rfl rfl rfl (c_impl_SumsUp t_59.1 t_59.2 t_64 ht_64 _ m65 hv65 s61 (h61.froz hl65 (hz65 1 _ rfl)) s62 (h62.froz hl65 (hz65 2 _ rfl))) ?_
       rintro a w _ ⟨q67, s67, rfl, hR66, h67⟩ hF hS2
       have hS : St _ _ _ _ [q67, [⟨b63, [s61.v], 60⟩], q61, q62] := hS.joinF hR66
       have h67 := h67.any m60
       refine q_x (v := (.tuple #[s67.v, (.bool t_64.2)])) hF hS (ex_move rfl) rfl rfl fun a hF => q_x (v := s67.v) hF hS (ex_extract rfl rfl) rfl rfl fun a hF => q_x (v := (.bool t_64.2)) hF hS (ex_extract rfl rfl) rfl rfl fun a hF => q_x (v := s67.v) hF hS (ex_assign rfl) rfl rfl fun a hF => q_x (v := (.bool t_64.2)) hF hS (ex_assign rfl) rfl rfl fun a hF => q_end (n_sq (q_seq (q_region (q_x (v := (.agg #[s61.v])) hF hS (ex_loadA (vs := [s61.v]) 1 0 Tryd.underlying60 rfl sz60 rfl rfl rfl rfl) rfl rfl fun a hF => q_x (v := s62.v) hF hS (ex_move rfl) rfl rfl fun a hF => ?_))))
       obtain ⟨m69, hl69, hv69, hz69⟩ := hS.lend
       obtain ⟨t_68, ht_68, hr⟩ := bindS hr
       refine q_call (vs := [(.agg #[s61.v]), s62.v]) hF hS Tryd.func48 (by kernel_rfl) rfl rfl rfl (c_spec_SumsUp t_59.1 t_59.2 t_68 ht_68 _ m69 hv69 s61 (h61.froz hl69 (hz69 2 _ rfl)) s62 (h62.froz hl69 (hz69 3 _ rfl))) ?_
       rintro a w _ ⟨q71, s71, rfl, hR70, h71⟩ hF hS2
       have hS : St _ _ _ _ [q71, q67, [⟨b63, [s61.v], 60⟩], q61, q62] := hS.joinF hR70
       have h71 := h71.any m60
       refine q_x (v := (.tuple #[s71.v, (.bool t_68.2)])) hF hS (ex_move rfl) rfl rfl fun a hF => q_x (v := s71.v) hF hS (ex_extract rfl rfl) rfl rfl fun a hF => q_x (v := (.bool t_68.2)) hF hS (ex_extract rfl rfl) rfl rfl fun a hF => q_x (v := s71.v) hF hS (ex_assign rfl) rfl rfl fun a hF => q_x (v := (.bool t_68.2)) hF hS (ex_assign rfl) rfl rfl fun a hF => q_end (n_sq (q_seq ?_))
       obtain ⟨t_78, hj23, hr⟩ := bindS hr
       refine q_join (fun a w => Fr a 193 [(4, (.bool t_78))] ∧ St [] w0 w m60 []) ?_ ?_
       ·refine e_region ⟨[], []⟩ mixed fun w' hw' => ?_
        have hS := hS.below hw'
        refine e_p (v := (.bool t_64.2)) 0 hF rfl (ex_move rfl) rfl rfl (by kernel_rfl) (by kernel_rfl) (by kernel_rfl) fun a hF => e_p (v := (.bool t_68.2)) 1 hF rfl (ex_move rfl) rfl rfl (by kernel_rfl) (by kernel_rfl) (by kernel_rfl) fun a hF => e_p (v := (.bool (t_64.2 == t_68.2))) 2 hF rfl (ex_beq Tryd.underlying4 rfl rfl) rfl rfl (by kernel_rfl) (by kernel_rfl) (by kernel_rfl) fun a hF => e_p (v := (.bool (t_64.2 == t_68.2))) 3 hF rfl (ex_move rfl) rfl rfl (by kernel_rfl) (by kernel_rfl) (by kernel_rfl) fun a hF => ?_
        rcases bcase (t_64.2 == t_68.2) with hc24 | hc24
        ·have hj23 := cond_f hc24 hj23
         refine e_skipP 4 hF rfl (wanted_f hF rfl rfl rfl hc24 rfl) rfl (by kernel_rfl) (by kernel_rfl) (by kernel_rfl) fun a hF => e_skipP 5 hF rfl (wanted_f hF rfl rfl rfl hc24 rfl) rfl (by kernel_rfl) (by kernel_rfl) (by kernel_rfl) fun a hF => e_skipP 6 hF rfl (wanted_f hF rfl rfl rfl hc24 rfl) rfl (by kernel_rfl) (by kernel_rfl) (by kernel_rfl) fun a hF => e_p (v := (.bool false)) 7 hF rfl (ex_pick_f rfl rfl hc24) rfl rfl (by kernel_rfl) (by kernel_rfl) (by kernel_rfl) fun a hF => e_p (v := (.bool false)) 8 hF rfl (ex_move rfl) rfl rfl (by kernel_rfl) (by kernel_rfl) (by kernel_rfl) fun a hF => e_skipP 9 hF rfl (wanted_f hF rfl rfl rfl rfl rfl) rfl (by kernel_rfl) (by kernel_rfl) (by kernel_rfl) fun a hF => e_skipP 10 hF rfl (wanted_f hF rfl rfl rfl rfl rfl) rfl (by kernel_rfl) (by kernel_rfl) (by kernel_rfl) fun a hF => e_skipP 11 hF rfl (wanted_f hF rfl rfl rfl rfl rfl) rfl (by kernel_rfl) (by kernel_rfl) (by kernel_rfl) fun a hF => e_skipP 12 hF rfl (wanted_u hF rfl rfl rfl) rfl (by kernel_rfl) (by kernel_rfl) (by kernel_rfl) fun a hF => e_skipP 13 hF rfl (wanted_u hF rfl rfl rfl) rfl (by kernel_rfl) (by kernel_rfl) (by kernel_rfl) fun a hF => e_skipP 14 hF rfl (wanted_u hF rfl rfl rfl) rfl (by kernel_rfl) (by kernel_rfl) (by kernel_rfl) fun a hF => e_skipP 15 hF rfl (wanted_u hF rfl rfl rfl) rfl (by kernel_rfl) (by kernel_rfl) (by kernel_rfl) fun a hF => e_skipP 16 hF rfl (wanted_u hF rfl rfl rfl) rfl (by kernel_rfl) (by kernel_rfl) (by kernel_rfl) fun a hF => e_skipP 17 hF rfl (wanted_u hF rfl rfl rfl) rfl (by kernel_rfl) (by kernel_rfl) (by kernel_rfl) fun a hF => e_skipP 18 hF rfl (wanted_f hF rfl rfl rfl rfl rfl) rfl (by kernel_rfl) (by kernel_rfl) (by kernel_rfl) fun a hF => e_p (v := (.bool false)) 19 hF rfl (ex_pick_f rfl rfl rfl) rfl rfl (by kernel_rfl) (by kernel_rfl) (by kernel_rfl) fun a hF => e_p (v := (.bool false)) 20 hF rfl (ex_assign rfl) rfl rfl (by kernel_rfl) (by kernel_rfl) (by kernel_rfl) fun a hF => e_end (by kernel_rfl) (n_jn ?_) _
         obtain rfl := someI hj23
         exact ⟨hF.sub ⟨rfl, trivial⟩, hS.mask [false, false, false, false, false]⟩
        ·have hj23 := cond_t hc24 hj23
         refine e_pg (v := s67.v) 4 hF rfl (ex_move rfl) (wanted_t hF rfl rfl rfl hc24) rfl (by kernel_rfl) (by kernel_rfl) (by kernel_rfl) fun a hF => e_pg (v := s71.v) 5 hF rfl (ex_move rfl) (wanted_t hF rfl rfl rfl hc24) rfl (by kernel_rfl) (by kernel_rfl) (by kernel_rfl) fun a hF => e_one 6 (by kernel_rfl) ?_
         obtain ⟨m73, hl73, hv73, hz73⟩ := hS.lend
         obtain ⟨t_72, ht_72, hj23⟩ := bindS hj23
         refine e_callg (vs := [s67.v, s71.v]) hF hS rfl (wanted_t hF rfl rfl rfl hc24) Tryd.func39 (by kernel_rfl) rfl rfl rfl (c_laws_sameInts t_64.1 t_68.1 t_72 ht_72 _ m73 hv73 s67 (h67.froz hl73 (hz73 1 _ rfl)) s71 (h71.froz hl73 (hz73 0 _ rfl))) ?_
         rintro a w _ rfl hF hS
         refine e_p (v := (.bool t_72)) 7 hF rfl (ex_pick_t rfl rfl hc24) rfl rfl (by kernel_rfl) (by kernel_rfl) (by kernel_rfl) fun a hF => e_p (v := (.bool t_72)) 8 hF rfl (ex_move rfl) rfl rfl (by kernel_rfl) (by kernel_rfl) (by kernel_rfl) fun a hF => ?_
         rcases bcase (t_72) with hc25 | hc25
         ·have hj23 := cond_f hc25 hj23
          refine e_skipP 9 hF rfl (wanted_f hF rfl rfl rfl hc25 rfl) rfl (by kernel_rfl) (by kernel_rfl) (by kernel_rfl) fun a hF => e_skipP 10 hF rfl (wanted_f hF rfl rfl rfl hc25 rfl) rfl (by kernel_rfl) (by kernel_rfl) (by kernel_rfl) fun a hF => e_skipP 11 hF rfl (wanted_f hF rfl rfl rfl hc25 rfl) rfl (by kernel_rfl) (by kernel_rfl) (by kernel_rfl) fun a hF => e_skipP 12 hF rfl (wanted_u hF rfl rfl rfl) rfl (by kernel_rfl) (by kernel_rfl) (by kernel_rfl) fun a hF => e_skipP 13 hF rfl (wanted_u hF rfl rfl rfl) rfl (by kernel_rfl) (by kernel_rfl) (by kernel_rfl) fun a hF => e_skipP 14 hF rfl (wanted_u hF rfl rfl rfl) rfl (by kernel_rfl) (by kernel_rfl) (by kernel_rfl) fun a hF => e_skipP 15 hF rfl (wanted_u hF rfl rfl rfl) rfl (by kernel_rfl) (by kernel_rfl) (by kernel_rfl) fun a hF => e_skipP 16 hF rfl (wanted_u hF rfl rfl rfl) rfl (by kernel_rfl) (by kernel_rfl) (by kernel_rfl) fun a hF => e_skipP 17 hF rfl (wanted_u hF rfl rfl rfl) rfl (by kernel_rfl) (by kernel_rfl) (by kernel_rfl) fun a hF => e_skipP 18 hF rfl (wanted_f hF rfl rfl rfl hc25 rfl) rfl (by kernel_rfl) (by kernel_rfl) (by kernel_rfl) fun a hF => e_p (v := (.bool false)) 19 hF rfl (ex_pick_f rfl rfl hc25) rfl rfl (by kernel_rfl) (by kernel_rfl) (by kernel_rfl) fun a hF => e_p (v := (.bool false)) 20 hF rfl (ex_assign rfl) rfl rfl (by kernel_rfl) (by kernel_rfl) (by kernel_rfl) fun a hF => e_end (by kernel_rfl) (n_jn ?_) _
          obtain rfl := someI hj23
          exact ⟨hF.sub ⟨rfl, trivial⟩, hS.mask [false, false, false, false, false]⟩
         ·have hj23 := cond_t hc25 hj23
          refine e_pg (v := (.bool t_64.2)) 9 hF rfl (ex_move rfl) (wanted_t hF rfl rfl rfl hc25) rfl (by kernel_rfl) (by kernel_rfl) (by kernel_rfl) fun a hF => e_pg (v := (.bool (!t_64.2))) 10 hF rfl (ex_not rfl) (wanted_t hF rfl rfl rfl hc25) rfl (by kernel_rfl) (by kernel_rfl) (by kernel_rfl) fun a hF => e_pg (v := (.bool (!t_64.2))) 11 hF rfl (ex_move rfl) (wanted_t hF rfl rfl rfl hc25) rfl (by kernel_rfl) (by kernel_rfl) (by kernel_rfl) fun a hF => ?_
          rcases bcase (!t_64.2) with hc26 | hc26
          ·have hj23 := cond_f hc26 hj23
           refine e_pg (v := s67.v) 12 hF rfl (ex_move rfl) (wanted_t hF rfl rfl rfl hc26) rfl (by kernel_rfl) (by kernel_rfl) (by kernel_rfl) fun a hF => ?_
           obtain ⟨e_74, he_74, hj23⟩ := bindS hj23
           obtain ⟨vs75, at75, d75⟩ := h67.at he_74 1 rfl
           obtain rfl : vs75 = [(.int .i64 e_74)] := d75
           refine e_pg (v := (elP s67 ((0 : Int).toNat * 1))) 13 hF rfl (ex_indexAddr Tryd.underlying42 sz3 rfl rfl (h67.idx he_74)) (wanted_t hF rfl rfl rfl hc26) rfl (by kernel_rfl) (by kernel_rfl) (by kernel_rfl) fun a hF => e_xg (v := (.int .i64 e_74)) 14 hF hS rfl (ex_loadE1 0 Tryd.underlying3 rfl rfl (at75.at 1 rfl) rfl rfl) (wanted_t hF rfl rfl rfl hc26) rfl (by kernel_rfl) (by kernel_rfl) (by kernel_rfl) (by kernel_rfl) fun a hF => e_pg (v := s62.v) 15 hF rfl (ex_move rfl) (wanted_t hF rfl rfl rfl hc26) rfl (by kernel_rfl) (by kernel_rfl) (by kernel_rfl) fun a hF => e_one 16 (by kernel_rfl) ?_
           obtain ⟨m77, hl77, hv77, hz77⟩ := hS.lend
           obtain ⟨t_76, ht_76, hj23⟩ := bindS hj23
           refine e_callg (vs := [s62.v]) hF hS rfl (wanted_t hF rfl rfl rfl hc26) Tryd.func49 (by kernel_rfl) rfl rfl rfl (c_laws_pSum t_59.2 t_76 ht_76 _ m77 hv77 s62 (h62.froz hl77 (hz77 4 _ rfl))) ?_
           rintro a w _ rfl hF hS
           refine e_pg (v := (.bool (e_74 == t_76))) 17 hF rfl (ex_ibin rfl rfl rfl) (wanted_t hF rfl rfl rfl hc26) rfl (by kernel_rfl) (by kernel_rfl) (by kernel_rfl) fun a hF => e_pg (v := (.bool (e_74 == t_76))) 18 hF rfl (ex_pick_f rfl rfl hc26) (wanted_t hF rfl rfl rfl hc25) rfl (by kernel_rfl) (by kernel_rfl) (by kernel_rfl) fun a hF => e_p (v := (.bool (e_74 == t_76))) 19 hF rfl (ex_pick_t rfl rfl hc25) rfl rfl (by kernel_rfl) (by kernel_rfl) (by kernel_rfl) fun a hF => e_p (v := (.bool (e_74 == t_76))) 20 hF rfl (ex_assign rfl) rfl rfl (by kernel_rfl) (by kernel_rfl) (by kernel_rfl) fun a hF => e_end (by kernel_rfl) (n_jn ?_) _
           obtain rfl := someI hj23
           exact ⟨hF.sub ⟨rfl, trivial⟩, hS.mask [false, false, false, false, false]⟩
          ·have hj23 := cond_t hc26 hj23
           refine e_skipP 12 hF rfl (wanted_f hF rfl rfl rfl hc26 rfl) rfl (by kernel_rfl) (by kernel_rfl) (by kernel_rfl) fun a hF => e_skipP 13 hF rfl (wanted_f hF rfl rfl rfl hc26 rfl) rfl (by kernel_rfl) (by kernel_rfl) (by kernel_rfl) fun a hF => e_skipP 14 hF rfl (wanted_f hF rfl rfl rfl hc26 rfl) rfl (by kernel_rfl) (by kernel_rfl) (by kernel_rfl) fun a hF => e_skipP 15 hF rfl (wanted_f hF rfl rfl rfl hc26 rfl) rfl (by kernel_rfl) (by kernel_rfl) (by kernel_rfl) fun a hF => e_skipP 16 hF rfl (wanted_f hF rfl rfl rfl hc26 rfl) rfl (by kernel_rfl) (by kernel_rfl) (by kernel_rfl) fun a hF => e_skipP 17 hF rfl (wanted_f hF rfl rfl rfl hc26 rfl) rfl (by kernel_rfl) (by kernel_rfl) (by kernel_rfl) fun a hF => e_pg (v := (.bool true)) 18 hF rfl (ex_pick_t rfl rfl hc26) (wanted_t hF rfl rfl rfl hc25) rfl (by kernel_rfl) (by kernel_rfl) (by kernel_rfl) fun a hF => e_p (v := (.bool true)) 19 hF rfl (ex_pick_t rfl rfl hc25) rfl rfl (by kernel_rfl) (by kernel_rfl) (by kernel_rfl) fun a hF => e_p (v := (.bool true)) 20 hF rfl (ex_assign rfl) rfl rfl (by kernel_rfl) (by kernel_rfl) (by kernel_rfl) fun a hF => e_end (by kernel_rfl) (n_jn ?_) _
           obtain rfl := someI hj23
           exact ⟨hF.sub ⟨rfl, trivial⟩, hS.mask [false, false, false, false, false]⟩
       ·rintro a w ⟨hF, hS⟩
        refine n_sq (q_ret ?_)
        obtain rfl := someI hr
        exact ret_of hF hS rfl (.tmp rfl .nil) rfl
      ·have hr := cond_t hc22 hr
       refine q_cond_t hF rfl hc22 (q_seq (q_region (q_x (v := (.bool false)) hF hS (ex_assign rfl) rfl rfl fun a hF => q_end (n_sq (q_ret (r_sq ?_))))))
       obtain rfl := someI hr
       exact ret_of hF hS rfl (.tmp rfl .nil) rfl
   ·have hr := cond_t hc5 hr
    refine q_cond_t hF rfl hc5 (q_seq (q_region (q_x (v := (.bool false)) hF hS (ex_assign rfl) rfl rfl fun a hF => q_end (n_sq (q_ret (r_sq ?_))))))
    obtain rfl := someI hr
    exact ret_of hF hS rfl (.tmp rfl .nil) rfl
 ·have hr := cond_t hc1 hr
  refine q_cond_t hF rfl hc1 (q_seq (q_region (q_x (v := (.bool true)) hF hS (ex_assign rfl) rfl rfl fun a hF => q_end (n_sq (q_ret (r_sq ?_))))))
  obtain rfl := someI hr
  exact ret_of hF hS rfl (.tmp rfl .nil) rfl

end Go.Proofs.YtgaeknajcakinaaDoor
