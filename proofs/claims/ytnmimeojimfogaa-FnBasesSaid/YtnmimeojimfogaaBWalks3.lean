/- The walks of the functions: each returns what its plain function says. -/
import Derived.Test.YtnmimeojimfogaaBWalks2
namespace Go.Proofs.Ytnmimeojimfogaa
open Go.Gx Go.Gx.F Go.RowKit
set_option linter.all false
set_option maxRecDepth 10000


theorem c_impl_followsFrom (p_g : impl_Geo) (p_s : List impl_Variable) (p_t : impl_Table) (p_u : impl_Table) (r : Bool) (hr : impl_followsFrom p_g p_s p_t p_u = some r) (w0 : World) (m : Mem) (hv : Vis m w0) (s1 : Sl) (h1 : Rd m s1 p_g.Parents) (s2 : Sl) (h2 : Rd m s2 p_s) (s3 : Sl) (h3 : Rd m s3 p_t.Vars) (s4 : Sl) (h4 : Rd m s4 p_t.Where) (s5 : Sl) (h5 : Rd m s5 p_u.Vars) (s6 : Sl) (h6 : Rd m s6 p_u.Where) :
  Ret Try.prog 34 [(.agg #[s1.v]), s2.v, (.agg #[(.int .i64 p_t.Level), s3.v, s4.v, (.int .i64 p_t.Sum)]), (.agg #[(.int .i64 p_u.Level), s5.v, s6.v, (.int .i64 p_u.Sum)])] w0 (fun v _ => v = (.bool r)) := by
 unfold impl_followsFrom at hr
 refine ret_start Try.func34 rfl 114 rfl rfl m hv fun a hF hS => q_seq (q_region (q_box (cs := [s1.v]) hF hS rfl rfl rfl fun a w b7 hF hS => q_box (cs := [(.int .i64 p_t.Level), s3.v, s4.v, (.int .i64 p_t.Sum)]) hF hS rfl rfl rfl fun a w b8 hF hS => q_box (cs := [(.int .i64 p_u.Level), s5.v, s6.v, (.int .i64 p_u.Sum)]) hF hS rfl rfl rfl fun a w b9 hF hS => q_x (v := (.bool false)) hF hS (ex_assign rfl) rfl rfl fun a hF => q_end (n_sq (q_seq (q_seq (q_region (q_x (v := (.pointer (some ⟨b8, 0, none⟩))) hF hS (ex_fieldAddr Try.underlying29 rfl sz3 rfl rfl) rfl rfl fun a hF => q_x (v := (.int .i64 p_t.Level)) hF hS (ex_load1 1 0 Try.underlying3 rfl rfl rfl rfl) rfl rfl fun a hF => q_x (v := (.pointer (some ⟨b9, 0, none⟩))) hF hS (ex_fieldAddr Try.underlying29 rfl sz3 rfl rfl) rfl rfl fun a hF => q_x (v := (.int .i64 p_u.Level)) hF hS (ex_load1 0 0 Try.underlying3 rfl rfl rfl rfl) rfl rfl fun a hF => q_x (v := (.bool (p_t.Level != p_u.Level))) hF hS (ex_ibin rfl rfl rfl) rfl rfl fun a hF => q_end (n_sq ?_))))))))
 obtain ⟨j1, hj1, hr⟩ := bindS hr
 refine q_join (fun a w => j1 = .inl () ∧ Fr a 114 [(1, s2.v), (6, (.pointer (some ⟨b8, 0, none⟩))), (7, (.pointer (some ⟨b9, 0, none⟩)))] ∧ St [] w0 w m [[⟨b9, [(.int .i64 p_u.Level), s5.v, s6.v, (.int .i64 p_u.Sum)], 29⟩], [⟨b8, [(.int .i64 p_t.Level), s3.v, s4.v, (.int .i64 p_t.Sum)], 29⟩]]) ?_ ?_
 ·rcases bcase (p_t.Level != p_u.Level) with hc2 | hc2
  ·have hj1 := cond_f hc2 hj1
   refine q_cond_f hF rfl hc2 (q_skipc (n_jn ?_))
   obtain rfl := someI hj1
   exact ⟨rfl, hF.sub ⟨rfl, rfl, rfl, trivial⟩, hS.mask [true, true, false]⟩
  ·have hj1 := cond_t hc2 hj1
   refine q_cond_t hF rfl hc2 (q_seq (q_seq (q_region (q_x (v := (.pointer (some ⟨b9, 0, none⟩))) hF hS (ex_fieldAddr Try.underlying29 rfl sz3 rfl rfl) rfl rfl fun a hF => q_x (v := (.int .i64 p_u.Level)) hF hS (ex_load1 0 0 Try.underlying3 rfl rfl rfl rfl) rfl rfl fun a hF => q_x (v := (.pointer (some ⟨b8, 0, none⟩))) hF hS (ex_fieldAddr Try.underlying29 rfl sz3 rfl rfl) rfl rfl fun a hF => q_x (v := (.int .i64 p_t.Level)) hF hS (ex_load1 1 0 Try.underlying3 rfl rfl rfl rfl) rfl rfl fun a hF => q_x (v := (.bool (decide (p_u.Level < p_t.Level)))) hF hS (ex_ibin rfl rfl rfl) rfl rfl fun a hF => q_end (n_sq ?_)))))
   rcases bcase (decide (p_u.Level < p_t.Level)) with hc3 | hc3
   ·have hj1 := cond_f hc3 hj1
    refine q_cond_f hF rfl hc3 (q_skipc (n_sq (q_seq (q_region (q_x (v := (.agg #[s1.v])) hF hS (ex_loadA (vs := [s1.v]) 2 0 Try.underlying26 rfl sz26 rfl rfl rfl rfl) rfl rfl fun a hF => ?_)))))
    obtain ⟨t_10, ht_10, hj1⟩ := bindS hj1
    refine q_call (vs := [(.agg #[s1.v])]) hF hS Try.func60 (by kernel_rfl) rfl rfl rfl (c_impl_leavesOf p_g t_10 ht_10 _ m hS.vis s1 h1) ?_
    rintro a w _ ⟨q12, s12, rfl, hR11, h12⟩ hF hS2
    have hS : St _ _ _ _ [q12, [⟨b9, [(.int .i64 p_u.Level), s5.v, s6.v, (.int .i64 p_u.Sum)], 29⟩], [⟨b8, [(.int .i64 p_t.Level), s3.v, s4.v, (.int .i64 p_t.Sum)], 29⟩], [⟨b7, [s1.v], 26⟩]] := hS.joinF hR11
    refine q_x (v := (.int .i64 (goLen t_10))) hF hS (ex_len Try.underlying24 rfl h12.len) rfl rfl fun a hF => q_x (v := (.int .i64 0)) hF hS (ex_move rfl) rfl rfl fun a hF => q_end (n_sq (q_block ?_))
    obtain ⟨o4, hl4, hj1⟩ := bindS hj1
    refine q_loop (fun (t_13 : Int) a w => Fr a 114 [(1, s2.v), (4, (.pointer (some ⟨b7, 0, none⟩))), (6, (.pointer (some ⟨b8, 0, none⟩))), (7, (.pointer (some ⟨b9, 0, none⟩))), (28, s12.v), (29, (.int .i64 (goLen t_10))), (30, (.int .i64 t_13))] ∧ St [] w0 w m [q12, [⟨b9, [(.int .i64 p_u.Level), s5.v, s6.v, (.int .i64 p_u.Sum)], 29⟩], [⟨b8, [(.int .i64 p_t.Level), s3.v, s4.v, (.int .i64 p_t.Sum)], 29⟩], [⟨b7, [s1.v], 26⟩]]) (fun (o : (Unit) ⊕ ((Unit) ⊕ (Bool))) e a w => o = .inl () ∧ e = .exit 0 ∧ Fr a 114 [(1, s2.v), (6, (.pointer (some ⟨b8, 0, none⟩))), (7, (.pointer (some ⟨b9, 0, none⟩)))] ∧ St [] w0 w m [[⟨b9, [(.int .i64 p_u.Level), s5.v, s6.v, (.int .i64 p_u.Sum)], 29⟩], [⟨b8, [(.int .i64 p_t.Level), s3.v, s4.v, (.int .i64 p_t.Sum)], 29⟩]]) hl4 ⟨hF.sub ⟨rfl, rfl, rfl, rfl, rfl, rfl, rfl, trivial⟩, hS⟩ ?_ ?_
    ·clear hF hS
     rintro t_13 a w st ⟨hF, hS⟩ hb4
     unfold impl_followsFrom_l1 at hb4
     refine q_seq (q_region (q_x (v := (.bool (decide (t_13 < (goLen t_10))))) hF hS (ex_ibin rfl rfl rfl) rfl rfl fun a hF => q_end (n_sq (q_seq ?_))))
     rcases bcase (decide (t_13 < (goLen t_10))) with hc5 | hc5
     ·have hb4 := cond_f hc5 hb4
      refine q_cond_f hF rfl hc5 (q_exit (x_sq ?_))
      obtain rfl := someI hb4
      exact ⟨nofun, .inl ⟨rfl, rfl, hF.sub ⟨rfl, rfl, rfl, trivial⟩, hS.mask [false, true, true, false]⟩⟩
     ·have hb4 := cond_t hc5 hb4
      refine q_cond_t hF rfl hc5 (q_skipc (n_sq (q_seq (q_block (q_seq (q_region ?_))))))
      obtain ⟨e_14, he_14, hb4⟩ := bindS hb4
      obtain ⟨vs15, at15, d15⟩ := h12.at he_14 1 rfl
      obtain rfl : vs15 = [(.int .i64 e_14)] := d15
      refine q_x (v := (elP s12 (t_13.toNat * 1))) hF hS (ex_indexAddr Try.underlying24 sz3 rfl rfl (h12.idx he_14)) rfl rfl fun a hF => q_x (v := (.int .i64 e_14)) hF hS (ex_loadE1 0 Try.underlying3 rfl rfl (at15.at 0 rfl) rfl rfl) rfl rfl fun a hF => q_x (v := (.int .i64 e_14)) hF hS (ex_assign rfl) rfl rfl fun a hF => q_end (n_sq (q_seq (q_region (q_x (v := (.agg #[s1.v])) hF hS (ex_loadA (vs := [s1.v]) 3 0 Try.underlying26 rfl sz26 rfl rfl rfl rfl) rfl rfl fun a hF => q_x (v := (.int .i64 e_14)) hF hS (ex_move rfl) rfl rfl fun a hF => ?_))))
      obtain ⟨t_16, ht_16, hb4⟩ := bindS hb4
      refine q_call (vs := [(.agg #[s1.v]), (.int .i64 e_14)]) hF hS Try.func61 (by kernel_rfl) rfl rfl rfl (c_impl_depthOf p_g e_14 t_16 ht_16 _ m hS.vis s1 h1) ?_
      rintro a w _ rfl hF hS
      refine q_x (v := (.int .i64 t_16)) hF hS (ex_assign rfl) rfl rfl fun a hF => q_end (n_sq (q_seq ?_))
      obtain ⟨t_17, hj6, hb4⟩ := bindS hb4
      refine q_join (fun a w => Fr a 114 [(1, s2.v), (4, (.pointer (some ⟨b7, 0, none⟩))), (6, (.pointer (some ⟨b8, 0, none⟩))), (7, (.pointer (some ⟨b9, 0, none⟩))), (28, s12.v), (29, (.int .i64 (goLen t_10))), (30, (.int .i64 t_13)), (46, (.bool t_17))] ∧ St [] w0 w m [q12, [⟨b9, [(.int .i64 p_u.Level), s5.v, s6.v, (.int .i64 p_u.Sum)], 29⟩], [⟨b8, [(.int .i64 p_t.Level), s3.v, s4.v, (.int .i64 p_t.Sum)], 29⟩], [⟨b7, [s1.v], 26⟩]]) ?_ ?_
      ·refine q_region (q_x (v := (.int .i64 t_16)) hF hS (ex_move rfl) rfl rfl fun a hF => q_x (v := (.pointer (some ⟨b8, 0, none⟩))) hF hS (ex_fieldAddr Try.underlying29 rfl sz3 rfl rfl) rfl rfl fun a hF => q_x (v := (.int .i64 p_t.Level)) hF hS (ex_load1 2 0 Try.underlying3 rfl rfl rfl rfl) rfl rfl fun a hF => q_x (v := (.bool (decide (p_t.Level ≤ t_16)))) hF hS (ex_ibin rfl rfl rfl) rfl rfl fun a hF => q_x (v := (.bool (decide (p_t.Level ≤ t_16)))) hF hS (ex_move rfl) rfl rfl fun a hF => ?_)
       rcases bcase (decide (p_t.Level ≤ t_16)) with hc7 | hc7
       ·have hj6 := cond_f hc7 hj6
        refine q_skip hF (wanted_f hF rfl rfl rfl hc7 rfl) rfl fun a hF => q_skip hF (wanted_f hF rfl rfl rfl hc7 rfl) rfl fun a hF => q_skip hF (wanted_f hF rfl rfl rfl hc7 rfl) rfl fun a hF => q_skip hF (wanted_f hF rfl rfl rfl hc7 rfl) rfl fun a hF => q_x (v := (.bool false)) hF hS (ex_pick_f rfl rfl hc7) rfl rfl fun a hF => q_end (n_jn ?_)
        obtain rfl := someI hj6
        exact ⟨hF.sub ⟨rfl, rfl, rfl, rfl, rfl, rfl, rfl, rfl, trivial⟩, hS⟩
       ·have hj6 := cond_t hc7 hj6
        refine q_xg (v := (.int .i64 t_16)) hF hS (ex_move rfl) (wanted_t hF rfl rfl rfl hc7) rfl fun a hF => q_xg (v := (.pointer (some ⟨b9, 0, none⟩))) hF hS (ex_fieldAddr Try.underlying29 rfl sz3 rfl rfl) (wanted_t hF rfl rfl rfl hc7) rfl fun a hF => q_xg (v := (.int .i64 p_u.Level)) hF hS (ex_load1 1 0 Try.underlying3 rfl rfl rfl rfl) (wanted_t hF rfl rfl rfl hc7) rfl fun a hF => q_xg (v := (.bool (decide (t_16 < p_u.Level)))) hF hS (ex_ibin rfl rfl rfl) (wanted_t hF rfl rfl rfl hc7) rfl fun a hF => q_x (v := (.bool (decide (t_16 < p_u.Level)))) hF hS (ex_pick_t rfl rfl hc7) rfl rfl fun a hF => q_end (n_jn ?_)
        obtain rfl := someI hj6
        exact ⟨hF.sub ⟨rfl, rfl, rfl, rfl, rfl, rfl, rfl, rfl, trivial⟩, hS⟩
      ·rintro a w ⟨hF, hS⟩
       refine n_sq ?_
       rcases bcase (t_17) with hc8 | hc8
       ·have hb4 := cond_f hc8 hb4
        refine q_cond_f hF rfl hc8 (q_skipc (n_ib (n_sq (q_region (q_x (v := (.int .i64 (w64 (t_13 + 1)))) hF hS (ex_ibin rfl rfl rfl) rfl rfl fun a hF => q_x (v := (.int .i64 (w64 (t_13 + 1)))) hF hS (ex_move rfl) rfl rfl fun a hF => q_end ?_)))))
        obtain rfl := someI hb4
        exact ⟨rfl, hF.sub ⟨rfl, rfl, rfl, rfl, rfl, rfl, rfl, trivial⟩, hS⟩
       ·have hb4 := cond_t hc8 hb4
        refine q_cond_t hF rfl hc8 (q_seq (q_region (q_x (v := (.bool false)) hF hS (ex_assign rfl) rfl rfl fun a hF => q_end (n_sq (q_ret (r_ib (r_sq ?_)))))))
        obtain rfl := someI hb4
        refine ⟨nofun, .inr fun ho => ?_⟩
        subst ho
        refine r_ib (r_jn ?_)
        obtain rfl := someI hj1
        refine r_sq ?_
        obtain rfl := someI hr
        exact ret_of hF hS rfl (.tmp rfl .nil) rfl
    ·rintro e a w ⟨rfl, rfl, hF, hS⟩
     refine x_ib (n_jn ?_)
     obtain rfl := someI hj1
     exact ⟨rfl, hF.sub ⟨rfl, rfl, rfl, trivial⟩, hS⟩
   ·have hj1 := cond_t hc3 hj1
    refine q_cond_t hF rfl hc3 (q_seq (q_region (q_x (v := (.bool false)) hF hS (ex_assign rfl) rfl rfl fun a hF => q_end (n_sq (q_ret (r_sq (r_jn ?_)))))))
    obtain rfl := someI hj1
    refine r_sq ?_
    obtain rfl := someI hr
    exact ret_of hF hS rfl (.tmp rfl .nil) rfl
 ·rintro a w ⟨rfl, hF, hS⟩
  refine n_sq ?_
  refine q_seq (q_seq (q_region (q_x (v := (.pointer (some ⟨b8, 1, none⟩))) hF hS (ex_fieldAddr Try.underlying29 rfl sz24 rfl rfl) rfl rfl fun a hF => q_x (v := s3.v) hF hS (ex_load1 1 0 Try.underlying24 rfl rfl rfl rfl) rfl rfl fun a hF => q_x (v := (.int .i64 (goLen p_t.Vars))) hF hS (ex_len Try.underlying24 rfl h3.len) rfl rfl fun a hF => q_x (v := (.int .i64 0)) hF hS (ex_move rfl) rfl rfl fun a hF => q_end (n_sq (q_block ?_)))))
  obtain ⟨o9, hl9, hr⟩ := bindS hr
  refine q_loop (fun (t_18 : Int) a w => Fr a 114 [(1, s2.v), (6, (.pointer (some ⟨b8, 0, none⟩))), (7, (.pointer (some ⟨b9, 0, none⟩))), (49, s3.v), (50, (.int .i64 (goLen p_t.Vars))), (51, (.int .i64 t_18))] ∧ St [] w0 w m [[⟨b9, [(.int .i64 p_u.Level), s5.v, s6.v, (.int .i64 p_u.Sum)], 29⟩], [⟨b8, [(.int .i64 p_t.Level), s3.v, s4.v, (.int .i64 p_t.Sum)], 29⟩]]) (fun (o : (Unit) ⊕ (Bool)) e a w => o = .inl () ∧ e = .exit 2 ∧ Fr a 114 [(1, s2.v), (6, (.pointer (some ⟨b8, 0, none⟩))), (7, (.pointer (some ⟨b9, 0, none⟩)))] ∧ St [] w0 w m [[⟨b9, [(.int .i64 p_u.Level), s5.v, s6.v, (.int .i64 p_u.Sum)], 29⟩], [⟨b8, [(.int .i64 p_t.Level), s3.v, s4.v, (.int .i64 p_t.Sum)], 29⟩]]) hl9 ⟨hF.sub ⟨rfl, rfl, rfl, rfl, rfl, rfl, trivial⟩, hS⟩ ?_ ?_
  ·clear hF hS
   rintro t_18 a w st ⟨hF, hS⟩ hb9
   unfold impl_followsFrom_l2 at hb9
   refine q_seq (q_region (q_x (v := (.bool (decide (t_18 < (goLen p_t.Vars))))) hF hS (ex_ibin rfl rfl rfl) rfl rfl fun a hF => q_end (n_sq (q_seq ?_))))
   rcases bcase (decide (t_18 < (goLen p_t.Vars))) with hc10 | hc10
   ·have hb9 := cond_f hc10 hb9
    refine q_cond_f hF rfl hc10 (q_exit (x_sq ?_))
    obtain rfl := someI hb9
    exact ⟨nofun, .inl ⟨rfl, rfl, hF.sub ⟨rfl, rfl, rfl, trivial⟩, hS⟩⟩
   ·have hb9 := cond_t hc10 hb9
    refine q_cond_t hF rfl hc10 (q_skipc (n_sq (q_seq (q_block (q_seq (q_region ?_))))))
    obtain ⟨e_19, he_19, hb9⟩ := bindS hb9
    obtain ⟨vs20, at20, d20⟩ := h3.at he_19 1 rfl
    obtain rfl : vs20 = [(.int .i64 e_19)] := d20
    refine q_x (v := (elP s3 (t_18.toNat * 1))) hF hS (ex_indexAddr Try.underlying24 sz3 rfl rfl (h3.idx he_19)) rfl rfl fun a hF => q_x (v := (.int .i64 e_19)) hF hS (ex_loadE1 0 Try.underlying3 rfl rfl ((at20).at) rfl rfl) rfl rfl fun a hF => q_x (v := (.int .i64 e_19)) hF hS (ex_assign rfl) rfl rfl fun a hF => q_end (n_sq (q_seq (q_region (q_x (v := (.pointer (some ⟨b9, 1, none⟩))) hF hS (ex_fieldAddr Try.underlying29 rfl sz24 rfl rfl) rfl rfl fun a hF => q_x (v := s5.v) hF hS (ex_load1 0 0 Try.underlying24 rfl rfl rfl rfl) rfl rfl fun a hF => q_x (v := (.int .i64 e_19)) hF hS (ex_move rfl) rfl rfl fun a hF => ?_))))
    obtain ⟨t_21, ht_21, hb9⟩ := bindS hb9
    refine q_call (vs := [s5.v, (.int .i64 e_19)]) hF hS Try.func33 (by kernel_rfl) rfl rfl rfl (c_slices_Contains_int_int p_u.Vars e_19 t_21 ht_21 _ m hS.vis s5 h5) ?_
    rintro a w _ rfl hF hS
    refine q_x (v := (.bool (!t_21))) hF hS (ex_not rfl) rfl rfl fun a hF => q_end (n_sq ?_)
    rcases bcase (!t_21) with hc11 | hc11
    ·have hb9 := cond_f hc11 hb9
     refine q_cond_f hF rfl hc11 (q_skipc (n_ib (n_sq (q_region (q_x (v := (.int .i64 (w64 (t_18 + 1)))) hF hS (ex_ibin rfl rfl rfl) rfl rfl fun a hF => q_x (v := (.int .i64 (w64 (t_18 + 1)))) hF hS (ex_move rfl) rfl rfl fun a hF => q_end ?_)))))
     obtain rfl := someI hb9
     exact ⟨rfl, hF.sub ⟨rfl, rfl, rfl, rfl, rfl, rfl, trivial⟩, hS⟩
    ·have hb9 := cond_t hc11 hb9
     refine q_cond_t hF rfl hc11 (q_seq (q_region (q_x (v := (.bool false)) hF hS (ex_assign rfl) rfl rfl fun a hF => q_end (n_sq (q_ret (r_ib (r_sq ?_)))))))
     obtain rfl := someI hb9
     refine ⟨nofun, .inr fun ho => ?_⟩
     subst ho
     refine r_ib (r_sq ?_)
     obtain rfl := someI hr
     exact ret_of hF hS rfl (.tmp rfl .nil) rfl
  ·rintro e a w ⟨rfl, rfl, hF, hS⟩
   refine x_ib (n_sq ?_)
   refine q_seq (q_seq (q_region (q_x (v := s2.v) hF hS (ex_move rfl) rfl rfl fun a hF => q_x (v := (.int .i64 (goLen p_s))) hF hS (ex_len Try.underlying27 rfl h2.len) rfl rfl fun a hF => q_x (v := (.int .i64 0)) hF hS (ex_move rfl) rfl rfl fun a hF => q_end (n_sq (q_block ?_)))))
   obtain ⟨o12, hl12, hr⟩ := bindS hr
   refine q_loop (fun (t_22 : Int) a w => Fr a 114 [(1, s2.v), (6, (.pointer (some ⟨b8, 0, none⟩))), (7, (.pointer (some ⟨b9, 0, none⟩))), (62, (.int .i64 (goLen p_s))), (63, (.int .i64 t_22))] ∧ St [] w0 w m [[⟨b9, [(.int .i64 p_u.Level), s5.v, s6.v, (.int .i64 p_u.Sum)], 29⟩], [⟨b8, [(.int .i64 p_t.Level), s3.v, s4.v, (.int .i64 p_t.Sum)], 29⟩]]) (fun (o : (Unit) ⊕ (Bool)) e a w => o = .inl () ∧ e = .exit 4 ∧ Fr a 114 [(6, (.pointer (some ⟨b8, 0, none⟩))), (7, (.pointer (some ⟨b9, 0, none⟩)))] ∧ St [] w0 w m [[⟨b9, [(.int .i64 p_u.Level), s5.v, s6.v, (.int .i64 p_u.Sum)], 29⟩], [⟨b8, [(.int .i64 p_t.Level), s3.v, s4.v, (.int .i64 p_t.Sum)], 29⟩]]) hl12 ⟨hF.sub ⟨rfl, rfl, rfl, rfl, rfl, trivial⟩, hS⟩ ?_ ?_
   ·clear hF hS
    rintro t_22 a w st ⟨hF, hS⟩ hb12
    unfold impl_followsFrom_l3 at hb12
    refine q_seq (q_region (q_x (v := (.bool (decide (t_22 < (goLen p_s))))) hF hS (ex_ibin rfl rfl rfl) rfl rfl fun a hF => q_end (n_sq (q_seq ?_))))
    rcases bcase (decide (t_22 < (goLen p_s))) with hc13 | hc13
    ·have hb12 := cond_f hc13 hb12
     refine q_cond_f hF rfl hc13 (q_exit (x_sq ?_))
     obtain rfl := someI hb12
     exact ⟨nofun, .inl ⟨rfl, rfl, hF.sub ⟨rfl, rfl, trivial⟩, hS⟩⟩
    ·have hb12 := cond_t hc13 hb12
     refine q_cond_t hF rfl hc13 (q_skipc (n_sq (q_seq (q_block (q_seq (q_region (q_x (v := (.int .i64 t_22)) hF hS (ex_move rfl) rfl rfl fun a hF => q_x (v := (.int .i64 t_22)) hF hS (ex_assign rfl) rfl rfl fun a hF => q_end (n_sq (q_seq (e_region ⟨[], []⟩ mixed fun w' hw' => ?_))))))))))
     have hS := hS.below hw'
     refine e_p (v := s2.v) 0 hF rfl (ex_move rfl) rfl rfl (by kernel_rfl) (by kernel_rfl) (by kernel_rfl) fun a hF => e_x (v := (.agg #[(.int .i64 p_t.Level), s3.v, s4.v, (.int .i64 p_t.Sum)])) 1 hF hS rfl (ex_loadA (vs := [(.int .i64 p_t.Level), s3.v, s4.v, (.int .i64 p_t.Sum)]) 1 0 Try.underlying29 rfl sz29 rfl rfl rfl rfl) rfl rfl (by kernel_rfl) (by kernel_rfl) (by kernel_rfl) (by kernel_rfl) fun a hF => e_p (v := (.int .i64 t_22)) 2 hF rfl (ex_move rfl) rfl rfl (by kernel_rfl) (by kernel_rfl) (by kernel_rfl) fun a hF => e_p (v := s2.v) 4 hF rfl (ex_move rfl) rfl rfl (by kernel_rfl) (by kernel_rfl) (by kernel_rfl) fun a hF => e_x (v := (.agg #[(.int .i64 p_u.Level), s5.v, s6.v, (.int .i64 p_u.Sum)])) 5 hF hS rfl (ex_loadA (vs := [(.int .i64 p_u.Level), s5.v, s6.v, (.int .i64 p_u.Sum)]) 0 0 Try.underlying29 rfl sz29 rfl rfl rfl rfl) rfl rfl (by kernel_rfl) (by kernel_rfl) (by kernel_rfl) (by kernel_rfl) fun a hF => e_p (v := (.int .i64 t_22)) 6 hF rfl (ex_move rfl) rfl rfl (by kernel_rfl) (by kernel_rfl) (by kernel_rfl) fun a hF => e_one 3 (by kernel_rfl) ?_
     obtain ⟨t_26, ht_26, hb12⟩ := bindS hb12
     refine e_call (vs := [s2.v, (.agg #[(.int .i64 p_t.Level), s3.v, s4.v, (.int .i64 p_t.Sum)]), (.int .i64 t_22)]) hF hS rfl Try.func31 (by kernel_rfl) rfl rfl rfl (c_impl_conditionOf p_s p_t t_22 t_26 ht_26 _ m hS.vis s2 h2 s3 h3 s4 h4) ?_
     rintro a w _ rfl hF hS
     refine e_one 7 (by kernel_rfl) ?_
     obtain ⟨t_27, ht_27, hb12⟩ := bindS hb12
     refine e_call (vs := [s2.v, (.agg #[(.int .i64 p_u.Level), s5.v, s6.v, (.int .i64 p_u.Sum)]), (.int .i64 t_22)]) hF hS rfl Try.func31 (by kernel_rfl) rfl rfl rfl (c_impl_conditionOf p_s p_u t_22 t_27 ht_27 _ m hS.vis s2 h2 s5 h5 s6 h6) ?_
     rintro a w _ rfl hF hS
     refine e_p (v := (.int .i64 t_26)) 8 hF rfl (ex_assign rfl) rfl rfl (by kernel_rfl) (by kernel_rfl) (by kernel_rfl) fun a hF => e_p (v := (.int .i64 t_27)) 9 hF rfl (ex_assign rfl) rfl rfl (by kernel_rfl) (by kernel_rfl) (by kernel_rfl) fun a hF => e_end (by kernel_rfl) (n_sq ?_) _
     refine q_seq ?_
     obtain ⟨t_31, hj14, hb12⟩ := bindS hb12
     refine q_join (fun a w => Fr a 114 [(1, s2.v), (6, (.pointer (some ⟨b8, 0, none⟩))), (7, (.pointer (some ⟨b9, 0, none⟩))), (62, (.int .i64 (goLen p_s))), (63, (.int .i64 t_22)), (95, (.bool t_31))] ∧ St [] w0 w m [[⟨b9, [(.int .i64 p_u.Level), s5.v, s6.v, (.int .i64 p_u.Sum)], 29⟩], [⟨b8, [(.int .i64 p_t.Level), s3.v, s4.v, (.int .i64 p_t.Sum)], 29⟩]]) ?_ ?_
     ·refine q_region (q_x (v := (.pointer (some ⟨b9, 1, none⟩))) hF hS (ex_fieldAddr Try.underlying29 rfl sz24 rfl rfl) rfl rfl fun a hF => q_x (v := s5.v) hF hS (ex_load1 0 0 Try.underlying24 rfl rfl rfl rfl) rfl rfl fun a hF => q_x (v := (.int .i64 t_22)) hF hS (ex_move rfl) rfl rfl fun a hF => ?_)
      obtain ⟨t_28, ht_28, hj14⟩ := bindS hj14
      refine q_call (vs := [s5.v, (.int .i64 t_22)]) hF hS Try.func33 (by kernel_rfl) rfl rfl rfl (c_slices_Contains_int_int p_u.Vars t_22 t_28 ht_28 _ m hS.vis s5 h5) ?_
      rintro a w _ rfl hF hS
      refine q_x (v := (.bool t_28)) hF hS (ex_move rfl) rfl rfl fun a hF => ?_
      rcases bcase (t_28) with hc15 | hc15
      ·have hj14 := cond_f hc15 hj14
       refine q_skip hF (wanted_f hF rfl rfl rfl hc15 rfl) rfl fun a hF => q_skip hF (wanted_f hF rfl rfl rfl hc15 rfl) rfl fun a hF => q_skip hF (wanted_f hF rfl rfl rfl hc15 rfl) rfl fun a hF => q_skip hF (wanted_f hF rfl rfl rfl hc15 rfl) rfl fun a hF => q_x (v := (.bool false)) hF hS (ex_pick_f rfl rfl hc15) rfl rfl fun a hF => q_x (v := (.bool false)) hF hS (ex_move rfl) rfl rfl fun a hF => q_xg (v := (.pointer (some ⟨b9, 1, none⟩))) hF hS (ex_fieldAddr Try.underlying29 rfl sz24 rfl rfl) (wanted_t hF rfl rfl rfl rfl) rfl fun a hF => q_xg (v := s5.v) hF hS (ex_load1 0 0 Try.underlying24 rfl rfl rfl rfl) (wanted_t hF rfl rfl rfl rfl) rfl fun a hF => q_xg (v := (.int .i64 t_22)) hF hS (ex_move rfl) (wanted_t hF rfl rfl rfl rfl) rfl fun a hF => ?_
       obtain ⟨t_29, ht_29, hj14⟩ := bindS hj14
       refine q_callg (vs := [s5.v, (.int .i64 t_22)]) hF hS (wanted_t hF rfl rfl rfl rfl) Try.func33 (by kernel_rfl) rfl rfl rfl (c_slices_Contains_int_int p_u.Vars t_22 t_29 ht_29 _ m hS.vis s5 h5) ?_
       rintro a w _ rfl hF hS
       refine q_xg (v := (.bool (!t_29))) hF hS (ex_not rfl) (wanted_t hF rfl rfl rfl rfl) rfl fun a hF => q_xg (v := (.bool (!t_29))) hF hS (ex_move rfl) (wanted_t hF rfl rfl rfl rfl) rfl fun a hF => ?_
       rcases bcase (!t_29) with hc16 | hc16
       ·have hj14 := cond_f hc16 hj14
        refine q_skip hF (wanted_f hF rfl rfl rfl hc16 rfl) rfl fun a hF => q_skip hF (wanted_f hF rfl rfl rfl hc16 rfl) rfl fun a hF => q_skip hF (wanted_f hF rfl rfl rfl hc16 rfl) rfl fun a hF => q_xg (v := (.bool false)) hF hS (ex_pick_f rfl rfl hc16) (wanted_t hF rfl rfl rfl rfl) rfl fun a hF => q_x (v := (.bool false)) hF hS (ex_pick_f rfl rfl rfl) rfl rfl fun a hF => q_end (n_jn ?_)
        obtain rfl := someI hj14
        exact ⟨hF.sub ⟨rfl, rfl, rfl, rfl, rfl, rfl, trivial⟩, hS⟩
       ·have hj14 := cond_t hc16 hj14
        refine q_xg (v := (.int .i64 t_26)) hF hS (ex_move rfl) (wanted_t hF rfl rfl rfl hc16) rfl fun a hF => q_xg (v := (.int .i64 t_27)) hF hS (ex_move rfl) (wanted_t hF rfl rfl rfl hc16) rfl fun a hF => q_xg (v := (.bool (t_26 != t_27))) hF hS (ex_ibin rfl rfl rfl) (wanted_t hF rfl rfl rfl hc16) rfl fun a hF => q_xg (v := (.bool (t_26 != t_27))) hF hS (ex_pick_t rfl rfl hc16) (wanted_t hF rfl rfl rfl rfl) rfl fun a hF => q_x (v := (.bool (t_26 != t_27))) hF hS (ex_pick_f rfl rfl rfl) rfl rfl fun a hF => q_end (n_jn ?_)
        obtain rfl := someI hj14
        exact ⟨hF.sub ⟨rfl, rfl, rfl, rfl, rfl, rfl, trivial⟩, hS⟩
      ·have hj14 := cond_t hc15 hj14
       refine q_xg (v := (.int .i64 t_26)) hF hS (ex_move rfl) (wanted_t hF rfl rfl rfl hc15) rfl fun a hF => q_xg (v := (.int .i64 t_27)) hF hS (ex_move rfl) (wanted_t hF rfl rfl rfl hc15) rfl fun a hF => q_xg (v := (.int .i64 (goBits .andNot .i64 t_26 t_27))) hF hS (ex_bits rfl rfl rfl) (wanted_t hF rfl rfl rfl hc15) rfl fun a hF => q_xg (v := (.bool ((goBits .andNot .i64 t_26 t_27) != 0))) hF hS (ex_ibin rfl rfl rfl) (wanted_t hF rfl rfl rfl hc15) rfl fun a hF => q_x (v := (.bool ((goBits .andNot .i64 t_26 t_27) != 0))) hF hS (ex_pick_t rfl rfl hc15) rfl rfl fun a hF => q_x (v := (.bool ((goBits .andNot .i64 t_26 t_27) != 0))) hF hS (ex_move rfl) rfl rfl fun a hF => ?_
       rcases bcase ((goBits .andNot .i64 t_26 t_27) != 0) with hc17 | hc17
       ·have hj14 := cond_f hc17 hj14
        refine q_xg (v := (.pointer (some ⟨b9, 1, none⟩))) hF hS (ex_fieldAddr Try.underlying29 rfl sz24 rfl rfl) (wanted_t hF rfl rfl rfl hc17) rfl fun a hF => q_xg (v := s5.v) hF hS (ex_load1 0 0 Try.underlying24 rfl rfl rfl rfl) (wanted_t hF rfl rfl rfl hc17) rfl fun a hF => q_xg (v := (.int .i64 t_22)) hF hS (ex_move rfl) (wanted_t hF rfl rfl rfl hc17) rfl fun a hF => ?_
        obtain ⟨t_30, ht_30, hj14⟩ := bindS hj14
        refine q_callg (vs := [s5.v, (.int .i64 t_22)]) hF hS (wanted_t hF rfl rfl rfl hc17) Try.func33 (by kernel_rfl) rfl rfl rfl (c_slices_Contains_int_int p_u.Vars t_22 t_30 ht_30 _ m hS.vis s5 h5) ?_
        rintro a w _ rfl hF hS
        refine q_xg (v := (.bool (!t_30))) hF hS (ex_not rfl) (wanted_t hF rfl rfl rfl hc17) rfl fun a hF => q_xg (v := (.bool (!t_30))) hF hS (ex_move rfl) (wanted_t hF rfl rfl rfl hc17) rfl fun a hF => ?_
        rcases bcase (!t_30) with hc18 | hc18
        ·have hj14 := cond_f hc18 hj14
         refine q_skip hF (wanted_f hF rfl rfl rfl hc18 rfl) rfl fun a hF => q_skip hF (wanted_f hF rfl rfl rfl hc18 rfl) rfl fun a hF => q_skip hF (wanted_f hF rfl rfl rfl hc18 rfl) rfl fun a hF => q_xg (v := (.bool false)) hF hS (ex_pick_f rfl rfl hc18) (wanted_t hF rfl rfl rfl hc17) rfl fun a hF => q_x (v := (.bool false)) hF hS (ex_pick_f rfl rfl hc17) rfl rfl fun a hF => q_end (n_jn ?_)
         obtain rfl := someI hj14
         exact ⟨hF.sub ⟨rfl, rfl, rfl, rfl, rfl, rfl, trivial⟩, hS⟩
        ·have hj14 := cond_t hc18 hj14
         refine q_xg (v := (.int .i64 t_26)) hF hS (ex_move rfl) (wanted_t hF rfl rfl rfl hc18) rfl fun a hF => q_xg (v := (.int .i64 t_27)) hF hS (ex_move rfl) (wanted_t hF rfl rfl rfl hc18) rfl fun a hF => q_xg (v := (.bool (t_26 != t_27))) hF hS (ex_ibin rfl rfl rfl) (wanted_t hF rfl rfl rfl hc18) rfl fun a hF => q_xg (v := (.bool (t_26 != t_27))) hF hS (ex_pick_t rfl rfl hc18) (wanted_t hF rfl rfl rfl hc17) rfl fun a hF => q_x (v := (.bool (t_26 != t_27))) hF hS (ex_pick_f rfl rfl hc17) rfl rfl fun a hF => q_end (n_jn ?_)
         obtain rfl := someI hj14
         exact ⟨hF.sub ⟨rfl, rfl, rfl, rfl, rfl, rfl, trivial⟩, hS⟩
       ·have hj14 := cond_t hc17 hj14
        refine q_skip hF (wanted_f hF rfl rfl rfl hc17 rfl) rfl fun a hF => q_skip hF (wanted_f hF rfl rfl rfl hc17 rfl) rfl fun a hF => q_skip hF (wanted_f hF rfl rfl rfl hc17 rfl) rfl fun a hF => q_skip hF (wanted_f hF rfl rfl rfl hc17 rfl) rfl fun a hF => q_skip hF (wanted_f hF rfl rfl rfl hc17 rfl) rfl fun a hF => q_skip hF (wanted_f hF rfl rfl rfl hc17 rfl) rfl fun a hF => q_skip hF (wanted_u hF rfl rfl rfl) rfl fun a hF => q_skip hF (wanted_u hF rfl rfl rfl) rfl fun a hF => q_skip hF (wanted_u hF rfl rfl rfl) rfl fun a hF => q_skip hF (wanted_f hF rfl rfl rfl hc17 rfl) rfl fun a hF => q_x (v := (.bool true)) hF hS (ex_pick_t rfl rfl hc17) rfl rfl fun a hF => q_end (n_jn ?_)
        obtain rfl := someI hj14
        exact ⟨hF.sub ⟨rfl, rfl, rfl, rfl, rfl, rfl, trivial⟩, hS⟩
     ·rintro a w ⟨hF, hS⟩
      refine n_sq ?_
      rcases bcase (t_31) with hc19 | hc19
      ·have hb12 := cond_f hc19 hb12
       refine q_cond_f hF rfl hc19 (q_skipc (n_ib (n_sq (q_region (q_x (v := (.int .i64 (w64 (t_22 + 1)))) hF hS (ex_ibin rfl rfl rfl) rfl rfl fun a hF => q_x (v := (.int .i64 (w64 (t_22 + 1)))) hF hS (ex_move rfl) rfl rfl fun a hF => q_end ?_)))))
       obtain rfl := someI hb12
       exact ⟨rfl, hF.sub ⟨rfl, rfl, rfl, rfl, rfl, trivial⟩, hS⟩
      ·have hb12 := cond_t hc19 hb12
       refine q_cond_t hF rfl hc19 (q_seq (q_region (q_x (v := (.bool false)) hF hS (ex_assign rfl) rfl rfl fun a hF => q_end (n_sq (q_ret (r_ib (r_sq ?_)))))))
       obtain rfl := someI hb12
       refine ⟨nofun, .inr fun ho => ?_⟩
       subst ho
       refine r_ib (r_sq ?_)
       obtain rfl := someI hr
       exact ret_of hF hS rfl (.tmp rfl .nil) rfl
   ·rintro e a w ⟨rfl, rfl, hF, hS⟩
    refine x_ib (n_sq ?_)
    refine q_seq ?_
    obtain ⟨t_33, hj20, hr⟩ := bindS hr
    refine q_join (fun a w => Fr a 114 [(8, (.bool t_33))] ∧ St [] w0 w m []) ?_ ?_
    ·refine q_region (q_x (v := (.pointer (some ⟨b8, 3, none⟩))) hF hS (ex_fieldAddr Try.underlying29 rfl sz3 rfl rfl) rfl rfl fun a hF => q_x (v := (.int .i64 p_t.Sum)) hF hS (ex_load1 1 0 Try.underlying3 rfl rfl rfl rfl) rfl rfl fun a hF => q_x (v := (.pointer (some ⟨b9, 3, none⟩))) hF hS (ex_fieldAddr Try.underlying29 rfl sz3 rfl rfl) rfl rfl fun a hF => q_x (v := (.int .i64 p_u.Sum)) hF hS (ex_load1 0 0 Try.underlying3 rfl rfl rfl rfl) rfl rfl fun a hF => q_x (v := (.bool (p_t.Sum == p_u.Sum))) hF hS (ex_ibin rfl rfl rfl) rfl rfl fun a hF => q_x (v := (.bool (p_t.Sum == p_u.Sum))) hF hS (ex_move rfl) rfl rfl fun a hF => ?_)
     rcases bcase (p_t.Sum == p_u.Sum) with hc21 | hc21
     ·have hj20 := cond_f hc21 hj20
      refine q_xg (v := (.pointer (some ⟨b9, 3, none⟩))) hF hS (ex_fieldAddr Try.underlying29 rfl sz3 rfl rfl) (wanted_t hF rfl rfl rfl hc21) rfl fun a hF => q_xg (v := (.int .i64 p_u.Sum)) hF hS (ex_load1 0 0 Try.underlying3 rfl rfl rfl rfl) (wanted_t hF rfl rfl rfl hc21) rfl fun a hF => q_xg (v := (.bool (p_u.Sum == (-1)))) hF hS (ex_ibin rfl rfl rfl) (wanted_t hF rfl rfl rfl hc21) rfl fun a hF => q_xg (v := (.bool (p_u.Sum == (-1)))) hF hS (ex_move rfl) (wanted_t hF rfl rfl rfl hc21) rfl fun a hF => ?_
      rcases bcase (p_u.Sum == (-1)) with hc22 | hc22
      ·have hj20 := cond_f hc22 hj20
       refine q_skip hF (wanted_f hF rfl rfl rfl hc22 rfl) rfl fun a hF => q_skip hF (wanted_f hF rfl rfl rfl hc22 rfl) rfl fun a hF => q_skip hF (wanted_f hF rfl rfl rfl hc22 rfl) rfl fun a hF => q_skip hF (wanted_f hF rfl rfl rfl hc22 rfl) rfl fun a hF => q_skip hF (wanted_f hF rfl rfl rfl hc22 rfl) rfl fun a hF => q_xg (v := (.bool false)) hF hS (ex_pick_f rfl rfl hc22) (wanted_t hF rfl rfl rfl hc21) rfl fun a hF => q_x (v := (.bool false)) hF hS (ex_pick_f rfl rfl hc21) rfl rfl fun a hF => q_x (v := (.bool false)) hF hS (ex_assign rfl) rfl rfl fun a hF => q_end (n_jn ?_)
       obtain rfl := someI hj20
       exact ⟨hF.sub ⟨rfl, trivial⟩, hS.mask [false, false]⟩
      ·have hj20 := cond_t hc22 hj20
       refine q_xg (v := (.pointer (some ⟨b9, 1, none⟩))) hF hS (ex_fieldAddr Try.underlying29 rfl sz24 rfl rfl) (wanted_t hF rfl rfl rfl hc22) rfl fun a hF => q_xg (v := s5.v) hF hS (ex_load1 0 0 Try.underlying24 rfl rfl rfl rfl) (wanted_t hF rfl rfl rfl hc22) rfl fun a hF => q_xg (v := (.pointer (some ⟨b8, 3, none⟩))) hF hS (ex_fieldAddr Try.underlying29 rfl sz3 rfl rfl) (wanted_t hF rfl rfl rfl hc22) rfl fun a hF => q_xg (v := (.int .i64 p_t.Sum)) hF hS (ex_load1 1 0 Try.underlying3 rfl rfl rfl rfl) (wanted_t hF rfl rfl rfl hc22) rfl fun a hF => ?_
       obtain ⟨t_32, ht_32, hj20⟩ := bindS hj20
       refine q_callg (vs := [s5.v, (.int .i64 p_t.Sum)]) hF hS (wanted_t hF rfl rfl rfl hc22) Try.func33 (by kernel_rfl) rfl rfl rfl (c_slices_Contains_int_int p_u.Vars p_t.Sum t_32 ht_32 _ m hS.vis s5 h5) ?_
       rintro a w _ rfl hF hS
       refine q_xg (v := (.bool t_32)) hF hS (ex_pick_t rfl rfl hc22) (wanted_t hF rfl rfl rfl hc21) rfl fun a hF => q_x (v := (.bool t_32)) hF hS (ex_pick_f rfl rfl hc21) rfl rfl fun a hF => q_x (v := (.bool t_32)) hF hS (ex_assign rfl) rfl rfl fun a hF => q_end (n_jn ?_)
       obtain rfl := someI hj20
       exact ⟨hF.sub ⟨rfl, trivial⟩, hS.mask [false, false]⟩
     ·have hj20 := cond_t hc21 hj20
      refine q_skip hF (wanted_f hF rfl rfl rfl hc21 rfl) rfl fun a hF => q_skip hF (wanted_f hF rfl rfl rfl hc21 rfl) rfl fun a hF => q_skip hF (wanted_f hF rfl rfl rfl hc21 rfl) rfl fun a hF => q_skip hF (wanted_f hF rfl rfl rfl hc21 rfl) rfl fun a hF => q_skip hF (wanted_u hF rfl rfl rfl) rfl fun a hF => q_skip hF (wanted_u hF rfl rfl rfl) rfl fun a hF => q_skip hF (wanted_u hF rfl rfl rfl) rfl fun a hF => q_skip hF (wanted_u hF rfl rfl rfl) rfl fun a hF => q_skip hF (wanted_u hF rfl rfl rfl) rfl fun a hF => q_skip hF (wanted_f hF rfl rfl rfl hc21 rfl) rfl fun a hF => q_x (v := (.bool true)) hF hS (ex_pick_t rfl rfl hc21) rfl rfl fun a hF => q_x (v := (.bool true)) hF hS (ex_assign rfl) rfl rfl fun a hF => q_end (n_jn ?_)
      obtain rfl := someI hj20
      exact ⟨hF.sub ⟨rfl, trivial⟩, hS.mask [false, false]⟩
    ·rintro a w ⟨hF, hS⟩
     refine n_sq (q_ret ?_)
     obtain rfl := someI hr
     exact ret_of hF hS rfl (.tmp rfl .nil) rfl

theorem c_impl_BaseTables (p_g : impl_Geo) (p_s : List impl_Variable) (p_l : List impl_Table) (r : (List Int) × Bool) (hr : impl_BaseTables p_g p_s p_l = some r) (w0 : World) (m : Mem) (hv : Vis m w0) (s1 : Sl) (h1 : Rd m s1 p_g.Parents) (s2 : Sl) (h2 : Rd m s2 p_s) (s3 : Sl) (h3 : Rd m s3 p_l) :
  Ret Try.prog 15 [(.agg #[s1.v]), s2.v, s3.v] w0 (fun v w => ∃ (q0' : Piece) (s0' : Sl), v = (.tuple #[s0'.v, (.bool r.2)]) ∧ St [] w0 w m [q0'] ∧ OwnL m 3 q0' s0' r.1) := by
 unfold impl_BaseTables at hr
 refine ret_start Try.func15 rfl 64 rfl rfl m hv fun a hF hS => q_seq (q_region (q_box (cs := [s1.v]) hF hS rfl rfl rfl fun a w b4 hF hS => q_x (v := nilS.v) hF hS (ex_assign rfl) rfl rfl fun a hF => q_x (v := (.bool false)) hF hS (ex_assign rfl) rfl rfl fun a hF => q_end (n_sq (q_seq (q_seq (q_region (q_x (v := (.agg #[s1.v])) hF hS (ex_loadA (vs := [s1.v]) 0 0 Try.underlying26 rfl sz26 rfl rfl rfl rfl) rfl rfl fun a hF => q_x (v := s2.v) hF hS (ex_move rfl) rfl rfl fun a hF => q_x (v := s3.v) hF hS (ex_move rfl) rfl rfl fun a hF => ?_)))))))
 obtain ⟨t_5, ht_5, hr⟩ := bindS hr
 refine q_call (vs := [(.agg #[s1.v]), s2.v, s3.v]) hF hS Try.func42 (by kernel_rfl) rfl rfl rfl (c_impl_isPlan p_g p_s p_l t_5 ht_5 _ m hS.vis s1 h1 s2 h2 s3 h3) ?_
 rintro a w _ rfl hF hS
 refine q_x (v := (.bool (!t_5))) hF hS (ex_not rfl) rfl rfl fun a hF => q_end (n_sq ?_)
 rcases bcase (!t_5) with hc1 | hc1
 ·have hr := cond_f hc1 hr
  refine q_cond_f hF rfl hc1 (q_skipc (n_sq (q_seq (q_region (q_x (v := nilS.v) hF hS (ex_assign rfl) rfl rfl fun a hF => q_end (n_sq (q_seq (q_seq (q_region (q_x (v := s3.v) hF hS (ex_move rfl) rfl rfl fun a hF => q_x (v := (.int .i64 (goLen p_l))) hF hS (ex_len Try.underlying37 rfl h3.len) rfl rfl fun a hF => q_x (v := (.int .i64 0)) hF hS (ex_move rfl) rfl rfl fun a hF => q_end (n_sq (q_block ?_))))))))))))
  obtain ⟨out_31, hl2, hr⟩ := bindS hr
  refine q_loop (fun (s : (List Int) × Int) a w => ∃ (q7 : Piece), ∃ (s7 : Sl), ∃ out_6, ∃ t_8, s = (out_6, t_8) ∧ Fr a 64 [(1, s2.v), (2, s3.v), (3, (.pointer (some ⟨b4, 0, none⟩))), (8, s7.v), (19, s3.v), (20, (.int .i64 (goLen p_l))), (21, (.int .i64 t_8))] ∧ St [] w0 w m [q7, [⟨b4, [s1.v], 26⟩]] ∧ OwnL m 3 q7 s7 out_6) (fun (out_31 : (List Int)) e a w => ∃ (q32 : Piece), ∃ (s32 : Sl), e = .exit 0 ∧ Fr a 64 [(8, s32.v)] ∧ St [] w0 w m [q32] ∧ OwnL m 3 q32 s32 out_31) hl2 ⟨[], nilS, _, _, rfl, hF.sub ⟨rfl, rfl, rfl, rfl, rfl, rfl, rfl, trivial⟩, hS.sel [1, 0] (by decide), (OwnL.nil (α := Int) m 3)⟩ ?_ ?_
  ·clear hF hS
   rintro s a w st ⟨q7, s7, out_6, t_8, rfl, hF, hS, h7⟩ hb2
   unfold impl_BaseTables_l1 at hb2
   refine q_seq (q_region (q_x (v := (.bool (decide (t_8 < (goLen p_l))))) hF hS (ex_ibin rfl rfl rfl) rfl rfl fun a hF => q_end (n_sq (q_seq ?_))))
   rcases bcase (decide (t_8 < (goLen p_l))) with hc3 | hc3
   ·have hb2 := cond_f hc3 hb2
    refine q_cond_f hF rfl hc3 (q_exit (x_sq ?_))
    obtain rfl := someI hb2
    exact ⟨nofun, .inl ⟨q7, s7, rfl, hF.sub ⟨rfl, trivial⟩, hS.mask [true, false], h7⟩⟩
   ·have hb2 := cond_t hc3 hb2
    refine q_cond_t hF rfl hc3 (q_skipc (n_sq (q_seq (q_block (q_seq (q_region (q_x (v := (.int .i64 t_8)) hF hS (ex_move rfl) rfl rfl fun a hF => ?_)))))))
    obtain ⟨e_9, he_9, hb2⟩ := bindS hb2
    obtain ⟨vs10, at10, d10⟩ := h3.at he_9 4 rfl
    obtain ⟨s11, s12, rfl, h11, h12⟩ : ∃ s11 s12 : Sl, vs10 = [(.int .i64 e_9.Level), s11.v, s12.v, (.int .i64 e_9.Sum)] ∧ Rd m s11 e_9.Vars ∧ Rd m s12 e_9.Where := d10
    refine q_x (v := (elP s3 (t_8.toNat * 4))) hF hS (ex_indexAddr Try.underlying37 sz29 rfl rfl (h3.idx he_9)) rfl rfl fun a hF => q_x (v := (.agg #[(.int .i64 e_9.Level), s11.v, s12.v, (.int .i64 e_9.Sum)])) hF hS (ex_loadEA (us := [(.int .i64 e_9.Level), s11.v, s12.v, (.int .i64 e_9.Sum)]) 0 Try.underlying29 rfl sz29 rfl ((at10).at) rfl rfl rfl) rfl rfl fun a hF => q_alloc (cs := [(.int .i64 0), nilS.v, nilS.v, (.int .i64 0)]) hF hS rfl rfl rfl fun a w b13 hF hS => q_x (v := (.int .i64 t_8)) hF hS (ex_assign rfl) rfl rfl fun a hF => q_store (vs := [(.int .i64 e_9.Level), s11.v, s12.v, (.int .i64 e_9.Sum)]) (cs' := [(.int .i64 e_9.Level), s11.v, s12.v, (.int .i64 e_9.Sum)]) 0 0 hF hS sz29 rfl rfl rfl rfl rfl rfl rfl rfl fun a w hF hS => q_end (n_sq (q_seq (q_region (q_x (v := (.bool true)) hF hS (ex_assign rfl) rfl rfl fun a hF => q_end (n_sq (q_seq (q_seq (q_region (q_x (v := s3.v) hF hS (ex_move rfl) rfl rfl fun a hF => q_x (v := (.int .i64 (goLen p_l))) hF hS (ex_len Try.underlying37 rfl h3.len) rfl rfl fun a hF => q_x (v := (.int .i64 0)) hF hS (ex_move rfl) rfl rfl fun a hF => q_end (n_sq (q_block ?_)))))))))))
    obtain ⟨base_25, hl4, hb2⟩ := bindS hb2
    refine q_loop (fun (s : Bool × Int) a w => ∃ base_14, ∃ t_15, s = (base_14, t_15) ∧ Fr a 64 [(1, s2.v), (2, s3.v), (3, (.pointer (some ⟨b4, 0, none⟩))), (8, s7.v), (9, (.int .i64 t_8)), (10, (.pointer (some ⟨b13, 0, none⟩))), (11, (.bool base_14)), (19, s3.v), (20, (.int .i64 (goLen p_l))), (21, (.int .i64 t_8)), (26, s3.v), (27, (.int .i64 (goLen p_l))), (28, (.int .i64 t_15))] ∧ St [] w0 w m [[⟨b13, [(.int .i64 e_9.Level), s11.v, s12.v, (.int .i64 e_9.Sum)], 29⟩], q7, [⟨b4, [s1.v], 26⟩]]) (fun (base_25 : Bool) e a w => e = .exit 2 ∧ Fr a 64 [(1, s2.v), (2, s3.v), (3, (.pointer (some ⟨b4, 0, none⟩))), (8, s7.v), (9, (.int .i64 t_8)), (11, (.bool base_25)), (19, s3.v), (20, (.int .i64 (goLen p_l))), (21, (.int .i64 t_8))] ∧ St [] w0 w m [q7, [⟨b4, [s1.v], 26⟩]]) hl4 ⟨_, _, rfl, hF.sub ⟨rfl, rfl, rfl, rfl, rfl, rfl, rfl, rfl, rfl, rfl, rfl, rfl, rfl, trivial⟩, hS⟩ ?_ ?_
    ·clear hF hS
     rintro s a w st ⟨base_14, t_15, rfl, hF, hS⟩ hb4
     unfold impl_BaseTables_l2 at hb4
     refine q_seq (q_region (q_x (v := (.bool (decide (t_15 < (goLen p_l))))) hF hS (ex_ibin rfl rfl rfl) rfl rfl fun a hF => q_end (n_sq (q_seq ?_))))
     rcases bcase (decide (t_15 < (goLen p_l))) with hc5 | hc5
     ·have hb4 := cond_f hc5 hb4
      refine q_cond_f hF rfl hc5 (q_exit (x_sq ?_))
      obtain rfl := someI hb4
      exact ⟨nofun, .inl ⟨rfl, hF.sub ⟨rfl, rfl, rfl, rfl, rfl, rfl, rfl, rfl, rfl, trivial⟩, hS.mask [false, true, true]⟩⟩
     ·have hb4 := cond_t hc5 hb4
      refine q_cond_t hF rfl hc5 (q_skipc (n_sq (q_seq (q_block (q_seq (q_region (q_x (v := (.int .i64 t_15)) hF hS (ex_move rfl) rfl rfl fun a hF => ?_)))))))
      obtain ⟨e_16, he_16, hb4⟩ := bindS hb4
      obtain ⟨vs17, at17, d17⟩ := h3.at he_16 4 rfl
      obtain ⟨s18, s19, rfl, h18, h19⟩ : ∃ s18 s19 : Sl, vs17 = [(.int .i64 e_16.Level), s18.v, s19.v, (.int .i64 e_16.Sum)] ∧ Rd m s18 e_16.Vars ∧ Rd m s19 e_16.Where := d17
      refine q_x (v := (elP s3 (t_15.toNat * 4))) hF hS (ex_indexAddr Try.underlying37 sz29 rfl rfl (h3.idx he_16)) rfl rfl fun a hF => q_x (v := (.agg #[(.int .i64 e_16.Level), s18.v, s19.v, (.int .i64 e_16.Sum)])) hF hS (ex_loadEA (us := [(.int .i64 e_16.Level), s18.v, s19.v, (.int .i64 e_16.Sum)]) 0 Try.underlying29 rfl sz29 rfl ((at17).at) rfl rfl rfl) rfl rfl fun a hF => q_alloc (cs := [(.int .i64 0), nilS.v, nilS.v, (.int .i64 0)]) hF hS rfl rfl rfl fun a w b20 hF hS => q_x (v := (.int .i64 t_15)) hF hS (ex_assign rfl) rfl rfl fun a hF => q_store (vs := [(.int .i64 e_16.Level), s18.v, s19.v, (.int .i64 e_16.Sum)]) (cs' := [(.int .i64 e_16.Level), s18.v, s19.v, (.int .i64 e_16.Sum)]) 0 0 hF hS sz29 rfl rfl rfl rfl rfl rfl rfl rfl fun a w hF hS => q_end (n_sq (q_seq ?_))
      obtain ⟨t_23, hj6, hb4⟩ := bindS hb4
      refine q_join (fun a w => Fr a 64 [(1, s2.v), (2, s3.v), (3, (.pointer (some ⟨b4, 0, none⟩))), (8, s7.v), (9, (.int .i64 t_8)), (10, (.pointer (some ⟨b13, 0, none⟩))), (11, (.bool base_14)), (19, s3.v), (20, (.int .i64 (goLen p_l))), (21, (.int .i64 t_8)), (26, s3.v), (27, (.int .i64 (goLen p_l))), (28, (.int .i64 t_15)), (55, (.bool t_23))] ∧ St [] w0 w m [q7, [⟨b13, [(.int .i64 e_9.Level), s11.v, s12.v, (.int .i64 e_9.Sum)], 29⟩], [⟨b4, [s1.v], 26⟩]]) ?_ ?_
      ·refine q_region (q_x (v := (.int .i64 t_15)) hF hS (ex_move rfl) rfl rfl fun a hF => q_x (v := (.int .i64 t_8)) hF hS (ex_move rfl) rfl rfl fun a hF => q_x (v := (.bool (t_15 != t_8))) hF hS (ex_ibin rfl rfl rfl) rfl rfl fun a hF => q_x (v := (.bool (t_15 != t_8))) hF hS (ex_move rfl) rfl rfl fun a hF => ?_)
       rcases bcase (t_15 != t_8) with hc7 | hc7
       ·have hj6 := cond_f hc7 hj6
        refine q_skip hF (wanted_f hF rfl rfl rfl hc7 rfl) rfl fun a hF => q_skip hF (wanted_f hF rfl rfl rfl hc7 rfl) rfl fun a hF => q_skip hF (wanted_f hF rfl rfl rfl hc7 rfl) rfl fun a hF => q_skip hF (wanted_f hF rfl rfl rfl hc7 rfl) rfl fun a hF => q_skip hF (wanted_f hF rfl rfl rfl hc7 rfl) rfl fun a hF => q_x (v := (.bool false)) hF hS (ex_pick_f rfl rfl hc7) rfl rfl fun a hF => q_x (v := (.bool false)) hF hS (ex_move rfl) rfl rfl fun a hF => q_skip hF (wanted_f hF rfl rfl rfl rfl rfl) rfl fun a hF => q_skip hF (wanted_f hF rfl rfl rfl rfl rfl) rfl fun a hF => q_skip hF (wanted_f hF rfl rfl rfl rfl rfl) rfl fun a hF => q_skip hF (wanted_f hF rfl rfl rfl rfl rfl) rfl fun a hF => q_skip hF (wanted_u hF rfl rfl rfl) rfl fun a hF => q_skip hF (wanted_u hF rfl rfl rfl) rfl fun a hF => q_skip hF (wanted_u hF rfl rfl rfl) rfl fun a hF => q_skip hF (wanted_u hF rfl rfl rfl) rfl fun a hF => q_skip hF (wanted_u hF rfl rfl rfl) rfl fun a hF => q_skip hF (wanted_f hF rfl rfl rfl rfl rfl) rfl fun a hF => q_skip hF (wanted_f hF rfl rfl rfl rfl rfl) rfl fun a hF => q_x (v := (.bool false)) hF hS (ex_pick_f rfl rfl rfl) rfl rfl fun a hF => q_end (n_jn ?_)
        obtain rfl := someI hj6
        exact ⟨hF.sub ⟨rfl, rfl, rfl, rfl, rfl, rfl, rfl, rfl, rfl, rfl, rfl, rfl, rfl, rfl, trivial⟩, hS.sel [2, 1, 3] (by decide)⟩
       ·have hj6 := cond_t hc7 hj6
        refine q_xg (v := (.agg #[s1.v])) hF hS (ex_loadA (vs := [s1.v]) 3 0 Try.underlying26 rfl sz26 rfl rfl rfl rfl) (wanted_t hF rfl rfl rfl hc7) rfl fun a hF => q_xg (v := s2.v) hF hS (ex_move rfl) (wanted_t hF rfl rfl rfl hc7) rfl fun a hF => q_xg (v := (.agg #[(.int .i64 e_9.Level), s11.v, s12.v, (.int .i64 e_9.Sum)])) hF hS (ex_loadA (vs := [(.int .i64 e_9.Level), s11.v, s12.v, (.int .i64 e_9.Sum)]) 1 0 Try.underlying29 rfl sz29 rfl rfl rfl rfl) (wanted_t hF rfl rfl rfl hc7) rfl fun a hF => q_xg (v := (.agg #[(.int .i64 e_16.Level), s18.v, s19.v, (.int .i64 e_16.Sum)])) hF hS (ex_loadA (vs := [(.int .i64 e_16.Level), s18.v, s19.v, (.int .i64 e_16.Sum)]) 0 0 Try.underlying29 rfl sz29 rfl rfl rfl rfl) (wanted_t hF rfl rfl rfl hc7) rfl fun a hF => ?_
        obtain ⟨t_21, ht_21, hj6⟩ := bindS hj6
        refine q_callg (vs := [(.agg #[s1.v]), s2.v, (.agg #[(.int .i64 e_9.Level), s11.v, s12.v, (.int .i64 e_9.Sum)]), (.agg #[(.int .i64 e_16.Level), s18.v, s19.v, (.int .i64 e_16.Sum)])]) hF hS (wanted_t hF rfl rfl rfl hc7) Try.func34 (by kernel_rfl) rfl rfl rfl (c_impl_followsFrom p_g p_s e_9 e_16 t_21 ht_21 _ m hS.vis s1 h1 s2 h2 s11 h11 s12 h12 s18 h18 s19 h19) ?_
        rintro a w _ rfl hF hS
        refine q_x (v := (.bool t_21)) hF hS (ex_pick_t rfl rfl hc7) rfl rfl fun a hF => q_x (v := (.bool t_21)) hF hS (ex_move rfl) rfl rfl fun a hF => ?_
        rcases bcase (t_21) with hc8 | hc8
        ·have hj6 := cond_f hc8 hj6
         refine q_skip hF (wanted_f hF rfl rfl rfl hc8 rfl) rfl fun a hF => q_skip hF (wanted_f hF rfl rfl rfl hc8 rfl) rfl fun a hF => q_skip hF (wanted_f hF rfl rfl rfl hc8 rfl) rfl fun a hF => q_skip hF (wanted_f hF rfl rfl rfl hc8 rfl) rfl fun a hF => q_skip hF (wanted_u hF rfl rfl rfl) rfl fun a hF => q_skip hF (wanted_u hF rfl rfl rfl) rfl fun a hF => q_skip hF (wanted_u hF rfl rfl rfl) rfl fun a hF => q_skip hF (wanted_u hF rfl rfl rfl) rfl fun a hF => q_skip hF (wanted_u hF rfl rfl rfl) rfl fun a hF => q_skip hF (wanted_f hF rfl rfl rfl hc8 rfl) rfl fun a hF => q_skip hF (wanted_f hF rfl rfl rfl hc8 rfl) rfl fun a hF => q_x (v := (.bool false)) hF hS (ex_pick_f rfl rfl hc8) rfl rfl fun a hF => q_end (n_jn ?_)
         obtain rfl := someI hj6
         exact ⟨hF.sub ⟨rfl, rfl, rfl, rfl, rfl, rfl, rfl, rfl, rfl, rfl, rfl, rfl, rfl, rfl, trivial⟩, hS.sel [2, 1, 3] (by decide)⟩
        ·have hj6 := cond_t hc8 hj6
         refine q_xg (v := (.int .i64 t_15)) hF hS (ex_move rfl) (wanted_t hF rfl rfl rfl hc8) rfl fun a hF => q_xg (v := (.int .i64 t_8)) hF hS (ex_move rfl) (wanted_t hF rfl rfl rfl hc8) rfl fun a hF => q_xg (v := (.bool (decide (t_8 < t_15)))) hF hS (ex_ibin rfl rfl rfl) (wanted_t hF rfl rfl rfl hc8) rfl fun a hF => q_xg (v := (.bool (decide (t_8 < t_15)))) hF hS (ex_move rfl) (wanted_t hF rfl rfl rfl hc8) rfl fun a hF => ?_
         rcases bcase (decide (t_8 < t_15)) with hc9 | hc9
         ·have hj6 := cond_f hc9 hj6
          refine q_skip hF (wanted_f hF rfl rfl rfl hc9 rfl) rfl fun a hF => q_skip hF (wanted_f hF rfl rfl rfl hc9 rfl) rfl fun a hF => q_skip hF (wanted_f hF rfl rfl rfl hc9 rfl) rfl fun a hF => q_skip hF (wanted_f hF rfl rfl rfl hc9 rfl) rfl fun a hF => q_skip hF (wanted_f hF rfl rfl rfl hc9 rfl) rfl fun a hF => q_xg (v := (.bool false)) hF hS (ex_pick_f rfl rfl hc9) (wanted_t hF rfl rfl rfl hc8) rfl fun a hF => q_xg (v := (.bool (!false))) hF hS (ex_not rfl) (wanted_t hF rfl rfl rfl hc8) rfl fun a hF => q_x (v := (.bool (!false))) hF hS (ex_pick_t rfl rfl hc8) rfl rfl fun a hF => q_end (n_jn ?_)
          obtain rfl := someI hj6
          exact ⟨hF.sub ⟨rfl, rfl, rfl, rfl, rfl, rfl, rfl, rfl, rfl, rfl, rfl, rfl, rfl, rfl, trivial⟩, hS.sel [2, 1, 3] (by decide)⟩
         ·have hj6 := cond_t hc9 hj6
          refine q_xg (v := (.agg #[s1.v])) hF hS (ex_loadA (vs := [s1.v]) 3 0 Try.underlying26 rfl sz26 rfl rfl rfl rfl) (wanted_t hF rfl rfl rfl hc9) rfl fun a hF => q_xg (v := s2.v) hF hS (ex_move rfl) (wanted_t hF rfl rfl rfl hc9) rfl fun a hF => q_xg (v := (.agg #[(.int .i64 e_16.Level), s18.v, s19.v, (.int .i64 e_16.Sum)])) hF hS (ex_loadA (vs := [(.int .i64 e_16.Level), s18.v, s19.v, (.int .i64 e_16.Sum)]) 0 0 Try.underlying29 rfl sz29 rfl rfl rfl rfl) (wanted_t hF rfl rfl rfl hc9) rfl fun a hF => q_xg (v := (.agg #[(.int .i64 e_9.Level), s11.v, s12.v, (.int .i64 e_9.Sum)])) hF hS (ex_loadA (vs := [(.int .i64 e_9.Level), s11.v, s12.v, (.int .i64 e_9.Sum)]) 1 0 Try.underlying29 rfl sz29 rfl rfl rfl rfl) (wanted_t hF rfl rfl rfl hc9) rfl fun a hF => ?_
          obtain ⟨t_22, ht_22, hj6⟩ := bindS hj6
          refine q_callg (vs := [(.agg #[s1.v]), s2.v, (.agg #[(.int .i64 e_16.Level), s18.v, s19.v, (.int .i64 e_16.Sum)]), (.agg #[(.int .i64 e_9.Level), s11.v, s12.v, (.int .i64 e_9.Sum)])]) hF hS (wanted_t hF rfl rfl rfl hc9) Try.func34 (by kernel_rfl) rfl rfl rfl (c_impl_followsFrom p_g p_s e_16 e_9 t_22 ht_22 _ m hS.vis s1 h1 s2 h2 s18 h18 s19 h19 s11 h11 s12 h12) ?_
          rintro a w _ rfl hF hS
          refine q_xg (v := (.bool t_22)) hF hS (ex_pick_t rfl rfl hc9) (wanted_t hF rfl rfl rfl hc8) rfl fun a hF => q_xg (v := (.bool (!t_22))) hF hS (ex_not rfl) (wanted_t hF rfl rfl rfl hc8) rfl fun a hF => q_x (v := (.bool (!t_22))) hF hS (ex_pick_t rfl rfl hc8) rfl rfl fun a hF => q_end (n_jn ?_)
          obtain rfl := someI hj6
          exact ⟨hF.sub ⟨rfl, rfl, rfl, rfl, rfl, rfl, rfl, rfl, rfl, rfl, rfl, rfl, rfl, rfl, trivial⟩, hS.sel [2, 1, 3] (by decide)⟩
      ·rintro a w ⟨hF, hS⟩
       refine n_sq ?_
       obtain ⟨base_24, hj10, hb4⟩ := bindS hb4
       refine q_join (fun a w => Fr a 64 [(1, s2.v), (2, s3.v), (3, (.pointer (some ⟨b4, 0, none⟩))), (8, s7.v), (9, (.int .i64 t_8)), (10, (.pointer (some ⟨b13, 0, none⟩))), (11, (.bool base_24)), (19, s3.v), (20, (.int .i64 (goLen p_l))), (21, (.int .i64 t_8)), (26, s3.v), (27, (.int .i64 (goLen p_l))), (28, (.int .i64 t_15))] ∧ St [] w0 w m [q7, [⟨b13, [(.int .i64 e_9.Level), s11.v, s12.v, (.int .i64 e_9.Sum)], 29⟩], [⟨b4, [s1.v], 26⟩]]) ?_ ?_
       ·rcases bcase (t_23) with hc11 | hc11
        ·have hj10 := cond_f hc11 hj10
         refine q_cond_f hF rfl hc11 (q_skipc (n_jn ?_))
         obtain rfl := someI hj10
         exact ⟨hF.sub ⟨rfl, rfl, rfl, rfl, rfl, rfl, rfl, rfl, rfl, rfl, rfl, rfl, rfl, trivial⟩, hS⟩
        ·have hj10 := cond_t hc11 hj10
         refine q_cond_t hF rfl hc11 (q_region (q_x (v := (.bool false)) hF hS (ex_assign rfl) rfl rfl fun a hF => q_end (n_jn ?_)))
         obtain rfl := someI hj10
         exact ⟨hF.sub ⟨rfl, rfl, rfl, rfl, rfl, rfl, rfl, rfl, rfl, rfl, rfl, rfl, rfl, trivial⟩, hS⟩
       ·rintro a w ⟨hF, hS⟩
        refine n_ib (n_sq ?_)
        refine q_region (q_x (v := (.int .i64 (w64 (t_15 + 1)))) hF hS (ex_ibin rfl rfl rfl) rfl rfl fun a hF => q_x (v := (.int .i64 (w64 (t_15 + 1)))) hF hS (ex_move rfl) rfl rfl fun a hF => q_end ?_)
        obtain rfl := someI hb4
        exact ⟨rfl, _, _, rfl, hF.sub ⟨rfl, rfl, rfl, rfl, rfl, rfl, rfl, rfl, rfl, rfl, rfl, rfl, rfl, trivial⟩, hS.sel [1, 0, 2] (by decide)⟩
    ·rintro e a w ⟨rfl, hF, hS⟩
     refine x_ib (n_sq ?_)
     refine q_seq (q_region (q_x (v := (.bool base_25)) hF hS (ex_move rfl) rfl rfl fun a hF => q_end (n_sq ?_)))
     obtain ⟨out_29, hj12, hb2⟩ := bindS hb2
     refine q_join (fun a w => ∃ (q30 : Piece), ∃ (s30 : Sl), Fr a 64 [(1, s2.v), (2, s3.v), (3, (.pointer (some ⟨b4, 0, none⟩))), (8, s30.v), (19, s3.v), (20, (.int .i64 (goLen p_l))), (21, (.int .i64 t_8))] ∧ St [] w0 w m [q30, [⟨b4, [s1.v], 26⟩]] ∧ OwnL m 3 q30 s30 out_29) ?_ ?_
     ·rcases bcase (base_25) with hc13 | hc13
      ·have hj12 := cond_f hc13 hj12
       refine q_cond_f hF rfl hc13 (q_skipc (n_jn ?_))
       obtain rfl := someI hj12
       exact ⟨q7, s7, hF.sub ⟨rfl, rfl, rfl, rfl, rfl, rfl, rfl, trivial⟩, hS, h7⟩
      ·have hj12 := cond_t hc13 hj12
       refine q_cond_t hF rfl hc13 (q_region (q_x (v := s7.v) hF hS (ex_move rfl) rfl rfl fun a hF => q_x (v := (.int .i64 t_8)) hF hS (ex_move rfl) rfl rfl fun a hF => q_do rfl fun _ hK => wp_buildSlice' (l := ([t_8] : List Int)) (cells := [(.int .i64 t_8)]) hF hS Try.underlying24 inf3 rfl rfl (by kernel_rfl) rfl rfl rfl ⟨rfl, rfl⟩ rfl rfl fun a w q26 s26 hF hS h26 _ => hK _ _ ?_))
       have hS : St _ _ _ _ [q7, q26, [⟨b4, [s1.v], 26⟩]] := hS.sel [1, 0, 2] (by decide)
       obtain ⟨l_27, hl_27, hj12⟩ := bindS hj12
       refine q_do rfl fun _ hK => wp_append hF hS h7 Try.underlying24 inf3 rfl rfl rfl rfl (h26.vw hS (j := 1) rfl) rfl (by decide) hl_27 rfl fun a w q28 s28 hF hS h28 => hK _ _ (q_x (v := s28.v) hF hS (ex_assign rfl) rfl rfl fun a hF => q_end (n_jn ?_))
       obtain rfl := someI hj12
       exact ⟨q28, s28, hF.sub ⟨rfl, rfl, rfl, rfl, rfl, rfl, rfl, trivial⟩, hS.mask [true, false, true], h28⟩
     ·rintro a w ⟨q30, s30, hF, hS, h30⟩
      refine n_ib (n_sq ?_)
      refine q_region (q_x (v := (.int .i64 (w64 (t_8 + 1)))) hF hS (ex_ibin rfl rfl rfl) rfl rfl fun a hF => q_x (v := (.int .i64 (w64 (t_8 + 1)))) hF hS (ex_move rfl) rfl rfl fun a hF => q_end ?_)
      obtain rfl := someI hb2
      exact ⟨rfl, q30, s30, _, _, rfl, hF.sub ⟨rfl, rfl, rfl, rfl, rfl, rfl, rfl, trivial⟩, hS, h30⟩
  ·rintro e a w ⟨q32, s32, rfl, hF, hS, h32⟩
   refine x_ib (n_sq ?_)
   refine q_seq (q_region (q_x (v := s32.v) hF hS (ex_move rfl) rfl rfl fun a hF => q_x (v := s32.v) hF hS (ex_assign rfl) rfl rfl fun a hF => q_x (v := (.bool true)) hF hS (ex_assign rfl) rfl rfl fun a hF => q_end (n_sq (q_ret ?_))))
   obtain rfl := someI hr
   exact ret_of hF hS rfl (.tmp rfl (.tmp rfl .nil)) ⟨q32, s32, rfl, hS.sel [0] (by decide), h32⟩
 ·have hr := cond_t hc1 hr
  refine q_cond_t hF rfl hc1 (q_seq (q_region (q_x (v := nilS.v) hF hS (ex_assign rfl) rfl rfl fun a hF => q_x (v := (.bool false)) hF hS (ex_assign rfl) rfl rfl fun a hF => q_end (n_sq (q_ret (r_sq ?_))))))
  obtain rfl := someI hr
  exact ret_of hF hS rfl (.tmp rfl (.tmp rfl .nil)) ⟨[], nilS, rfl, hS.sel [1] (by decide), (OwnL.nil (α := Int) m 3)⟩

theorem c_spec_sName (p_s : List UInt8) (r : Bool) (hr : spec_sName p_s = some r) (w0 : World) (m : Mem) (hv : Vis m w0) :
  Ret Try.prog 92 [(strV p_s)] w0 (fun v _ => v = (.bool r)) := by
 unfold spec_sName at hr
 refine ret_start Try.func92 rfl 23 rfl rfl m hv fun a hF hS => q_seq (q_region (q_x (v := (.bool false)) hF hS (ex_assign rfl) rfl rfl fun a hF => q_end (n_sq (q_seq (q_seq (q_region (q_x (v := (.int .i64 0)) hF hS (ex_assign rfl) rfl rfl fun a hF => q_end (n_sq (q_block ?_)))))))))
 obtain ⟨o1, hl1, hr⟩ := bindS hr
 refine q_loop (fun (i_1 : Int) a w => Fr a 23 [(0, (strV p_s)), (3, (.int .i64 i_1))] ∧ St [] w0 w m []) (fun (o : (Unit) ⊕ (Bool)) e a w => o = .inl () ∧ e = .exit 0 ∧ Fr a 23 [(0, (strV p_s))] ∧ St [] w0 w m []) hl1 ⟨hF.sub ⟨rfl, rfl, trivial⟩, hS⟩ ?_ ?_
 ·clear hF hS
  rintro i_1 a w st ⟨hF, hS⟩ hb1
  unfold spec_sName_l1 at hb1
  refine q_seq (q_seq (q_region (q_x (v := (.int .i64 i_1)) hF hS (ex_move rfl) rfl rfl fun a hF => q_x (v := (strV p_s)) hF hS (ex_move rfl) rfl rfl fun a hF => q_x (v := (.int .i64 (goLen p_s))) hF hS (ex_strLen Try.underlying9 rfl) rfl rfl fun a hF => q_x (v := (.bool (decide (i_1 < (goLen p_s))))) hF hS (ex_ibin rfl rfl rfl) rfl rfl fun a hF => q_end (n_sq ?_))))
  rcases bcase (decide (i_1 < (goLen p_s))) with hc2 | hc2
  ·have hb1 := cond_f hc2 hb1
   refine q_cond_f hF rfl hc2 (q_exit (x_sq ?_))
   obtain rfl := someI hb1
   exact ⟨nofun, .inl ⟨rfl, rfl, hF.sub ⟨rfl, trivial⟩, hS⟩⟩
  ·have hb1 := cond_t hc2 hb1
   refine q_cond_t hF rfl hc2 (q_skipc (n_sq (q_seq (q_block (q_seq ?_)))))
   obtain ⟨t_4, hj3, hb1⟩ := bindS hb1
   refine q_join (fun a w => Fr a 23 [(0, (strV p_s)), (3, (.int .i64 i_1)), (19, (.bool t_4))] ∧ St [] w0 w m []) ?_ ?_
   ·refine q_region (q_x (v := (strV p_s)) hF hS (ex_move rfl) rfl rfl fun a hF => q_x (v := (.int .i64 i_1)) hF hS (ex_move rfl) rfl rfl fun a hF => ?_)
    obtain ⟨t_2, ht_2, hj3⟩ := bindS hj3
    refine q_x (v := (.int .u8 t_2)) hF hS (ex_strIdx Try.underlying9 rfl rfl ht_2) rfl rfl fun a hF => q_x (v := (.bool (decide (t_2 < 97)))) hF hS (ex_ibin rfl rfl rfl) rfl rfl fun a hF => q_x (v := (.bool (decide (t_2 < 97)))) hF hS (ex_move rfl) rfl rfl fun a hF => ?_
    rcases bcase (decide (t_2 < 97)) with hc4 | hc4
    ·have hj3 := cond_f hc4 hj3
     refine q_xg (v := (strV p_s)) hF hS (ex_move rfl) (wanted_t hF rfl rfl rfl hc4) rfl fun a hF => q_xg (v := (.int .i64 i_1)) hF hS (ex_move rfl) (wanted_t hF rfl rfl rfl hc4) rfl fun a hF => ?_
     obtain ⟨t_3, ht_3, hj3⟩ := bindS hj3
     refine q_xg (v := (.int .u8 t_3)) hF hS (ex_strIdx Try.underlying9 rfl rfl ht_3) (wanted_t hF rfl rfl rfl hc4) rfl fun a hF => q_xg (v := (.bool (decide (122 < t_3)))) hF hS (ex_ibin rfl rfl rfl) (wanted_t hF rfl rfl rfl hc4) rfl fun a hF => q_x (v := (.bool (decide (122 < t_3)))) hF hS (ex_pick_f rfl rfl hc4) rfl rfl fun a hF => q_end (n_jn ?_)
     obtain rfl := someI hj3
     exact ⟨hF.sub ⟨rfl, rfl, rfl, trivial⟩, hS⟩
    ·have hj3 := cond_t hc4 hj3
     refine q_skip hF (wanted_f hF rfl rfl rfl hc4 rfl) rfl fun a hF => q_skip hF (wanted_f hF rfl rfl rfl hc4 rfl) rfl fun a hF => q_skip hF (wanted_f hF rfl rfl rfl hc4 rfl) rfl fun a hF => q_skip hF (wanted_f hF rfl rfl rfl hc4 rfl) rfl fun a hF => q_x (v := (.bool true)) hF hS (ex_pick_t rfl rfl hc4) rfl rfl fun a hF => q_end (n_jn ?_)
     obtain rfl := someI hj3
     exact ⟨hF.sub ⟨rfl, rfl, rfl, trivial⟩, hS⟩
   ·rintro a w ⟨hF, hS⟩
    refine n_sq ?_
    rcases bcase (t_4) with hc5 | hc5
    ·have hb1 := cond_f hc5 hb1
     refine q_cond_f hF rfl hc5 (q_skipc (n_ib (n_sq (q_region (q_x (v := (.int .i64 i_1)) hF hS (ex_move rfl) rfl rfl fun a hF => q_x (v := (.int .i64 (w64 (i_1 + 1)))) hF hS (ex_ibin rfl rfl rfl) rfl rfl fun a hF => q_x (v := (.int .i64 (w64 (i_1 + 1)))) hF hS (ex_assign rfl) rfl rfl fun a hF => q_end ?_)))))
     obtain rfl := someI hb1
     exact ⟨rfl, hF.sub ⟨rfl, rfl, trivial⟩, hS⟩
    ·have hb1 := cond_t hc5 hb1
     refine q_cond_t hF rfl hc5 (q_seq (q_region (q_x (v := (.bool false)) hF hS (ex_assign rfl) rfl rfl fun a hF => q_end (n_sq (q_ret (r_ib (r_sq ?_)))))))
     obtain rfl := someI hb1
     refine ⟨nofun, .inr fun ho => ?_⟩
     subst ho
     refine r_ib (r_sq ?_)
     obtain rfl := someI hr
     exact ret_of hF hS rfl (.tmp rfl .nil) rfl
 ·rintro e a w ⟨rfl, rfl, hF, hS⟩
  refine x_ib (n_sq ?_)
  refine q_seq (q_region (q_x (v := (strV p_s)) hF hS (ex_move rfl) rfl rfl fun a hF => q_x (v := (.int .i64 (goLen p_s))) hF hS (ex_strLen Try.underlying9 rfl) rfl rfl fun a hF => ?_))
  obtain ⟨t_5, ht_5, hr⟩ := bindS hr
  refine q_call (vs := [(.int .i64 (goLen p_s)), (.int .i64 1), (.int .i64 8)]) hF hS Try.func67 (by kernel_rfl) rfl rfl rfl (c_spec_l1In (goLen p_s) 1 8 t_5 ht_5 _ m hS.vis) ?_
  rintro a w _ rfl hF hS
  refine q_x (v := (.bool t_5)) hF hS (ex_assign rfl) rfl rfl fun a hF => q_end (n_sq (q_ret ?_))
  obtain rfl := someI hr
  exact ret_of hF hS rfl (.tmp rfl .nil) rfl

theorem c_spec_sFind (p_s : List impl_Variable) (p_name : List UInt8) (r : Int) (hr : spec_sFind p_s p_name = some r) (w0 : World) (m : Mem) (hv : Vis m w0) (s1 : Sl) (h1 : Rd m s1 p_s) :
  Ret Try.prog 93 [s1.v, (strV p_name)] w0 (fun v _ => v = (.int .i64 r)) := by
 unfold spec_sFind at hr
 refine ret_start Try.func93 rfl 20 rfl rfl m hv fun a hF hS => q_seq (q_region (q_x (v := (.int .i64 0)) hF hS (ex_assign rfl) rfl rfl fun a hF => q_end (n_sq (q_seq (q_seq (q_region (q_x (v := s1.v) hF hS (ex_move rfl) rfl rfl fun a hF => q_x (v := (.int .i64 (goLen p_s))) hF hS (ex_len Try.underlying27 rfl h1.len) rfl rfl fun a hF => q_x (v := (.int .i64 0)) hF hS (ex_move rfl) rfl rfl fun a hF => q_end (n_sq (q_block ?_)))))))))
 obtain ⟨o1, hl1, hr⟩ := bindS hr
 refine q_loop (fun (t_2 : Int) a w => Fr a 20 [(1, (strV p_name)), (7, s1.v), (8, (.int .i64 (goLen p_s))), (9, (.int .i64 t_2))] ∧ St [] w0 w m []) (fun (o : (Unit) ⊕ (Int)) e a w => o = .inl () ∧ e = .exit 0 ∧ Fr a 20 [] ∧ St [] w0 w m []) hl1 ⟨hF.sub ⟨rfl, rfl, rfl, rfl, trivial⟩, hS⟩ ?_ ?_
 ·clear hF hS
  rintro t_2 a w st ⟨hF, hS⟩ hb1
  unfold spec_sFind_l1 at hb1
  refine q_seq (q_region (q_x (v := (.bool (decide (t_2 < (goLen p_s))))) hF hS (ex_ibin rfl rfl rfl) rfl rfl fun a hF => q_end (n_sq (q_seq ?_))))
  rcases bcase (decide (t_2 < (goLen p_s))) with hc2 | hc2
  ·have hb1 := cond_f hc2 hb1
   refine q_cond_f hF rfl hc2 (q_exit (x_sq ?_))
   obtain rfl := someI hb1
   exact ⟨nofun, .inl ⟨rfl, rfl, hF.sub trivial, hS⟩⟩
  ·have hb1 := cond_t hc2 hb1
   refine q_cond_t hF rfl hc2 (q_skipc (n_sq (q_seq (q_block (q_seq (q_region (q_x (v := (.int .i64 t_2)) hF hS (ex_move rfl) rfl rfl fun a hF => ?_)))))))
   obtain ⟨e_3, he_3, hb1⟩ := bindS hb1
   obtain ⟨vs4, at4, d4⟩ := h1.at he_3 2 rfl
   obtain rfl : vs4 = [(strV e_3.Name), (.int .i64 e_3.Levels)] := d4
   refine q_x (v := (elP s1 (t_2.toNat * 2))) hF hS (ex_indexAddr Try.underlying27 sz58 rfl rfl (h1.idx he_3)) rfl rfl fun a hF => q_x (v := (.agg #[(strV e_3.Name), (.int .i64 e_3.Levels)])) hF hS (ex_loadEA (us := [(strV e_3.Name), (.int .i64 e_3.Levels)]) 0 Try.underlying58 rfl sz58 rfl ((at4).at) rfl rfl rfl) rfl rfl fun a hF => q_alloc (cs := [(strV ([] : List UInt8)), (.int .i64 0)]) hF hS rfl rfl rfl fun a w b5 hF hS => q_x (v := (.int .i64 t_2)) hF hS (ex_assign rfl) rfl rfl fun a hF => q_store (vs := [(strV e_3.Name), (.int .i64 e_3.Levels)]) (cs' := [(strV e_3.Name), (.int .i64 e_3.Levels)]) 0 0 hF hS sz58 rfl rfl rfl rfl rfl rfl rfl rfl fun a w hF hS => q_end (n_sq (q_seq (q_region (q_x (v := (.pointer (some ⟨b5, 0, none⟩))) hF hS (ex_fieldAddr Try.underlying58 rfl sz9 rfl rfl) rfl rfl fun a hF => q_x (v := (strV e_3.Name)) hF hS (ex_load1 0 0 Try.underlying9 rfl rfl rfl rfl) rfl rfl fun a hF => q_x (v := (strV p_name)) hF hS (ex_move rfl) rfl rfl fun a hF => q_x (v := (.bool (e_3.Name == p_name))) hF hS (ex_strEq rfl rfl) rfl rfl fun a hF => q_end (n_sq ?_)))))
   rcases bcase (e_3.Name == p_name) with hc3 | hc3
   ·have hb1 := cond_f hc3 hb1
    refine q_cond_f hF rfl hc3 (q_skipc (n_ib (n_sq (q_region (q_x (v := (.int .i64 (w64 (t_2 + 1)))) hF hS (ex_ibin rfl rfl rfl) rfl rfl fun a hF => q_x (v := (.int .i64 (w64 (t_2 + 1)))) hF hS (ex_move rfl) rfl rfl fun a hF => q_end ?_)))))
    obtain rfl := someI hb1
    exact ⟨rfl, hF.sub ⟨rfl, rfl, rfl, rfl, trivial⟩, hS.mask [false]⟩
   ·have hb1 := cond_t hc3 hb1
    refine q_cond_t hF rfl hc3 (q_seq (q_region (q_x (v := (.int .i64 t_2)) hF hS (ex_move rfl) rfl rfl fun a hF => q_x (v := (.int .i64 t_2)) hF hS (ex_assign rfl) rfl rfl fun a hF => q_end (n_sq (q_ret (r_ib (r_sq ?_)))))))
    obtain rfl := someI hb1
    refine ⟨nofun, .inr fun ho => ?_⟩
    subst ho
    refine r_ib (r_sq ?_)
    obtain rfl := someI hr
    exact ret_of hF hS rfl (.tmp rfl .nil) rfl
 ·rintro e a w ⟨rfl, rfl, hF, hS⟩
  refine x_ib (n_sq ?_)
  refine q_seq (q_region (q_x (v := (.int .i64 (-1))) hF hS (ex_assign rfl) rfl rfl fun a hF => q_end (n_sq (q_ret ?_))))
  obtain rfl := someI hr
  exact ret_of hF hS rfl (.tmp rfl .nil) rfl

theorem c_spec_sGood (p_s : List impl_Variable) (r : Bool) (hr : spec_sGood p_s = some r) (w0 : World) (m : Mem) (hv : Vis m w0) (s1 : Sl) (h1 : Rd m s1 p_s) :
  Ret Try.prog 63 [s1.v] w0 (fun v _ => v = (.bool r)) := by
 unfold spec_sGood at hr
 refine ret_start Try.func63 rfl 36 rfl rfl m hv fun a hF hS => q_seq (q_region (q_x (v := (.bool false)) hF hS (ex_assign rfl) rfl rfl fun a hF => q_end (n_sq (q_seq (q_seq (q_region (q_x (v := s1.v) hF hS (ex_move rfl) rfl rfl fun a hF => q_x (v := (.int .i64 (goLen p_s))) hF hS (ex_len Try.underlying27 rfl h1.len) rfl rfl fun a hF => ?_)))))))
 obtain ⟨t_2, ht_2, hr⟩ := bindS hr
 refine q_call (vs := [(.int .i64 (goLen p_s)), (.int .i64 1), (.int .i64 6)]) hF hS Try.func67 (by kernel_rfl) rfl rfl rfl (c_spec_l1In (goLen p_s) 1 6 t_2 ht_2 _ m hS.vis) ?_
 rintro a w _ rfl hF hS
 refine q_x (v := (.bool (!t_2))) hF hS (ex_not rfl) rfl rfl fun a hF => q_end (n_sq ?_)
 rcases bcase (!t_2) with hc1 | hc1
 ·have hr := cond_f hc1 hr
  refine q_cond_f hF rfl hc1 (q_skipc (n_sq (q_seq (q_seq (q_region (q_x (v := s1.v) hF hS (ex_move rfl) rfl rfl fun a hF => q_x (v := (.int .i64 (goLen p_s))) hF hS (ex_len Try.underlying27 rfl h1.len) rfl rfl fun a hF => q_x (v := (.int .i64 0)) hF hS (ex_move rfl) rfl rfl fun a hF => q_end (n_sq (q_block ?_))))))))
  obtain ⟨o2, hl2, hr⟩ := bindS hr
  refine q_loop (fun (t_3 : Int) a w => Fr a 36 [(0, s1.v), (9, s1.v), (10, (.int .i64 (goLen p_s))), (11, (.int .i64 t_3))] ∧ St [] w0 w m []) (fun (o : (Unit) ⊕ (Bool)) e a w => o = .inl () ∧ e = .exit 0 ∧ Fr a 36 [] ∧ St [] w0 w m []) hl2 ⟨hF.sub ⟨rfl, rfl, rfl, rfl, trivial⟩, hS⟩ ?_ ?_
  ·clear hF hS
   rintro t_3 a w st ⟨hF, hS⟩ hb2
   unfold spec_sGood_l1 at hb2
   refine q_seq (q_region (q_x (v := (.bool (decide (t_3 < (goLen p_s))))) hF hS (ex_ibin rfl rfl rfl) rfl rfl fun a hF => q_end (n_sq (q_seq ?_))))
   rcases bcase (decide (t_3 < (goLen p_s))) with hc3 | hc3
   ·have hb2 := cond_f hc3 hb2
    refine q_cond_f hF rfl hc3 (q_exit (x_sq ?_))
    obtain rfl := someI hb2
    exact ⟨nofun, .inl ⟨rfl, rfl, hF.sub trivial, hS⟩⟩
   ·have hb2 := cond_t hc3 hb2
    refine q_cond_t hF rfl hc3 (q_skipc (n_sq (q_seq (q_block (q_seq (q_region (q_x (v := (.int .i64 t_3)) hF hS (ex_move rfl) rfl rfl fun a hF => ?_)))))))
    obtain ⟨e_4, he_4, hb2⟩ := bindS hb2
    obtain ⟨vs5, at5, d5⟩ := h1.at he_4 2 rfl
    obtain rfl : vs5 = [(strV e_4.Name), (.int .i64 e_4.Levels)] := d5
    refine q_x (v := (elP s1 (t_3.toNat * 2))) hF hS (ex_indexAddr Try.underlying27 sz58 rfl rfl (h1.idx he_4)) rfl rfl fun a hF => q_x (v := (.agg #[(strV e_4.Name), (.int .i64 e_4.Levels)])) hF hS (ex_loadEA (us := [(strV e_4.Name), (.int .i64 e_4.Levels)]) 0 Try.underlying58 rfl sz58 rfl ((at5).at) rfl rfl rfl) rfl rfl fun a hF => q_alloc (cs := [(strV ([] : List UInt8)), (.int .i64 0)]) hF hS rfl rfl rfl fun a w b6 hF hS => q_x (v := (.int .i64 t_3)) hF hS (ex_assign rfl) rfl rfl fun a hF => q_store (vs := [(strV e_4.Name), (.int .i64 e_4.Levels)]) (cs' := [(strV e_4.Name), (.int .i64 e_4.Levels)]) 0 0 hF hS sz58 rfl rfl rfl rfl rfl rfl rfl rfl fun a w hF hS => q_end (n_sq (q_seq ?_))
    obtain ⟨t_12, hj4, hb2⟩ := bindS hb2
    refine q_join (fun a w => Fr a 36 [(0, s1.v), (9, s1.v), (10, (.int .i64 (goLen p_s))), (11, (.int .i64 t_3)), (34, (.bool t_12))] ∧ St [] w0 w m []) ?_ ?_
    ·refine e_region ⟨[], []⟩ mixed fun w' hw' => ?_
     have hS := hS.below hw'
     refine e_p (v := (.pointer (some ⟨b6, 0, none⟩))) 0 hF rfl (ex_fieldAddr Try.underlying58 rfl sz9 rfl rfl) rfl rfl (by kernel_rfl) (by kernel_rfl) (by kernel_rfl) fun a hF => e_x (v := (strV e_4.Name)) 1 hF hS rfl (ex_load1 0 0 Try.underlying9 rfl rfl rfl rfl) rfl rfl (by kernel_rfl) (by kernel_rfl) (by kernel_rfl) (by kernel_rfl) fun a hF => e_one 2 (by kernel_rfl) ?_
     obtain ⟨t_7, ht_7, hj4⟩ := bindS hj4
     refine e_call (vs := [(strV e_4.Name)]) hF hS rfl Try.func92 (by kernel_rfl) rfl rfl rfl (c_spec_sName e_4.Name t_7 ht_7 _ m hS.vis) ?_
     rintro a w _ rfl hF hS
     refine e_p (v := (.bool (!t_7))) 3 hF rfl (ex_not rfl) rfl rfl (by kernel_rfl) (by kernel_rfl) (by kernel_rfl) fun a hF => e_p (v := (.bool (!t_7))) 4 hF rfl (ex_move rfl) rfl rfl (by kernel_rfl) (by kernel_rfl) (by kernel_rfl) fun a hF => ?_
     rcases bcase (!t_7) with hc5 | hc5
     ·have hj4 := cond_f hc5 hj4
      refine e_pg (v := (.pointer (some ⟨b6, 1, none⟩))) 5 hF rfl (ex_fieldAddr Try.underlying58 rfl sz3 rfl rfl) (wanted_t hF rfl rfl rfl hc5) rfl (by kernel_rfl) (by kernel_rfl) (by kernel_rfl) fun a hF => e_xg (v := (.int .i64 e_4.Levels)) 6 hF hS rfl (ex_load1 0 0 Try.underlying3 rfl rfl rfl rfl) (wanted_t hF rfl rfl rfl hc5) rfl (by kernel_rfl) (by kernel_rfl) (by kernel_rfl) (by kernel_rfl) fun a hF => e_one 7 (by kernel_rfl) ?_
      obtain ⟨t_8, ht_8, hj4⟩ := bindS hj4
      refine e_callg (vs := [(.int .i64 e_4.Levels), (.int .i64 2), (.int .i64 8)]) hF hS rfl (wanted_t hF rfl rfl rfl hc5) Try.func67 (by kernel_rfl) rfl rfl rfl (c_spec_l1In e_4.Levels 2 8 t_8 ht_8 _ m hS.vis) ?_
      rintro a w _ rfl hF hS
      refine e_pg (v := (.bool (!t_8))) 8 hF rfl (ex_not rfl) (wanted_t hF rfl rfl rfl hc5) rfl (by kernel_rfl) (by kernel_rfl) (by kernel_rfl) fun a hF => e_p (v := (.bool (!t_8))) 9 hF rfl (ex_pick_f rfl rfl hc5) rfl rfl (by kernel_rfl) (by kernel_rfl) (by kernel_rfl) fun a hF => e_p (v := (.bool (!t_8))) 10 hF rfl (ex_move rfl) rfl rfl (by kernel_rfl) (by kernel_rfl) (by kernel_rfl) fun a hF => ?_
      rcases bcase (!t_8) with hc6 | hc6
      ·have hj4 := cond_f hc6 hj4
       refine e_pg (v := s1.v) 11 hF rfl (ex_move rfl) (wanted_t hF rfl rfl rfl hc6) rfl (by kernel_rfl) (by kernel_rfl) (by kernel_rfl) fun a hF => e_pg (v := (.int .i64 t_3)) 12 hF rfl (ex_move rfl) (wanted_t hF rfl rfl rfl hc6) rfl (by kernel_rfl) (by kernel_rfl) (by kernel_rfl) fun a hF => ?_
       obtain ⟨l_9, hl_9, hj4⟩ := bindS hj4
       have h10 : Rd m (subS s1 2 (0 : Int).toNat t_3.toNat s1.cap) l_9 := h1.sub' hl_9 2 rfl
       refine e_pg (v := (subS s1 2 (0 : Int).toNat t_3.toNat s1.cap).v) 13 hF rfl (ex_slice Try.underlying27 sz58 rfl rfl rfl (.inl ⟨rfl, rfl⟩) (.inr ⟨_, rfl⟩) (h1.subok hl_9)) (wanted_t hF rfl rfl rfl hc6) rfl (by kernel_rfl) (by kernel_rfl) (by kernel_rfl) fun a hF => e_pg (v := (.pointer (some ⟨b6, 0, none⟩))) 14 hF rfl (ex_fieldAddr Try.underlying58 rfl sz9 rfl rfl) (wanted_t hF rfl rfl rfl hc6) rfl (by kernel_rfl) (by kernel_rfl) (by kernel_rfl) fun a hF => e_xg (v := (strV e_4.Name)) 15 hF hS rfl (ex_load1 0 0 Try.underlying9 rfl rfl rfl rfl) (wanted_t hF rfl rfl rfl hc6) rfl (by kernel_rfl) (by kernel_rfl) (by kernel_rfl) (by kernel_rfl) fun a hF => e_one 16 (by kernel_rfl) ?_
       obtain ⟨t_11, ht_11, hj4⟩ := bindS hj4
       refine e_callg (vs := [(subS s1 2 (0 : Int).toNat t_3.toNat s1.cap).v, (strV e_4.Name)]) hF hS rfl (wanted_t hF rfl rfl rfl hc6) Try.func93 (by kernel_rfl) rfl rfl rfl (c_spec_sFind l_9 e_4.Name t_11 ht_11 _ m hS.vis (subS s1 2 (0 : Int).toNat t_3.toNat s1.cap) h10) ?_
       rintro a w _ rfl hF hS
       refine e_pg (v := (.bool (decide (0 ≤ t_11)))) 17 hF rfl (ex_ibin rfl rfl rfl) (wanted_t hF rfl rfl rfl hc6) rfl (by kernel_rfl) (by kernel_rfl) (by kernel_rfl) fun a hF => e_p (v := (.bool (decide (0 ≤ t_11)))) 18 hF rfl (ex_pick_f rfl rfl hc6) rfl rfl (by kernel_rfl) (by kernel_rfl) (by kernel_rfl) fun a hF => e_end (by kernel_rfl) (n_jn ?_) _
       obtain rfl := someI hj4
       exact ⟨hF.sub ⟨rfl, rfl, rfl, rfl, rfl, trivial⟩, hS.mask [false]⟩
      ·have hj4 := cond_t hc6 hj4
       refine e_skipP 11 hF rfl (wanted_f hF rfl rfl rfl hc6 rfl) rfl (by kernel_rfl) (by kernel_rfl) (by kernel_rfl) fun a hF => e_skipP 12 hF rfl (wanted_f hF rfl rfl rfl hc6 rfl) rfl (by kernel_rfl) (by kernel_rfl) (by kernel_rfl) fun a hF => e_skipP 13 hF rfl (wanted_f hF rfl rfl rfl hc6 rfl) rfl (by kernel_rfl) (by kernel_rfl) (by kernel_rfl) fun a hF => e_skipP 14 hF rfl (wanted_f hF rfl rfl rfl hc6 rfl) rfl (by kernel_rfl) (by kernel_rfl) (by kernel_rfl) fun a hF => e_skipP 15 hF rfl (wanted_f hF rfl rfl rfl hc6 rfl) rfl (by kernel_rfl) (by kernel_rfl) (by kernel_rfl) fun a hF => e_skipP 16 hF rfl (wanted_f hF rfl rfl rfl hc6 rfl) rfl (by kernel_rfl) (by kernel_rfl) (by kernel_rfl) fun a hF => e_skipP 17 hF rfl (wanted_f hF rfl rfl rfl hc6 rfl) rfl (by kernel_rfl) (by kernel_rfl) (by kernel_rfl) fun a hF => e_p (v := (.bool true)) 18 hF rfl (ex_pick_t rfl rfl hc6) rfl rfl (by kernel_rfl) (by kernel_rfl) (by kernel_rfl) fun a hF => e_end (by kernel_rfl) (n_jn ?_) _
       obtain rfl := someI hj4
       exact ⟨hF.sub ⟨rfl, rfl, rfl, rfl, rfl, trivial⟩, hS.mask [false]⟩
     ·have hj4 := cond_t hc5 hj4
      refine e_skipP 5 hF rfl (wanted_f hF rfl rfl rfl hc5 rfl) rfl (by kernel_rfl) (by kernel_rfl) (by kernel_rfl) fun a hF => e_skipP 6 hF rfl (wanted_f hF rfl rfl rfl hc5 rfl) rfl (by kernel_rfl) (by kernel_rfl) (by kernel_rfl) fun a hF => e_skipP 7 hF rfl (wanted_f hF rfl rfl rfl hc5 rfl) rfl (by kernel_rfl) (by kernel_rfl) (by kernel_rfl) fun a hF => e_skipP 8 hF rfl (wanted_f hF rfl rfl rfl hc5 rfl) rfl (by kernel_rfl) (by kernel_rfl) (by kernel_rfl) fun a hF => e_p (v := (.bool true)) 9 hF rfl (ex_pick_t rfl rfl hc5) rfl rfl (by kernel_rfl) (by kernel_rfl) (by kernel_rfl) fun a hF => e_p (v := (.bool true)) 10 hF rfl (ex_move rfl) rfl rfl (by kernel_rfl) (by kernel_rfl) (by kernel_rfl) fun a hF => e_skipP 11 hF rfl (wanted_f hF rfl rfl rfl rfl rfl) rfl (by kernel_rfl) (by kernel_rfl) (by kernel_rfl) fun a hF => e_skipP 12 hF rfl (wanted_f hF rfl rfl rfl rfl rfl) rfl (by kernel_rfl) (by kernel_rfl) (by kernel_rfl) fun a hF => e_skipP 13 hF rfl (wanted_f hF rfl rfl rfl rfl rfl) rfl (by kernel_rfl) (by kernel_rfl) (by kernel_rfl) fun a hF => e_skipP 14 hF rfl (wanted_f hF rfl rfl rfl rfl rfl) rfl (by kernel_rfl) (by kernel_rfl) (by kernel_rfl) fun a hF => e_skipP 15 hF rfl (wanted_f hF rfl rfl rfl rfl rfl) rfl (by kernel_rfl) (by kernel_rfl) (by kernel_rfl) fun a hF => e_skipP 16 hF rfl (wanted_f hF rfl rfl rfl rfl rfl) rfl (by kernel_rfl) (by kernel_rfl) (by kernel_rfl) fun a hF => e_skipP 17 hF rfl (wanted_f hF rfl rfl rfl rfl rfl) rfl (by kernel_rfl) (by kernel_rfl) (by kernel_rfl) fun a hF => e_p (v := (.bool true)) 18 hF rfl (ex_pick_t rfl rfl rfl) rfl rfl (by kernel_rfl) (by kernel_rfl) (by kernel_rfl) fun a hF => e_end (by kernel_rfl) (n_jn ?_) _
      obtain rfl := someI hj4
      exact ⟨hF.sub ⟨rfl, rfl, rfl, rfl, rfl, trivial⟩, hS.mask [false]⟩
    ·rintro a w ⟨hF, hS⟩
     refine n_sq ?_
     rcases bcase (t_12) with hc7 | hc7
     ·have hb2 := cond_f hc7 hb2
      refine q_cond_f hF rfl hc7 (q_skipc (n_ib (n_sq (q_region (q_x (v := (.int .i64 (w64 (t_3 + 1)))) hF hS (ex_ibin rfl rfl rfl) rfl rfl fun a hF => q_x (v := (.int .i64 (w64 (t_3 + 1)))) hF hS (ex_move rfl) rfl rfl fun a hF => q_end ?_)))))
      obtain rfl := someI hb2
      exact ⟨rfl, hF.sub ⟨rfl, rfl, rfl, rfl, trivial⟩, hS⟩
     ·have hb2 := cond_t hc7 hb2
      refine q_cond_t hF rfl hc7 (q_seq (q_region (q_x (v := (.bool false)) hF hS (ex_assign rfl) rfl rfl fun a hF => q_end (n_sq (q_ret (r_ib (r_sq ?_)))))))
      obtain rfl := someI hb2
      refine ⟨nofun, .inr fun ho => ?_⟩
      subst ho
      refine r_ib (r_sq ?_)
      obtain rfl := someI hr
      exact ret_of hF hS rfl (.tmp rfl .nil) rfl
  ·rintro e a w ⟨rfl, rfl, hF, hS⟩
   refine x_ib (n_sq ?_)
   refine q_seq (q_region (q_x (v := (.bool true)) hF hS (ex_assign rfl) rfl rfl fun a hF => q_end (n_sq (q_ret ?_))))
   obtain rfl := someI hr
   exact ret_of hF hS rfl (.tmp rfl .nil) rfl
 ·have hr := cond_t hc1 hr
  refine q_cond_t hF rfl hc1 (q_seq (q_region (q_x (v := (.bool false)) hF hS (ex_assign rfl) rfl rfl fun a hF => q_end (n_sq (q_ret (r_sq ?_))))))
  obtain rfl := someI hr
  exact ret_of hF hS rfl (.tmp rfl .nil) rfl

theorem c_spec_nInput (p_g : impl_Geo) (p_s : List impl_Variable) (r : Bool) (hr : spec_nInput p_g p_s = some r) (w0 : World) (m : Mem) (hv : Vis m w0) (s1 : Sl) (h1 : Rd m s1 p_g.Parents) (s2 : Sl) (h2 : Rd m s2 p_s) :
  Ret Try.prog 79 [(.agg #[s1.v]), s2.v] w0 (fun v _ => v = (.bool r)) := by
 unfold spec_nInput at hr
 refine ret_start Try.func79 rfl 11 rfl rfl m hv fun a hF hS => q_seq (q_region (q_box (cs := [s1.v]) hF hS rfl rfl rfl fun a w b3 hF hS => q_x (v := (.bool false)) hF hS (ex_assign rfl) rfl rfl fun a hF => q_end (n_sq (q_seq ?_))))
 obtain ⟨t_6, hj1, hr⟩ := bindS hr
 refine q_join (fun a w => Fr a 11 [(4, (.bool t_6))] ∧ St [] w0 w m []) ?_ ?_
 ·refine q_region (q_x (v := (.agg #[s1.v])) hF hS (ex_loadA (vs := [s1.v]) 0 0 Try.underlying26 rfl sz26 rfl rfl rfl rfl) rfl rfl fun a hF => ?_)
  obtain ⟨t_4, ht_4, hj1⟩ := bindS hj1
  refine q_call (vs := [(.agg #[s1.v])]) hF hS Try.func62 (by kernel_rfl) rfl rfl rfl (c_spec_gGood p_g t_4 ht_4 _ m hS.vis s1 h1) ?_
  rintro a w _ rfl hF hS
  refine q_x (v := (.bool t_4)) hF hS (ex_move rfl) rfl rfl fun a hF => ?_
  rcases bcase (t_4) with hc2 | hc2
  ·have hj1 := cond_f hc2 hj1
   refine q_skip hF (wanted_f hF rfl rfl rfl hc2 rfl) rfl fun a hF => q_skip hF (wanted_f hF rfl rfl rfl hc2 rfl) rfl fun a hF => q_x (v := (.bool false)) hF hS (ex_pick_f rfl rfl hc2) rfl rfl fun a hF => q_x (v := (.bool false)) hF hS (ex_assign rfl) rfl rfl fun a hF => q_end (n_jn ?_)
   obtain rfl := someI hj1
   exact ⟨hF.sub ⟨rfl, trivial⟩, hS.mask [false]⟩
  ·have hj1 := cond_t hc2 hj1
   refine q_xg (v := s2.v) hF hS (ex_move rfl) (wanted_t hF rfl rfl rfl hc2) rfl fun a hF => ?_
   obtain ⟨t_5, ht_5, hj1⟩ := bindS hj1
   refine q_callg (vs := [s2.v]) hF hS (wanted_t hF rfl rfl rfl hc2) Try.func63 (by kernel_rfl) rfl rfl rfl (c_spec_sGood p_s t_5 ht_5 _ m hS.vis s2 h2) ?_
   rintro a w _ rfl hF hS
   refine q_x (v := (.bool t_5)) hF hS (ex_pick_t rfl rfl hc2) rfl rfl fun a hF => q_x (v := (.bool t_5)) hF hS (ex_assign rfl) rfl rfl fun a hF => q_end (n_jn ?_)
   obtain rfl := someI hj1
   exact ⟨hF.sub ⟨rfl, trivial⟩, hS.mask [false]⟩
 ·rintro a w ⟨hF, hS⟩
  refine n_sq (q_ret ?_)
  obtain rfl := someI hr
  exact ret_of hF hS rfl (.tmp rfl .nil) rfl

theorem c_spec_l1Rising (p_l : List Int) (p_lo : Int) (p_hi : Int) (r : Bool) (hr : spec_l1Rising p_l p_lo p_hi = some r) (w0 : World) (m : Mem) (hv : Vis m w0) (s1 : Sl) (h1 : Rd m s1 p_l) :
  Ret Try.prog 65 [s1.v, (.int .i64 p_lo), (.int .i64 p_hi)] w0 (fun v _ => v = (.bool r)) := by
 unfold spec_l1Rising at hr
 refine ret_start Try.func65 rfl 35 rfl rfl m hv fun a hF hS => q_seq (q_region (q_x (v := (.bool false)) hF hS (ex_assign rfl) rfl rfl fun a hF => q_end (n_sq (q_seq (q_seq (q_region (q_x (v := s1.v) hF hS (ex_move rfl) rfl rfl fun a hF => q_x (v := (.int .i64 (goLen p_l))) hF hS (ex_len Try.underlying24 rfl h1.len) rfl rfl fun a hF => q_x (v := (.int .i64 0)) hF hS (ex_move rfl) rfl rfl fun a hF => q_end (n_sq (q_block ?_)))))))))
 obtain ⟨o1, hl1, hr⟩ := bindS hr
 refine q_loop (fun (t_2 : Int) a w => Fr a 35 [(0, s1.v), (1, (.int .i64 p_lo)), (2, (.int .i64 p_hi)), (9, s1.v), (10, (.int .i64 (goLen p_l))), (11, (.int .i64 t_2))] ∧ St [] w0 w m []) (fun (o : (Unit) ⊕ (Bool)) e a w => o = .inl () ∧ e = .exit 0 ∧ Fr a 35 [] ∧ St [] w0 w m []) hl1 ⟨hF.sub ⟨rfl, rfl, rfl, rfl, rfl, rfl, trivial⟩, hS⟩ ?_ ?_
 ·clear hF hS
  rintro t_2 a w st ⟨hF, hS⟩ hb1
  unfold spec_l1Rising_l1 at hb1
  refine q_seq (q_region (q_x (v := (.bool (decide (t_2 < (goLen p_l))))) hF hS (ex_ibin rfl rfl rfl) rfl rfl fun a hF => q_end (n_sq (q_seq ?_))))
  rcases bcase (decide (t_2 < (goLen p_l))) with hc2 | hc2
  ·have hb1 := cond_f hc2 hb1
   refine q_cond_f hF rfl hc2 (q_exit (x_sq ?_))
   obtain rfl := someI hb1
   exact ⟨nofun, .inl ⟨rfl, rfl, hF.sub trivial, hS⟩⟩
  ·have hb1 := cond_t hc2 hb1
   refine q_cond_t hF rfl hc2 (q_skipc (n_sq (q_seq (q_block (q_seq (q_region (q_x (v := (.int .i64 t_2)) hF hS (ex_move rfl) rfl rfl fun a hF => ?_)))))))
   obtain ⟨e_3, he_3, hb1⟩ := bindS hb1
   obtain ⟨vs4, at4, d4⟩ := h1.at he_3 1 rfl
   obtain rfl : vs4 = [(.int .i64 e_3)] := d4
   refine q_x (v := (elP s1 (t_2.toNat * 1))) hF hS (ex_indexAddr Try.underlying24 sz3 rfl rfl (h1.idx he_3)) rfl rfl fun a hF => q_x (v := (.int .i64 e_3)) hF hS (ex_loadE1 0 Try.underlying3 rfl rfl ((at4).at) rfl rfl) rfl rfl fun a hF => q_x (v := (.int .i64 t_2)) hF hS (ex_assign rfl) rfl rfl fun a hF => q_x (v := (.int .i64 e_3)) hF hS (ex_assign rfl) rfl rfl fun a hF => q_end (n_sq (q_seq ?_))
   obtain ⟨t_8, hj3, hb1⟩ := bindS hb1
   refine q_join (fun a w => Fr a 35 [(0, s1.v), (1, (.int .i64 p_lo)), (2, (.int .i64 p_hi)), (9, s1.v), (10, (.int .i64 (goLen p_l))), (11, (.int .i64 t_2)), (33, (.bool t_8))] ∧ St [] w0 w m []) ?_ ?_
   ·refine q_region (q_x (v := (.int .i64 e_3)) hF hS (ex_move rfl) rfl rfl fun a hF => q_x (v := (.int .i64 p_lo)) hF hS (ex_move rfl) rfl rfl fun a hF => q_x (v := (.int .i64 p_hi)) hF hS (ex_move rfl) rfl rfl fun a hF => ?_)
    obtain ⟨t_5, ht_5, hj3⟩ := bindS hj3
    refine q_call (vs := [(.int .i64 e_3), (.int .i64 p_lo), (.int .i64 p_hi)]) hF hS Try.func67 (by kernel_rfl) rfl rfl rfl (c_spec_l1In e_3 p_lo p_hi t_5 ht_5 _ m hS.vis) ?_
    rintro a w _ rfl hF hS
    refine q_x (v := (.bool (!t_5))) hF hS (ex_not rfl) rfl rfl fun a hF => q_x (v := (.bool (!t_5))) hF hS (ex_move rfl) rfl rfl fun a hF => ?_
    rcases bcase (!t_5) with hc4 | hc4
    ·have hj3 := cond_f hc4 hj3
     refine q_xg (v := (.int .i64 t_2)) hF hS (ex_move rfl) (wanted_t hF rfl rfl rfl hc4) rfl fun a hF => q_xg (v := (.bool (decide (0 < t_2)))) hF hS (ex_ibin rfl rfl rfl) (wanted_t hF rfl rfl rfl hc4) rfl fun a hF => q_xg (v := (.bool (decide (0 < t_2)))) hF hS (ex_move rfl) (wanted_t hF rfl rfl rfl hc4) rfl fun a hF => ?_
     rcases bcase (decide (0 < t_2)) with hc5 | hc5
     ·have hj3 := cond_f hc5 hj3
      refine q_skip hF (wanted_f hF rfl rfl rfl hc5 rfl) rfl fun a hF => q_skip hF (wanted_f hF rfl rfl rfl hc5 rfl) rfl fun a hF => q_skip hF (wanted_f hF rfl rfl rfl hc5 rfl) rfl fun a hF => q_skip hF (wanted_f hF rfl rfl rfl hc5 rfl) rfl fun a hF => q_skip hF (wanted_f hF rfl rfl rfl hc5 rfl) rfl fun a hF => q_skip hF (wanted_f hF rfl rfl rfl hc5 rfl) rfl fun a hF => q_skip hF (wanted_f hF rfl rfl rfl hc5 rfl) rfl fun a hF => q_xg (v := (.bool false)) hF hS (ex_pick_f rfl rfl hc5) (wanted_t hF rfl rfl rfl hc4) rfl fun a hF => q_x (v := (.bool false)) hF hS (ex_pick_f rfl rfl hc4) rfl rfl fun a hF => q_end (n_jn ?_)
      obtain rfl := someI hj3
      exact ⟨hF.sub ⟨rfl, rfl, rfl, rfl, rfl, rfl, rfl, trivial⟩, hS⟩
     ·have hj3 := cond_t hc5 hj3
      refine q_xg (v := s1.v) hF hS (ex_move rfl) (wanted_t hF rfl rfl rfl hc5) rfl fun a hF => q_xg (v := (.int .i64 t_2)) hF hS (ex_move rfl) (wanted_t hF rfl rfl rfl hc5) rfl fun a hF => q_xg (v := (.int .i64 (w64 (t_2 - 1)))) hF hS (ex_ibin rfl rfl rfl) (wanted_t hF rfl rfl rfl hc5) rfl fun a hF => ?_
      obtain ⟨e_6, he_6, hj3⟩ := bindS hj3
      obtain ⟨vs7, at7, d7⟩ := h1.at he_6 1 rfl
      obtain rfl : vs7 = [(.int .i64 e_6)] := d7
      refine q_xg (v := (elP s1 ((w64 (t_2 - 1)).toNat * 1))) hF hS (ex_indexAddr Try.underlying24 sz3 rfl rfl (h1.idx he_6)) (wanted_t hF rfl rfl rfl hc5) rfl fun a hF => q_xg (v := (.int .i64 e_6)) hF hS (ex_loadE1 0 Try.underlying3 rfl rfl ((at7).at) rfl rfl) (wanted_t hF rfl rfl rfl hc5) rfl fun a hF => q_xg (v := (.int .i64 e_3)) hF hS (ex_move rfl) (wanted_t hF rfl rfl rfl hc5) rfl fun a hF => q_xg (v := (.bool (decide (e_3 ≤ e_6)))) hF hS (ex_ibin rfl rfl rfl) (wanted_t hF rfl rfl rfl hc5) rfl fun a hF => q_xg (v := (.bool (decide (e_3 ≤ e_6)))) hF hS (ex_pick_t rfl rfl hc5) (wanted_t hF rfl rfl rfl hc4) rfl fun a hF => q_x (v := (.bool (decide (e_3 ≤ e_6)))) hF hS (ex_pick_f rfl rfl hc4) rfl rfl fun a hF => q_end (n_jn ?_)
      obtain rfl := someI hj3
      exact ⟨hF.sub ⟨rfl, rfl, rfl, rfl, rfl, rfl, rfl, trivial⟩, hS⟩
    ·have hj3 := cond_t hc4 hj3
     refine q_skip hF (wanted_f hF rfl rfl rfl hc4 rfl) rfl fun a hF => q_skip hF (wanted_f hF rfl rfl rfl hc4 rfl) rfl fun a hF => q_skip hF (wanted_f hF rfl rfl rfl hc4 rfl) rfl fun a hF => q_skip hF (wanted_u hF rfl rfl rfl) rfl fun a hF => q_skip hF (wanted_u hF rfl rfl rfl) rfl fun a hF => q_skip hF (wanted_u hF rfl rfl rfl) rfl fun a hF => q_skip hF (wanted_u hF rfl rfl rfl) rfl fun a hF => q_skip hF (wanted_u hF rfl rfl rfl) rfl fun a hF => q_skip hF (wanted_u hF rfl rfl rfl) rfl fun a hF => q_skip hF (wanted_u hF rfl rfl rfl) rfl fun a hF => q_skip hF (wanted_f hF rfl rfl rfl hc4 rfl) rfl fun a hF => q_x (v := (.bool true)) hF hS (ex_pick_t rfl rfl hc4) rfl rfl fun a hF => q_end (n_jn ?_)
     obtain rfl := someI hj3
     exact ⟨hF.sub ⟨rfl, rfl, rfl, rfl, rfl, rfl, rfl, trivial⟩, hS⟩
   ·rintro a w ⟨hF, hS⟩
    refine n_sq ?_
    rcases bcase (t_8) with hc6 | hc6
    ·have hb1 := cond_f hc6 hb1
     refine q_cond_f hF rfl hc6 (q_skipc (n_ib (n_sq (q_region (q_x (v := (.int .i64 (w64 (t_2 + 1)))) hF hS (ex_ibin rfl rfl rfl) rfl rfl fun a hF => q_x (v := (.int .i64 (w64 (t_2 + 1)))) hF hS (ex_move rfl) rfl rfl fun a hF => q_end ?_)))))
     obtain rfl := someI hb1
     exact ⟨rfl, hF.sub ⟨rfl, rfl, rfl, rfl, rfl, rfl, trivial⟩, hS⟩
    ·have hb1 := cond_t hc6 hb1
     refine q_cond_t hF rfl hc6 (q_seq (q_region (q_x (v := (.bool false)) hF hS (ex_assign rfl) rfl rfl fun a hF => q_end (n_sq (q_ret (r_ib (r_sq ?_)))))))
     obtain rfl := someI hb1
     refine ⟨nofun, .inr fun ho => ?_⟩
     subst ho
     refine r_ib (r_sq ?_)
     obtain rfl := someI hr
     exact ret_of hF hS rfl (.tmp rfl .nil) rfl
 ·rintro e a w ⟨rfl, rfl, hF, hS⟩
  refine x_ib (n_sq ?_)
  refine q_seq (q_region (q_x (v := (.bool true)) hF hS (ex_assign rfl) rfl rfl fun a hF => q_end (n_sq (q_ret ?_))))
  obtain rfl := someI hr
  exact ret_of hF hS rfl (.tmp rfl .nil) rfl

theorem c_spec_uWhere (p_s : List impl_Variable) (p_where : List Int) (r : Bool) (hr : spec_uWhere p_s p_where = some r) (w0 : World) (m : Mem) (hv : Vis m w0) (s1 : Sl) (h1 : Rd m s1 p_s) (s2 : Sl) (h2 : Rd m s2 p_where) :
  Ret Try.prog 66 [s1.v, s2.v] w0 (fun v _ => v = (.bool r)) := by
 unfold spec_uWhere at hr
 refine ret_start Try.func66 rfl 31 rfl rfl m hv fun a hF hS => q_seq (q_region (q_x (v := (.bool false)) hF hS (ex_assign rfl) rfl rfl fun a hF => q_end (n_sq (q_seq (q_seq (q_region (q_x (v := s2.v) hF hS (ex_move rfl) rfl rfl fun a hF => q_x (v := (.int .i64 (goLen p_where))) hF hS (ex_len Try.underlying24 rfl h2.len) rfl rfl fun a hF => q_x (v := s1.v) hF hS (ex_move rfl) rfl rfl fun a hF => q_x (v := (.int .i64 (goLen p_s))) hF hS (ex_len Try.underlying27 rfl h1.len) rfl rfl fun a hF => q_x (v := (.bool ((goLen p_where) != (goLen p_s)))) hF hS (ex_ibin rfl rfl rfl) rfl rfl fun a hF => q_end (n_sq ?_))))))))
 rcases bcase ((goLen p_where) != (goLen p_s)) with hc1 | hc1
 ·have hr := cond_f hc1 hr
  refine q_cond_f hF rfl hc1 (q_skipc (n_sq (q_seq (q_seq (q_region (q_x (v := s1.v) hF hS (ex_move rfl) rfl rfl fun a hF => q_x (v := (.int .i64 (goLen p_s))) hF hS (ex_len Try.underlying27 rfl h1.len) rfl rfl fun a hF => q_x (v := (.int .i64 0)) hF hS (ex_move rfl) rfl rfl fun a hF => q_end (n_sq (q_block ?_))))))))
  obtain ⟨o2, hl2, hr⟩ := bindS hr
  refine q_loop (fun (t_3 : Int) a w => Fr a 31 [(1, s2.v), (12, s1.v), (13, (.int .i64 (goLen p_s))), (14, (.int .i64 t_3))] ∧ St [] w0 w m []) (fun (o : (Unit) ⊕ (Bool)) e a w => o = .inl () ∧ e = .exit 0 ∧ Fr a 31 [] ∧ St [] w0 w m []) hl2 ⟨hF.sub ⟨rfl, rfl, rfl, rfl, trivial⟩, hS⟩ ?_ ?_
  ·clear hF hS
   rintro t_3 a w st ⟨hF, hS⟩ hb2
   unfold spec_uWhere_l1 at hb2
   refine q_seq (q_region (q_x (v := (.bool (decide (t_3 < (goLen p_s))))) hF hS (ex_ibin rfl rfl rfl) rfl rfl fun a hF => q_end (n_sq (q_seq ?_))))
   rcases bcase (decide (t_3 < (goLen p_s))) with hc3 | hc3
   ·have hb2 := cond_f hc3 hb2
    refine q_cond_f hF rfl hc3 (q_exit (x_sq ?_))
    obtain rfl := someI hb2
    exact ⟨nofun, .inl ⟨rfl, rfl, hF.sub trivial, hS⟩⟩
   ·have hb2 := cond_t hc3 hb2
    refine q_cond_t hF rfl hc3 (q_skipc (n_sq (q_seq (q_block (q_seq (q_region (q_x (v := (.int .i64 t_3)) hF hS (ex_move rfl) rfl rfl fun a hF => ?_)))))))
    obtain ⟨e_4, he_4, hb2⟩ := bindS hb2
    obtain ⟨vs5, at5, d5⟩ := h1.at he_4 2 rfl
    obtain rfl : vs5 = [(strV e_4.Name), (.int .i64 e_4.Levels)] := d5
    refine q_x (v := (elP s1 (t_3.toNat * 2))) hF hS (ex_indexAddr Try.underlying27 sz58 rfl rfl (h1.idx he_4)) rfl rfl fun a hF => q_x (v := (.agg #[(strV e_4.Name), (.int .i64 e_4.Levels)])) hF hS (ex_loadEA (us := [(strV e_4.Name), (.int .i64 e_4.Levels)]) 0 Try.underlying58 rfl sz58 rfl ((at5).at) rfl rfl rfl) rfl rfl fun a hF => q_alloc (cs := [(strV ([] : List UInt8)), (.int .i64 0)]) hF hS rfl rfl rfl fun a w b6 hF hS => q_x (v := (.int .i64 t_3)) hF hS (ex_assign rfl) rfl rfl fun a hF => q_store (vs := [(strV e_4.Name), (.int .i64 e_4.Levels)]) (cs' := [(strV e_4.Name), (.int .i64 e_4.Levels)]) 0 0 hF hS sz58 rfl rfl rfl rfl rfl rfl rfl rfl fun a w hF hS => q_end (n_sq (q_seq (e_region ⟨[], []⟩ mixed fun w' hw' => ?_)))
    have hS := hS.below hw'
    refine e_p (v := s2.v) 0 hF rfl (ex_move rfl) rfl rfl (by kernel_rfl) (by kernel_rfl) (by kernel_rfl) fun a hF => e_p (v := (.int .i64 t_3)) 1 hF rfl (ex_move rfl) rfl rfl (by kernel_rfl) (by kernel_rfl) (by kernel_rfl) fun a hF => ?_
    obtain ⟨e_7, he_7, hb2⟩ := bindS hb2
    obtain ⟨vs8, at8, d8⟩ := h2.at he_7 1 rfl
    obtain rfl : vs8 = [(.int .i64 e_7)] := d8
    refine e_p (v := (elP s2 (t_3.toNat * 1))) 2 hF rfl (ex_indexAddr Try.underlying24 sz3 rfl rfl (h2.idx he_7)) rfl rfl (by kernel_rfl) (by kernel_rfl) (by kernel_rfl) fun a hF => e_x (v := (.int .i64 e_7)) 3 hF hS rfl (ex_loadE1 0 Try.underlying3 rfl rfl ((at8).at) rfl rfl) rfl rfl (by kernel_rfl) (by kernel_rfl) (by kernel_rfl) (by kernel_rfl) fun a hF => e_p (v := (.pointer (some ⟨b6, 1, none⟩))) 4 hF rfl (ex_fieldAddr Try.underlying58 rfl sz3 rfl rfl) rfl rfl (by kernel_rfl) (by kernel_rfl) (by kernel_rfl) fun a hF => e_x (v := (.int .i64 e_4.Levels)) 5 hF hS rfl (ex_load1 0 0 Try.underlying3 rfl rfl rfl rfl) rfl rfl (by kernel_rfl) (by kernel_rfl) (by kernel_rfl) (by kernel_rfl) fun a hF => e_p (v := (.int .u64 (IntKind.wrap .u64 e_4.Levels))) 6 hF rfl (ex_conv Try.underlying3 Try.underlying94 rfl) rfl rfl (by kernel_rfl) (by kernel_rfl) (by kernel_rfl) fun a hF => ?_
    obtain ⟨t_9, ht_9, hb2⟩ := bindS hb2
    refine e_p (v := (.int .i64 t_9)) 7 hF rfl (ex_shl rfl rfl ht_9) rfl rfl (by kernel_rfl) (by kernel_rfl) (by kernel_rfl) fun a hF => e_p (v := (.int .i64 (w64 (t_9 - 1)))) 8 hF rfl (ex_ibin rfl rfl rfl) rfl rfl (by kernel_rfl) (by kernel_rfl) (by kernel_rfl) fun a hF => e_one 9 (by kernel_rfl) ?_
    obtain ⟨t_10, ht_10, hb2⟩ := bindS hb2
    refine e_call (vs := [(.int .i64 e_7), (.int .i64 0), (.int .i64 (w64 (t_9 - 1)))]) hF hS rfl Try.func67 (by kernel_rfl) rfl rfl rfl (c_spec_l1In e_7 0 (w64 (t_9 - 1)) t_10 ht_10 _ m hS.vis) ?_
    rintro a w _ rfl hF hS
    refine e_p (v := (.bool (!t_10))) 10 hF rfl (ex_not rfl) rfl rfl (by kernel_rfl) (by kernel_rfl) (by kernel_rfl) fun a hF => e_end (by kernel_rfl) (n_sq ?_) _
    rcases bcase (!t_10) with hc4 | hc4
    ·have hb2 := cond_f hc4 hb2
     refine q_cond_f hF rfl hc4 (q_skipc (n_ib (n_sq (q_region (q_x (v := (.int .i64 (w64 (t_3 + 1)))) hF hS (ex_ibin rfl rfl rfl) rfl rfl fun a hF => q_x (v := (.int .i64 (w64 (t_3 + 1)))) hF hS (ex_move rfl) rfl rfl fun a hF => q_end ?_)))))
     obtain rfl := someI hb2
     exact ⟨rfl, hF.sub ⟨rfl, rfl, rfl, rfl, trivial⟩, hS.mask [false]⟩
    ·have hb2 := cond_t hc4 hb2
     refine q_cond_t hF rfl hc4 (q_seq (q_region (q_x (v := (.bool false)) hF hS (ex_assign rfl) rfl rfl fun a hF => q_end (n_sq (q_ret (r_ib (r_sq ?_)))))))
     obtain rfl := someI hb2
     refine ⟨nofun, .inr fun ho => ?_⟩
     subst ho
     refine r_ib (r_sq ?_)
     obtain rfl := someI hr
     exact ret_of hF hS rfl (.tmp rfl .nil) rfl
  ·rintro e a w ⟨rfl, rfl, hF, hS⟩
   refine x_ib (n_sq ?_)
   refine q_seq (q_region (q_x (v := (.bool true)) hF hS (ex_assign rfl) rfl rfl fun a hF => q_end (n_sq (q_ret ?_))))
   obtain rfl := someI hr
   exact ret_of hF hS rfl (.tmp rfl .nil) rfl
 ·have hr := cond_t hc1 hr
  refine q_cond_t hF rfl hc1 (q_seq (q_region (q_x (v := (.bool false)) hF hS (ex_assign rfl) rfl rfl fun a hF => q_end (n_sq (q_ret (r_sq ?_))))))
  obtain rfl := someI hr
  exact ret_of hF hS rfl (.tmp rfl .nil) rfl

theorem c_spec_sPart (p_s : List impl_Variable) (p_vars : List Int) (r : (List impl_Variable)) (hr : spec_sPart p_s p_vars = some r) (w0 : World) (m : Mem) (hv : Vis m w0) (s1 : Sl) (h1 : Rd m s1 p_s) (s2 : Sl) (h2 : Rd m s2 p_vars) :
  Ret Try.prog 84 [s1.v, s2.v] w0 (fun v w => ∃ (q0' : Piece) (s0' : Sl), v = s0'.v ∧ St [] w0 w m [q0'] ∧ OwnL m 58 q0' s0' r) := by
 unfold spec_sPart at hr
 refine ret_start Try.func84 rfl 23 rfl rfl m hv fun a hF hS => q_seq (q_region (q_x (v := nilS.v) hF hS (ex_assign rfl) rfl rfl fun a hF => q_end (n_sq (q_seq (q_region (q_x (v := nilS.v) hF hS (ex_assign rfl) rfl rfl fun a hF => q_end (n_sq (q_seq (q_seq (q_region (q_x (v := s2.v) hF hS (ex_move rfl) rfl rfl fun a hF => q_x (v := (.int .i64 (goLen p_vars))) hF hS (ex_len Try.underlying24 rfl h2.len) rfl rfl fun a hF => q_x (v := (.int .i64 0)) hF hS (ex_move rfl) rfl rfl fun a hF => q_end (n_sq (q_block ?_)))))))))))))
 obtain ⟨out_13, hl1, hr⟩ := bindS hr
 refine q_loop (fun (s : (List impl_Variable) × Int) a w => ∃ (q4 : Piece), ∃ (s4 : Sl), ∃ out_3, ∃ t_5, s = (out_3, t_5) ∧ Fr a 23 [(0, s1.v), (5, s4.v), (8, s2.v), (9, (.int .i64 (goLen p_vars))), (10, (.int .i64 t_5))] ∧ St [] w0 w m [q4] ∧ OwnL m 58 q4 s4 out_3) (fun (out_13 : (List impl_Variable)) e a w => ∃ (q14 : Piece), ∃ (s14 : Sl), e = .exit 0 ∧ Fr a 23 [(5, s14.v)] ∧ St [] w0 w m [q14] ∧ OwnL m 58 q14 s14 out_13) hl1 ⟨[], nilS, _, _, rfl, hF.sub ⟨rfl, rfl, rfl, rfl, rfl, trivial⟩, hS.sel [0] (by decide), (OwnL.nil (α := impl_Variable) m 58)⟩ ?_ ?_
 ·clear hF hS
  rintro s a w st ⟨q4, s4, out_3, t_5, rfl, hF, hS, h4⟩ hb1
  unfold spec_sPart_l1 at hb1
  refine q_seq (q_region (q_x (v := (.bool (decide (t_5 < (goLen p_vars))))) hF hS (ex_ibin rfl rfl rfl) rfl rfl fun a hF => q_end (n_sq (q_seq ?_))))
  rcases bcase (decide (t_5 < (goLen p_vars))) with hc2 | hc2
  ·have hb1 := cond_f hc2 hb1
   refine q_cond_f hF rfl hc2 (q_exit (x_sq ?_))
   obtain rfl := someI hb1
   exact ⟨nofun, .inl ⟨q4, s4, rfl, hF.sub ⟨rfl, trivial⟩, hS, h4⟩⟩
  ·have hb1 := cond_t hc2 hb1
   refine q_cond_t hF rfl hc2 (q_skipc (n_sq (q_seq (q_block (q_seq (q_region ?_))))))
   obtain ⟨e_6, he_6, hb1⟩ := bindS hb1
   obtain ⟨vs7, at7, d7⟩ := h2.at he_6 1 rfl
   obtain rfl : vs7 = [(.int .i64 e_6)] := d7
   refine q_x (v := (elP s2 (t_5.toNat * 1))) hF hS (ex_indexAddr Try.underlying24 sz3 rfl rfl (h2.idx he_6)) rfl rfl fun a hF => q_x (v := (.int .i64 e_6)) hF hS (ex_loadE1 0 Try.underlying3 rfl rfl ((at7).at) rfl rfl) rfl rfl fun a hF => q_x (v := (.int .i64 e_6)) hF hS (ex_assign rfl) rfl rfl fun a hF => q_end (n_sq (q_region (q_x (v := s4.v) hF hS (ex_move rfl) rfl rfl fun a hF => q_x (v := s1.v) hF hS (ex_move rfl) rfl rfl fun a hF => q_x (v := (.int .i64 e_6)) hF hS (ex_move rfl) rfl rfl fun a hF => ?_)))
   obtain ⟨e_8, he_8, hb1⟩ := bindS hb1
   obtain ⟨vs9, at9, d9⟩ := h1.at he_8 2 rfl
   obtain rfl : vs9 = [(strV e_8.Name), (.int .i64 e_8.Levels)] := d9
   refine q_x (v := (elP s1 (e_6.toNat * 2))) hF hS (ex_indexAddr Try.underlying27 sz58 rfl rfl (h1.idx he_8)) rfl rfl fun a hF => q_x (v := (.agg #[(strV e_8.Name), (.int .i64 e_8.Levels)])) hF hS (ex_loadEA (us := [(strV e_8.Name), (.int .i64 e_8.Levels)]) 0 Try.underlying58 rfl sz58 rfl ((at9).at) rfl rfl rfl) rfl rfl fun a hF => q_do rfl fun _ hK => wp_buildSlice' (l := ([e_8] : List impl_Variable)) (cells := [(strV e_8.Name), (.int .i64 e_8.Levels)]) hF hS Try.underlying27 inf58 rfl rfl (by kernel_rfl) rfl rfl rfl ⟨rfl, rfl⟩ rfl rfl fun a w q10 s10 hF hS h10 _ => hK _ _ ?_
   have hS : St _ _ _ _ [q4, q10] := hS.sel [1, 0] (by decide)
   obtain ⟨l_11, hl_11, hb1⟩ := bindS hb1
   refine q_do rfl fun _ hK => wp_append hF hS h4 Try.underlying27 inf58 rfl rfl rfl rfl (h10.vw hS (j := 1) rfl) rfl (by decide) hl_11 rfl fun a w q12 s12 hF hS h12 => hK _ _ (q_x (v := s12.v) hF hS (ex_assign rfl) rfl rfl fun a hF => q_end (n_ib (n_sq (q_region (q_x (v := (.int .i64 (w64 (t_5 + 1)))) hF hS (ex_ibin rfl rfl rfl) rfl rfl fun a hF => q_x (v := (.int .i64 (w64 (t_5 + 1)))) hF hS (ex_move rfl) rfl rfl fun a hF => q_end ?_)))))
   obtain rfl := someI hb1
   exact ⟨rfl, q12, s12, _, _, rfl, hF.sub ⟨rfl, rfl, rfl, rfl, rfl, trivial⟩, hS.mask [true, false], h12⟩
 ·rintro e a w ⟨q14, s14, rfl, hF, hS, h14⟩
  refine x_ib (n_sq ?_)
  refine q_seq (q_region (q_x (v := s14.v) hF hS (ex_move rfl) rfl rfl fun a hF => q_x (v := s14.v) hF hS (ex_assign rfl) rfl rfl fun a hF => q_end (n_sq (q_ret ?_))))
  obtain rfl := someI hr
  exact ret_of hF hS rfl (.tmp rfl .nil) ⟨q14, s14, rfl, hS.sel [0] (by decide), h14⟩

theorem c_spec_sCount (p_s : List impl_Variable) (r : Int) (hr : spec_sCount p_s = some r) (w0 : World) (m : Mem) (hv : Vis m w0) (s1 : Sl) (h1 : Rd m s1 p_s) :
  Ret Try.prog 83 [s1.v] w0 (fun v _ => v = (.int .i64 r)) := by
 unfold spec_sCount at hr
 refine ret_start Try.func83 rfl 18 rfl rfl m hv fun a hF hS => q_seq (q_region (q_x (v := (.int .i64 0)) hF hS (ex_assign rfl) rfl rfl fun a hF => q_end (n_sq (q_seq (q_region (q_x (v := (.int .i64 1)) hF hS (ex_assign rfl) rfl rfl fun a hF => q_end (n_sq (q_seq (q_seq (q_region (q_x (v := s1.v) hF hS (ex_move rfl) rfl rfl fun a hF => q_x (v := (.int .i64 (goLen p_s))) hF hS (ex_len Try.underlying27 rfl h1.len) rfl rfl fun a hF => q_x (v := (.int .i64 0)) hF hS (ex_move rfl) rfl rfl fun a hF => q_end (n_sq (q_block ?_)))))))))))))
 obtain ⟨n_7, hl1, hr⟩ := bindS hr
 refine q_loop (fun (s : Int × Int) a w => ∃ n_2, ∃ t_3, s = (n_2, t_3) ∧ Fr a 18 [(3, (.int .i64 n_2)), (6, s1.v), (7, (.int .i64 (goLen p_s))), (8, (.int .i64 t_3))] ∧ St [] w0 w m []) (fun (n_7 : Int) e a w => e = .exit 0 ∧ Fr a 18 [(3, (.int .i64 n_7))] ∧ St [] w0 w m []) hl1 ⟨_, _, rfl, hF.sub ⟨rfl, rfl, rfl, rfl, trivial⟩, hS⟩ ?_ ?_
 ·clear hF hS
  rintro s a w st ⟨n_2, t_3, rfl, hF, hS⟩ hb1
  unfold spec_sCount_l1 at hb1
  refine q_seq (q_region (q_x (v := (.bool (decide (t_3 < (goLen p_s))))) hF hS (ex_ibin rfl rfl rfl) rfl rfl fun a hF => q_end (n_sq (q_seq ?_))))
  rcases bcase (decide (t_3 < (goLen p_s))) with hc2 | hc2
  ·have hb1 := cond_f hc2 hb1
   refine q_cond_f hF rfl hc2 (q_exit (x_sq ?_))
   obtain rfl := someI hb1
   exact ⟨nofun, .inl ⟨rfl, hF.sub ⟨rfl, trivial⟩, hS⟩⟩
  ·have hb1 := cond_t hc2 hb1
   refine q_cond_t hF rfl hc2 (q_skipc (n_sq (q_seq (q_block (q_seq (q_region ?_))))))
   obtain ⟨e_4, he_4, hb1⟩ := bindS hb1
   obtain ⟨vs5, at5, d5⟩ := h1.at he_4 2 rfl
   obtain rfl : vs5 = [(strV e_4.Name), (.int .i64 e_4.Levels)] := d5
   refine q_x (v := (elP s1 (t_3.toNat * 2))) hF hS (ex_indexAddr Try.underlying27 sz58 rfl rfl (h1.idx he_4)) rfl rfl fun a hF => q_x (v := (.agg #[(strV e_4.Name), (.int .i64 e_4.Levels)])) hF hS (ex_loadEA (us := [(strV e_4.Name), (.int .i64 e_4.Levels)]) 0 Try.underlying58 rfl sz58 rfl ((at5).at) rfl rfl rfl) rfl rfl fun a hF => q_alloc (cs := [(strV ([] : List UInt8)), (.int .i64 0)]) hF hS rfl rfl rfl fun a w b6 hF hS => q_store (vs := [(strV e_4.Name), (.int .i64 e_4.Levels)]) (cs' := [(strV e_4.Name), (.int .i64 e_4.Levels)]) 0 0 hF hS sz58 rfl rfl rfl rfl rfl rfl rfl rfl fun a w hF hS => q_end (n_sq (q_region (q_x (v := (.int .i64 n_2)) hF hS (ex_move rfl) rfl rfl fun a hF => q_x (v := (.pointer (some ⟨b6, 1, none⟩))) hF hS (ex_fieldAddr Try.underlying58 rfl sz3 rfl rfl) rfl rfl fun a hF => q_x (v := (.int .i64 e_4.Levels)) hF hS (ex_load1 0 0 Try.underlying3 rfl rfl rfl rfl) rfl rfl fun a hF => q_x (v := (.int .i64 (w64 (n_2 * e_4.Levels)))) hF hS (ex_ibin rfl rfl rfl) rfl rfl fun a hF => q_x (v := (.int .i64 (w64 (n_2 * e_4.Levels)))) hF hS (ex_assign rfl) rfl rfl fun a hF => q_end (n_ib (n_sq (q_region (q_x (v := (.int .i64 (w64 (t_3 + 1)))) hF hS (ex_ibin rfl rfl rfl) rfl rfl fun a hF => q_x (v := (.int .i64 (w64 (t_3 + 1)))) hF hS (ex_move rfl) rfl rfl fun a hF => q_end ?_)))))))
   obtain rfl := someI hb1
   exact ⟨rfl, _, _, rfl, hF.sub ⟨rfl, rfl, rfl, rfl, trivial⟩, hS.mask [false]⟩
 ·rintro e a w ⟨rfl, hF, hS⟩
  refine x_ib (n_sq ?_)
  refine q_seq (q_region (q_x (v := (.int .i64 n_7)) hF hS (ex_move rfl) rfl rfl fun a hF => q_x (v := (.int .i64 n_7)) hF hS (ex_assign rfl) rfl rfl fun a hF => q_end (n_sq (q_ret ?_))))
  obtain rfl := someI hr
  exact ret_of hF hS rfl (.tmp rfl .nil) rfl

theorem c_spec_uCount (p_g : impl_Geo) (p_s : List impl_Variable) (p_t : impl_Table) (r : Int) (hr : spec_uCount p_g p_s p_t = some r) (w0 : World) (m : Mem) (hv : Vis m w0) (s1 : Sl) (h1 : Rd m s1 p_g.Parents) (s2 : Sl) (h2 : Rd m s2 p_s) (s3 : Sl) (h3 : Rd m s3 p_t.Vars) (s4 : Sl) (h4 : Rd m s4 p_t.Where) :
  Ret Try.prog 47 [(.agg #[s1.v]), s2.v, (.agg #[(.int .i64 p_t.Level), s3.v, s4.v, (.int .i64 p_t.Sum)])] w0 (fun v _ => v = (.int .i64 r)) := by
 unfold spec_uCount at hr
 refine ret_start Try.func47 rfl 18 rfl rfl m hv fun a hF hS => q_seq (q_region (q_box (cs := [s1.v]) hF hS rfl rfl rfl fun a w b5 hF hS => q_box (cs := [(.int .i64 p_t.Level), s3.v, s4.v, (.int .i64 p_t.Sum)]) hF hS rfl rfl rfl fun a w b6 hF hS => q_x (v := (.int .i64 0)) hF hS (ex_assign rfl) rfl rfl fun a hF => q_end (n_sq (q_seq (e_region ⟨[], []⟩ mixed fun w' hw' => ?_)))))
 have hS := hS.below hw'
 refine e_x (v := (.agg #[s1.v])) 0 hF hS rfl (ex_loadA (vs := [s1.v]) 1 0 Try.underlying26 rfl sz26 rfl rfl rfl rfl) rfl rfl (by kernel_rfl) (by kernel_rfl) (by kernel_rfl) (by kernel_rfl) fun a hF => e_p (v := (.pointer (some ⟨b6, 0, none⟩))) 1 hF rfl (ex_fieldAddr Try.underlying29 rfl sz3 rfl rfl) rfl rfl (by kernel_rfl) (by kernel_rfl) (by kernel_rfl) fun a hF => e_x (v := (.int .i64 p_t.Level)) 2 hF hS rfl (ex_load1 0 0 Try.underlying3 rfl rfl rfl rfl) rfl rfl (by kernel_rfl) (by kernel_rfl) (by kernel_rfl) (by kernel_rfl) fun a hF => e_p (v := s2.v) 5 hF rfl (ex_move rfl) rfl rfl (by kernel_rfl) (by kernel_rfl) (by kernel_rfl) fun a hF => e_p (v := (.pointer (some ⟨b6, 1, none⟩))) 6 hF rfl (ex_fieldAddr Try.underlying29 rfl sz24 rfl rfl) rfl rfl (by kernel_rfl) (by kernel_rfl) (by kernel_rfl) fun a hF => e_x (v := s3.v) 7 hF hS rfl (ex_load1 0 0 Try.underlying24 rfl rfl rfl rfl) rfl rfl (by kernel_rfl) (by kernel_rfl) (by kernel_rfl) (by kernel_rfl) fun a hF => e_one 3 (by kernel_rfl) ?_
 obtain ⟨t_16, ht_16, hr⟩ := bindS hr
 refine e_call (vs := [(.agg #[s1.v]), (.int .i64 p_t.Level)]) hF hS rfl Try.func64 (by kernel_rfl) rfl rfl rfl (c_spec_gLevel p_g p_t.Level t_16 ht_16 _ m hS.vis s1 h1) ?_
 rintro a w _ ⟨q18, s18, rfl, hR17, h18⟩ hF hS2
 have hS : St _ _ _ _ [q18, [⟨b6, [(.int .i64 p_t.Level), s3.v, s4.v, (.int .i64 p_t.Sum)], 29⟩], [⟨b5, [s1.v], 26⟩]] := hS.joinF hR17
 refine e_p (v := (.int .i64 (goLen t_16))) 4 hF rfl (ex_len Try.underlying24 rfl h18.len) rfl rfl (by kernel_rfl) (by kernel_rfl) (by kernel_rfl) fun a hF => e_one 8 (by kernel_rfl) ?_
 obtain ⟨t_19, ht_19, hr⟩ := bindS hr
 refine e_call (vs := [s2.v, s3.v]) hF hS rfl Try.func84 (by kernel_rfl) rfl rfl rfl (c_spec_sPart p_s p_t.Vars t_19 ht_19 _ m hS.vis s2 h2 s3 h3) ?_
 rintro a w _ ⟨q21, s21, rfl, hR20, h21⟩ hF hS2
 have hS : St _ _ _ _ [q21, q18, [⟨b6, [(.int .i64 p_t.Level), s3.v, s4.v, (.int .i64 p_t.Sum)], 29⟩], [⟨b5, [s1.v], 26⟩]] := hS.joinF hR20
 refine e_one 9 (by kernel_rfl) ?_
 obtain ⟨m23, hl23, hv23, hz23⟩ := hS.lend
 obtain ⟨t_22, ht_22, hr⟩ := bindS hr
 refine e_call (vs := [s21.v]) hF hS rfl Try.func83 (by kernel_rfl) rfl rfl rfl (c_spec_sCount t_19 t_22 ht_22 _ m23 hv23 s21 (h21.froz hl23 (hz23 0 _ rfl))) ?_
 rintro a w _ rfl hF hS
 refine e_p (v := (.int .i64 (w64 ((goLen t_16) * t_22)))) 10 hF rfl (ex_ibin rfl rfl rfl) rfl rfl (by kernel_rfl) (by kernel_rfl) (by kernel_rfl) fun a hF => e_p (v := (.int .i64 (w64 ((goLen t_16) * t_22)))) 11 hF rfl (ex_assign rfl) rfl rfl (by kernel_rfl) (by kernel_rfl) (by kernel_rfl) fun a hF => e_end (by kernel_rfl) (n_sq (q_ret ?_)) _
 obtain rfl := someI hr
 exact ret_of hF hS rfl (.tmp rfl .nil) rfl

theorem c_spec_uGood (p_g : impl_Geo) (p_s : List impl_Variable) (p_t : impl_Table) (r : Bool) (hr : spec_uGood p_g p_s p_t = some r) (w0 : World) (m : Mem) (hv : Vis m w0) (s1 : Sl) (h1 : Rd m s1 p_g.Parents) (s2 : Sl) (h2 : Rd m s2 p_s) (s3 : Sl) (h3 : Rd m s3 p_t.Vars) (s4 : Sl) (h4 : Rd m s4 p_t.Where) :
  Ret Try.prog 35 [(.agg #[s1.v]), s2.v, (.agg #[(.int .i64 p_t.Level), s3.v, s4.v, (.int .i64 p_t.Sum)])] w0 (fun v _ => v = (.bool r)) := by
 unfold spec_uGood at hr
 refine ret_start Try.func35 rfl 53 rfl rfl m hv fun a hF hS => q_seq (q_region (q_box (cs := [s1.v]) hF hS rfl rfl rfl fun a w b5 hF hS => q_box (cs := [(.int .i64 p_t.Level), s3.v, s4.v, (.int .i64 p_t.Sum)]) hF hS rfl rfl rfl fun a w b6 hF hS => q_x (v := (.bool false)) hF hS (ex_assign rfl) rfl rfl fun a hF => q_end (n_sq (q_seq (q_seq ?_)))))
 obtain ⟨t_15, hj1, hr⟩ := bindS hr
 refine q_join (fun a w => Fr a 53 [(1, s2.v), (3, (.pointer (some ⟨b5, 0, none⟩))), (5, (.pointer (some ⟨b6, 0, none⟩))), (47, (.bool t_15))] ∧ St [] w0 w m [[⟨b6, [(.int .i64 p_t.Level), s3.v, s4.v, (.int .i64 p_t.Sum)], 29⟩], [⟨b5, [s1.v], 26⟩]]) ?_ ?_
 ·refine q_region (q_x (v := (.agg #[s1.v])) hF hS (ex_loadA (vs := [s1.v]) 1 0 Try.underlying26 rfl sz26 rfl rfl rfl rfl) rfl rfl fun a hF => ?_)
  obtain ⟨t_7, ht_7, hj1⟩ := bindS hj1
  refine q_call (vs := [(.agg #[s1.v])]) hF hS Try.func62 (by kernel_rfl) rfl rfl rfl (c_spec_gGood p_g t_7 ht_7 _ m hS.vis s1 h1) ?_
  rintro a w _ rfl hF hS
  refine q_x (v := (.bool (!t_7))) hF hS (ex_not rfl) rfl rfl fun a hF => q_x (v := (.bool (!t_7))) hF hS (ex_move rfl) rfl rfl fun a hF => ?_
  rcases bcase (!t_7) with hc2 | hc2
  ·have hj1 := cond_f hc2 hj1
   refine q_xg (v := s2.v) hF hS (ex_move rfl) (wanted_t hF rfl rfl rfl hc2) rfl fun a hF => ?_
   obtain ⟨t_8, ht_8, hj1⟩ := bindS hj1
   refine q_callg (vs := [s2.v]) hF hS (wanted_t hF rfl rfl rfl hc2) Try.func63 (by kernel_rfl) rfl rfl rfl (c_spec_sGood p_s t_8 ht_8 _ m hS.vis s2 h2) ?_
   rintro a w _ rfl hF hS
   refine q_xg (v := (.bool (!t_8))) hF hS (ex_not rfl) (wanted_t hF rfl rfl rfl hc2) rfl fun a hF => q_x (v := (.bool (!t_8))) hF hS (ex_pick_f rfl rfl hc2) rfl rfl fun a hF => q_x (v := (.bool (!t_8))) hF hS (ex_move rfl) rfl rfl fun a hF => ?_
   rcases bcase (!t_8) with hc3 | hc3
   ·have hj1 := cond_f hc3 hj1
    refine q_xg (v := (.agg #[s1.v])) hF hS (ex_loadA (vs := [s1.v]) 1 0 Try.underlying26 rfl sz26 rfl rfl rfl rfl) (wanted_t hF rfl rfl rfl hc3) rfl fun a hF => q_xg (v := (.pointer (some ⟨b6, 0, none⟩))) hF hS (ex_fieldAddr Try.underlying29 rfl sz3 rfl rfl) (wanted_t hF rfl rfl rfl hc3) rfl fun a hF => q_xg (v := (.int .i64 p_t.Level)) hF hS (ex_load1 0 0 Try.underlying3 rfl rfl rfl rfl) (wanted_t hF rfl rfl rfl hc3) rfl fun a hF => ?_
    obtain ⟨t_9, ht_9, hj1⟩ := bindS hj1
    refine q_callg (vs := [(.agg #[s1.v]), (.int .i64 p_t.Level)]) hF hS (wanted_t hF rfl rfl rfl hc3) Try.func64 (by kernel_rfl) rfl rfl rfl (c_spec_gLevel p_g p_t.Level t_9 ht_9 _ m hS.vis s1 h1) ?_
    rintro a w _ ⟨q11, s11, rfl, hR10, h11⟩ hF hS2
    have hS : St _ _ _ _ [q11, [⟨b6, [(.int .i64 p_t.Level), s3.v, s4.v, (.int .i64 p_t.Sum)], 29⟩], [⟨b5, [s1.v], 26⟩]] := hS.joinF hR10
    refine q_xg (v := (.int .i64 (goLen t_9))) hF hS (ex_len Try.underlying24 rfl h11.len) (wanted_t hF rfl rfl rfl hc3) rfl fun a hF => q_xg (v := (.bool ((goLen t_9) == 0))) hF hS (ex_ibin rfl rfl rfl) (wanted_t hF rfl rfl rfl hc3) rfl fun a hF => q_x (v := (.bool ((goLen t_9) == 0))) hF hS (ex_pick_f rfl rfl hc3) rfl rfl fun a hF => q_x (v := (.bool ((goLen t_9) == 0))) hF hS (ex_move rfl) rfl rfl fun a hF => ?_
    rcases bcase ((goLen t_9) == 0) with hc4 | hc4
    ·have hj1 := cond_f hc4 hj1
     refine q_xg (v := (.pointer (some ⟨b6, 1, none⟩))) hF hS (ex_fieldAddr Try.underlying29 rfl sz24 rfl rfl) (wanted_t hF rfl rfl rfl hc4) rfl fun a hF => q_xg (v := s3.v) hF hS (ex_load1 1 0 Try.underlying24 rfl rfl rfl rfl) (wanted_t hF rfl rfl rfl hc4) rfl fun a hF => q_xg (v := s2.v) hF hS (ex_move rfl) (wanted_t hF rfl rfl rfl hc4) rfl fun a hF => q_xg (v := (.int .i64 (goLen p_s))) hF hS (ex_len Try.underlying27 rfl h2.len) (wanted_t hF rfl rfl rfl hc4) rfl fun a hF => q_xg (v := (.int .i64 (w64 ((goLen p_s) - 1)))) hF hS (ex_ibin rfl rfl rfl) (wanted_t hF rfl rfl rfl hc4) rfl fun a hF => ?_
     obtain ⟨t_12, ht_12, hj1⟩ := bindS hj1
     refine q_callg (vs := [s3.v, (.int .i64 0), (.int .i64 (w64 ((goLen p_s) - 1)))]) hF hS (wanted_t hF rfl rfl rfl hc4) Try.func65 (by kernel_rfl) rfl rfl rfl (c_spec_l1Rising p_t.Vars 0 (w64 ((goLen p_s) - 1)) t_12 ht_12 _ m hS.vis s3 h3) ?_
     rintro a w _ rfl hF hS
     refine q_xg (v := (.bool (!t_12))) hF hS (ex_not rfl) (wanted_t hF rfl rfl rfl hc4) rfl fun a hF => q_x (v := (.bool (!t_12))) hF hS (ex_pick_f rfl rfl hc4) rfl rfl fun a hF => q_x (v := (.bool (!t_12))) hF hS (ex_move rfl) rfl rfl fun a hF => ?_
     rcases bcase (!t_12) with hc5 | hc5
     ·have hj1 := cond_f hc5 hj1
      refine q_xg (v := s2.v) hF hS (ex_move rfl) (wanted_t hF rfl rfl rfl hc5) rfl fun a hF => q_xg (v := (.pointer (some ⟨b6, 2, none⟩))) hF hS (ex_fieldAddr Try.underlying29 rfl sz24 rfl rfl) (wanted_t hF rfl rfl rfl hc5) rfl fun a hF => q_xg (v := s4.v) hF hS (ex_load1 1 0 Try.underlying24 rfl rfl rfl rfl) (wanted_t hF rfl rfl rfl hc5) rfl fun a hF => ?_
      obtain ⟨t_13, ht_13, hj1⟩ := bindS hj1
      refine q_callg (vs := [s2.v, s4.v]) hF hS (wanted_t hF rfl rfl rfl hc5) Try.func66 (by kernel_rfl) rfl rfl rfl (c_spec_uWhere p_s p_t.Where t_13 ht_13 _ m hS.vis s2 h2 s4 h4) ?_
      rintro a w _ rfl hF hS
      refine q_xg (v := (.bool (!t_13))) hF hS (ex_not rfl) (wanted_t hF rfl rfl rfl hc5) rfl fun a hF => q_x (v := (.bool (!t_13))) hF hS (ex_pick_f rfl rfl hc5) rfl rfl fun a hF => q_x (v := (.bool (!t_13))) hF hS (ex_move rfl) rfl rfl fun a hF => ?_
      rcases bcase (!t_13) with hc6 | hc6
      ·have hj1 := cond_f hc6 hj1
       refine q_xg (v := (.pointer (some ⟨b6, 3, none⟩))) hF hS (ex_fieldAddr Try.underlying29 rfl sz3 rfl rfl) (wanted_t hF rfl rfl rfl hc6) rfl fun a hF => q_xg (v := (.int .i64 p_t.Sum)) hF hS (ex_load1 1 0 Try.underlying3 rfl rfl rfl rfl) (wanted_t hF rfl rfl rfl hc6) rfl fun a hF => q_xg (v := s2.v) hF hS (ex_move rfl) (wanted_t hF rfl rfl rfl hc6) rfl fun a hF => q_xg (v := (.int .i64 (goLen p_s))) hF hS (ex_len Try.underlying27 rfl h2.len) (wanted_t hF rfl rfl rfl hc6) rfl fun a hF => q_xg (v := (.int .i64 (w64 ((goLen p_s) - 1)))) hF hS (ex_ibin rfl rfl rfl) (wanted_t hF rfl rfl rfl hc6) rfl fun a hF => ?_
       obtain ⟨t_14, ht_14, hj1⟩ := bindS hj1
       refine q_callg (vs := [(.int .i64 p_t.Sum), (.int .i64 (-1)), (.int .i64 (w64 ((goLen p_s) - 1)))]) hF hS (wanted_t hF rfl rfl rfl hc6) Try.func67 (by kernel_rfl) rfl rfl rfl (c_spec_l1In p_t.Sum (-1) (w64 ((goLen p_s) - 1)) t_14 ht_14 _ m hS.vis) ?_
       rintro a w _ rfl hF hS
       refine q_xg (v := (.bool (!t_14))) hF hS (ex_not rfl) (wanted_t hF rfl rfl rfl hc6) rfl fun a hF => q_x (v := (.bool (!t_14))) hF hS (ex_pick_f rfl rfl hc6) rfl rfl fun a hF => q_end (n_jn ?_)
       obtain rfl := someI hj1
       exact ⟨hF.sub ⟨rfl, rfl, rfl, rfl, trivial⟩, hS.mask [false, true, true]⟩
      ·have hj1 := cond_t hc6 hj1
       refine q_skip hF (wanted_f hF rfl rfl rfl hc6 rfl) rfl fun a hF => q_skip hF (wanted_f hF rfl rfl rfl hc6 rfl) rfl fun a hF => q_skip hF (wanted_f hF rfl rfl rfl hc6 rfl) rfl fun a hF => q_skip hF (wanted_f hF rfl rfl rfl hc6 rfl) rfl fun a hF => q_skip hF (wanted_f hF rfl rfl rfl hc6 rfl) rfl fun a hF => q_skip hF (wanted_f hF rfl rfl rfl hc6 rfl) rfl fun a hF => q_skip hF (wanted_f hF rfl rfl rfl hc6 rfl) rfl fun a hF => q_x (v := (.bool true)) hF hS (ex_pick_t rfl rfl hc6) rfl rfl fun a hF => q_end (n_jn ?_)
       obtain rfl := someI hj1
       exact ⟨hF.sub ⟨rfl, rfl, rfl, rfl, trivial⟩, hS.mask [false, true, true]⟩
     ·have hj1 := cond_t hc5 hj1
      refine q_skip hF (wanted_f hF rfl rfl rfl hc5 rfl) rfl fun a hF => q_skip hF (wanted_f hF rfl rfl rfl hc5 rfl) rfl fun a hF => q_skip hF (wanted_f hF rfl rfl rfl hc5 rfl) rfl fun a hF => q_skip hF (wanted_f hF rfl rfl rfl hc5 rfl) rfl fun a hF => q_skip hF (wanted_f hF rfl rfl rfl hc5 rfl) rfl fun a hF => q_x (v := (.bool true)) hF hS (ex_pick_t rfl rfl hc5) rfl rfl fun a hF => q_x (v := (.bool true)) hF hS (ex_move rfl) rfl rfl fun a hF => q_skip hF (wanted_f hF rfl rfl rfl rfl rfl) rfl fun a hF => q_skip hF (wanted_f hF rfl rfl rfl rfl rfl) rfl fun a hF => q_skip hF (wanted_f hF rfl rfl rfl rfl rfl) rfl fun a hF => q_skip hF (wanted_f hF rfl rfl rfl rfl rfl) rfl fun a hF => q_skip hF (wanted_f hF rfl rfl rfl rfl rfl) rfl fun a hF => q_skip hF (wanted_f hF rfl rfl rfl rfl rfl) rfl fun a hF => q_skip hF (wanted_f hF rfl rfl rfl rfl rfl) rfl fun a hF => q_x (v := (.bool true)) hF hS (ex_pick_t rfl rfl rfl) rfl rfl fun a hF => q_end (n_jn ?_)
      obtain rfl := someI hj1
      exact ⟨hF.sub ⟨rfl, rfl, rfl, rfl, trivial⟩, hS.mask [false, true, true]⟩
    ·have hj1 := cond_t hc4 hj1
     refine q_skip hF (wanted_f hF rfl rfl rfl hc4 rfl) rfl fun a hF => q_skip hF (wanted_f hF rfl rfl rfl hc4 rfl) rfl fun a hF => q_skip hF (wanted_f hF rfl rfl rfl hc4 rfl) rfl fun a hF => q_skip hF (wanted_f hF rfl rfl rfl hc4 rfl) rfl fun a hF => q_skip hF (wanted_f hF rfl rfl rfl hc4 rfl) rfl fun a hF => q_skip hF (wanted_f hF rfl rfl rfl hc4 rfl) rfl fun a hF => q_skip hF (wanted_f hF rfl rfl rfl hc4 rfl) rfl fun a hF => q_x (v := (.bool true)) hF hS (ex_pick_t rfl rfl hc4) rfl rfl fun a hF => q_x (v := (.bool true)) hF hS (ex_move rfl) rfl rfl fun a hF => q_skip hF (wanted_f hF rfl rfl rfl rfl rfl) rfl fun a hF => q_skip hF (wanted_f hF rfl rfl rfl rfl rfl) rfl fun a hF => q_skip hF (wanted_f hF rfl rfl rfl rfl rfl) rfl fun a hF => q_skip hF (wanted_f hF rfl rfl rfl rfl rfl) rfl fun a hF => q_skip hF (wanted_f hF rfl rfl rfl rfl rfl) rfl fun a hF => q_x (v := (.bool true)) hF hS (ex_pick_t rfl rfl rfl) rfl rfl fun a hF => q_x (v := (.bool true)) hF hS (ex_move rfl) rfl rfl fun a hF => q_skip hF (wanted_f hF rfl rfl rfl rfl rfl) rfl fun a hF => q_skip hF (wanted_f hF rfl rfl rfl rfl rfl) rfl fun a hF => q_skip hF (wanted_f hF rfl rfl rfl rfl rfl) rfl fun a hF => q_skip hF (wanted_f hF rfl rfl rfl rfl rfl) rfl fun a hF => q_skip hF (wanted_f hF rfl rfl rfl rfl rfl) rfl fun a hF => q_skip hF (wanted_f hF rfl rfl rfl rfl rfl) rfl fun a hF => q_skip hF (wanted_f hF rfl rfl rfl rfl rfl) rfl fun a hF => q_x (v := (.bool true)) hF hS (ex_pick_t rfl rfl rfl) rfl rfl fun a hF => q_end (n_jn ?_)
     obtain rfl := someI hj1
     exact ⟨hF.sub ⟨rfl, rfl, rfl, rfl, trivial⟩, hS.mask [false, true, true]⟩
   ·have hj1 := cond_t hc3 hj1
    refine q_skip hF (wanted_f hF rfl rfl rfl hc3 rfl) rfl fun a hF => q_skip hF (wanted_f hF rfl rfl rfl hc3 rfl) rfl fun a hF => q_skip hF (wanted_f hF rfl rfl rfl hc3 rfl) rfl fun a hF => q_skip hF (wanted_f hF rfl rfl rfl hc3 rfl) rfl fun a hF => q_skip hF (wanted_f hF rfl rfl rfl hc3 rfl) rfl fun a hF => q_skip hF (wanted_f hF rfl rfl rfl hc3 rfl) rfl fun a hF => q_x (v := (.bool true)) hF hS (ex_pick_t rfl rfl hc3) rfl rfl fun a hF => q_x (v := (.bool true)) hF hS (ex_move rfl) rfl rfl fun a hF => q_skip hF (wanted_f hF rfl rfl rfl rfl rfl) rfl fun a hF => q_skip hF (wanted_f hF rfl rfl rfl rfl rfl) rfl fun a hF => q_skip hF (wanted_f hF rfl rfl rfl rfl rfl) rfl fun a hF => q_skip hF (wanted_f hF rfl rfl rfl rfl rfl) rfl fun a hF => q_skip hF (wanted_f hF rfl rfl rfl rfl rfl) rfl fun a hF => q_skip hF (wanted_f hF rfl rfl rfl rfl rfl) rfl fun a hF => q_skip hF (wanted_f hF rfl rfl rfl rfl rfl) rfl fun a hF => q_x (v := (.bool true)) hF hS (ex_pick_t rfl rfl rfl) rfl rfl fun a hF => q_x (v := (.bool true)) hF hS (ex_move rfl) rfl rfl fun a hF => q_skip hF (wanted_f hF rfl rfl rfl rfl rfl) rfl fun a hF => q_skip hF (wanted_f hF rfl rfl rfl rfl rfl) rfl fun a hF => q_skip hF (wanted_f hF rfl rfl rfl rfl rfl) rfl fun a hF => q_skip hF (wanted_f hF rfl rfl rfl rfl rfl) rfl fun a hF => q_skip hF (wanted_f hF rfl rfl rfl rfl rfl) rfl fun a hF => q_x (v := (.bool true)) hF hS (ex_pick_t rfl rfl rfl) rfl rfl fun a hF => q_x (v := (.bool true)) hF hS (ex_move rfl) rfl rfl fun a hF => q_skip hF (wanted_f hF rfl rfl rfl rfl rfl) rfl fun a hF => ?_
    refine q_skip hF (wanted_f hF rfl rfl rfl rfl rfl) rfl fun a hF => q_skip hF (wanted_f hF rfl rfl rfl rfl rfl) rfl fun a hF => q_skip hF (wanted_f hF rfl rfl rfl rfl rfl) rfl fun a hF => q_skip hF (wanted_f hF rfl rfl rfl rfl rfl) rfl fun a hF => q_skip hF (wanted_f hF rfl rfl rfl rfl rfl) rfl fun a hF => q_skip hF (wanted_f hF rfl rfl rfl rfl rfl) rfl fun a hF => q_x (v := (.bool true)) hF hS (ex_pick_t rfl rfl rfl) rfl rfl fun a hF => q_end (n_jn ?_)
    obtain rfl := someI hj1
    exact ⟨hF.sub ⟨rfl, rfl, rfl, rfl, trivial⟩, hS⟩
  ·have hj1 := cond_t hc2 hj1
   refine q_skip hF (wanted_f hF rfl rfl rfl hc2 rfl) rfl fun a hF => q_skip hF (wanted_f hF rfl rfl rfl hc2 rfl) rfl fun a hF => q_skip hF (wanted_f hF rfl rfl rfl hc2 rfl) rfl fun a hF => q_x (v := (.bool true)) hF hS (ex_pick_t rfl rfl hc2) rfl rfl fun a hF => q_x (v := (.bool true)) hF hS (ex_move rfl) rfl rfl fun a hF => q_skip hF (wanted_f hF rfl rfl rfl rfl rfl) rfl fun a hF => q_skip hF (wanted_f hF rfl rfl rfl rfl rfl) rfl fun a hF => q_skip hF (wanted_f hF rfl rfl rfl rfl rfl) rfl fun a hF => q_skip hF (wanted_f hF rfl rfl rfl rfl rfl) rfl fun a hF => q_skip hF (wanted_f hF rfl rfl rfl rfl rfl) rfl fun a hF => q_skip hF (wanted_f hF rfl rfl rfl rfl rfl) rfl fun a hF => q_x (v := (.bool true)) hF hS (ex_pick_t rfl rfl rfl) rfl rfl fun a hF => q_x (v := (.bool true)) hF hS (ex_move rfl) rfl rfl fun a hF => q_skip hF (wanted_f hF rfl rfl rfl rfl rfl) rfl fun a hF => q_skip hF (wanted_f hF rfl rfl rfl rfl rfl) rfl fun a hF => q_skip hF (wanted_f hF rfl rfl rfl rfl rfl) rfl fun a hF => q_skip hF (wanted_f hF rfl rfl rfl rfl rfl) rfl fun a hF => q_skip hF (wanted_f hF rfl rfl rfl rfl rfl) rfl fun a hF => q_skip hF (wanted_f hF rfl rfl rfl rfl rfl) rfl fun a hF => q_skip hF (wanted_f hF rfl rfl rfl rfl rfl) rfl fun a hF => q_x (v := (.bool true)) hF hS (ex_pick_t rfl rfl rfl) rfl rfl fun a hF => q_x (v := (.bool true)) hF hS (ex_move rfl) rfl rfl fun a hF => q_skip hF (wanted_f hF rfl rfl rfl rfl rfl) rfl fun a hF => q_skip hF (wanted_f hF rfl rfl rfl rfl rfl) rfl fun a hF => q_skip hF (wanted_f hF rfl rfl rfl rfl rfl) rfl fun a hF => ?_
   refine q_skip hF (wanted_f hF rfl rfl rfl rfl rfl) rfl fun a hF => q_skip hF (wanted_f hF rfl rfl rfl rfl rfl) rfl fun a hF => q_x (v := (.bool true)) hF hS (ex_pick_t rfl rfl rfl) rfl rfl fun a hF => q_x (v := (.bool true)) hF hS (ex_move rfl) rfl rfl fun a hF => q_skip hF (wanted_f hF rfl rfl rfl rfl rfl) rfl fun a hF => q_skip hF (wanted_f hF rfl rfl rfl rfl rfl) rfl fun a hF => q_skip hF (wanted_f hF rfl rfl rfl rfl rfl) rfl fun a hF => q_skip hF (wanted_f hF rfl rfl rfl rfl rfl) rfl fun a hF => q_skip hF (wanted_f hF rfl rfl rfl rfl rfl) rfl fun a hF => q_skip hF (wanted_f hF rfl rfl rfl rfl rfl) rfl fun a hF => q_skip hF (wanted_f hF rfl rfl rfl rfl rfl) rfl fun a hF => q_x (v := (.bool true)) hF hS (ex_pick_t rfl rfl rfl) rfl rfl fun a hF => q_end (n_jn ?_)
   obtain rfl := someI hj1
   exact ⟨hF.sub ⟨rfl, rfl, rfl, rfl, trivial⟩, hS⟩
 ·rintro a w ⟨hF, hS⟩
  refine n_sq ?_
  rcases bcase (t_15) with hc7 | hc7
  ·have hr := cond_f hc7 hr
   refine q_cond_f hF rfl hc7 (q_skipc (n_sq (q_seq (q_region (q_x (v := (.agg #[s1.v])) hF hS (ex_loadA (vs := [s1.v]) 1 0 Try.underlying26 rfl sz26 rfl rfl rfl rfl) rfl rfl fun a hF => q_x (v := s2.v) hF hS (ex_move rfl) rfl rfl fun a hF => q_x (v := (.agg #[(.int .i64 p_t.Level), s3.v, s4.v, (.int .i64 p_t.Sum)])) hF hS (ex_loadA (vs := [(.int .i64 p_t.Level), s3.v, s4.v, (.int .i64 p_t.Sum)]) 0 0 Try.underlying29 rfl sz29 rfl rfl rfl rfl) rfl rfl fun a hF => ?_)))))
   obtain ⟨t_16, ht_16, hr⟩ := bindS hr
   refine q_call (vs := [(.agg #[s1.v]), s2.v, (.agg #[(.int .i64 p_t.Level), s3.v, s4.v, (.int .i64 p_t.Sum)])]) hF hS Try.func47 (by kernel_rfl) rfl rfl rfl (c_spec_uCount p_g p_s p_t t_16 ht_16 _ m hS.vis s1 h1 s2 h2 s3 h3 s4 h4) ?_
   rintro a w _ rfl hF hS
   refine q_x (v := (.bool (decide (t_16 ≤ 600)))) hF hS (ex_ibin rfl rfl rfl) rfl rfl fun a hF => q_x (v := (.bool (decide (t_16 ≤ 600)))) hF hS (ex_assign rfl) rfl rfl fun a hF => q_end (n_sq (q_ret ?_))
   obtain rfl := someI hr
   exact ret_of hF hS rfl (.tmp rfl .nil) rfl
  ·have hr := cond_t hc7 hr
   refine q_cond_t hF rfl hc7 (q_seq (q_region (q_x (v := (.bool false)) hF hS (ex_assign rfl) rfl rfl fun a hF => q_end (n_sq (q_ret (r_sq ?_))))))
   obtain rfl := someI hr
   exact ret_of hF hS rfl (.tmp rfl .nil) rfl

theorem c_spec_nPlan (p_g : impl_Geo) (p_s : List impl_Variable) (p_l : List impl_Table) (r : Bool) (hr : spec_nPlan p_g p_s p_l = some r) (w0 : World) (m : Mem) (hv : Vis m w0) (s1 : Sl) (h1 : Rd m s1 p_g.Parents) (s2 : Sl) (h2 : Rd m s2 p_s) (s3 : Sl) (h3 : Rd m s3 p_l) :
  Ret Try.prog 45 [(.agg #[s1.v]), s2.v, s3.v] w0 (fun v _ => v = (.bool r)) := by
 unfold spec_nPlan at hr
 refine ret_start Try.func45 rfl 30 rfl rfl m hv fun a hF hS => q_seq (q_region (q_box (cs := [s1.v]) hF hS rfl rfl rfl fun a w b4 hF hS => q_x (v := (.bool false)) hF hS (ex_assign rfl) rfl rfl fun a hF => q_end (n_sq (q_seq (q_seq ?_)))))
 obtain ⟨t_6, hj1, hr⟩ := bindS hr
 refine q_join (fun a w => Fr a 30 [(1, s2.v), (2, s3.v), (3, (.pointer (some ⟨b4, 0, none⟩))), (17, (.bool t_6))] ∧ St [] w0 w m [[⟨b4, [s1.v], 26⟩]]) ?_ ?_
 ·refine q_region (q_x (v := (.agg #[s1.v])) hF hS (ex_loadA (vs := [s1.v]) 0 0 Try.underlying26 rfl sz26 rfl rfl rfl rfl) rfl rfl fun a hF => q_x (v := s2.v) hF hS (ex_move rfl) rfl rfl fun a hF => ?_)
  obtain ⟨t_5, ht_5, hj1⟩ := bindS hj1
  refine q_call (vs := [(.agg #[s1.v]), s2.v]) hF hS Try.func79 (by kernel_rfl) rfl rfl rfl (c_spec_nInput p_g p_s t_5 ht_5 _ m hS.vis s1 h1 s2 h2) ?_
  rintro a w _ rfl hF hS
  refine q_x (v := (.bool (!t_5))) hF hS (ex_not rfl) rfl rfl fun a hF => q_x (v := (.bool (!t_5))) hF hS (ex_move rfl) rfl rfl fun a hF => ?_
  rcases bcase (!t_5) with hc2 | hc2
  ·have hj1 := cond_f hc2 hj1
   refine q_xg (v := s3.v) hF hS (ex_move rfl) (wanted_t hF rfl rfl rfl hc2) rfl fun a hF => q_xg (v := (.int .i64 (goLen p_l))) hF hS (ex_len Try.underlying37 rfl h3.len) (wanted_t hF rfl rfl rfl hc2) rfl fun a hF => q_xg (v := (.bool (decide (20 < (goLen p_l))))) hF hS (ex_ibin rfl rfl rfl) (wanted_t hF rfl rfl rfl hc2) rfl fun a hF => q_x (v := (.bool (decide (20 < (goLen p_l))))) hF hS (ex_pick_f rfl rfl hc2) rfl rfl fun a hF => q_end (n_jn ?_)
   obtain rfl := someI hj1
   exact ⟨hF.sub ⟨rfl, rfl, rfl, rfl, trivial⟩, hS⟩
  ·have hj1 := cond_t hc2 hj1
   refine q_skip hF (wanted_f hF rfl rfl rfl hc2 rfl) rfl fun a hF => q_skip hF (wanted_f hF rfl rfl rfl hc2 rfl) rfl fun a hF => q_skip hF (wanted_f hF rfl rfl rfl hc2 rfl) rfl fun a hF => q_x (v := (.bool true)) hF hS (ex_pick_t rfl rfl hc2) rfl rfl fun a hF => q_end (n_jn ?_)
   obtain rfl := someI hj1
   exact ⟨hF.sub ⟨rfl, rfl, rfl, rfl, trivial⟩, hS⟩
 ·rintro a w ⟨hF, hS⟩
  refine n_sq ?_
  rcases bcase (t_6) with hc3 | hc3
  ·have hr := cond_f hc3 hr
   refine q_cond_f hF rfl hc3 (q_skipc (n_sq (q_seq (q_seq (q_region (q_x (v := s3.v) hF hS (ex_move rfl) rfl rfl fun a hF => q_x (v := (.int .i64 (goLen p_l))) hF hS (ex_len Try.underlying37 rfl h3.len) rfl rfl fun a hF => q_x (v := (.int .i64 0)) hF hS (ex_move rfl) rfl rfl fun a hF => q_end (n_sq (q_block ?_))))))))
   obtain ⟨o4, hl4, hr⟩ := bindS hr
   refine q_loop (fun (t_7 : Int) a w => Fr a 30 [(1, s2.v), (3, (.pointer (some ⟨b4, 0, none⟩))), (18, s3.v), (19, (.int .i64 (goLen p_l))), (20, (.int .i64 t_7))] ∧ St [] w0 w m [[⟨b4, [s1.v], 26⟩]]) (fun (o : (Unit) ⊕ (Bool)) e a w => o = .inl () ∧ e = .exit 0 ∧ Fr a 30 [] ∧ St [] w0 w m []) hl4 ⟨hF.sub ⟨rfl, rfl, rfl, rfl, rfl, trivial⟩, hS⟩ ?_ ?_
   ·clear hF hS
    rintro t_7 a w st ⟨hF, hS⟩ hb4
    unfold spec_nPlan_l1 at hb4
    refine q_seq (q_region (q_x (v := (.bool (decide (t_7 < (goLen p_l))))) hF hS (ex_ibin rfl rfl rfl) rfl rfl fun a hF => q_end (n_sq (q_seq ?_))))
    rcases bcase (decide (t_7 < (goLen p_l))) with hc5 | hc5
    ·have hb4 := cond_f hc5 hb4
     refine q_cond_f hF rfl hc5 (q_exit (x_sq ?_))
     obtain rfl := someI hb4
     exact ⟨nofun, .inl ⟨rfl, rfl, hF.sub trivial, hS.mask [false]⟩⟩
    ·have hb4 := cond_t hc5 hb4
     refine q_cond_t hF rfl hc5 (q_skipc (n_sq (q_seq (q_block (q_seq (q_region ?_))))))
     obtain ⟨e_8, he_8, hb4⟩ := bindS hb4
     obtain ⟨vs9, at9, d9⟩ := h3.at he_8 4 rfl
     obtain ⟨s10, s11, rfl, h10, h11⟩ : ∃ s10 s11 : Sl, vs9 = [(.int .i64 e_8.Level), s10.v, s11.v, (.int .i64 e_8.Sum)] ∧ Rd m s10 e_8.Vars ∧ Rd m s11 e_8.Where := d9
     refine q_x (v := (elP s3 (t_7.toNat * 4))) hF hS (ex_indexAddr Try.underlying37 sz29 rfl rfl (h3.idx he_8)) rfl rfl fun a hF => q_x (v := (.agg #[(.int .i64 e_8.Level), s10.v, s11.v, (.int .i64 e_8.Sum)])) hF hS (ex_loadEA (us := [(.int .i64 e_8.Level), s10.v, s11.v, (.int .i64 e_8.Sum)]) 0 Try.underlying29 rfl sz29 rfl ((at9).at) rfl rfl rfl) rfl rfl fun a hF => q_alloc (cs := [(.int .i64 0), nilS.v, nilS.v, (.int .i64 0)]) hF hS rfl rfl rfl fun a w b12 hF hS => q_store (vs := [(.int .i64 e_8.Level), s10.v, s11.v, (.int .i64 e_8.Sum)]) (cs' := [(.int .i64 e_8.Level), s10.v, s11.v, (.int .i64 e_8.Sum)]) 0 0 hF hS sz29 rfl rfl rfl rfl rfl rfl rfl rfl fun a w hF hS => q_end (n_sq (q_seq (q_region (q_x (v := (.agg #[s1.v])) hF hS (ex_loadA (vs := [s1.v]) 1 0 Try.underlying26 rfl sz26 rfl rfl rfl rfl) rfl rfl fun a hF => q_x (v := s2.v) hF hS (ex_move rfl) rfl rfl fun a hF => q_x (v := (.agg #[(.int .i64 e_8.Level), s10.v, s11.v, (.int .i64 e_8.Sum)])) hF hS (ex_loadA (vs := [(.int .i64 e_8.Level), s10.v, s11.v, (.int .i64 e_8.Sum)]) 0 0 Try.underlying29 rfl sz29 rfl rfl rfl rfl) rfl rfl fun a hF => ?_))))
     obtain ⟨t_13, ht_13, hb4⟩ := bindS hb4
     refine q_call (vs := [(.agg #[s1.v]), s2.v, (.agg #[(.int .i64 e_8.Level), s10.v, s11.v, (.int .i64 e_8.Sum)])]) hF hS Try.func35 (by kernel_rfl) rfl rfl rfl (c_spec_uGood p_g p_s e_8 t_13 ht_13 _ m hS.vis s1 h1 s2 h2 s10 h10 s11 h11) ?_
     rintro a w _ rfl hF hS
     refine q_x (v := (.bool (!t_13))) hF hS (ex_not rfl) rfl rfl fun a hF => q_end (n_sq ?_)
     rcases bcase (!t_13) with hc6 | hc6
     ·have hb4 := cond_f hc6 hb4
      refine q_cond_f hF rfl hc6 (q_skipc (n_ib (n_sq (q_region (q_x (v := (.int .i64 (w64 (t_7 + 1)))) hF hS (ex_ibin rfl rfl rfl) rfl rfl fun a hF => q_x (v := (.int .i64 (w64 (t_7 + 1)))) hF hS (ex_move rfl) rfl rfl fun a hF => q_end ?_)))))
      obtain rfl := someI hb4
      exact ⟨rfl, hF.sub ⟨rfl, rfl, rfl, rfl, rfl, trivial⟩, hS.mask [false, true]⟩
     ·have hb4 := cond_t hc6 hb4
      refine q_cond_t hF rfl hc6 (q_seq (q_region (q_x (v := (.bool false)) hF hS (ex_assign rfl) rfl rfl fun a hF => q_end (n_sq (q_ret (r_ib (r_sq ?_)))))))
      obtain rfl := someI hb4
      refine ⟨nofun, .inr fun ho => ?_⟩
      subst ho
      refine r_ib (r_sq ?_)
      obtain rfl := someI hr
      exact ret_of hF hS rfl (.tmp rfl .nil) rfl
   ·rintro e a w ⟨rfl, rfl, hF, hS⟩
    refine x_ib (n_sq ?_)
    refine q_seq (q_region (q_x (v := (.bool true)) hF hS (ex_assign rfl) rfl rfl fun a hF => q_end (n_sq (q_ret ?_))))
    obtain rfl := someI hr
    exact ret_of hF hS rfl (.tmp rfl .nil) rfl
  ·have hr := cond_t hc3 hr
   refine q_cond_t hF rfl hc3 (q_seq (q_region (q_x (v := (.bool false)) hF hS (ex_assign rfl) rfl rfl fun a hF => q_end (n_sq (q_ret (r_sq ?_))))))
   obtain rfl := someI hr
   exact ret_of hF hS rfl (.tmp rfl .nil) rfl

theorem c_spec_gUp (p_g : impl_Geo) (p_i : Int) (p_level : Int) (r : Int) (hr : spec_gUp p_g p_i p_level = some r) (w0 : World) (m : Mem) (hv : Vis m w0) (s1 : Sl) (h1 : Rd m s1 p_g.Parents) :
  Ret Try.prog 97 [(.agg #[s1.v]), (.int .i64 p_i), (.int .i64 p_level)] w0 (fun v _ => v = (.int .i64 r)) := by
 unfold spec_gUp at hr
 refine ret_start Try.func97 rfl 27 rfl rfl m hv fun a hF hS => q_seq (q_region (q_box (cs := [s1.v]) hF hS rfl rfl rfl fun a w b2 hF hS => q_x (v := (.int .i64 0)) hF hS (ex_assign rfl) rfl rfl fun a hF => q_end (n_sq (q_seq (q_region (q_x (v := (.agg #[s1.v])) hF hS (ex_loadA (vs := [s1.v]) 0 0 Try.underlying26 rfl sz26 rfl rfl rfl rfl) rfl rfl fun a hF => q_x (v := (.int .i64 p_i)) hF hS (ex_move rfl) rfl rfl fun a hF => ?_))))))
 obtain ⟨t_3, ht_3, hr⟩ := bindS hr
 refine q_call (vs := [(.agg #[s1.v]), (.int .i64 p_i)]) hF hS Try.func94 (by kernel_rfl) rfl rfl rfl (c_spec_gDepth p_g p_i t_3 ht_3 _ m hS.vis s1 h1) ?_
 rintro a w _ rfl hF hS
 refine q_x (v := (.int .i64 t_3)) hF hS (ex_assign rfl) rfl rfl fun a hF => q_end (n_sq (q_seq (q_seq (q_region (q_x (v := (.int .i64 p_level)) hF hS (ex_move rfl) rfl rfl fun a hF => q_x (v := (.bool (decide (p_level < 0)))) hF hS (ex_ibin rfl rfl rfl) rfl rfl fun a hF => q_end (n_sq ?_))))))
 rcases bcase (decide (p_level < 0)) with hc1 | hc1
 ·have hr := cond_f hc1 hr
  refine q_cond_f hF rfl hc1 (q_skipc (n_sq (q_seq (q_block ?_))))
  obtain ⟨o2, hl2, hr⟩ := bindS hr
  refine q_loop (fun (s : Int × Int) a w => ∃ i_4, ∃ d_5, s = (i_4, d_5) ∧ Fr a 27 [(1, (.int .i64 i_4)), (2, (.int .i64 p_level)), (3, (.pointer (some ⟨b2, 0, none⟩))), (7, (.int .i64 d_5))] ∧ St [] w0 w m [[⟨b2, [s1.v], 26⟩]]) (fun (o : Int × Int) e a w => ∃ i_8, ∃ d_9, o = (i_8, d_9) ∧ e = .exit 0 ∧ Fr a 27 [(1, (.int .i64 i_8)), (2, (.int .i64 p_level)), (7, (.int .i64 d_9))] ∧ St [] w0 w m []) hl2 ⟨_, _, rfl, hF.sub ⟨rfl, rfl, rfl, rfl, trivial⟩, hS⟩ ?_ ?_
  ·clear hF hS
   rintro s a w st ⟨i_4, d_5, rfl, hF, hS⟩ hb2
   unfold spec_gUp_l1 at hb2
   refine q_seq (q_seq (q_region (q_x (v := (.int .i64 d_5)) hF hS (ex_move rfl) rfl rfl fun a hF => q_x (v := (.int .i64 p_level)) hF hS (ex_move rfl) rfl rfl fun a hF => q_x (v := (.bool (decide (p_level < d_5)))) hF hS (ex_ibin rfl rfl rfl) rfl rfl fun a hF => q_end (n_sq ?_))))
   rcases bcase (decide (p_level < d_5)) with hc3 | hc3
   ·have hb2 := cond_f hc3 hb2
    refine q_cond_f hF rfl hc3 (q_exit (x_sq ?_))
    obtain rfl := someI hb2
    exact ⟨nofun, .inl ⟨_, _, rfl, rfl, hF.sub ⟨rfl, rfl, rfl, trivial⟩, hS.mask [false]⟩⟩
   ·have hb2 := cond_t hc3 hb2
    refine q_cond_t hF rfl hc3 (q_skipc (n_sq (q_seq (q_block (q_region (q_x (v := (.pointer (some ⟨b2, 0, none⟩))) hF hS (ex_fieldAddr Try.underlying26 rfl sz24 rfl rfl) rfl rfl fun a hF => q_x (v := s1.v) hF hS (ex_load1 0 0 Try.underlying24 rfl rfl rfl rfl) rfl rfl fun a hF => q_x (v := (.int .i64 i_4)) hF hS (ex_move rfl) rfl rfl fun a hF => ?_))))))
    obtain ⟨e_6, he_6, hb2⟩ := bindS hb2
    obtain ⟨vs7, at7, d7⟩ := h1.at he_6 1 rfl
    obtain rfl : vs7 = [(.int .i64 e_6)] := d7
    refine q_x (v := (elP s1 (i_4.toNat * 1))) hF hS (ex_indexAddr Try.underlying24 sz3 rfl rfl (h1.idx he_6)) rfl rfl fun a hF => q_x (v := (.int .i64 e_6)) hF hS (ex_loadE1 0 Try.underlying3 rfl rfl ((at7).at) rfl rfl) rfl rfl fun a hF => q_x (v := (.int .i64 e_6)) hF hS (ex_assign rfl) rfl rfl fun a hF => q_end (n_ib (n_sq (q_region (q_x (v := (.int .i64 d_5)) hF hS (ex_move rfl) rfl rfl fun a hF => q_x (v := (.int .i64 (w64 (d_5 - 1)))) hF hS (ex_ibin rfl rfl rfl) rfl rfl fun a hF => q_x (v := (.int .i64 (w64 (d_5 - 1)))) hF hS (ex_assign rfl) rfl rfl fun a hF => q_end ?_))))
    obtain rfl := someI hb2
    exact ⟨rfl, _, _, rfl, hF.sub ⟨rfl, rfl, rfl, rfl, trivial⟩, hS⟩
  ·rintro e a w ⟨i_8, d_9, rfl, rfl, hF, hS⟩
   refine x_ib (n_sq ?_)
   refine q_seq (q_seq (q_region (q_x (v := (.int .i64 d_9)) hF hS (ex_move rfl) rfl rfl fun a hF => q_x (v := (.int .i64 p_level)) hF hS (ex_move rfl) rfl rfl fun a hF => q_x (v := (.bool (decide (d_9 < p_level)))) hF hS (ex_ibin rfl rfl rfl) rfl rfl fun a hF => q_end (n_sq ?_))))
   rcases bcase (decide (d_9 < p_level)) with hc4 | hc4
   ·have hr := cond_f hc4 hr
    refine q_cond_f hF rfl hc4 (q_skipc (n_sq (q_seq (q_region (q_x (v := (.int .i64 i_8)) hF hS (ex_move rfl) rfl rfl fun a hF => q_x (v := (.int .i64 i_8)) hF hS (ex_assign rfl) rfl rfl fun a hF => q_end (n_sq (q_ret ?_)))))))
    obtain rfl := someI hr
    exact ret_of hF hS rfl (.tmp rfl .nil) rfl
   ·have hr := cond_t hc4 hr
    refine q_cond_t hF rfl hc4 (q_seq (q_region (q_x (v := (.int .i64 (-1))) hF hS (ex_assign rfl) rfl rfl fun a hF => q_end (n_sq (q_ret (r_sq ?_))))))
    obtain rfl := someI hr
    exact ret_of hF hS rfl (.tmp rfl .nil) rfl
 ·have hr := cond_t hc1 hr
  refine q_cond_t hF rfl hc1 (q_seq (q_region (q_x (v := (.int .i64 (-1))) hF hS (ex_assign rfl) rfl rfl fun a hF => q_end (n_sq (q_ret (r_sq ?_))))))
  obtain rfl := someI hr
  exact ret_of hF hS rfl (.tmp rfl .nil) rfl

theorem c_spec_lLevels (p_g : impl_Geo) (p_t : impl_Table) (p_u : impl_Table) (r : Bool) (hr : spec_lLevels p_g p_t p_u = some r) (w0 : World) (m : Mem) (hv : Vis m w0) (s1 : Sl) (h1 : Rd m s1 p_g.Parents) (s2 : Sl) (h2 : Rd m s2 p_t.Vars) (s3 : Sl) (h3 : Rd m s3 p_t.Where) (s4 : Sl) (h4 : Rd m s4 p_u.Vars) (s5 : Sl) (h5 : Rd m s5 p_u.Where) :
  Ret Try.prog 72 [(.agg #[s1.v]), (.agg #[(.int .i64 p_t.Level), s2.v, s3.v, (.int .i64 p_t.Sum)]), (.agg #[(.int .i64 p_u.Level), s4.v, s5.v, (.int .i64 p_u.Sum)])] w0 (fun v _ => v = (.bool r)) := by
 unfold spec_lLevels at hr
 refine ret_start Try.func72 rfl 41 rfl rfl m hv fun a hF hS => q_seq (q_region (q_box (cs := [s1.v]) hF hS rfl rfl rfl fun a w b6 hF hS => q_box (cs := [(.int .i64 p_t.Level), s2.v, s3.v, (.int .i64 p_t.Sum)]) hF hS rfl rfl rfl fun a w b7 hF hS => q_box (cs := [(.int .i64 p_u.Level), s4.v, s5.v, (.int .i64 p_u.Sum)]) hF hS rfl rfl rfl fun a w b8 hF hS => q_x (v := (.bool false)) hF hS (ex_assign rfl) rfl rfl fun a hF => q_end (n_sq (q_seq (q_seq (q_region (q_x (v := (.pointer (some ⟨b7, 0, none⟩))) hF hS (ex_fieldAddr Try.underlying29 rfl sz3 rfl rfl) rfl rfl fun a hF => q_x (v := (.int .i64 p_t.Level)) hF hS (ex_load1 1 0 Try.underlying3 rfl rfl rfl rfl) rfl rfl fun a hF => q_x (v := (.pointer (some ⟨b8, 0, none⟩))) hF hS (ex_fieldAddr Try.underlying29 rfl sz3 rfl rfl) rfl rfl fun a hF => q_x (v := (.int .i64 p_u.Level)) hF hS (ex_load1 0 0 Try.underlying3 rfl rfl rfl rfl) rfl rfl fun a hF => q_x (v := (.bool (decide (p_u.Level ≤ p_t.Level)))) hF hS (ex_ibin rfl rfl rfl) rfl rfl fun a hF => q_end (n_sq ?_))))))))
 rcases bcase (decide (p_u.Level ≤ p_t.Level)) with hc1 | hc1
 ·have hr := cond_f hc1 hr
  refine q_cond_f hF rfl hc1 (q_skipc (n_sq (q_seq (q_seq (q_region (q_x (v := (.agg #[s1.v])) hF hS (ex_loadA (vs := [s1.v]) 2 0 Try.underlying26 rfl sz26 rfl rfl rfl rfl) rfl rfl fun a hF => ?_))))))
  obtain ⟨t_9, ht_9, hr⟩ := bindS hr
  refine q_call (vs := [(.agg #[s1.v])]) hF hS Try.func96 (by kernel_rfl) rfl rfl rfl (c_spec_gLeaves p_g t_9 ht_9 _ m hS.vis s1 h1) ?_
  rintro a w _ ⟨q11, s11, rfl, hR10, h11⟩ hF hS2
  have hS : St _ _ _ _ [q11, [⟨b8, [(.int .i64 p_u.Level), s4.v, s5.v, (.int .i64 p_u.Sum)], 29⟩], [⟨b7, [(.int .i64 p_t.Level), s2.v, s3.v, (.int .i64 p_t.Sum)], 29⟩], [⟨b6, [s1.v], 26⟩]] := hS.joinF hR10
  refine q_x (v := (.int .i64 (goLen t_9))) hF hS (ex_len Try.underlying24 rfl h11.len) rfl rfl fun a hF => q_x (v := (.int .i64 0)) hF hS (ex_move rfl) rfl rfl fun a hF => q_end (n_sq (q_block ?_))
  obtain ⟨o2, hl2, hr⟩ := bindS hr
  refine q_loop (fun (t_12 : Int) a w => Fr a 41 [(3, (.pointer (some ⟨b6, 0, none⟩))), (4, (.pointer (some ⟨b7, 0, none⟩))), (5, (.pointer (some ⟨b8, 0, none⟩))), (20, s11.v), (21, (.int .i64 (goLen t_9))), (22, (.int .i64 t_12))] ∧ St [] w0 w m [q11, [⟨b8, [(.int .i64 p_u.Level), s4.v, s5.v, (.int .i64 p_u.Sum)], 29⟩], [⟨b7, [(.int .i64 p_t.Level), s2.v, s3.v, (.int .i64 p_t.Sum)], 29⟩], [⟨b6, [s1.v], 26⟩]]) (fun (o : (Unit) ⊕ (Bool)) e a w => o = .inl () ∧ e = .exit 0 ∧ Fr a 41 [] ∧ St [] w0 w m []) hl2 ⟨hF.sub ⟨rfl, rfl, rfl, rfl, rfl, rfl, trivial⟩, hS⟩ ?_ ?_
  ·clear hF hS
   rintro t_12 a w st ⟨hF, hS⟩ hb2
   unfold spec_lLevels_l1 at hb2
   refine q_seq (q_region (q_x (v := (.bool (decide (t_12 < (goLen t_9))))) hF hS (ex_ibin rfl rfl rfl) rfl rfl fun a hF => q_end (n_sq (q_seq ?_))))
   rcases bcase (decide (t_12 < (goLen t_9))) with hc3 | hc3
   ·have hb2 := cond_f hc3 hb2
    refine q_cond_f hF rfl hc3 (q_exit (x_sq ?_))
    obtain rfl := someI hb2
    exact ⟨nofun, .inl ⟨rfl, rfl, hF.sub trivial, hS.mask [false, false, false, false]⟩⟩
   ·have hb2 := cond_t hc3 hb2
    refine q_cond_t hF rfl hc3 (q_skipc (n_sq (q_seq (q_block (q_seq (q_region ?_))))))
    obtain ⟨e_13, he_13, hb2⟩ := bindS hb2
    obtain ⟨vs14, at14, d14⟩ := h11.at he_13 1 rfl
    obtain rfl : vs14 = [(.int .i64 e_13)] := d14
    refine q_x (v := (elP s11 (t_12.toNat * 1))) hF hS (ex_indexAddr Try.underlying24 sz3 rfl rfl (h11.idx he_13)) rfl rfl fun a hF => q_x (v := (.int .i64 e_13)) hF hS (ex_loadE1 0 Try.underlying3 rfl rfl (at14.at 0 rfl) rfl rfl) rfl rfl fun a hF => q_x (v := (.int .i64 e_13)) hF hS (ex_assign rfl) rfl rfl fun a hF => q_end (n_sq (q_seq ?_))
    obtain ⟨t_17, hj4, hb2⟩ := bindS hb2
    refine q_join (fun a w => Fr a 41 [(3, (.pointer (some ⟨b6, 0, none⟩))), (4, (.pointer (some ⟨b7, 0, none⟩))), (5, (.pointer (some ⟨b8, 0, none⟩))), (20, s11.v), (21, (.int .i64 (goLen t_9))), (22, (.int .i64 t_12)), (39, (.bool t_17))] ∧ St [] w0 w m [q11, [⟨b8, [(.int .i64 p_u.Level), s4.v, s5.v, (.int .i64 p_u.Sum)], 29⟩], [⟨b7, [(.int .i64 p_t.Level), s2.v, s3.v, (.int .i64 p_t.Sum)], 29⟩], [⟨b6, [s1.v], 26⟩]]) ?_ ?_
    ·refine q_region (q_x (v := (.agg #[s1.v])) hF hS (ex_loadA (vs := [s1.v]) 3 0 Try.underlying26 rfl sz26 rfl rfl rfl rfl) rfl rfl fun a hF => q_x (v := (.int .i64 e_13)) hF hS (ex_move rfl) rfl rfl fun a hF => q_x (v := (.pointer (some ⟨b7, 0, none⟩))) hF hS (ex_fieldAddr Try.underlying29 rfl sz3 rfl rfl) rfl rfl fun a hF => q_x (v := (.int .i64 p_t.Level)) hF hS (ex_load1 2 0 Try.underlying3 rfl rfl rfl rfl) rfl rfl fun a hF => ?_)
     obtain ⟨t_15, ht_15, hj4⟩ := bindS hj4
     refine q_call (vs := [(.agg #[s1.v]), (.int .i64 e_13), (.int .i64 p_t.Level)]) hF hS Try.func97 (by kernel_rfl) rfl rfl rfl (c_spec_gUp p_g e_13 p_t.Level t_15 ht_15 _ m hS.vis s1 h1) ?_
     rintro a w _ rfl hF hS
     refine q_x (v := (.bool (decide (0 ≤ t_15)))) hF hS (ex_ibin rfl rfl rfl) rfl rfl fun a hF => q_x (v := (.bool (decide (0 ≤ t_15)))) hF hS (ex_move rfl) rfl rfl fun a hF => ?_
     rcases bcase (decide (0 ≤ t_15)) with hc5 | hc5
     ·have hj4 := cond_f hc5 hj4
      refine q_skip hF (wanted_f hF rfl rfl rfl hc5 rfl) rfl fun a hF => q_skip hF (wanted_f hF rfl rfl rfl hc5 rfl) rfl fun a hF => q_skip hF (wanted_f hF rfl rfl rfl hc5 rfl) rfl fun a hF => q_skip hF (wanted_f hF rfl rfl rfl hc5 rfl) rfl fun a hF => q_skip hF (wanted_f hF rfl rfl rfl hc5 rfl) rfl fun a hF => q_skip hF (wanted_f hF rfl rfl rfl hc5 rfl) rfl fun a hF => q_x (v := (.bool false)) hF hS (ex_pick_f rfl rfl hc5) rfl rfl fun a hF => q_end (n_jn ?_)
      obtain rfl := someI hj4
      exact ⟨hF.sub ⟨rfl, rfl, rfl, rfl, rfl, rfl, rfl, trivial⟩, hS⟩
     ·have hj4 := cond_t hc5 hj4
      refine q_xg (v := (.agg #[s1.v])) hF hS (ex_loadA (vs := [s1.v]) 3 0 Try.underlying26 rfl sz26 rfl rfl rfl rfl) (wanted_t hF rfl rfl rfl hc5) rfl fun a hF => q_xg (v := (.int .i64 e_13)) hF hS (ex_move rfl) (wanted_t hF rfl rfl rfl hc5) rfl fun a hF => q_xg (v := (.pointer (some ⟨b8, 0, none⟩))) hF hS (ex_fieldAddr Try.underlying29 rfl sz3 rfl rfl) (wanted_t hF rfl rfl rfl hc5) rfl fun a hF => q_xg (v := (.int .i64 p_u.Level)) hF hS (ex_load1 1 0 Try.underlying3 rfl rfl rfl rfl) (wanted_t hF rfl rfl rfl hc5) rfl fun a hF => ?_
      obtain ⟨t_16, ht_16, hj4⟩ := bindS hj4
      refine q_callg (vs := [(.agg #[s1.v]), (.int .i64 e_13), (.int .i64 p_u.Level)]) hF hS (wanted_t hF rfl rfl rfl hc5) Try.func97 (by kernel_rfl) rfl rfl rfl (c_spec_gUp p_g e_13 p_u.Level t_16 ht_16 _ m hS.vis s1 h1) ?_
      rintro a w _ rfl hF hS
      refine q_xg (v := (.bool (decide (t_16 < 0)))) hF hS (ex_ibin rfl rfl rfl) (wanted_t hF rfl rfl rfl hc5) rfl fun a hF => q_x (v := (.bool (decide (t_16 < 0)))) hF hS (ex_pick_t rfl rfl hc5) rfl rfl fun a hF => q_end (n_jn ?_)
      obtain rfl := someI hj4
      exact ⟨hF.sub ⟨rfl, rfl, rfl, rfl, rfl, rfl, rfl, trivial⟩, hS⟩
    ·rintro a w ⟨hF, hS⟩
     refine n_sq ?_
     rcases bcase (t_17) with hc6 | hc6
     ·have hb2 := cond_f hc6 hb2
      refine q_cond_f hF rfl hc6 (q_skipc (n_ib (n_sq (q_region (q_x (v := (.int .i64 (w64 (t_12 + 1)))) hF hS (ex_ibin rfl rfl rfl) rfl rfl fun a hF => q_x (v := (.int .i64 (w64 (t_12 + 1)))) hF hS (ex_move rfl) rfl rfl fun a hF => q_end ?_)))))
      obtain rfl := someI hb2
      exact ⟨rfl, hF.sub ⟨rfl, rfl, rfl, rfl, rfl, rfl, trivial⟩, hS⟩
     ·have hb2 := cond_t hc6 hb2
      refine q_cond_t hF rfl hc6 (q_seq (q_region (q_x (v := (.bool false)) hF hS (ex_assign rfl) rfl rfl fun a hF => q_end (n_sq (q_ret (r_ib (r_sq ?_)))))))
      obtain rfl := someI hb2
      refine ⟨nofun, .inr fun ho => ?_⟩
      subst ho
      refine r_ib (r_sq ?_)
      obtain rfl := someI hr
      exact ret_of hF hS rfl (.tmp rfl .nil) rfl
  ·rintro e a w ⟨rfl, rfl, hF, hS⟩
   refine x_ib (n_sq ?_)
   refine q_seq (q_region (q_x (v := (.bool true)) hF hS (ex_assign rfl) rfl rfl fun a hF => q_end (n_sq (q_ret ?_))))
   obtain rfl := someI hr
   exact ret_of hF hS rfl (.tmp rfl .nil) rfl
 ·have hr := cond_t hc1 hr
  refine q_cond_t hF rfl hc1 (q_seq (q_region (q_x (v := (.pointer (some ⟨b7, 0, none⟩))) hF hS (ex_fieldAddr Try.underlying29 rfl sz3 rfl rfl) rfl rfl fun a hF => q_x (v := (.int .i64 p_t.Level)) hF hS (ex_load1 1 0 Try.underlying3 rfl rfl rfl rfl) rfl rfl fun a hF => q_x (v := (.pointer (some ⟨b8, 0, none⟩))) hF hS (ex_fieldAddr Try.underlying29 rfl sz3 rfl rfl) rfl rfl fun a hF => q_x (v := (.int .i64 p_u.Level)) hF hS (ex_load1 0 0 Try.underlying3 rfl rfl rfl rfl) rfl rfl fun a hF => q_x (v := (.bool (p_t.Level == p_u.Level))) hF hS (ex_ibin rfl rfl rfl) rfl rfl fun a hF => q_x (v := (.bool (p_t.Level == p_u.Level))) hF hS (ex_assign rfl) rfl rfl fun a hF => q_end (n_sq (q_ret (r_sq ?_))))))
  obtain rfl := someI hr
  exact ret_of hF hS rfl (.tmp rfl .nil) rfl

theorem c_spec_l1Has (p_l : List Int) (p_n : Int) (r : Bool) (hr : spec_l1Has p_l p_n = some r) (w0 : World) (m : Mem) (hv : Vis m w0) (s1 : Sl) (h1 : Rd m s1 p_l) :
  Ret Try.prog 73 [s1.v, (.int .i64 p_n)] w0 (fun v _ => v = (.bool r)) := by
 unfold spec_l1Has at hr
 refine ret_start Try.func73 rfl 17 rfl rfl m hv fun a hF hS => q_seq (q_region (q_x (v := (.bool false)) hF hS (ex_assign rfl) rfl rfl fun a hF => q_end (n_sq (q_seq (q_seq (q_region (q_x (v := s1.v) hF hS (ex_move rfl) rfl rfl fun a hF => q_x (v := (.int .i64 (goLen p_l))) hF hS (ex_len Try.underlying24 rfl h1.len) rfl rfl fun a hF => q_x (v := (.int .i64 0)) hF hS (ex_move rfl) rfl rfl fun a hF => q_end (n_sq (q_block ?_)))))))))
 obtain ⟨o1, hl1, hr⟩ := bindS hr
 refine q_loop (fun (t_2 : Int) a w => Fr a 17 [(1, (.int .i64 p_n)), (7, s1.v), (8, (.int .i64 (goLen p_l))), (9, (.int .i64 t_2))] ∧ St [] w0 w m []) (fun (o : (Unit) ⊕ (Bool)) e a w => o = .inl () ∧ e = .exit 0 ∧ Fr a 17 [] ∧ St [] w0 w m []) hl1 ⟨hF.sub ⟨rfl, rfl, rfl, rfl, trivial⟩, hS⟩ ?_ ?_
 ·clear hF hS
  rintro t_2 a w st ⟨hF, hS⟩ hb1
  unfold spec_l1Has_l1 at hb1
  refine q_seq (q_region (q_x (v := (.bool (decide (t_2 < (goLen p_l))))) hF hS (ex_ibin rfl rfl rfl) rfl rfl fun a hF => q_end (n_sq (q_seq ?_))))
  rcases bcase (decide (t_2 < (goLen p_l))) with hc2 | hc2
  ·have hb1 := cond_f hc2 hb1
   refine q_cond_f hF rfl hc2 (q_exit (x_sq ?_))
   obtain rfl := someI hb1
   exact ⟨nofun, .inl ⟨rfl, rfl, hF.sub trivial, hS⟩⟩
  ·have hb1 := cond_t hc2 hb1
   refine q_cond_t hF rfl hc2 (q_skipc (n_sq (q_seq (q_block (q_seq (q_region ?_))))))
   obtain ⟨e_3, he_3, hb1⟩ := bindS hb1
   obtain ⟨vs4, at4, d4⟩ := h1.at he_3 1 rfl
   obtain rfl : vs4 = [(.int .i64 e_3)] := d4
   refine q_x (v := (elP s1 (t_2.toNat * 1))) hF hS (ex_indexAddr Try.underlying24 sz3 rfl rfl (h1.idx he_3)) rfl rfl fun a hF => q_x (v := (.int .i64 e_3)) hF hS (ex_loadE1 0 Try.underlying3 rfl rfl ((at4).at) rfl rfl) rfl rfl fun a hF => q_x (v := (.int .i64 e_3)) hF hS (ex_assign rfl) rfl rfl fun a hF => q_end (n_sq (q_seq (q_region (q_x (v := (.int .i64 e_3)) hF hS (ex_move rfl) rfl rfl fun a hF => q_x (v := (.int .i64 p_n)) hF hS (ex_move rfl) rfl rfl fun a hF => q_x (v := (.bool (e_3 == p_n))) hF hS (ex_ibin rfl rfl rfl) rfl rfl fun a hF => q_end (n_sq ?_)))))
   rcases bcase (e_3 == p_n) with hc3 | hc3
   ·have hb1 := cond_f hc3 hb1
    refine q_cond_f hF rfl hc3 (q_skipc (n_ib (n_sq (q_region (q_x (v := (.int .i64 (w64 (t_2 + 1)))) hF hS (ex_ibin rfl rfl rfl) rfl rfl fun a hF => q_x (v := (.int .i64 (w64 (t_2 + 1)))) hF hS (ex_move rfl) rfl rfl fun a hF => q_end ?_)))))
    obtain rfl := someI hb1
    exact ⟨rfl, hF.sub ⟨rfl, rfl, rfl, rfl, trivial⟩, hS⟩
   ·have hb1 := cond_t hc3 hb1
    refine q_cond_t hF rfl hc3 (q_seq (q_region (q_x (v := (.bool true)) hF hS (ex_assign rfl) rfl rfl fun a hF => q_end (n_sq (q_ret (r_ib (r_sq ?_)))))))
    obtain rfl := someI hb1
    refine ⟨nofun, .inr fun ho => ?_⟩
    subst ho
    refine r_ib (r_sq ?_)
    obtain rfl := someI hr
    exact ret_of hF hS rfl (.tmp rfl .nil) rfl
 ·rintro e a w ⟨rfl, rfl, hF, hS⟩
  refine x_ib (n_sq ?_)
  refine q_seq (q_region (q_x (v := (.bool false)) hF hS (ex_assign rfl) rfl rfl fun a hF => q_end (n_sq (q_ret ?_))))
  obtain rfl := someI hr
  exact ret_of hF hS rfl (.tmp rfl .nil) rfl

theorem c_spec_eFull (p_s : List impl_Variable) (p_v : Int) (r : Int) (hr : spec_eFull p_s p_v = some r) (w0 : World) (m : Mem) (hv : Vis m w0) (s1 : Sl) (h1 : Rd m s1 p_s) :
  Ret Try.prog 95 [s1.v, (.int .i64 p_v)] w0 (fun v _ => v = (.int .i64 r)) := by
 unfold spec_eFull at hr
 refine ret_start Try.func95 rfl 13 rfl rfl m hv fun a hF hS => q_seq (q_region (q_x (v := (.int .i64 0)) hF hS (ex_assign rfl) rfl rfl fun a hF => q_end (n_sq (q_seq (q_region (q_x (v := s1.v) hF hS (ex_move rfl) rfl rfl fun a hF => q_x (v := (.int .i64 p_v)) hF hS (ex_move rfl) rfl rfl fun a hF => ?_))))))
 obtain ⟨e_2, he_2, hr⟩ := bindS hr
 obtain ⟨vs3, at3, d3⟩ := h1.at he_2 2 rfl
 obtain rfl : vs3 = [(strV e_2.Name), (.int .i64 e_2.Levels)] := d3
 refine q_x (v := (elP s1 (p_v.toNat * 2))) hF hS (ex_indexAddr Try.underlying27 sz58 rfl rfl (h1.idx he_2)) rfl rfl fun a hF => q_x (v := (elP s1 (p_v.toNat * 2 + 1))) hF hS (ex_fieldAddrE Try.underlying58 rfl sz3 rfl (h1.idx he_2) rfl) rfl rfl fun a hF => q_x (v := (.int .i64 e_2.Levels)) hF hS (ex_loadE1 1 Try.underlying3 rfl rfl ((at3).at) rfl rfl) rfl rfl fun a hF => q_x (v := (.int .u64 (IntKind.wrap .u64 e_2.Levels))) hF hS (ex_conv Try.underlying3 Try.underlying94 rfl) rfl rfl fun a hF => ?_
 obtain ⟨t_4, ht_4, hr⟩ := bindS hr
 refine q_x (v := (.int .i64 t_4)) hF hS (ex_shl rfl rfl ht_4) rfl rfl fun a hF => q_x (v := (.int .i64 (w64 (t_4 - 1)))) hF hS (ex_ibin rfl rfl rfl) rfl rfl fun a hF => q_x (v := (.int .i64 (w64 (t_4 - 1)))) hF hS (ex_assign rfl) rfl rfl fun a hF => q_end (n_sq (q_ret ?_))
 obtain rfl := someI hr
 exact ret_of hF hS rfl (.tmp rfl .nil) rfl

theorem c_spec_lSet (p_s : List impl_Variable) (p_t : impl_Table) (p_v : Int) (r : Int) (hr : spec_lSet p_s p_t p_v = some r) (w0 : World) (m : Mem) (hv : Vis m w0) (s1 : Sl) (h1 : Rd m s1 p_s) (s2 : Sl) (h2 : Rd m s2 p_t.Vars) (s3 : Sl) (h3 : Rd m s3 p_t.Where) :
  Ret Try.prog 70 [s1.v, (.agg #[(.int .i64 p_t.Level), s2.v, s3.v, (.int .i64 p_t.Sum)]), (.int .i64 p_v)] w0 (fun v _ => v = (.int .i64 r)) := by
 unfold spec_lSet at hr
 refine ret_start Try.func70 rfl 21 rfl rfl m hv fun a hF hS => q_seq (q_region (q_box (cs := [(.int .i64 p_t.Level), s2.v, s3.v, (.int .i64 p_t.Sum)]) hF hS rfl rfl rfl fun a w b4 hF hS => q_x (v := (.int .i64 0)) hF hS (ex_assign rfl) rfl rfl fun a hF => q_end (n_sq (q_seq (q_seq (q_region (q_x (v := (.pointer (some ⟨b4, 2, none⟩))) hF hS (ex_fieldAddr Try.underlying29 rfl sz24 rfl rfl) rfl rfl fun a hF => q_x (v := s3.v) hF hS (ex_load1 0 0 Try.underlying24 rfl rfl rfl rfl) rfl rfl fun a hF => q_x (v := (.int .i64 p_v)) hF hS (ex_move rfl) rfl rfl fun a hF => ?_)))))))
 obtain ⟨e_5, he_5, hr⟩ := bindS hr
 obtain ⟨vs6, at6, d6⟩ := h3.at he_5 1 rfl
 obtain rfl : vs6 = [(.int .i64 e_5)] := d6
 refine q_x (v := (elP s3 (p_v.toNat * 1))) hF hS (ex_indexAddr Try.underlying24 sz3 rfl rfl (h3.idx he_5)) rfl rfl fun a hF => q_x (v := (.int .i64 e_5)) hF hS (ex_loadE1 0 Try.underlying3 rfl rfl ((at6).at) rfl rfl) rfl rfl fun a hF => q_x (v := (.bool (e_5 == 0))) hF hS (ex_ibin rfl rfl rfl) rfl rfl fun a hF => q_end (n_sq ?_)
 rcases bcase (e_5 == 0) with hc1 | hc1
 ·have hr := cond_f hc1 hr
  refine q_cond_f hF rfl hc1 (q_skipc (n_sq (q_seq (q_region (q_x (v := (.pointer (some ⟨b4, 2, none⟩))) hF hS (ex_fieldAddr Try.underlying29 rfl sz24 rfl rfl) rfl rfl fun a hF => q_x (v := s3.v) hF hS (ex_load1 0 0 Try.underlying24 rfl rfl rfl rfl) rfl rfl fun a hF => q_x (v := (.int .i64 p_v)) hF hS (ex_move rfl) rfl rfl fun a hF => ?_)))))
  obtain ⟨e_7, he_7, hr⟩ := bindS hr
  obtain ⟨vs8, at8, d8⟩ := h3.at he_7 1 rfl
  obtain rfl : vs8 = [(.int .i64 e_7)] := d8
  refine q_x (v := (elP s3 (p_v.toNat * 1))) hF hS (ex_indexAddr Try.underlying24 sz3 rfl rfl (h3.idx he_7)) rfl rfl fun a hF => q_x (v := (.int .i64 e_7)) hF hS (ex_loadE1 0 Try.underlying3 rfl rfl ((at8).at) rfl rfl) rfl rfl fun a hF => q_x (v := (.int .i64 e_7)) hF hS (ex_assign rfl) rfl rfl fun a hF => q_end (n_sq (q_ret ?_))
  obtain rfl := someI hr
  exact ret_of hF hS rfl (.tmp rfl .nil) rfl
 ·have hr := cond_t hc1 hr
  refine q_cond_t hF rfl hc1 (q_seq (q_region (q_x (v := s1.v) hF hS (ex_move rfl) rfl rfl fun a hF => q_x (v := (.int .i64 p_v)) hF hS (ex_move rfl) rfl rfl fun a hF => ?_)))
  obtain ⟨t_9, ht_9, hr⟩ := bindS hr
  refine q_call (vs := [s1.v, (.int .i64 p_v)]) hF hS Try.func95 (by kernel_rfl) rfl rfl rfl (c_spec_eFull p_s p_v t_9 ht_9 _ m hS.vis s1 h1) ?_
  rintro a w _ rfl hF hS
  refine q_x (v := (.int .i64 t_9)) hF hS (ex_assign rfl) rfl rfl fun a hF => q_end (n_sq (q_ret (r_sq ?_)))
  obtain rfl := someI hr
  exact ret_of hF hS rfl (.tmp rfl .nil) rfl

theorem c_spec_lFollows (p_g : impl_Geo) (p_s : List impl_Variable) (p_t : impl_Table) (p_u : impl_Table) (r : Bool) (hr : spec_lFollows p_g p_s p_t p_u = some r) (w0 : World) (m : Mem) (hv : Vis m w0) (s1 : Sl) (h1 : Rd m s1 p_g.Parents) (s2 : Sl) (h2 : Rd m s2 p_s) (s3 : Sl) (h3 : Rd m s3 p_t.Vars) (s4 : Sl) (h4 : Rd m s4 p_t.Where) (s5 : Sl) (h5 : Rd m s5 p_u.Vars) (s6 : Sl) (h6 : Rd m s6 p_u.Where) :
  Ret Try.prog 37 [(.agg #[s1.v]), s2.v, (.agg #[(.int .i64 p_t.Level), s3.v, s4.v, (.int .i64 p_t.Sum)]), (.agg #[(.int .i64 p_u.Level), s5.v, s6.v, (.int .i64 p_u.Sum)])] w0 (fun v _ => v = (.bool r)) := by
 unfold spec_lFollows at hr
 refine ret_start Try.func37 rfl 83 rfl rfl m hv fun a hF hS => q_seq (q_region (q_box (cs := [s1.v]) hF hS rfl rfl rfl fun a w b7 hF hS => q_box (cs := [(.int .i64 p_t.Level), s3.v, s4.v, (.int .i64 p_t.Sum)]) hF hS rfl rfl rfl fun a w b8 hF hS => q_box (cs := [(.int .i64 p_u.Level), s5.v, s6.v, (.int .i64 p_u.Sum)]) hF hS rfl rfl rfl fun a w b9 hF hS => q_x (v := (.bool false)) hF hS (ex_assign rfl) rfl rfl fun a hF => q_end (n_sq (q_seq (q_seq ?_)))))
 obtain ⟨t_12, hj1, hr⟩ := bindS hr
 refine q_join (fun a w => Fr a 83 [(1, s2.v), (6, (.pointer (some ⟨b8, 0, none⟩))), (7, (.pointer (some ⟨b9, 0, none⟩))), (38, (.bool t_12))] ∧ St [] w0 w m [[⟨b9, [(.int .i64 p_u.Level), s5.v, s6.v, (.int .i64 p_u.Sum)], 29⟩], [⟨b8, [(.int .i64 p_t.Level), s3.v, s4.v, (.int .i64 p_t.Sum)], 29⟩]]) ?_ ?_
 ·refine q_region (q_x (v := (.agg #[s1.v])) hF hS (ex_loadA (vs := [s1.v]) 2 0 Try.underlying26 rfl sz26 rfl rfl rfl rfl) rfl rfl fun a hF => q_x (v := (.agg #[(.int .i64 p_t.Level), s3.v, s4.v, (.int .i64 p_t.Sum)])) hF hS (ex_loadA (vs := [(.int .i64 p_t.Level), s3.v, s4.v, (.int .i64 p_t.Sum)]) 1 0 Try.underlying29 rfl sz29 rfl rfl rfl rfl) rfl rfl fun a hF => q_x (v := (.agg #[(.int .i64 p_u.Level), s5.v, s6.v, (.int .i64 p_u.Sum)])) hF hS (ex_loadA (vs := [(.int .i64 p_u.Level), s5.v, s6.v, (.int .i64 p_u.Sum)]) 0 0 Try.underlying29 rfl sz29 rfl rfl rfl rfl) rfl rfl fun a hF => ?_)
  obtain ⟨t_10, ht_10, hj1⟩ := bindS hj1
  refine q_call (vs := [(.agg #[s1.v]), (.agg #[(.int .i64 p_t.Level), s3.v, s4.v, (.int .i64 p_t.Sum)]), (.agg #[(.int .i64 p_u.Level), s5.v, s6.v, (.int .i64 p_u.Sum)])]) hF hS Try.func72 (by kernel_rfl) rfl rfl rfl (c_spec_lLevels p_g p_t p_u t_10 ht_10 _ m hS.vis s1 h1 s3 h3 s4 h4 s5 h5 s6 h6) ?_
  rintro a w _ rfl hF hS
  refine q_x (v := (.bool (!t_10))) hF hS (ex_not rfl) rfl rfl fun a hF => q_x (v := (.bool (!t_10))) hF hS (ex_move rfl) rfl rfl fun a hF => ?_
  rcases bcase (!t_10) with hc2 | hc2
  ·have hj1 := cond_f hc2 hj1
   refine q_xg (v := (.pointer (some ⟨b8, 3, none⟩))) hF hS (ex_fieldAddr Try.underlying29 rfl sz3 rfl rfl) (wanted_t hF rfl rfl rfl hc2) rfl fun a hF => q_xg (v := (.int .i64 p_t.Sum)) hF hS (ex_load1 1 0 Try.underlying3 rfl rfl rfl rfl) (wanted_t hF rfl rfl rfl hc2) rfl fun a hF => q_xg (v := (.pointer (some ⟨b9, 3, none⟩))) hF hS (ex_fieldAddr Try.underlying29 rfl sz3 rfl rfl) (wanted_t hF rfl rfl rfl hc2) rfl fun a hF => q_xg (v := (.int .i64 p_u.Sum)) hF hS (ex_load1 0 0 Try.underlying3 rfl rfl rfl rfl) (wanted_t hF rfl rfl rfl hc2) rfl fun a hF => q_xg (v := (.bool (p_t.Sum != p_u.Sum))) hF hS (ex_ibin rfl rfl rfl) (wanted_t hF rfl rfl rfl hc2) rfl fun a hF => q_xg (v := (.bool (p_t.Sum != p_u.Sum))) hF hS (ex_move rfl) (wanted_t hF rfl rfl rfl hc2) rfl fun a hF => ?_
   rcases bcase (p_t.Sum != p_u.Sum) with hc3 | hc3
   ·have hj1 := cond_f hc3 hj1
    refine q_skip hF (wanted_f hF rfl rfl rfl hc3 rfl) rfl fun a hF => q_skip hF (wanted_f hF rfl rfl rfl hc3 rfl) rfl fun a hF => q_skip hF (wanted_f hF rfl rfl rfl hc3 rfl) rfl fun a hF => q_skip hF (wanted_f hF rfl rfl rfl hc3 rfl) rfl fun a hF => q_skip hF (wanted_u hF rfl rfl rfl) rfl fun a hF => q_skip hF (wanted_u hF rfl rfl rfl) rfl fun a hF => q_skip hF (wanted_u hF rfl rfl rfl) rfl fun a hF => q_skip hF (wanted_u hF rfl rfl rfl) rfl fun a hF => q_skip hF (wanted_u hF rfl rfl rfl) rfl fun a hF => q_skip hF (wanted_u hF rfl rfl rfl) rfl fun a hF => q_skip hF (wanted_f hF rfl rfl rfl hc3 rfl) rfl fun a hF => q_xg (v := (.bool false)) hF hS (ex_pick_f rfl rfl hc3) (wanted_t hF rfl rfl rfl hc2) rfl fun a hF => q_x (v := (.bool false)) hF hS (ex_pick_f rfl rfl hc2) rfl rfl fun a hF => q_end (n_jn ?_)
    obtain rfl := someI hj1
    exact ⟨hF.sub ⟨rfl, rfl, rfl, rfl, trivial⟩, hS.mask [true, true, false]⟩
   ·have hj1 := cond_t hc3 hj1
    refine q_xg (v := (.pointer (some ⟨b9, 3, none⟩))) hF hS (ex_fieldAddr Try.underlying29 rfl sz3 rfl rfl) (wanted_t hF rfl rfl rfl hc3) rfl fun a hF => q_xg (v := (.int .i64 p_u.Sum)) hF hS (ex_load1 0 0 Try.underlying3 rfl rfl rfl rfl) (wanted_t hF rfl rfl rfl hc3) rfl fun a hF => q_xg (v := (.bool (p_u.Sum != (-1)))) hF hS (ex_ibin rfl rfl rfl) (wanted_t hF rfl rfl rfl hc3) rfl fun a hF => q_xg (v := (.bool (p_u.Sum != (-1)))) hF hS (ex_move rfl) (wanted_t hF rfl rfl rfl hc3) rfl fun a hF => ?_
    rcases bcase (p_u.Sum != (-1)) with hc4 | hc4
    ·have hj1 := cond_f hc4 hj1
     refine q_xg (v := (.pointer (some ⟨b9, 1, none⟩))) hF hS (ex_fieldAddr Try.underlying29 rfl sz24 rfl rfl) (wanted_t hF rfl rfl rfl hc4) rfl fun a hF => q_xg (v := s5.v) hF hS (ex_load1 0 0 Try.underlying24 rfl rfl rfl rfl) (wanted_t hF rfl rfl rfl hc4) rfl fun a hF => q_xg (v := (.pointer (some ⟨b8, 3, none⟩))) hF hS (ex_fieldAddr Try.underlying29 rfl sz3 rfl rfl) (wanted_t hF rfl rfl rfl hc4) rfl fun a hF => q_xg (v := (.int .i64 p_t.Sum)) hF hS (ex_load1 1 0 Try.underlying3 rfl rfl rfl rfl) (wanted_t hF rfl rfl rfl hc4) rfl fun a hF => ?_
     obtain ⟨t_11, ht_11, hj1⟩ := bindS hj1
     refine q_callg (vs := [s5.v, (.int .i64 p_t.Sum)]) hF hS (wanted_t hF rfl rfl rfl hc4) Try.func73 (by kernel_rfl) rfl rfl rfl (c_spec_l1Has p_u.Vars p_t.Sum t_11 ht_11 _ m hS.vis s5 h5) ?_
     rintro a w _ rfl hF hS
     refine q_xg (v := (.bool (!t_11))) hF hS (ex_not rfl) (wanted_t hF rfl rfl rfl hc4) rfl fun a hF => q_xg (v := (.bool (!t_11))) hF hS (ex_pick_f rfl rfl hc4) (wanted_t hF rfl rfl rfl hc3) rfl fun a hF => q_xg (v := (.bool (!t_11))) hF hS (ex_pick_t rfl rfl hc3) (wanted_t hF rfl rfl rfl hc2) rfl fun a hF => q_x (v := (.bool (!t_11))) hF hS (ex_pick_f rfl rfl hc2) rfl rfl fun a hF => q_end (n_jn ?_)
     obtain rfl := someI hj1
     exact ⟨hF.sub ⟨rfl, rfl, rfl, rfl, trivial⟩, hS.mask [true, true, false]⟩
    ·have hj1 := cond_t hc4 hj1
     refine q_skip hF (wanted_f hF rfl rfl rfl hc4 rfl) rfl fun a hF => q_skip hF (wanted_f hF rfl rfl rfl hc4 rfl) rfl fun a hF => q_skip hF (wanted_f hF rfl rfl rfl hc4 rfl) rfl fun a hF => q_skip hF (wanted_f hF rfl rfl rfl hc4 rfl) rfl fun a hF => q_skip hF (wanted_f hF rfl rfl rfl hc4 rfl) rfl fun a hF => q_skip hF (wanted_f hF rfl rfl rfl hc4 rfl) rfl fun a hF => q_xg (v := (.bool true)) hF hS (ex_pick_t rfl rfl hc4) (wanted_t hF rfl rfl rfl hc3) rfl fun a hF => q_xg (v := (.bool true)) hF hS (ex_pick_t rfl rfl hc3) (wanted_t hF rfl rfl rfl hc2) rfl fun a hF => q_x (v := (.bool true)) hF hS (ex_pick_f rfl rfl hc2) rfl rfl fun a hF => q_end (n_jn ?_)
     obtain rfl := someI hj1
     exact ⟨hF.sub ⟨rfl, rfl, rfl, rfl, trivial⟩, hS.mask [true, true, false]⟩
  ·have hj1 := cond_t hc2 hj1
   refine q_skip hF (wanted_f hF rfl rfl rfl hc2 rfl) rfl fun a hF => q_skip hF (wanted_f hF rfl rfl rfl hc2 rfl) rfl fun a hF => q_skip hF (wanted_f hF rfl rfl rfl hc2 rfl) rfl fun a hF => q_skip hF (wanted_f hF rfl rfl rfl hc2 rfl) rfl fun a hF => q_skip hF (wanted_f hF rfl rfl rfl hc2 rfl) rfl fun a hF => q_skip hF (wanted_f hF rfl rfl rfl hc2 rfl) rfl fun a hF => q_skip hF (wanted_u hF rfl rfl rfl) rfl fun a hF => q_skip hF (wanted_u hF rfl rfl rfl) rfl fun a hF => q_skip hF (wanted_u hF rfl rfl rfl) rfl fun a hF => q_skip hF (wanted_u hF rfl rfl rfl) rfl fun a hF => q_skip hF (wanted_u hF rfl rfl rfl) rfl fun a hF => q_skip hF (wanted_u hF rfl rfl rfl) rfl fun a hF => q_skip hF (wanted_u hF rfl rfl rfl) rfl fun a hF => q_skip hF (wanted_u hF rfl rfl rfl) rfl fun a hF => q_skip hF (wanted_u hF rfl rfl rfl) rfl fun a hF => q_skip hF (wanted_u hF rfl rfl rfl) rfl fun a hF => q_skip hF (wanted_u hF rfl rfl rfl) rfl fun a hF => q_skip hF (wanted_f hF rfl rfl rfl hc2 rfl) rfl fun a hF => q_x (v := (.bool true)) hF hS (ex_pick_t rfl rfl hc2) rfl rfl fun a hF => q_end (n_jn ?_)
   obtain rfl := someI hj1
   exact ⟨hF.sub ⟨rfl, rfl, rfl, rfl, trivial⟩, hS.mask [true, true, false]⟩
 ·rintro a w ⟨hF, hS⟩
  refine n_sq ?_
  rcases bcase (t_12) with hc5 | hc5
  ·have hr := cond_f hc5 hr
   refine q_cond_f hF rfl hc5 (q_skipc (n_sq (q_seq (q_seq (q_region (q_x (v := (.pointer (some ⟨b8, 1, none⟩))) hF hS (ex_fieldAddr Try.underlying29 rfl sz24 rfl rfl) rfl rfl fun a hF => q_x (v := s3.v) hF hS (ex_load1 1 0 Try.underlying24 rfl rfl rfl rfl) rfl rfl fun a hF => q_x (v := (.int .i64 (goLen p_t.Vars))) hF hS (ex_len Try.underlying24 rfl h3.len) rfl rfl fun a hF => q_x (v := (.int .i64 0)) hF hS (ex_move rfl) rfl rfl fun a hF => q_end (n_sq (q_block ?_))))))))
   obtain ⟨o6, hl6, hr⟩ := bindS hr
   refine q_loop (fun (t_13 : Int) a w => Fr a 83 [(1, s2.v), (6, (.pointer (some ⟨b8, 0, none⟩))), (7, (.pointer (some ⟨b9, 0, none⟩))), (40, s3.v), (41, (.int .i64 (goLen p_t.Vars))), (42, (.int .i64 t_13))] ∧ St [] w0 w m [[⟨b9, [(.int .i64 p_u.Level), s5.v, s6.v, (.int .i64 p_u.Sum)], 29⟩], [⟨b8, [(.int .i64 p_t.Level), s3.v, s4.v, (.int .i64 p_t.Sum)], 29⟩]]) (fun (o : (Unit) ⊕ (Bool)) e a w => o = .inl () ∧ e = .exit 0 ∧ Fr a 83 [(1, s2.v), (6, (.pointer (some ⟨b8, 0, none⟩))), (7, (.pointer (some ⟨b9, 0, none⟩)))] ∧ St [] w0 w m [[⟨b9, [(.int .i64 p_u.Level), s5.v, s6.v, (.int .i64 p_u.Sum)], 29⟩], [⟨b8, [(.int .i64 p_t.Level), s3.v, s4.v, (.int .i64 p_t.Sum)], 29⟩]]) hl6 ⟨hF.sub ⟨rfl, rfl, rfl, rfl, rfl, rfl, trivial⟩, hS⟩ ?_ ?_
   ·clear hF hS
    rintro t_13 a w st ⟨hF, hS⟩ hb6
    unfold spec_lFollows_l1 at hb6
    refine q_seq (q_region (q_x (v := (.bool (decide (t_13 < (goLen p_t.Vars))))) hF hS (ex_ibin rfl rfl rfl) rfl rfl fun a hF => q_end (n_sq (q_seq ?_))))
    rcases bcase (decide (t_13 < (goLen p_t.Vars))) with hc7 | hc7
    ·have hb6 := cond_f hc7 hb6
     refine q_cond_f hF rfl hc7 (q_exit (x_sq ?_))
     obtain rfl := someI hb6
     exact ⟨nofun, .inl ⟨rfl, rfl, hF.sub ⟨rfl, rfl, rfl, trivial⟩, hS⟩⟩
    ·have hb6 := cond_t hc7 hb6
     refine q_cond_t hF rfl hc7 (q_skipc (n_sq (q_seq (q_block (q_seq (q_region ?_))))))
     obtain ⟨e_14, he_14, hb6⟩ := bindS hb6
     obtain ⟨vs15, at15, d15⟩ := h3.at he_14 1 rfl
     obtain rfl : vs15 = [(.int .i64 e_14)] := d15
     refine q_x (v := (elP s3 (t_13.toNat * 1))) hF hS (ex_indexAddr Try.underlying24 sz3 rfl rfl (h3.idx he_14)) rfl rfl fun a hF => q_x (v := (.int .i64 e_14)) hF hS (ex_loadE1 0 Try.underlying3 rfl rfl ((at15).at) rfl rfl) rfl rfl fun a hF => q_x (v := (.int .i64 e_14)) hF hS (ex_assign rfl) rfl rfl fun a hF => q_end (n_sq (q_seq (q_region (q_x (v := (.pointer (some ⟨b9, 1, none⟩))) hF hS (ex_fieldAddr Try.underlying29 rfl sz24 rfl rfl) rfl rfl fun a hF => q_x (v := s5.v) hF hS (ex_load1 0 0 Try.underlying24 rfl rfl rfl rfl) rfl rfl fun a hF => q_x (v := (.int .i64 e_14)) hF hS (ex_move rfl) rfl rfl fun a hF => ?_))))
     obtain ⟨t_16, ht_16, hb6⟩ := bindS hb6
     refine q_call (vs := [s5.v, (.int .i64 e_14)]) hF hS Try.func73 (by kernel_rfl) rfl rfl rfl (c_spec_l1Has p_u.Vars e_14 t_16 ht_16 _ m hS.vis s5 h5) ?_
     rintro a w _ rfl hF hS
     refine q_x (v := (.bool (!t_16))) hF hS (ex_not rfl) rfl rfl fun a hF => q_end (n_sq ?_)
     rcases bcase (!t_16) with hc8 | hc8
     ·have hb6 := cond_f hc8 hb6
      refine q_cond_f hF rfl hc8 (q_skipc (n_ib (n_sq (q_region (q_x (v := (.int .i64 (w64 (t_13 + 1)))) hF hS (ex_ibin rfl rfl rfl) rfl rfl fun a hF => q_x (v := (.int .i64 (w64 (t_13 + 1)))) hF hS (ex_move rfl) rfl rfl fun a hF => q_end ?_)))))
      obtain rfl := someI hb6
      exact ⟨rfl, hF.sub ⟨rfl, rfl, rfl, rfl, rfl, rfl, trivial⟩, hS⟩
     ·have hb6 := cond_t hc8 hb6
      refine q_cond_t hF rfl hc8 (q_seq (q_region (q_x (v := (.bool false)) hF hS (ex_assign rfl) rfl rfl fun a hF => q_end (n_sq (q_ret (r_ib (r_sq ?_)))))))
      obtain rfl := someI hb6
      refine ⟨nofun, .inr fun ho => ?_⟩
      subst ho
      refine r_ib (r_sq ?_)
      obtain rfl := someI hr
      exact ret_of hF hS rfl (.tmp rfl .nil) rfl
   ·rintro e a w ⟨rfl, rfl, hF, hS⟩
    refine x_ib (n_sq ?_)
    refine q_seq (q_seq (q_region (q_x (v := s2.v) hF hS (ex_move rfl) rfl rfl fun a hF => q_x (v := (.int .i64 (goLen p_s))) hF hS (ex_len Try.underlying27 rfl h2.len) rfl rfl fun a hF => q_x (v := (.int .i64 0)) hF hS (ex_move rfl) rfl rfl fun a hF => q_end (n_sq (q_block ?_)))))
    obtain ⟨o9, hl9, hr⟩ := bindS hr
    refine q_loop (fun (t_17 : Int) a w => Fr a 83 [(1, s2.v), (6, (.pointer (some ⟨b8, 0, none⟩))), (7, (.pointer (some ⟨b9, 0, none⟩))), (53, (.int .i64 (goLen p_s))), (54, (.int .i64 t_17))] ∧ St [] w0 w m [[⟨b9, [(.int .i64 p_u.Level), s5.v, s6.v, (.int .i64 p_u.Sum)], 29⟩], [⟨b8, [(.int .i64 p_t.Level), s3.v, s4.v, (.int .i64 p_t.Sum)], 29⟩]]) (fun (o : (Unit) ⊕ (Bool)) e a w => o = .inl () ∧ e = .exit 2 ∧ Fr a 83 [] ∧ St [] w0 w m []) hl9 ⟨hF.sub ⟨rfl, rfl, rfl, rfl, rfl, trivial⟩, hS⟩ ?_ ?_
    ·clear hF hS
     rintro t_17 a w st ⟨hF, hS⟩ hb9
     unfold spec_lFollows_l2 at hb9
     refine q_seq (q_region (q_x (v := (.bool (decide (t_17 < (goLen p_s))))) hF hS (ex_ibin rfl rfl rfl) rfl rfl fun a hF => q_end (n_sq (q_seq ?_))))
     rcases bcase (decide (t_17 < (goLen p_s))) with hc10 | hc10
     ·have hb9 := cond_f hc10 hb9
      refine q_cond_f hF rfl hc10 (q_exit (x_sq ?_))
      obtain rfl := someI hb9
      exact ⟨nofun, .inl ⟨rfl, rfl, hF.sub trivial, hS.mask [false, false]⟩⟩
     ·have hb9 := cond_t hc10 hb9
      refine q_cond_t hF rfl hc10 (q_skipc (n_sq (q_seq (q_block (q_seq (q_region (q_x (v := (.int .i64 t_17)) hF hS (ex_move rfl) rfl rfl fun a hF => q_x (v := (.int .i64 t_17)) hF hS (ex_assign rfl) rfl rfl fun a hF => q_end (n_sq (q_seq (e_region ⟨[], []⟩ mixed fun w' hw' => ?_))))))))))
      have hS := hS.below hw'
      refine e_p (v := s2.v) 0 hF rfl (ex_move rfl) rfl rfl (by kernel_rfl) (by kernel_rfl) (by kernel_rfl) fun a hF => e_x (v := (.agg #[(.int .i64 p_t.Level), s3.v, s4.v, (.int .i64 p_t.Sum)])) 1 hF hS rfl (ex_loadA (vs := [(.int .i64 p_t.Level), s3.v, s4.v, (.int .i64 p_t.Sum)]) 1 0 Try.underlying29 rfl sz29 rfl rfl rfl rfl) rfl rfl (by kernel_rfl) (by kernel_rfl) (by kernel_rfl) (by kernel_rfl) fun a hF => e_p (v := (.int .i64 t_17)) 2 hF rfl (ex_move rfl) rfl rfl (by kernel_rfl) (by kernel_rfl) (by kernel_rfl) fun a hF => e_p (v := s2.v) 4 hF rfl (ex_move rfl) rfl rfl (by kernel_rfl) (by kernel_rfl) (by kernel_rfl) fun a hF => e_x (v := (.agg #[(.int .i64 p_u.Level), s5.v, s6.v, (.int .i64 p_u.Sum)])) 5 hF hS rfl (ex_loadA (vs := [(.int .i64 p_u.Level), s5.v, s6.v, (.int .i64 p_u.Sum)]) 0 0 Try.underlying29 rfl sz29 rfl rfl rfl rfl) rfl rfl (by kernel_rfl) (by kernel_rfl) (by kernel_rfl) (by kernel_rfl) fun a hF => e_p (v := (.int .i64 t_17)) 6 hF rfl (ex_move rfl) rfl rfl (by kernel_rfl) (by kernel_rfl) (by kernel_rfl) fun a hF => e_one 3 (by kernel_rfl) ?_
      obtain ⟨t_21, ht_21, hb9⟩ := bindS hb9
      refine e_call (vs := [s2.v, (.agg #[(.int .i64 p_t.Level), s3.v, s4.v, (.int .i64 p_t.Sum)]), (.int .i64 t_17)]) hF hS rfl Try.func70 (by kernel_rfl) rfl rfl rfl (c_spec_lSet p_s p_t t_17 t_21 ht_21 _ m hS.vis s2 h2 s3 h3 s4 h4) ?_
      rintro a w _ rfl hF hS
      refine e_one 7 (by kernel_rfl) ?_
      obtain ⟨t_22, ht_22, hb9⟩ := bindS hb9
      refine e_call (vs := [s2.v, (.agg #[(.int .i64 p_u.Level), s5.v, s6.v, (.int .i64 p_u.Sum)]), (.int .i64 t_17)]) hF hS rfl Try.func70 (by kernel_rfl) rfl rfl rfl (c_spec_lSet p_s p_u t_17 t_22 ht_22 _ m hS.vis s2 h2 s5 h5 s6 h6) ?_
      rintro a w _ rfl hF hS
      refine e_p (v := (.int .i64 t_21)) 8 hF rfl (ex_assign rfl) rfl rfl (by kernel_rfl) (by kernel_rfl) (by kernel_rfl) fun a hF => e_p (v := (.int .i64 t_22)) 9 hF rfl (ex_assign rfl) rfl rfl (by kernel_rfl) (by kernel_rfl) (by kernel_rfl) fun a hF => e_end (by kernel_rfl) (n_sq ?_) _
      refine q_seq ?_
      obtain ⟨t_24, hj11, hb9⟩ := bindS hb9
      refine q_join (fun a w => Fr a 83 [(1, s2.v), (6, (.pointer (some ⟨b8, 0, none⟩))), (7, (.pointer (some ⟨b9, 0, none⟩))), (53, (.int .i64 (goLen p_s))), (54, (.int .i64 t_17)), (81, (.bool t_24))] ∧ St [] w0 w m [[⟨b9, [(.int .i64 p_u.Level), s5.v, s6.v, (.int .i64 p_u.Sum)], 29⟩], [⟨b8, [(.int .i64 p_t.Level), s3.v, s4.v, (.int .i64 p_t.Sum)], 29⟩]]) ?_ ?_
      ·refine q_region (q_x (v := (.int .i64 t_21)) hF hS (ex_move rfl) rfl rfl fun a hF => q_x (v := (.int .i64 t_22)) hF hS (ex_move rfl) rfl rfl fun a hF => q_x (v := (.bool (t_21 != t_22))) hF hS (ex_ibin rfl rfl rfl) rfl rfl fun a hF => q_x (v := (.bool (t_21 != t_22))) hF hS (ex_move rfl) rfl rfl fun a hF => ?_)
       rcases bcase (t_21 != t_22) with hc12 | hc12
       ·have hj11 := cond_f hc12 hj11
        refine q_skip hF (wanted_f hF rfl rfl rfl hc12 rfl) rfl fun a hF => q_skip hF (wanted_f hF rfl rfl rfl hc12 rfl) rfl fun a hF => q_skip hF (wanted_f hF rfl rfl rfl hc12 rfl) rfl fun a hF => q_skip hF (wanted_f hF rfl rfl rfl hc12 rfl) rfl fun a hF => q_skip hF (wanted_f hF rfl rfl rfl hc12 rfl) rfl fun a hF => q_skip hF (wanted_f hF rfl rfl rfl hc12 rfl) rfl fun a hF => q_skip hF (wanted_u hF rfl rfl rfl) rfl fun a hF => q_skip hF (wanted_u hF rfl rfl rfl) rfl fun a hF => q_skip hF (wanted_u hF rfl rfl rfl) rfl fun a hF => q_skip hF (wanted_u hF rfl rfl rfl) rfl fun a hF => q_skip hF (wanted_u hF rfl rfl rfl) rfl fun a hF => q_skip hF (wanted_f hF rfl rfl rfl hc12 rfl) rfl fun a hF => q_x (v := (.bool false)) hF hS (ex_pick_f rfl rfl hc12) rfl rfl fun a hF => q_end (n_jn ?_)
        obtain rfl := someI hj11
        exact ⟨hF.sub ⟨rfl, rfl, rfl, rfl, rfl, rfl, trivial⟩, hS⟩
       ·have hj11 := cond_t hc12 hj11
        refine q_xg (v := (.pointer (some ⟨b9, 1, none⟩))) hF hS (ex_fieldAddr Try.underlying29 rfl sz24 rfl rfl) (wanted_t hF rfl rfl rfl hc12) rfl fun a hF => q_xg (v := s5.v) hF hS (ex_load1 0 0 Try.underlying24 rfl rfl rfl rfl) (wanted_t hF rfl rfl rfl hc12) rfl fun a hF => q_xg (v := (.int .i64 t_17)) hF hS (ex_move rfl) (wanted_t hF rfl rfl rfl hc12) rfl fun a hF => ?_
        obtain ⟨t_23, ht_23, hj11⟩ := bindS hj11
        refine q_callg (vs := [s5.v, (.int .i64 t_17)]) hF hS (wanted_t hF rfl rfl rfl hc12) Try.func73 (by kernel_rfl) rfl rfl rfl (c_spec_l1Has p_u.Vars t_17 t_23 ht_23 _ m hS.vis s5 h5) ?_
        rintro a w _ rfl hF hS
        refine q_xg (v := (.bool (!t_23))) hF hS (ex_not rfl) (wanted_t hF rfl rfl rfl hc12) rfl fun a hF => q_xg (v := (.bool (!t_23))) hF hS (ex_move rfl) (wanted_t hF rfl rfl rfl hc12) rfl fun a hF => ?_
        rcases bcase (!t_23) with hc13 | hc13
        ·have hj11 := cond_f hc13 hj11
         refine q_xg (v := (.int .i64 t_21)) hF hS (ex_move rfl) (wanted_t hF rfl rfl rfl hc13) rfl fun a hF => q_xg (v := (.int .i64 t_22)) hF hS (ex_move rfl) (wanted_t hF rfl rfl rfl hc13) rfl fun a hF => q_xg (v := (.int .i64 (goBits .and .i64 t_21 t_22))) hF hS (ex_bits rfl rfl rfl) (wanted_t hF rfl rfl rfl hc13) rfl fun a hF => q_xg (v := (.int .i64 t_21)) hF hS (ex_move rfl) (wanted_t hF rfl rfl rfl hc13) rfl fun a hF => q_xg (v := (.bool ((goBits .and .i64 t_21 t_22) != t_21))) hF hS (ex_ibin rfl rfl rfl) (wanted_t hF rfl rfl rfl hc13) rfl fun a hF => q_xg (v := (.bool ((goBits .and .i64 t_21 t_22) != t_21))) hF hS (ex_pick_f rfl rfl hc13) (wanted_t hF rfl rfl rfl hc12) rfl fun a hF => q_x (v := (.bool ((goBits .and .i64 t_21 t_22) != t_21))) hF hS (ex_pick_t rfl rfl hc12) rfl rfl fun a hF => q_end (n_jn ?_)
         obtain rfl := someI hj11
         exact ⟨hF.sub ⟨rfl, rfl, rfl, rfl, rfl, rfl, trivial⟩, hS⟩
        ·have hj11 := cond_t hc13 hj11
         refine q_skip hF (wanted_f hF rfl rfl rfl hc13 rfl) rfl fun a hF => q_skip hF (wanted_f hF rfl rfl rfl hc13 rfl) rfl fun a hF => q_skip hF (wanted_f hF rfl rfl rfl hc13 rfl) rfl fun a hF => q_skip hF (wanted_f hF rfl rfl rfl hc13 rfl) rfl fun a hF => q_skip hF (wanted_f hF rfl rfl rfl hc13 rfl) rfl fun a hF => q_xg (v := (.bool true)) hF hS (ex_pick_t rfl rfl hc13) (wanted_t hF rfl rfl rfl hc12) rfl fun a hF => q_x (v := (.bool true)) hF hS (ex_pick_t rfl rfl hc12) rfl rfl fun a hF => q_end (n_jn ?_)
         obtain rfl := someI hj11
         exact ⟨hF.sub ⟨rfl, rfl, rfl, rfl, rfl, rfl, trivial⟩, hS⟩
      ·rintro a w ⟨hF, hS⟩
       refine n_sq ?_
       rcases bcase (t_24) with hc14 | hc14
       ·have hb9 := cond_f hc14 hb9
        refine q_cond_f hF rfl hc14 (q_skipc (n_ib (n_sq (q_region (q_x (v := (.int .i64 (w64 (t_17 + 1)))) hF hS (ex_ibin rfl rfl rfl) rfl rfl fun a hF => q_x (v := (.int .i64 (w64 (t_17 + 1)))) hF hS (ex_move rfl) rfl rfl fun a hF => q_end ?_)))))
        obtain rfl := someI hb9
        exact ⟨rfl, hF.sub ⟨rfl, rfl, rfl, rfl, rfl, trivial⟩, hS⟩
       ·have hb9 := cond_t hc14 hb9
        refine q_cond_t hF rfl hc14 (q_seq (q_region (q_x (v := (.bool false)) hF hS (ex_assign rfl) rfl rfl fun a hF => q_end (n_sq (q_ret (r_ib (r_sq ?_)))))))
        obtain rfl := someI hb9
        refine ⟨nofun, .inr fun ho => ?_⟩
        subst ho
        refine r_ib (r_sq ?_)
        obtain rfl := someI hr
        exact ret_of hF hS rfl (.tmp rfl .nil) rfl
    ·rintro e a w ⟨rfl, rfl, hF, hS⟩
     refine x_ib (n_sq ?_)
     refine q_seq (q_region (q_x (v := (.bool true)) hF hS (ex_assign rfl) rfl rfl fun a hF => q_end (n_sq (q_ret ?_))))
     obtain rfl := someI hr
     exact ret_of hF hS rfl (.tmp rfl .nil) rfl
  ·have hr := cond_t hc5 hr
   refine q_cond_t hF rfl hc5 (q_seq (q_region (q_x (v := (.bool false)) hF hS (ex_assign rfl) rfl rfl fun a hF => q_end (n_sq (q_ret (r_sq ?_))))))
   obtain rfl := someI hr
   exact ret_of hF hS rfl (.tmp rfl .nil) rfl

theorem c_spec_BaseTables (p_g : impl_Geo) (p_s : List impl_Variable) (p_l : List impl_Table) (r : (List Int) × Bool) (hr : spec_BaseTables p_g p_s p_l = some r) (w0 : World) (m : Mem) (hv : Vis m w0) (s1 : Sl) (h1 : Rd m s1 p_g.Parents) (s2 : Sl) (h2 : Rd m s2 p_s) (s3 : Sl) (h3 : Rd m s3 p_l) :
  Ret Try.prog 16 [(.agg #[s1.v]), s2.v, s3.v] w0 (fun v w => ∃ (q0' : Piece) (s0' : Sl), v = (.tuple #[s0'.v, (.bool r.2)]) ∧ St [] w0 w m [q0'] ∧ OwnL m 3 q0' s0' r.1) := by
 unfold spec_BaseTables at hr
 refine ret_start Try.func16 rfl 64 rfl rfl m hv fun a hF hS => q_seq (q_region (q_box (cs := [s1.v]) hF hS rfl rfl rfl fun a w b4 hF hS => q_x (v := nilS.v) hF hS (ex_assign rfl) rfl rfl fun a hF => q_x (v := (.bool false)) hF hS (ex_assign rfl) rfl rfl fun a hF => q_end (n_sq (q_seq (q_seq (q_region (q_x (v := (.agg #[s1.v])) hF hS (ex_loadA (vs := [s1.v]) 0 0 Try.underlying26 rfl sz26 rfl rfl rfl rfl) rfl rfl fun a hF => q_x (v := s2.v) hF hS (ex_move rfl) rfl rfl fun a hF => q_x (v := s3.v) hF hS (ex_move rfl) rfl rfl fun a hF => ?_)))))))
 obtain ⟨t_5, ht_5, hr⟩ := bindS hr
 refine q_call (vs := [(.agg #[s1.v]), s2.v, s3.v]) hF hS Try.func45 (by kernel_rfl) rfl rfl rfl (c_spec_nPlan p_g p_s p_l t_5 ht_5 _ m hS.vis s1 h1 s2 h2 s3 h3) ?_
 rintro a w _ rfl hF hS
 refine q_x (v := (.bool (!t_5))) hF hS (ex_not rfl) rfl rfl fun a hF => q_end (n_sq ?_)
 rcases bcase (!t_5) with hc1 | hc1
 ·have hr := cond_f hc1 hr
  refine q_cond_f hF rfl hc1 (q_skipc (n_sq (q_seq (q_region (q_x (v := nilS.v) hF hS (ex_assign rfl) rfl rfl fun a hF => q_end (n_sq (q_seq (q_seq (q_region (q_x (v := s3.v) hF hS (ex_move rfl) rfl rfl fun a hF => q_x (v := (.int .i64 (goLen p_l))) hF hS (ex_len Try.underlying37 rfl h3.len) rfl rfl fun a hF => q_x (v := (.int .i64 0)) hF hS (ex_move rfl) rfl rfl fun a hF => q_end (n_sq (q_block ?_))))))))))))
  obtain ⟨out_31, hl2, hr⟩ := bindS hr
  refine q_loop (fun (s : (List Int) × Int) a w => ∃ (q7 : Piece), ∃ (s7 : Sl), ∃ out_6, ∃ t_8, s = (out_6, t_8) ∧ Fr a 64 [(1, s2.v), (2, s3.v), (3, (.pointer (some ⟨b4, 0, none⟩))), (8, s7.v), (19, s3.v), (20, (.int .i64 (goLen p_l))), (21, (.int .i64 t_8))] ∧ St [] w0 w m [q7, [⟨b4, [s1.v], 26⟩]] ∧ OwnL m 3 q7 s7 out_6) (fun (out_31 : (List Int)) e a w => ∃ (q32 : Piece), ∃ (s32 : Sl), e = .exit 0 ∧ Fr a 64 [(8, s32.v)] ∧ St [] w0 w m [q32] ∧ OwnL m 3 q32 s32 out_31) hl2 ⟨[], nilS, _, _, rfl, hF.sub ⟨rfl, rfl, rfl, rfl, rfl, rfl, rfl, trivial⟩, hS.sel [1, 0] (by decide), (OwnL.nil (α := Int) m 3)⟩ ?_ ?_
  ·clear hF hS
   rintro s a w st ⟨q7, s7, out_6, t_8, rfl, hF, hS, h7⟩ hb2
   unfold spec_BaseTables_l1 at hb2
   refine q_seq (q_region (q_x (v := (.bool (decide (t_8 < (goLen p_l))))) hF hS (ex_ibin rfl rfl rfl) rfl rfl fun a hF => q_end (n_sq (q_seq ?_))))
   rcases bcase (decide (t_8 < (goLen p_l))) with hc3 | hc3
   ·have hb2 := cond_f hc3 hb2
    refine q_cond_f hF rfl hc3 (q_exit (x_sq ?_))
    obtain rfl := someI hb2
    exact ⟨nofun, .inl ⟨q7, s7, rfl, hF.sub ⟨rfl, trivial⟩, hS.mask [true, false], h7⟩⟩
   ·have hb2 := cond_t hc3 hb2
    refine q_cond_t hF rfl hc3 (q_skipc (n_sq (q_seq (q_block (q_seq (q_region (q_x (v := (.int .i64 t_8)) hF hS (ex_move rfl) rfl rfl fun a hF => ?_)))))))
    obtain ⟨e_9, he_9, hb2⟩ := bindS hb2
    obtain ⟨vs10, at10, d10⟩ := h3.at he_9 4 rfl
    obtain ⟨s11, s12, rfl, h11, h12⟩ : ∃ s11 s12 : Sl, vs10 = [(.int .i64 e_9.Level), s11.v, s12.v, (.int .i64 e_9.Sum)] ∧ Rd m s11 e_9.Vars ∧ Rd m s12 e_9.Where := d10
    refine q_x (v := (elP s3 (t_8.toNat * 4))) hF hS (ex_indexAddr Try.underlying37 sz29 rfl rfl (h3.idx he_9)) rfl rfl fun a hF => q_x (v := (.agg #[(.int .i64 e_9.Level), s11.v, s12.v, (.int .i64 e_9.Sum)])) hF hS (ex_loadEA (us := [(.int .i64 e_9.Level), s11.v, s12.v, (.int .i64 e_9.Sum)]) 0 Try.underlying29 rfl sz29 rfl ((at10).at) rfl rfl rfl) rfl rfl fun a hF => q_alloc (cs := [(.int .i64 0), nilS.v, nilS.v, (.int .i64 0)]) hF hS rfl rfl rfl fun a w b13 hF hS => q_x (v := (.int .i64 t_8)) hF hS (ex_assign rfl) rfl rfl fun a hF => q_store (vs := [(.int .i64 e_9.Level), s11.v, s12.v, (.int .i64 e_9.Sum)]) (cs' := [(.int .i64 e_9.Level), s11.v, s12.v, (.int .i64 e_9.Sum)]) 0 0 hF hS sz29 rfl rfl rfl rfl rfl rfl rfl rfl fun a w hF hS => q_end (n_sq (q_seq (q_region (q_x (v := (.bool true)) hF hS (ex_assign rfl) rfl rfl fun a hF => q_end (n_sq (q_seq (q_seq (q_region (q_x (v := s3.v) hF hS (ex_move rfl) rfl rfl fun a hF => q_x (v := (.int .i64 (goLen p_l))) hF hS (ex_len Try.underlying37 rfl h3.len) rfl rfl fun a hF => q_x (v := (.int .i64 0)) hF hS (ex_move rfl) rfl rfl fun a hF => q_end (n_sq (q_block ?_)))))))))))
    obtain ⟨base_25, hl4, hb2⟩ := bindS hb2
    refine q_loop (fun (s : Bool × Int) a w => ∃ base_14, ∃ t_15, s = (base_14, t_15) ∧ Fr a 64 [(1, s2.v), (2, s3.v), (3, (.pointer (some ⟨b4, 0, none⟩))), (8, s7.v), (9, (.int .i64 t_8)), (10, (.pointer (some ⟨b13, 0, none⟩))), (11, (.bool base_14)), (19, s3.v), (20, (.int .i64 (goLen p_l))), (21, (.int .i64 t_8)), (26, s3.v), (27, (.int .i64 (goLen p_l))), (28, (.int .i64 t_15))] ∧ St [] w0 w m [[⟨b13, [(.int .i64 e_9.Level), s11.v, s12.v, (.int .i64 e_9.Sum)], 29⟩], q7, [⟨b4, [s1.v], 26⟩]]) (fun (base_25 : Bool) e a w => e = .exit 2 ∧ Fr a 64 [(1, s2.v), (2, s3.v), (3, (.pointer (some ⟨b4, 0, none⟩))), (8, s7.v), (9, (.int .i64 t_8)), (11, (.bool base_25)), (19, s3.v), (20, (.int .i64 (goLen p_l))), (21, (.int .i64 t_8))] ∧ St [] w0 w m [q7, [⟨b4, [s1.v], 26⟩]]) hl4 ⟨_, _, rfl, hF.sub ⟨rfl, rfl, rfl, rfl, rfl, rfl, rfl, rfl, rfl, rfl, rfl, rfl, rfl, trivial⟩, hS⟩ ?_ ?_
    ·clear hF hS
     rintro s a w st ⟨base_14, t_15, rfl, hF, hS⟩ hb4
     unfold spec_BaseTables_l2 at hb4
     refine q_seq (q_region (q_x (v := (.bool (decide (t_15 < (goLen p_l))))) hF hS (ex_ibin rfl rfl rfl) rfl rfl fun a hF => q_end (n_sq (q_seq ?_))))
     rcases bcase (decide (t_15 < (goLen p_l))) with hc5 | hc5
     ·have hb4 := cond_f hc5 hb4
      refine q_cond_f hF rfl hc5 (q_exit (x_sq ?_))
      obtain rfl := someI hb4
      exact ⟨nofun, .inl ⟨rfl, hF.sub ⟨rfl, rfl, rfl, rfl, rfl, rfl, rfl, rfl, rfl, trivial⟩, hS.mask [false, true, true]⟩⟩
     ·have hb4 := cond_t hc5 hb4
      refine q_cond_t hF rfl hc5 (q_skipc (n_sq (q_seq (q_block (q_seq (q_region (q_x (v := (.int .i64 t_15)) hF hS (ex_move rfl) rfl rfl fun a hF => ?_)))))))
      obtain ⟨e_16, he_16, hb4⟩ := bindS hb4
      obtain ⟨vs17, at17, d17⟩ := h3.at he_16 4 rfl
      obtain ⟨s18, s19, rfl, h18, h19⟩ : ∃ s18 s19 : Sl, vs17 = [(.int .i64 e_16.Level), s18.v, s19.v, (.int .i64 e_16.Sum)] ∧ Rd m s18 e_16.Vars ∧ Rd m s19 e_16.Where := d17
      refine q_x (v := (elP s3 (t_15.toNat * 4))) hF hS (ex_indexAddr Try.underlying37 sz29 rfl rfl (h3.idx he_16)) rfl rfl fun a hF => q_x (v := (.agg #[(.int .i64 e_16.Level), s18.v, s19.v, (.int .i64 e_16.Sum)])) hF hS (ex_loadEA (us := [(.int .i64 e_16.Level), s18.v, s19.v, (.int .i64 e_16.Sum)]) 0 Try.underlying29 rfl sz29 rfl ((at17).at) rfl rfl rfl) rfl rfl fun a hF => q_alloc (cs := [(.int .i64 0), nilS.v, nilS.v, (.int .i64 0)]) hF hS rfl rfl rfl fun a w b20 hF hS => q_x (v := (.int .i64 t_15)) hF hS (ex_assign rfl) rfl rfl fun a hF => q_store (vs := [(.int .i64 e_16.Level), s18.v, s19.v, (.int .i64 e_16.Sum)]) (cs' := [(.int .i64 e_16.Level), s18.v, s19.v, (.int .i64 e_16.Sum)]) 0 0 hF hS sz29 rfl rfl rfl rfl rfl rfl rfl rfl fun a w hF hS => q_end (n_sq (q_seq ?_))
      obtain ⟨t_23, hj6, hb4⟩ := bindS hb4
      refine q_join (fun a w => Fr a 64 [(1, s2.v), (2, s3.v), (3, (.pointer (some ⟨b4, 0, none⟩))), (8, s7.v), (9, (.int .i64 t_8)), (10, (.pointer (some ⟨b13, 0, none⟩))), (11, (.bool base_14)), (19, s3.v), (20, (.int .i64 (goLen p_l))), (21, (.int .i64 t_8)), (26, s3.v), (27, (.int .i64 (goLen p_l))), (28, (.int .i64 t_15)), (55, (.bool t_23))] ∧ St [] w0 w m [q7, [⟨b13, [(.int .i64 e_9.Level), s11.v, s12.v, (.int .i64 e_9.Sum)], 29⟩], [⟨b4, [s1.v], 26⟩]]) ?_ ?_
      ·refine q_region (q_x (v := (.int .i64 t_15)) hF hS (ex_move rfl) rfl rfl fun a hF => q_x (v := (.int .i64 t_8)) hF hS (ex_move rfl) rfl rfl fun a hF => q_x (v := (.bool (t_15 != t_8))) hF hS (ex_ibin rfl rfl rfl) rfl rfl fun a hF => q_x (v := (.bool (t_15 != t_8))) hF hS (ex_move rfl) rfl rfl fun a hF => ?_)
       rcases bcase (t_15 != t_8) with hc7 | hc7
       ·have hj6 := cond_f hc7 hj6
        refine q_skip hF (wanted_f hF rfl rfl rfl hc7 rfl) rfl fun a hF => q_skip hF (wanted_f hF rfl rfl rfl hc7 rfl) rfl fun a hF => q_skip hF (wanted_f hF rfl rfl rfl hc7 rfl) rfl fun a hF => q_skip hF (wanted_f hF rfl rfl rfl hc7 rfl) rfl fun a hF => q_skip hF (wanted_f hF rfl rfl rfl hc7 rfl) rfl fun a hF => q_x (v := (.bool false)) hF hS (ex_pick_f rfl rfl hc7) rfl rfl fun a hF => q_x (v := (.bool false)) hF hS (ex_move rfl) rfl rfl fun a hF => q_skip hF (wanted_f hF rfl rfl rfl rfl rfl) rfl fun a hF => q_skip hF (wanted_f hF rfl rfl rfl rfl rfl) rfl fun a hF => q_skip hF (wanted_f hF rfl rfl rfl rfl rfl) rfl fun a hF => q_skip hF (wanted_f hF rfl rfl rfl rfl rfl) rfl fun a hF => q_skip hF (wanted_u hF rfl rfl rfl) rfl fun a hF => q_skip hF (wanted_u hF rfl rfl rfl) rfl fun a hF => q_skip hF (wanted_u hF rfl rfl rfl) rfl fun a hF => q_skip hF (wanted_u hF rfl rfl rfl) rfl fun a hF => q_skip hF (wanted_u hF rfl rfl rfl) rfl fun a hF => q_skip hF (wanted_u hF rfl rfl rfl) rfl fun a hF => q_skip hF (wanted_f hF rfl rfl rfl rfl rfl) rfl fun a hF => q_x (v := (.bool false)) hF hS (ex_pick_f rfl rfl rfl) rfl rfl fun a hF => q_end (n_jn ?_)
        obtain rfl := someI hj6
        exact ⟨hF.sub ⟨rfl, rfl, rfl, rfl, rfl, rfl, rfl, rfl, rfl, rfl, rfl, rfl, rfl, rfl, trivial⟩, hS.sel [2, 1, 3] (by decide)⟩
       ·have hj6 := cond_t hc7 hj6
        refine q_xg (v := (.agg #[s1.v])) hF hS (ex_loadA (vs := [s1.v]) 3 0 Try.underlying26 rfl sz26 rfl rfl rfl rfl) (wanted_t hF rfl rfl rfl hc7) rfl fun a hF => q_xg (v := s2.v) hF hS (ex_move rfl) (wanted_t hF rfl rfl rfl hc7) rfl fun a hF => q_xg (v := (.agg #[(.int .i64 e_9.Level), s11.v, s12.v, (.int .i64 e_9.Sum)])) hF hS (ex_loadA (vs := [(.int .i64 e_9.Level), s11.v, s12.v, (.int .i64 e_9.Sum)]) 1 0 Try.underlying29 rfl sz29 rfl rfl rfl rfl) (wanted_t hF rfl rfl rfl hc7) rfl fun a hF => q_xg (v := (.agg #[(.int .i64 e_16.Level), s18.v, s19.v, (.int .i64 e_16.Sum)])) hF hS (ex_loadA (vs := [(.int .i64 e_16.Level), s18.v, s19.v, (.int .i64 e_16.Sum)]) 0 0 Try.underlying29 rfl sz29 rfl rfl rfl rfl) (wanted_t hF rfl rfl rfl hc7) rfl fun a hF => ?_
        obtain ⟨t_21, ht_21, hj6⟩ := bindS hj6
        refine q_callg (vs := [(.agg #[s1.v]), s2.v, (.agg #[(.int .i64 e_9.Level), s11.v, s12.v, (.int .i64 e_9.Sum)]), (.agg #[(.int .i64 e_16.Level), s18.v, s19.v, (.int .i64 e_16.Sum)])]) hF hS (wanted_t hF rfl rfl rfl hc7) Try.func37 (by kernel_rfl) rfl rfl rfl (c_spec_lFollows p_g p_s e_9 e_16 t_21 ht_21 _ m hS.vis s1 h1 s2 h2 s11 h11 s12 h12 s18 h18 s19 h19) ?_
        rintro a w _ rfl hF hS
        refine q_x (v := (.bool t_21)) hF hS (ex_pick_t rfl rfl hc7) rfl rfl fun a hF => q_x (v := (.bool t_21)) hF hS (ex_move rfl) rfl rfl fun a hF => ?_
        rcases bcase (t_21) with hc8 | hc8
        ·have hj6 := cond_f hc8 hj6
         refine q_skip hF (wanted_f hF rfl rfl rfl hc8 rfl) rfl fun a hF => q_skip hF (wanted_f hF rfl rfl rfl hc8 rfl) rfl fun a hF => q_skip hF (wanted_f hF rfl rfl rfl hc8 rfl) rfl fun a hF => q_skip hF (wanted_f hF rfl rfl rfl hc8 rfl) rfl fun a hF => q_skip hF (wanted_u hF rfl rfl rfl) rfl fun a hF => q_skip hF (wanted_u hF rfl rfl rfl) rfl fun a hF => q_skip hF (wanted_u hF rfl rfl rfl) rfl fun a hF => q_skip hF (wanted_u hF rfl rfl rfl) rfl fun a hF => q_skip hF (wanted_u hF rfl rfl rfl) rfl fun a hF => q_skip hF (wanted_u hF rfl rfl rfl) rfl fun a hF => q_skip hF (wanted_f hF rfl rfl rfl hc8 rfl) rfl fun a hF => q_x (v := (.bool false)) hF hS (ex_pick_f rfl rfl hc8) rfl rfl fun a hF => q_end (n_jn ?_)
         obtain rfl := someI hj6
         exact ⟨hF.sub ⟨rfl, rfl, rfl, rfl, rfl, rfl, rfl, rfl, rfl, rfl, rfl, rfl, rfl, rfl, trivial⟩, hS.sel [2, 1, 3] (by decide)⟩
        ·have hj6 := cond_t hc8 hj6
         refine q_xg (v := (.int .i64 t_15)) hF hS (ex_move rfl) (wanted_t hF rfl rfl rfl hc8) rfl fun a hF => q_xg (v := (.int .i64 t_8)) hF hS (ex_move rfl) (wanted_t hF rfl rfl rfl hc8) rfl fun a hF => q_xg (v := (.bool (decide (t_15 < t_8)))) hF hS (ex_ibin rfl rfl rfl) (wanted_t hF rfl rfl rfl hc8) rfl fun a hF => q_xg (v := (.bool (decide (t_15 < t_8)))) hF hS (ex_move rfl) (wanted_t hF rfl rfl rfl hc8) rfl fun a hF => ?_
         rcases bcase (decide (t_15 < t_8)) with hc9 | hc9
         ·have hj6 := cond_f hc9 hj6
          refine q_xg (v := (.agg #[s1.v])) hF hS (ex_loadA (vs := [s1.v]) 3 0 Try.underlying26 rfl sz26 rfl rfl rfl rfl) (wanted_t hF rfl rfl rfl hc9) rfl fun a hF => q_xg (v := s2.v) hF hS (ex_move rfl) (wanted_t hF rfl rfl rfl hc9) rfl fun a hF => q_xg (v := (.agg #[(.int .i64 e_16.Level), s18.v, s19.v, (.int .i64 e_16.Sum)])) hF hS (ex_loadA (vs := [(.int .i64 e_16.Level), s18.v, s19.v, (.int .i64 e_16.Sum)]) 0 0 Try.underlying29 rfl sz29 rfl rfl rfl rfl) (wanted_t hF rfl rfl rfl hc9) rfl fun a hF => q_xg (v := (.agg #[(.int .i64 e_9.Level), s11.v, s12.v, (.int .i64 e_9.Sum)])) hF hS (ex_loadA (vs := [(.int .i64 e_9.Level), s11.v, s12.v, (.int .i64 e_9.Sum)]) 1 0 Try.underlying29 rfl sz29 rfl rfl rfl rfl) (wanted_t hF rfl rfl rfl hc9) rfl fun a hF => ?_
          obtain ⟨t_22, ht_22, hj6⟩ := bindS hj6
          refine q_callg (vs := [(.agg #[s1.v]), s2.v, (.agg #[(.int .i64 e_16.Level), s18.v, s19.v, (.int .i64 e_16.Sum)]), (.agg #[(.int .i64 e_9.Level), s11.v, s12.v, (.int .i64 e_9.Sum)])]) hF hS (wanted_t hF rfl rfl rfl hc9) Try.func37 (by kernel_rfl) rfl rfl rfl (c_spec_lFollows p_g p_s e_16 e_9 t_22 ht_22 _ m hS.vis s1 h1 s2 h2 s18 h18 s19 h19 s11 h11 s12 h12) ?_
          rintro a w _ rfl hF hS
          refine q_xg (v := (.bool (!t_22))) hF hS (ex_not rfl) (wanted_t hF rfl rfl rfl hc9) rfl fun a hF => q_xg (v := (.bool (!t_22))) hF hS (ex_pick_f rfl rfl hc9) (wanted_t hF rfl rfl rfl hc8) rfl fun a hF => q_x (v := (.bool (!t_22))) hF hS (ex_pick_t rfl rfl hc8) rfl rfl fun a hF => q_end (n_jn ?_)
          obtain rfl := someI hj6
          exact ⟨hF.sub ⟨rfl, rfl, rfl, rfl, rfl, rfl, rfl, rfl, rfl, rfl, rfl, rfl, rfl, rfl, trivial⟩, hS.sel [2, 1, 3] (by decide)⟩
         ·have hj6 := cond_t hc9 hj6
          refine q_skip hF (wanted_f hF rfl rfl rfl hc9 rfl) rfl fun a hF => q_skip hF (wanted_f hF rfl rfl rfl hc9 rfl) rfl fun a hF => q_skip hF (wanted_f hF rfl rfl rfl hc9 rfl) rfl fun a hF => q_skip hF (wanted_f hF rfl rfl rfl hc9 rfl) rfl fun a hF => q_skip hF (wanted_f hF rfl rfl rfl hc9 rfl) rfl fun a hF => q_skip hF (wanted_f hF rfl rfl rfl hc9 rfl) rfl fun a hF => q_xg (v := (.bool true)) hF hS (ex_pick_t rfl rfl hc9) (wanted_t hF rfl rfl rfl hc8) rfl fun a hF => q_x (v := (.bool true)) hF hS (ex_pick_t rfl rfl hc8) rfl rfl fun a hF => q_end (n_jn ?_)
          obtain rfl := someI hj6
          exact ⟨hF.sub ⟨rfl, rfl, rfl, rfl, rfl, rfl, rfl, rfl, rfl, rfl, rfl, rfl, rfl, rfl, trivial⟩, hS.sel [2, 1, 3] (by decide)⟩
      ·rintro a w ⟨hF, hS⟩
       refine n_sq ?_
       obtain ⟨base_24, hj10, hb4⟩ := bindS hb4
       refine q_join (fun a w => Fr a 64 [(1, s2.v), (2, s3.v), (3, (.pointer (some ⟨b4, 0, none⟩))), (8, s7.v), (9, (.int .i64 t_8)), (10, (.pointer (some ⟨b13, 0, none⟩))), (11, (.bool base_24)), (19, s3.v), (20, (.int .i64 (goLen p_l))), (21, (.int .i64 t_8)), (26, s3.v), (27, (.int .i64 (goLen p_l))), (28, (.int .i64 t_15))] ∧ St [] w0 w m [q7, [⟨b13, [(.int .i64 e_9.Level), s11.v, s12.v, (.int .i64 e_9.Sum)], 29⟩], [⟨b4, [s1.v], 26⟩]]) ?_ ?_
       ·rcases bcase (t_23) with hc11 | hc11
        ·have hj10 := cond_f hc11 hj10
         refine q_cond_f hF rfl hc11 (q_skipc (n_jn ?_))
         obtain rfl := someI hj10
         exact ⟨hF.sub ⟨rfl, rfl, rfl, rfl, rfl, rfl, rfl, rfl, rfl, rfl, rfl, rfl, rfl, trivial⟩, hS⟩
        ·have hj10 := cond_t hc11 hj10
         refine q_cond_t hF rfl hc11 (q_region (q_x (v := (.bool false)) hF hS (ex_assign rfl) rfl rfl fun a hF => q_end (n_jn ?_)))
         obtain rfl := someI hj10
         exact ⟨hF.sub ⟨rfl, rfl, rfl, rfl, rfl, rfl, rfl, rfl, rfl, rfl, rfl, rfl, rfl, trivial⟩, hS⟩
       ·rintro a w ⟨hF, hS⟩
        refine n_ib (n_sq ?_)
        refine q_region (q_x (v := (.int .i64 (w64 (t_15 + 1)))) hF hS (ex_ibin rfl rfl rfl) rfl rfl fun a hF => q_x (v := (.int .i64 (w64 (t_15 + 1)))) hF hS (ex_move rfl) rfl rfl fun a hF => q_end ?_)
        obtain rfl := someI hb4
        exact ⟨rfl, _, _, rfl, hF.sub ⟨rfl, rfl, rfl, rfl, rfl, rfl, rfl, rfl, rfl, rfl, rfl, rfl, rfl, trivial⟩, hS.sel [1, 0, 2] (by decide)⟩
    ·rintro e a w ⟨rfl, hF, hS⟩
     refine x_ib (n_sq ?_)
     refine q_seq (q_region (q_x (v := (.bool base_25)) hF hS (ex_move rfl) rfl rfl fun a hF => q_end (n_sq ?_)))
     obtain ⟨out_29, hj12, hb2⟩ := bindS hb2
     refine q_join (fun a w => ∃ (q30 : Piece), ∃ (s30 : Sl), Fr a 64 [(1, s2.v), (2, s3.v), (3, (.pointer (some ⟨b4, 0, none⟩))), (8, s30.v), (19, s3.v), (20, (.int .i64 (goLen p_l))), (21, (.int .i64 t_8))] ∧ St [] w0 w m [q30, [⟨b4, [s1.v], 26⟩]] ∧ OwnL m 3 q30 s30 out_29) ?_ ?_
     ·rcases bcase (base_25) with hc13 | hc13
      ·have hj12 := cond_f hc13 hj12
       refine q_cond_f hF rfl hc13 (q_skipc (n_jn ?_))
       obtain rfl := someI hj12
       exact ⟨q7, s7, hF.sub ⟨rfl, rfl, rfl, rfl, rfl, rfl, rfl, trivial⟩, hS, h7⟩
      ·have hj12 := cond_t hc13 hj12
       refine q_cond_t hF rfl hc13 (q_region (q_x (v := s7.v) hF hS (ex_move rfl) rfl rfl fun a hF => q_x (v := (.int .i64 t_8)) hF hS (ex_move rfl) rfl rfl fun a hF => q_do rfl fun _ hK => wp_buildSlice' (l := ([t_8] : List Int)) (cells := [(.int .i64 t_8)]) hF hS Try.underlying24 inf3 rfl rfl (by kernel_rfl) rfl rfl rfl ⟨rfl, rfl⟩ rfl rfl fun a w q26 s26 hF hS h26 _ => hK _ _ ?_))
       have hS : St _ _ _ _ [q7, q26, [⟨b4, [s1.v], 26⟩]] := hS.sel [1, 0, 2] (by decide)
       obtain ⟨l_27, hl_27, hj12⟩ := bindS hj12
       refine q_do rfl fun _ hK => wp_append hF hS h7 Try.underlying24 inf3 rfl rfl rfl rfl (h26.vw hS (j := 1) rfl) rfl (by decide) hl_27 rfl fun a w q28 s28 hF hS h28 => hK _ _ (q_x (v := s28.v) hF hS (ex_assign rfl) rfl rfl fun a hF => q_end (n_jn ?_))
       obtain rfl := someI hj12
       exact ⟨q28, s28, hF.sub ⟨rfl, rfl, rfl, rfl, rfl, rfl, rfl, trivial⟩, hS.mask [true, false, true], h28⟩
     ·rintro a w ⟨q30, s30, hF, hS, h30⟩
      refine n_ib (n_sq ?_)
      refine q_region (q_x (v := (.int .i64 (w64 (t_8 + 1)))) hF hS (ex_ibin rfl rfl rfl) rfl rfl fun a hF => q_x (v := (.int .i64 (w64 (t_8 + 1)))) hF hS (ex_move rfl) rfl rfl fun a hF => q_end ?_)
      obtain rfl := someI hb2
      exact ⟨rfl, q30, s30, _, _, rfl, hF.sub ⟨rfl, rfl, rfl, rfl, rfl, rfl, rfl, trivial⟩, hS, h30⟩
  ·rintro e a w ⟨q32, s32, rfl, hF, hS, h32⟩
   refine x_ib (n_sq ?_)
   refine q_seq (q_region (q_x (v := s32.v) hF hS (ex_move rfl) rfl rfl fun a hF => q_x (v := s32.v) hF hS (ex_assign rfl) rfl rfl fun a hF => q_x (v := (.bool true)) hF hS (ex_assign rfl) rfl rfl fun a hF => q_end (n_sq (q_ret ?_))))
   obtain rfl := someI hr
   exact ret_of hF hS rfl (.tmp rfl (.tmp rfl .nil)) ⟨q32, s32, rfl, hS.sel [0] (by decide), h32⟩
 ·have hr := cond_t hc1 hr
  refine q_cond_t hF rfl hc1 (q_seq (q_region (q_x (v := nilS.v) hF hS (ex_assign rfl) rfl rfl fun a hF => q_x (v := (.bool false)) hF hS (ex_assign rfl) rfl rfl fun a hF => q_end (n_sq (q_ret (r_sq ?_))))))
  obtain rfl := someI hr
  exact ret_of hF hS rfl (.tmp rfl (.tmp rfl .nil)) ⟨[], nilS, rfl, hS.sel [1] (by decide), (OwnL.nil (α := Int) m 3)⟩

theorem c_laws_sameInts (p_a : List Int) (p_b : List Int) (r : Bool) (hr : laws_sameInts p_a p_b = some r) (w0 : World) (m : Mem) (hv : Vis m w0) (s1 : Sl) (h1 : Rd m s1 p_a) (s2 : Sl) (h2 : Rd m s2 p_b) :
  Ret Try.prog 17 [s1.v, s2.v] w0 (fun v _ => v = (.bool r)) := by
 unfold laws_sameInts at hr
 refine ret_start Try.func17 rfl 26 rfl rfl m hv fun a hF hS => q_seq (q_region (q_x (v := (.bool false)) hF hS (ex_assign rfl) rfl rfl fun a hF => q_end (n_sq (q_seq (q_seq (q_region (q_x (v := s1.v) hF hS (ex_move rfl) rfl rfl fun a hF => q_x (v := (.int .i64 (goLen p_a))) hF hS (ex_len Try.underlying24 rfl h1.len) rfl rfl fun a hF => q_x (v := s2.v) hF hS (ex_move rfl) rfl rfl fun a hF => q_x (v := (.int .i64 (goLen p_b))) hF hS (ex_len Try.underlying24 rfl h2.len) rfl rfl fun a hF => q_x (v := (.bool ((goLen p_a) != (goLen p_b)))) hF hS (ex_ibin rfl rfl rfl) rfl rfl fun a hF => q_end (n_sq ?_))))))))
 rcases bcase ((goLen p_a) != (goLen p_b)) with hc1 | hc1
 ·have hr := cond_f hc1 hr
  refine q_cond_f hF rfl hc1 (q_skipc (n_sq (q_seq (q_seq (q_region (q_x (v := s1.v) hF hS (ex_move rfl) rfl rfl fun a hF => q_x (v := (.int .i64 (goLen p_a))) hF hS (ex_len Try.underlying24 rfl h1.len) rfl rfl fun a hF => q_x (v := (.int .i64 0)) hF hS (ex_move rfl) rfl rfl fun a hF => q_end (n_sq (q_block ?_))))))))
  obtain ⟨o2, hl2, hr⟩ := bindS hr
  refine q_loop (fun (t_3 : Int) a w => Fr a 26 [(0, s1.v), (1, s2.v), (12, (.int .i64 (goLen p_a))), (13, (.int .i64 t_3))] ∧ St [] w0 w m []) (fun (o : (Unit) ⊕ (Bool)) e a w => o = .inl () ∧ e = .exit 0 ∧ Fr a 26 [] ∧ St [] w0 w m []) hl2 ⟨hF.sub ⟨rfl, rfl, rfl, rfl, trivial⟩, hS⟩ ?_ ?_
  ·clear hF hS
   rintro t_3 a w st ⟨hF, hS⟩ hb2
   unfold laws_sameInts_l1 at hb2
   refine q_seq (q_region (q_x (v := (.bool (decide (t_3 < (goLen p_a))))) hF hS (ex_ibin rfl rfl rfl) rfl rfl fun a hF => q_end (n_sq (q_seq ?_))))
   rcases bcase (decide (t_3 < (goLen p_a))) with hc3 | hc3
   ·have hb2 := cond_f hc3 hb2
    refine q_cond_f hF rfl hc3 (q_exit (x_sq ?_))
    obtain rfl := someI hb2
    exact ⟨nofun, .inl ⟨rfl, rfl, hF.sub trivial, hS⟩⟩
   ·have hb2 := cond_t hc3 hb2
    refine q_cond_t hF rfl hc3 (q_skipc (n_sq (q_seq (q_block (q_seq (q_region (q_x (v := (.int .i64 t_3)) hF hS (ex_move rfl) rfl rfl fun a hF => q_x (v := (.int .i64 t_3)) hF hS (ex_assign rfl) rfl rfl fun a hF => q_end (n_sq (q_seq (e_region ⟨[], []⟩ mixed fun w' hw' => ?_))))))))))
    have hS := hS.below hw'
    refine e_p (v := s1.v) 0 hF rfl (ex_move rfl) rfl rfl (by kernel_rfl) (by kernel_rfl) (by kernel_rfl) fun a hF => e_p (v := (.int .i64 t_3)) 1 hF rfl (ex_move rfl) rfl rfl (by kernel_rfl) (by kernel_rfl) (by kernel_rfl) fun a hF => ?_
    obtain ⟨e_4, he_4, hb2⟩ := bindS hb2
    obtain ⟨vs5, at5, d5⟩ := h1.at he_4 1 rfl
    obtain rfl : vs5 = [(.int .i64 e_4)] := d5
    refine e_p (v := (elP s1 (t_3.toNat * 1))) 2 hF rfl (ex_indexAddr Try.underlying24 sz3 rfl rfl (h1.idx he_4)) rfl rfl (by kernel_rfl) (by kernel_rfl) (by kernel_rfl) fun a hF => e_x (v := (.int .i64 e_4)) 3 hF hS rfl (ex_loadE1 0 Try.underlying3 rfl rfl ((at5).at) rfl rfl) rfl rfl (by kernel_rfl) (by kernel_rfl) (by kernel_rfl) (by kernel_rfl) fun a hF => e_p (v := s2.v) 4 hF rfl (ex_move rfl) rfl rfl (by kernel_rfl) (by kernel_rfl) (by kernel_rfl) fun a hF => e_p (v := (.int .i64 t_3)) 5 hF rfl (ex_move rfl) rfl rfl (by kernel_rfl) (by kernel_rfl) (by kernel_rfl) fun a hF => ?_
    obtain ⟨e_6, he_6, hb2⟩ := bindS hb2
    obtain ⟨vs7, at7, d7⟩ := h2.at he_6 1 rfl
    obtain rfl : vs7 = [(.int .i64 e_6)] := d7
    refine e_p (v := (elP s2 (t_3.toNat * 1))) 6 hF rfl (ex_indexAddr Try.underlying24 sz3 rfl rfl (h2.idx he_6)) rfl rfl (by kernel_rfl) (by kernel_rfl) (by kernel_rfl) fun a hF => e_x (v := (.int .i64 e_6)) 7 hF hS rfl (ex_loadE1 0 Try.underlying3 rfl rfl ((at7).at) rfl rfl) rfl rfl (by kernel_rfl) (by kernel_rfl) (by kernel_rfl) (by kernel_rfl) fun a hF => e_p (v := (.bool (e_4 != e_6))) 8 hF rfl (ex_ibin rfl rfl rfl) rfl rfl (by kernel_rfl) (by kernel_rfl) (by kernel_rfl) fun a hF => e_end (by kernel_rfl) (n_sq ?_) _
    rcases bcase (e_4 != e_6) with hc4 | hc4
    ·have hb2 := cond_f hc4 hb2
     refine q_cond_f hF rfl hc4 (q_skipc (n_ib (n_sq (q_region (q_x (v := (.int .i64 (w64 (t_3 + 1)))) hF hS (ex_ibin rfl rfl rfl) rfl rfl fun a hF => q_x (v := (.int .i64 (w64 (t_3 + 1)))) hF hS (ex_move rfl) rfl rfl fun a hF => q_end ?_)))))
     obtain rfl := someI hb2
     exact ⟨rfl, hF.sub ⟨rfl, rfl, rfl, rfl, trivial⟩, hS⟩
    ·have hb2 := cond_t hc4 hb2
     refine q_cond_t hF rfl hc4 (q_seq (q_region (q_x (v := (.bool false)) hF hS (ex_assign rfl) rfl rfl fun a hF => q_end (n_sq (q_ret (r_ib (r_sq ?_)))))))
     obtain rfl := someI hb2
     refine ⟨nofun, .inr fun ho => ?_⟩
     subst ho
     refine r_ib (r_sq ?_)
     obtain rfl := someI hr
     exact ret_of hF hS rfl (.tmp rfl .nil) rfl
  ·rintro e a w ⟨rfl, rfl, hF, hS⟩
   refine x_ib (n_sq ?_)
   refine q_seq (q_region (q_x (v := (.bool true)) hF hS (ex_assign rfl) rfl rfl fun a hF => q_end (n_sq (q_ret ?_))))
   obtain rfl := someI hr
   exact ret_of hF hS rfl (.tmp rfl .nil) rfl
 ·have hr := cond_t hc1 hr
  refine q_cond_t hF rfl hc1 (q_seq (q_region (q_x (v := (.bool false)) hF hS (ex_assign rfl) rfl rfl fun a hF => q_end (n_sq (q_ret (r_sq ?_))))))
  obtain rfl := someI hr
  exact ret_of hF hS rfl (.tmp rfl .nil) rfl

theorem c_impl_CoversPlan_1 (p_u : impl_Table) (p_x1 : impl_Geo) (p_x2 : List impl_Variable) (p_x3 : impl_Table) (r : Bool) (hr : impl_CoversPlan_1 p_u p_x1 p_x2 p_x3 = some r) (w0 : World) (m : Mem) (b_p_x1 : Nat) (b_p_x2 : Nat) (b_p_x3 : Nat) (s1 : Sl) (h1 : Rd m s1 p_u.Vars) (s2 : Sl) (h2 : Rd m s2 p_u.Where) (s3 : Sl) (h3 : Rd m s3 p_x1.Parents) (s4 : Sl) (h4 : Rd m s4 p_x2) (s5 : Sl) (h5 : Rd m s5 p_x3.Vars) (s6 : Sl) (h6 : Rd m s6 p_x3.Where) (X : List Nat) (hS : St X w0 w0 m [[⟨b_p_x1, [s3.v], 26⟩], [⟨b_p_x2, [s4.v], 27⟩], [⟨b_p_x3, [(.int .i64 p_x3.Level), s5.v, s6.v, (.int .i64 p_x3.Sum)], 29⟩]]) :
  RetX Try.prog 44 [(.agg #[(.int .i64 p_u.Level), s1.v, s2.v, (.int .i64 p_u.Sum)]), (.pointer (some ⟨b_p_x1, 0, none⟩)), (.pointer (some ⟨b_p_x2, 0, none⟩)), (.pointer (some ⟨b_p_x3, 0, none⟩))] w0 (fun v w => v = (.bool r) ∧ St X w0 w m [[⟨b_p_x1, [s3.v], 26⟩], [⟨b_p_x2, [s4.v], 27⟩], [⟨b_p_x3, [(.int .i64 p_x3.Level), s5.v, s6.v, (.int .i64 p_x3.Sum)], 29⟩]]) := by
 unfold impl_CoversPlan_1 at hr
 refine ret_startX Try.func44 rfl 11 rfl rfl fun a hF => q_seq (q_region (q_box (cs := [(.int .i64 p_u.Level), s1.v, s2.v, (.int .i64 p_u.Sum)]) hF hS rfl rfl rfl fun a w b7 hF hS => q_x (v := (.bool false)) hF hS (ex_assign rfl) rfl rfl fun a hF => q_end (n_sq (q_seq (q_region (q_x (v := (.agg #[s3.v])) hF hS (ex_loadA (vs := [s3.v]) 1 0 Try.underlying26 rfl sz26 rfl rfl rfl rfl) rfl rfl fun a hF => q_x (v := s4.v) hF hS (ex_load1 2 0 Try.underlying27 rfl rfl rfl rfl) rfl rfl fun a hF => q_x (v := (.agg #[(.int .i64 p_x3.Level), s5.v, s6.v, (.int .i64 p_x3.Sum)])) hF hS (ex_loadA (vs := [(.int .i64 p_x3.Level), s5.v, s6.v, (.int .i64 p_x3.Sum)]) 3 0 Try.underlying29 rfl sz29 rfl rfl rfl rfl) rfl rfl fun a hF => q_x (v := (.agg #[(.int .i64 p_u.Level), s1.v, s2.v, (.int .i64 p_u.Sum)])) hF hS (ex_loadA (vs := [(.int .i64 p_u.Level), s1.v, s2.v, (.int .i64 p_u.Sum)]) 0 0 Try.underlying29 rfl sz29 rfl rfl rfl rfl) rfl rfl fun a hF => ?_))))))
 obtain ⟨t_8, ht_8, hr⟩ := bindS hr
 refine q_call (vs := [(.agg #[s3.v]), s4.v, (.agg #[(.int .i64 p_x3.Level), s5.v, s6.v, (.int .i64 p_x3.Sum)]), (.agg #[(.int .i64 p_u.Level), s1.v, s2.v, (.int .i64 p_u.Sum)])]) hF hS Try.func34 (by kernel_rfl) rfl rfl rfl (c_impl_followsFrom p_x1 p_x2 p_x3 p_u t_8 ht_8 _ m hS.vis s3 h3 s4 h4 s5 h5 s6 h6 s1 h1 s2 h2) ?_
 rintro a w _ rfl hF hS
 refine q_x (v := (.bool t_8)) hF hS (ex_assign rfl) rfl rfl fun a hF => q_end (n_sq (q_ret ?_))
 obtain rfl := someI hr
 exact ret_ofX hF hS rfl (.tmp rfl .nil) ⟨rfl, hS.sel [1, 2, 3] (by decide)⟩

theorem c_slices_IndexFunc_impl_Table_impl_Table_of_impl_CoversPlan_1 (p_s : List impl_Table) (p_x200 : impl_Geo) (p_x201 : List impl_Variable) (p_x202 : impl_Table) (r : Int) (hr : slices_IndexFunc_impl_Table_impl_Table_of_impl_CoversPlan_1 p_s p_x200 p_x201 p_x202 = some r) (w0 : World) (m : Mem) (b_p_x200 : Nat) (b_p_x201 : Nat) (b_p_x202 : Nat) (s1 : Sl) (h1 : Rd m s1 p_s) (s2 : Sl) (h2 : Rd m s2 p_x200.Parents) (s3 : Sl) (h3 : Rd m s3 p_x201) (s4 : Sl) (h4 : Rd m s4 p_x202.Vars) (s5 : Sl) (h5 : Rd m s5 p_x202.Where) (X : List Nat) (hS : St X w0 w0 m [[⟨b_p_x200, [s2.v], 26⟩], [⟨b_p_x201, [s3.v], 27⟩], [⟨b_p_x202, [(.int .i64 p_x202.Level), s4.v, s5.v, (.int .i64 p_x202.Sum)], 29⟩]]) :
  RetX Try.prog 78 [s1.v, (.func (.func 44) #[] #[(.pointer (some ⟨b_p_x200, 0, none⟩)), (.pointer (some ⟨b_p_x201, 0, none⟩)), (.pointer (some ⟨b_p_x202, 0, none⟩))])] w0 (fun v w => v = (.int .i64 r) ∧ St X w0 w m [[⟨b_p_x200, [s2.v], 26⟩], [⟨b_p_x201, [s3.v], 27⟩], [⟨b_p_x202, [(.int .i64 p_x202.Level), s4.v, s5.v, (.int .i64 p_x202.Sum)], 29⟩]]) := by
 unfold slices_IndexFunc_impl_Table_impl_Table_of_impl_CoversPlan_1 at hr
 refine ret_startX Try.func78 rfl 19 rfl rfl fun a hF => q_seq (q_region (q_x (v := (.int .i64 0)) hF hS (ex_assign rfl) rfl rfl fun a hF => q_end (n_sq (q_seq (q_seq (q_region (q_x (v := s1.v) hF hS (ex_move rfl) rfl rfl fun a hF => q_x (v := (.int .i64 (goLen p_s))) hF hS (ex_len Try.underlying37 rfl h1.len) rfl rfl fun a hF => q_x (v := (.int .i64 0)) hF hS (ex_move rfl) rfl rfl fun a hF => q_end (n_sq (q_block ?_)))))))))
 obtain ⟨o1, hl1, hr⟩ := bindS hr
 refine q_loop (fun (t_6 : Int) a w => Fr a 19 [(0, s1.v), (1, (.func (.func 44) #[] #[(.pointer (some ⟨b_p_x200, 0, none⟩)), (.pointer (some ⟨b_p_x201, 0, none⟩)), (.pointer (some ⟨b_p_x202, 0, none⟩))])), (7, (.int .i64 (goLen p_s))), (8, (.int .i64 t_6))] ∧ St X w0 w m [[⟨b_p_x200, [s2.v], 26⟩], [⟨b_p_x201, [s3.v], 27⟩], [⟨b_p_x202, [(.int .i64 p_x202.Level), s4.v, s5.v, (.int .i64 p_x202.Sum)], 29⟩]]) (fun (o : (Unit) ⊕ (Int)) e a w => o = .inl () ∧ e = .exit 0 ∧ Fr a 19 [] ∧ St X w0 w m [[⟨b_p_x200, [s2.v], 26⟩], [⟨b_p_x201, [s3.v], 27⟩], [⟨b_p_x202, [(.int .i64 p_x202.Level), s4.v, s5.v, (.int .i64 p_x202.Sum)], 29⟩]]) hl1 ⟨hF.sub ⟨rfl, rfl, rfl, rfl, trivial⟩, hS⟩ ?_ ?_
 ·clear hF hS
  rintro t_6 a w st ⟨hF, hS⟩ hb1
  unfold slices_IndexFunc_impl_Table_impl_Table_of_impl_CoversPlan_1_l1 at hb1
  refine q_seq (q_region (q_x (v := (.bool (decide (t_6 < (goLen p_s))))) hF hS (ex_ibin rfl rfl rfl) rfl rfl fun a hF => q_end (n_sq (q_seq ?_))))
  rcases bcase (decide (t_6 < (goLen p_s))) with hc2 | hc2
  ·have hb1 := cond_f hc2 hb1
   refine q_cond_f hF rfl hc2 (q_exit (x_sq ?_))
   obtain rfl := someI hb1
   exact ⟨nofun, .inl ⟨rfl, rfl, hF.sub trivial, hS⟩⟩
  ·have hb1 := cond_t hc2 hb1
   refine q_cond_t hF rfl hc2 (q_skipc (n_sq (q_seq (q_block (q_seq (q_region (q_x (v := (.int .i64 t_6)) hF hS (ex_move rfl) rfl rfl fun a hF => q_x (v := (.int .i64 t_6)) hF hS (ex_assign rfl) rfl rfl fun a hF => q_end (n_sq (q_seq (q_region (q_x (v := (.func (.func 44) #[] #[(.pointer (some ⟨b_p_x200, 0, none⟩)), (.pointer (some ⟨b_p_x201, 0, none⟩)), (.pointer (some ⟨b_p_x202, 0, none⟩))])) hF hS (ex_move rfl) rfl rfl fun a hF => q_x (v := s1.v) hF hS (ex_move rfl) rfl rfl fun a hF => q_x (v := (.int .i64 t_6)) hF hS (ex_move rfl) rfl rfl fun a hF => ?_)))))))))))
   obtain ⟨e_7, he_7, hb1⟩ := bindS hb1
   obtain ⟨vs8, at8, d8⟩ := h1.at he_7 4 rfl
   obtain ⟨s9, s10, rfl, h9, h10⟩ : ∃ s9 s10 : Sl, vs8 = [(.int .i64 e_7.Level), s9.v, s10.v, (.int .i64 e_7.Sum)] ∧ Rd m s9 e_7.Vars ∧ Rd m s10 e_7.Where := d8
   refine q_x (v := (elP s1 (t_6.toNat * 4))) hF hS (ex_indexAddr Try.underlying37 sz29 rfl rfl (h1.idx he_7)) rfl rfl fun a hF => q_x (v := (.agg #[(.int .i64 e_7.Level), s9.v, s10.v, (.int .i64 e_7.Sum)])) hF hS (ex_loadEA (us := [(.int .i64 e_7.Level), s9.v, s10.v, (.int .i64 e_7.Sum)]) 0 Try.underlying29 rfl sz29 rfl ((at8).at) rfl rfl rfl) rfl rfl fun a hF => ?_
   have hS11 : St _ _ _ _ ([[⟨b_p_x200, [s2.v], 26⟩], [⟨b_p_x201, [s3.v], 27⟩], [⟨b_p_x202, [(.int .i64 p_x202.Level), s4.v, s5.v, (.int .i64 p_x202.Sum)], 29⟩]] ++ []) := hS
   have hE11 := hS11.enter
   obtain ⟨t_12, ht_12, hb1⟩ := bindS hb1
   refine q_do rfl fun _ hK => wp_callV (vs := [(.agg #[(.int .i64 e_7.Level), s9.v, s10.v, (.int .i64 e_7.Sum)])]) (cap := [(.pointer (some ⟨b_p_x200, 0, none⟩)), (.pointer (some ⟨b_p_x201, 0, none⟩)), (.pointer (some ⟨b_p_x202, 0, none⟩))]) hF rfl Try.func44 (by kernel_rfl) rfl rfl rfl (c_impl_CoversPlan_1 e_7 p_x200 p_x201 p_x202 t_12 ht_12 _ m b_p_x200 b_p_x201 b_p_x202 s9 h9 s10 h10 s2 h2 s3 h3 s4 h4 s5 h5 _ hE11) fun a w _ hR hF => hK _ _ ?_
   obtain ⟨rfl, hR11⟩ := hR
   have hS : St _ _ _ _ [[⟨b_p_x200, [s2.v], 26⟩], [⟨b_p_x201, [s3.v], 27⟩], [⟨b_p_x202, [(.int .i64 p_x202.Level), s4.v, s5.v, (.int .i64 p_x202.Sum)], 29⟩]] := hS11.leaveF hR11
   refine q_end (n_sq ?_)
   rcases bcase (t_12) with hc3 | hc3
   ·have hb1 := cond_f hc3 hb1
    refine q_cond_f hF rfl hc3 (q_skipc (n_ib (n_sq (q_region (q_x (v := (.int .i64 (w64 (t_6 + 1)))) hF hS (ex_ibin rfl rfl rfl) rfl rfl fun a hF => q_x (v := (.int .i64 (w64 (t_6 + 1)))) hF hS (ex_move rfl) rfl rfl fun a hF => q_end ?_)))))
    obtain rfl := someI hb1
    exact ⟨rfl, hF.sub ⟨rfl, rfl, rfl, rfl, trivial⟩, hS⟩
   ·have hb1 := cond_t hc3 hb1
    refine q_cond_t hF rfl hc3 (q_seq (q_region (q_x (v := (.int .i64 t_6)) hF hS (ex_move rfl) rfl rfl fun a hF => q_x (v := (.int .i64 t_6)) hF hS (ex_assign rfl) rfl rfl fun a hF => q_end (n_sq (q_ret (r_ib (r_sq ?_)))))))
    obtain rfl := someI hb1
    refine ⟨nofun, .inr fun ho => ?_⟩
    subst ho
    refine r_ib (r_sq ?_)
    obtain rfl := someI hr
    exact ret_ofX hF hS rfl (.tmp rfl .nil) ⟨rfl, hS.sel [0, 1, 2] (by decide)⟩
 ·rintro e a w ⟨rfl, rfl, hF, hS⟩
  refine x_ib (n_sq ?_)
  refine q_seq (q_region (q_x (v := (.int .i64 (-1))) hF hS (ex_assign rfl) rfl rfl fun a hF => q_end (n_sq (q_ret ?_))))
  obtain rfl := someI hr
  exact ret_ofX hF hS rfl (.tmp rfl .nil) ⟨rfl, hS.sel [0, 1, 2] (by decide)⟩

theorem c_slices_ContainsFunc_impl_Table_impl_Table_of_impl_CoversPlan_1 (p_s : List impl_Table) (p_x200 : impl_Geo) (p_x201 : List impl_Variable) (p_x202 : impl_Table) (r : Bool) (hr : slices_ContainsFunc_impl_Table_impl_Table_of_impl_CoversPlan_1 p_s p_x200 p_x201 p_x202 = some r) (w0 : World) (m : Mem) (b_p_x200 : Nat) (b_p_x201 : Nat) (b_p_x202 : Nat) (s1 : Sl) (h1 : Rd m s1 p_s) (s2 : Sl) (h2 : Rd m s2 p_x200.Parents) (s3 : Sl) (h3 : Rd m s3 p_x201) (s4 : Sl) (h4 : Rd m s4 p_x202.Vars) (s5 : Sl) (h5 : Rd m s5 p_x202.Where) (X : List Nat) (hS : St X w0 w0 m [[⟨b_p_x200, [s2.v], 26⟩], [⟨b_p_x201, [s3.v], 27⟩], [⟨b_p_x202, [(.int .i64 p_x202.Level), s4.v, s5.v, (.int .i64 p_x202.Sum)], 29⟩]]) :
  RetX Try.prog 43 [s1.v, (.func (.func 44) #[] #[(.pointer (some ⟨b_p_x200, 0, none⟩)), (.pointer (some ⟨b_p_x201, 0, none⟩)), (.pointer (some ⟨b_p_x202, 0, none⟩))])] w0 (fun v w => v = (.bool r) ∧ St X w0 w m [[⟨b_p_x200, [s2.v], 26⟩], [⟨b_p_x201, [s3.v], 27⟩], [⟨b_p_x202, [(.int .i64 p_x202.Level), s4.v, s5.v, (.int .i64 p_x202.Sum)], 29⟩]]) := by
 unfold slices_ContainsFunc_impl_Table_impl_Table_of_impl_CoversPlan_1 at hr
 refine ret_startX Try.func43 rfl 9 rfl rfl fun a hF => q_seq (q_region (q_x (v := (.bool false)) hF hS (ex_assign rfl) rfl rfl fun a hF => q_end (n_sq (q_seq (q_region (q_x (v := s1.v) hF hS (ex_move rfl) rfl rfl fun a hF => q_x (v := (.func (.func 44) #[] #[(.pointer (some ⟨b_p_x200, 0, none⟩)), (.pointer (some ⟨b_p_x201, 0, none⟩)), (.pointer (some ⟨b_p_x202, 0, none⟩))])) hF hS (ex_move rfl) rfl rfl fun a hF => ?_))))))
 have hS6 : St _ _ _ _ ([[⟨b_p_x200, [s2.v], 26⟩], [⟨b_p_x201, [s3.v], 27⟩], [⟨b_p_x202, [(.int .i64 p_x202.Level), s4.v, s5.v, (.int .i64 p_x202.Sum)], 29⟩]] ++ []) := hS
 have hE6 := hS6.enter
 obtain ⟨t_7, ht_7, hr⟩ := bindS hr
 refine q_do rfl fun _ hK => wp_callX (vs := [s1.v, (.func (.func 44) #[] #[(.pointer (some ⟨b_p_x200, 0, none⟩)), (.pointer (some ⟨b_p_x201, 0, none⟩)), (.pointer (some ⟨b_p_x202, 0, none⟩))])]) hF Try.func78 (by kernel_rfl) rfl rfl rfl (c_slices_IndexFunc_impl_Table_impl_Table_of_impl_CoversPlan_1 p_s p_x200 p_x201 p_x202 t_7 ht_7 _ m b_p_x200 b_p_x201 b_p_x202 s1 h1 s2 h2 s3 h3 s4 h4 s5 h5 _ hE6) fun a w _ hR hF => hK _ _ ?_
 obtain ⟨rfl, hR6⟩ := hR
 have hS : St _ _ _ _ [[⟨b_p_x200, [s2.v], 26⟩], [⟨b_p_x201, [s3.v], 27⟩], [⟨b_p_x202, [(.int .i64 p_x202.Level), s4.v, s5.v, (.int .i64 p_x202.Sum)], 29⟩]] := hS6.leaveF hR6
 refine q_x (v := (.bool (decide (0 ≤ t_7)))) hF hS (ex_ibin rfl rfl rfl) rfl rfl fun a hF => q_x (v := (.bool (decide (0 ≤ t_7)))) hF hS (ex_assign rfl) rfl rfl fun a hF => q_end (n_sq (q_ret ?_))
 obtain rfl := someI hr
 exact ret_ofX hF hS rfl (.tmp rfl .nil) ⟨rfl, hS.sel [0, 1, 2] (by decide)⟩

theorem c_impl_CoversPlan (p_g : impl_Geo) (p_s : List impl_Variable) (p_l : List impl_Table) (p_m : List impl_Table) (r : Bool × Bool) (hr : impl_CoversPlan p_g p_s p_l p_m = some r) (w0 : World) (m : Mem) (hv : Vis m w0) (s1 : Sl) (h1 : Rd m s1 p_g.Parents) (s2 : Sl) (h2 : Rd m s2 p_s) (s3 : Sl) (h3 : Rd m s3 p_l) (s4 : Sl) (h4 : Rd m s4 p_m) :
  Ret Try.prog 12 [(.agg #[s1.v]), s2.v, s3.v, s4.v] w0 (fun v _ => v = (.tuple #[(.bool r.1), (.bool r.2)])) := by
 unfold impl_CoversPlan at hr
 refine ret_start Try.func12 rfl 35 rfl rfl m hv fun a hF hS => q_seq (q_region (q_box (cs := [s1.v]) hF hS rfl rfl rfl fun a w b5 hF hS => q_box (cs := [s2.v]) hF hS rfl rfl rfl fun a w b6 hF hS => q_x (v := (.bool false)) hF hS (ex_assign rfl) rfl rfl fun a hF => q_x (v := (.bool false)) hF hS (ex_assign rfl) rfl rfl fun a hF => q_end (n_sq (q_seq (q_seq ?_)))))
 obtain ⟨t_9, hj1, hr⟩ := bindS hr
 refine q_join (fun a w => Fr a 35 [(2, s3.v), (3, s4.v), (4, (.pointer (some ⟨b5, 0, none⟩))), (5, (.pointer (some ⟨b6, 0, none⟩))), (23, (.bool t_9))] ∧ St [] w0 w m [[⟨b6, [s2.v], 27⟩], [⟨b5, [s1.v], 26⟩]]) ?_ ?_
 ·refine q_region (q_x (v := (.agg #[s1.v])) hF hS (ex_loadA (vs := [s1.v]) 1 0 Try.underlying26 rfl sz26 rfl rfl rfl rfl) rfl rfl fun a hF => q_x (v := s2.v) hF hS (ex_load1 0 0 Try.underlying27 rfl rfl rfl rfl) rfl rfl fun a hF => q_x (v := s3.v) hF hS (ex_move rfl) rfl rfl fun a hF => ?_)
  obtain ⟨t_7, ht_7, hj1⟩ := bindS hj1
  refine q_call (vs := [(.agg #[s1.v]), s2.v, s3.v]) hF hS Try.func42 (by kernel_rfl) rfl rfl rfl (c_impl_isPlan p_g p_s p_l t_7 ht_7 _ m hS.vis s1 h1 s2 h2 s3 h3) ?_
  rintro a w _ rfl hF hS
  refine q_x (v := (.bool (!t_7))) hF hS (ex_not rfl) rfl rfl fun a hF => q_x (v := (.bool (!t_7))) hF hS (ex_move rfl) rfl rfl fun a hF => ?_
  rcases bcase (!t_7) with hc2 | hc2
  ·have hj1 := cond_f hc2 hj1
   refine q_xg (v := (.agg #[s1.v])) hF hS (ex_loadA (vs := [s1.v]) 1 0 Try.underlying26 rfl sz26 rfl rfl rfl rfl) (wanted_t hF rfl rfl rfl hc2) rfl fun a hF => q_xg (v := s2.v) hF hS (ex_load1 0 0 Try.underlying27 rfl rfl rfl rfl) (wanted_t hF rfl rfl rfl hc2) rfl fun a hF => q_xg (v := s4.v) hF hS (ex_move rfl) (wanted_t hF rfl rfl rfl hc2) rfl fun a hF => ?_
   obtain ⟨t_8, ht_8, hj1⟩ := bindS hj1
   refine q_callg (vs := [(.agg #[s1.v]), s2.v, s4.v]) hF hS (wanted_t hF rfl rfl rfl hc2) Try.func42 (by kernel_rfl) rfl rfl rfl (c_impl_isPlan p_g p_s p_m t_8 ht_8 _ m hS.vis s1 h1 s2 h2 s4 h4) ?_
   rintro a w _ rfl hF hS
   refine q_xg (v := (.bool (!t_8))) hF hS (ex_not rfl) (wanted_t hF rfl rfl rfl hc2) rfl fun a hF => q_x (v := (.bool (!t_8))) hF hS (ex_pick_f rfl rfl hc2) rfl rfl fun a hF => q_end (n_jn ?_)
   obtain rfl := someI hj1
   exact ⟨hF.sub ⟨rfl, rfl, rfl, rfl, rfl, trivial⟩, hS⟩
  ·have hj1 := cond_t hc2 hj1
   refine q_skip hF (wanted_f hF rfl rfl rfl hc2 rfl) rfl fun a hF => q_skip hF (wanted_f hF rfl rfl rfl hc2 rfl) rfl fun a hF => q_skip hF (wanted_f hF rfl rfl rfl hc2 rfl) rfl fun a hF => q_skip hF (wanted_f hF rfl rfl rfl hc2 rfl) rfl fun a hF => q_skip hF (wanted_f hF rfl rfl rfl hc2 rfl) rfl fun a hF => q_x (v := (.bool true)) hF hS (ex_pick_t rfl rfl hc2) rfl rfl fun a hF => q_end (n_jn ?_)
   obtain rfl := someI hj1
   exact ⟨hF.sub ⟨rfl, rfl, rfl, rfl, rfl, trivial⟩, hS⟩
 ·rintro a w ⟨hF, hS⟩
  refine n_sq ?_
  rcases bcase (t_9) with hc3 | hc3
  ·have hr := cond_f hc3 hr
   refine q_cond_f hF rfl hc3 (q_skipc (n_sq (q_seq (q_seq (q_region (q_x (v := s4.v) hF hS (ex_move rfl) rfl rfl fun a hF => q_x (v := (.int .i64 (goLen p_m))) hF hS (ex_len Try.underlying37 rfl h4.len) rfl rfl fun a hF => q_x (v := (.int .i64 0)) hF hS (ex_move rfl) rfl rfl fun a hF => q_end (n_sq (q_block ?_))))))))
   obtain ⟨o4, hl4, hr⟩ := bindS hr
   refine q_loop (fun (t_10 : Int) a w => Fr a 35 [(2, s3.v), (4, (.pointer (some ⟨b5, 0, none⟩))), (5, (.pointer (some ⟨b6, 0, none⟩))), (24, s4.v), (25, (.int .i64 (goLen p_m))), (26, (.int .i64 t_10))] ∧ St [] w0 w m [[⟨b6, [s2.v], 27⟩], [⟨b5, [s1.v], 26⟩]]) (fun (o : (Unit) ⊕ (Bool × Bool)) e a w => o = .inl () ∧ e = .exit 0 ∧ Fr a 35 [] ∧ St [] w0 w m []) hl4 ⟨hF.sub ⟨rfl, rfl, rfl, rfl, rfl, rfl, trivial⟩, hS⟩ ?_ ?_
   ·clear hF hS
    rintro t_10 a w st ⟨hF, hS⟩ hb4
    unfold impl_CoversPlan_l1 at hb4
    refine q_seq (q_region (q_x (v := (.bool (decide (t_10 < (goLen p_m))))) hF hS (ex_ibin rfl rfl rfl) rfl rfl fun a hF => q_end (n_sq (q_seq ?_))))
    rcases bcase (decide (t_10 < (goLen p_m))) with hc5 | hc5
    ·have hb4 := cond_f hc5 hb4
     refine q_cond_f hF rfl hc5 (q_exit (x_sq ?_))
     obtain rfl := someI hb4
     exact ⟨nofun, .inl ⟨rfl, rfl, hF.sub trivial, hS.mask [false, false]⟩⟩
    ·have hb4 := cond_t hc5 hb4
     refine q_cond_t hF rfl hc5 (q_skipc (n_sq (q_seq (q_block (q_seq (q_region ?_))))))
     obtain ⟨e_11, he_11, hb4⟩ := bindS hb4
     obtain ⟨vs12, at12, d12⟩ := h4.at he_11 4 rfl
     obtain ⟨s13, s14, rfl, h13, h14⟩ : ∃ s13 s14 : Sl, vs12 = [(.int .i64 e_11.Level), s13.v, s14.v, (.int .i64 e_11.Sum)] ∧ Rd m s13 e_11.Vars ∧ Rd m s14 e_11.Where := d12
     refine q_x (v := (elP s4 (t_10.toNat * 4))) hF hS (ex_indexAddr Try.underlying37 sz29 rfl rfl (h4.idx he_11)) rfl rfl fun a hF => q_x (v := (.agg #[(.int .i64 e_11.Level), s13.v, s14.v, (.int .i64 e_11.Sum)])) hF hS (ex_loadEA (us := [(.int .i64 e_11.Level), s13.v, s14.v, (.int .i64 e_11.Sum)]) 0 Try.underlying29 rfl sz29 rfl ((at12).at) rfl rfl rfl) rfl rfl fun a hF => q_alloc (cs := [(.int .i64 0), nilS.v, nilS.v, (.int .i64 0)]) hF hS rfl rfl rfl fun a w b15 hF hS => q_store (vs := [(.int .i64 e_11.Level), s13.v, s14.v, (.int .i64 e_11.Sum)]) (cs' := [(.int .i64 e_11.Level), s13.v, s14.v, (.int .i64 e_11.Sum)]) 0 0 hF hS sz29 rfl rfl rfl rfl rfl rfl rfl rfl fun a w hF hS => q_end (n_sq (q_seq (q_region (q_x (v := s3.v) hF hS (ex_move rfl) rfl rfl fun a hF => q_x (v := (.func (.func 44) #[] #[(.pointer (some ⟨b5, 0, none⟩)), (.pointer (some ⟨b6, 0, none⟩)), (.pointer (some ⟨b15, 0, none⟩))])) hF hS (ex_makeFunc rfl) rfl rfl fun a hF => ?_))))
     have hS : St _ _ _ _ [[⟨b5, [s1.v], 26⟩], [⟨b6, [s2.v], 27⟩], [⟨b15, [(.int .i64 e_11.Level), s13.v, s14.v, (.int .i64 e_11.Sum)], 29⟩]] := hS.sel [2, 1, 0] (by decide)
     have hS16 : St _ _ _ _ ([[⟨b5, [s1.v], 26⟩], [⟨b6, [s2.v], 27⟩], [⟨b15, [(.int .i64 e_11.Level), s13.v, s14.v, (.int .i64 e_11.Sum)], 29⟩]] ++ []) := hS
     have hE16 := hS16.enter
     obtain ⟨t_17, ht_17, hb4⟩ := bindS hb4
     refine q_do rfl fun _ hK => wp_callX (vs := [s3.v, (.func (.func 44) #[] #[(.pointer (some ⟨b5, 0, none⟩)), (.pointer (some ⟨b6, 0, none⟩)), (.pointer (some ⟨b15, 0, none⟩))])]) hF Try.func43 (by kernel_rfl) rfl rfl rfl (c_slices_ContainsFunc_impl_Table_impl_Table_of_impl_CoversPlan_1 p_l p_g p_s e_11 t_17 ht_17 _ m b5 b6 b15 s3 h3 s1 h1 s2 h2 s13 h13 s14 h14 _ hE16) fun a w _ hR hF => hK _ _ ?_
     obtain ⟨rfl, hR16⟩ := hR
     have hS : St _ _ _ _ [[⟨b5, [s1.v], 26⟩], [⟨b6, [s2.v], 27⟩], [⟨b15, [(.int .i64 e_11.Level), s13.v, s14.v, (.int .i64 e_11.Sum)], 29⟩]] := hS16.leaveF hR16
     refine q_x (v := (.bool (!t_17))) hF hS (ex_not rfl) rfl rfl fun a hF => q_end (n_sq ?_)
     rcases bcase (!t_17) with hc6 | hc6
     ·have hb4 := cond_f hc6 hb4
      refine q_cond_f hF rfl hc6 (q_skipc (n_ib (n_sq (q_region (q_x (v := (.int .i64 (w64 (t_10 + 1)))) hF hS (ex_ibin rfl rfl rfl) rfl rfl fun a hF => q_x (v := (.int .i64 (w64 (t_10 + 1)))) hF hS (ex_move rfl) rfl rfl fun a hF => q_end ?_)))))
      obtain rfl := someI hb4
      exact ⟨rfl, hF.sub ⟨rfl, rfl, rfl, rfl, rfl, rfl, trivial⟩, hS.sel [1, 0] (by decide)⟩
     ·have hb4 := cond_t hc6 hb4
      refine q_cond_t hF rfl hc6 (q_seq (q_region (q_x (v := (.bool false)) hF hS (ex_assign rfl) rfl rfl fun a hF => q_x (v := (.bool true)) hF hS (ex_assign rfl) rfl rfl fun a hF => q_end (n_sq (q_ret (r_ib (r_sq ?_)))))))
      obtain rfl := someI hb4
      refine ⟨nofun, .inr fun ho => ?_⟩
      subst ho
      refine r_ib (r_sq ?_)
      obtain rfl := someI hr
      exact ret_of hF hS rfl (.tmp rfl (.tmp rfl .nil)) rfl
   ·rintro e a w ⟨rfl, rfl, hF, hS⟩
    refine x_ib (n_sq ?_)
    refine q_seq (q_region (q_x (v := (.bool true)) hF hS (ex_assign rfl) rfl rfl fun a hF => q_x (v := (.bool true)) hF hS (ex_assign rfl) rfl rfl fun a hF => q_end (n_sq (q_ret ?_))))
    obtain rfl := someI hr
    exact ret_of hF hS rfl (.tmp rfl (.tmp rfl .nil)) rfl
  ·have hr := cond_t hc3 hr
   refine q_cond_t hF rfl hc3 (q_seq (q_region (q_x (v := (.bool false)) hF hS (ex_assign rfl) rfl rfl fun a hF => q_x (v := (.bool false)) hF hS (ex_assign rfl) rfl rfl fun a hF => q_end (n_sq (q_ret (r_sq ?_))))))
   obtain rfl := someI hr
   exact ret_of hF hS rfl (.tmp rfl (.tmp rfl .nil)) rfl

theorem c_impl_SourcesIn (p_g : impl_Geo) (p_s : List impl_Variable) (p_l : List impl_Table) (r : (List (List Int)) × Bool) (hr : impl_SourcesIn p_g p_s p_l = some r) (w0 : World) (m : Mem) (hv : Vis m w0) (s1 : Sl) (h1 : Rd m s1 p_g.Parents) (s2 : Sl) (h2 : Rd m s2 p_s) (s3 : Sl) (h3 : Rd m s3 p_l) :
  Ret Try.prog 18 [(.agg #[s1.v]), s2.v, s3.v] w0 (fun v w => ∃ (q0' : Piece) (s0' : Sl), v = (.tuple #[s0'.v, (.bool r.2)]) ∧ St [] w0 w m [q0'] ∧ OwnD m 24 3 q0' s0' r.1) := by
 unfold impl_SourcesIn at hr
 refine ret_start Try.func18 rfl 53 rfl rfl m hv fun a hF hS => q_seq (q_region (q_box (cs := [s1.v]) hF hS rfl rfl rfl fun a w b4 hF hS => q_x (v := nilS.v) hF hS (ex_assign rfl) rfl rfl fun a hF => q_x (v := (.bool false)) hF hS (ex_assign rfl) rfl rfl fun a hF => q_end (n_sq (q_seq (q_seq (q_region (q_x (v := (.agg #[s1.v])) hF hS (ex_loadA (vs := [s1.v]) 0 0 Try.underlying26 rfl sz26 rfl rfl rfl rfl) rfl rfl fun a hF => q_x (v := s2.v) hF hS (ex_move rfl) rfl rfl fun a hF => q_x (v := s3.v) hF hS (ex_move rfl) rfl rfl fun a hF => ?_)))))))
 obtain ⟨t_5, ht_5, hr⟩ := bindS hr
 refine q_call (vs := [(.agg #[s1.v]), s2.v, s3.v]) hF hS Try.func42 (by kernel_rfl) rfl rfl rfl (c_impl_isPlan p_g p_s p_l t_5 ht_5 _ m hS.vis s1 h1 s2 h2 s3 h3) ?_
 rintro a w _ rfl hF hS
 refine q_x (v := (.bool (!t_5))) hF hS (ex_not rfl) rfl rfl fun a hF => q_end (n_sq ?_)
 rcases bcase (!t_5) with hc1 | hc1
 ·have hr := cond_f hc1 hr
  refine q_cond_f hF rfl hc1 (q_skipc (n_sq (q_seq (q_region (q_x (v := s3.v) hF hS (ex_move rfl) rfl rfl fun a hF => q_x (v := (.int .i64 (goLen p_l))) hF hS (ex_len Try.underlying37 rfl h3.len) rfl rfl fun a hF => ?_)))))
  obtain ⟨l_6, hl_6, hr⟩ := bindS hr
  refine q_do rfl fun _ hK => wp_makeD (Ei := 3) hF hS Try.underlying46 inf24 rfl rfl rfl (by decide) hl_6 rfl fun a w q7 s7 hF hS h7 _ => hK _ _ (q_x (v := s7.v) hF hS (ex_assign rfl) rfl rfl fun a hF => q_end (n_sq (q_seq (q_seq (q_region (q_x (v := s3.v) hF hS (ex_move rfl) rfl rfl fun a hF => q_x (v := (.int .i64 (goLen p_l))) hF hS (ex_len Try.underlying37 rfl h3.len) rfl rfl fun a hF => q_x (v := (.int .i64 0)) hF hS (ex_move rfl) rfl rfl fun a hF => q_end (n_sq (q_block ?_))))))))
  obtain ⟨out_38, hl2, hr⟩ := bindS hr
  refine q_loop (fun (s : (List (List Int)) × Int) a w => ∃ (q9 : Piece), ∃ out_8, ∃ t_10, s = (out_8, t_10) ∧ Fr a 53 [(1, s2.v), (2, s3.v), (3, (.pointer (some ⟨b4, 0, none⟩))), (8, s7.v), (21, s3.v), (22, (.int .i64 (goLen p_l))), (23, (.int .i64 t_10))] ∧ St [] w0 w m [q9, [⟨b4, [s1.v], 26⟩]] ∧ OwnD m 24 3 q9 s7 out_8) (fun (out_38 : (List (List Int))) e a w => ∃ (q39 : Piece), e = .exit 0 ∧ Fr a 53 [(8, s7.v)] ∧ St [] w0 w m [q39] ∧ OwnD m 24 3 q39 s7 out_38) hl2 ⟨q7, _, _, rfl, hF.sub ⟨rfl, rfl, rfl, rfl, rfl, rfl, rfl, trivial⟩, hS, h7⟩ ?_ ?_
  ·clear hF hS
   rintro s a w st ⟨q9, out_8, t_10, rfl, hF, hS, h9⟩ hb2
   unfold impl_SourcesIn_l1 at hb2
   refine q_seq (q_region (q_x (v := (.bool (decide (t_10 < (goLen p_l))))) hF hS (ex_ibin rfl rfl rfl) rfl rfl fun a hF => q_end (n_sq (q_seq ?_))))
   rcases bcase (decide (t_10 < (goLen p_l))) with hc3 | hc3
   ·have hb2 := cond_f hc3 hb2
    refine q_cond_f hF rfl hc3 (q_exit (x_sq ?_))
    obtain rfl := someI hb2
    exact ⟨nofun, .inl ⟨q9, rfl, hF.sub ⟨rfl, trivial⟩, hS.mask [true, false], h9⟩⟩
   ·have hb2 := cond_t hc3 hb2
    refine q_cond_t hF rfl hc3 (q_skipc (n_sq (q_seq (q_block (q_seq (q_region (q_x (v := (.int .i64 t_10)) hF hS (ex_move rfl) rfl rfl fun a hF => ?_)))))))
    obtain ⟨e_11, he_11, hb2⟩ := bindS hb2
    obtain ⟨vs12, at12, d12⟩ := h3.at he_11 4 rfl
    obtain ⟨s13, s14, rfl, h13, h14⟩ : ∃ s13 s14 : Sl, vs12 = [(.int .i64 e_11.Level), s13.v, s14.v, (.int .i64 e_11.Sum)] ∧ Rd m s13 e_11.Vars ∧ Rd m s14 e_11.Where := d12
    refine q_x (v := (elP s3 (t_10.toNat * 4))) hF hS (ex_indexAddr Try.underlying37 sz29 rfl rfl (h3.idx he_11)) rfl rfl fun a hF => q_x (v := (.agg #[(.int .i64 e_11.Level), s13.v, s14.v, (.int .i64 e_11.Sum)])) hF hS (ex_loadEA (us := [(.int .i64 e_11.Level), s13.v, s14.v, (.int .i64 e_11.Sum)]) 0 Try.underlying29 rfl sz29 rfl ((at12).at) rfl rfl rfl) rfl rfl fun a hF => q_alloc (cs := [(.int .i64 0), nilS.v, nilS.v, (.int .i64 0)]) hF hS rfl rfl rfl fun a w b15 hF hS => q_x (v := (.int .i64 t_10)) hF hS (ex_assign rfl) rfl rfl fun a hF => q_store (vs := [(.int .i64 e_11.Level), s13.v, s14.v, (.int .i64 e_11.Sum)]) (cs' := [(.int .i64 e_11.Level), s13.v, s14.v, (.int .i64 e_11.Sum)]) 0 0 hF hS sz29 rfl rfl rfl rfl rfl rfl rfl rfl fun a w hF hS => q_end (n_sq (q_seq (q_region (q_x (v := s3.v) hF hS (ex_move rfl) rfl rfl fun a hF => q_x (v := (.int .i64 (goLen p_l))) hF hS (ex_len Try.underlying37 rfl h3.len) rfl rfl fun a hF => q_x (v := (.int .i64 0)) hF hS (ex_move rfl) rfl rfl fun a hF => q_end (n_sq (q_block ?_))))))
    obtain ⟨out_36, hl4, hb2⟩ := bindS hb2
    refine q_loop (fun (s : (List (List Int)) × Int) a w => ∃ (q17 : Piece), ∃ out_16, ∃ t_18, s = (out_16, t_18) ∧ Fr a 53 [(1, s2.v), (2, s3.v), (3, (.pointer (some ⟨b4, 0, none⟩))), (8, s7.v), (9, (.int .i64 t_10)), (10, (.pointer (some ⟨b15, 0, none⟩))), (21, s3.v), (22, (.int .i64 (goLen p_l))), (23, (.int .i64 t_10)), (28, s3.v), (29, (.int .i64 (goLen p_l))), (30, (.int .i64 t_18))] ∧ St [] w0 w m [q17, [⟨b15, [(.int .i64 e_11.Level), s13.v, s14.v, (.int .i64 e_11.Sum)], 29⟩], [⟨b4, [s1.v], 26⟩]] ∧ OwnD m 24 3 q17 s7 out_16) (fun (out_36 : (List (List Int))) e a w => ∃ (q37 : Piece), e = .exit 2 ∧ Fr a 53 [(1, s2.v), (2, s3.v), (3, (.pointer (some ⟨b4, 0, none⟩))), (8, s7.v), (21, s3.v), (22, (.int .i64 (goLen p_l))), (23, (.int .i64 t_10))] ∧ St [] w0 w m [q37, [⟨b4, [s1.v], 26⟩]] ∧ OwnD m 24 3 q37 s7 out_36) hl4 ⟨q9, _, _, rfl, hF.sub ⟨rfl, rfl, rfl, rfl, rfl, rfl, rfl, rfl, rfl, rfl, rfl, rfl, trivial⟩, hS.sel [1, 0, 2] (by decide), h9⟩ ?_ ?_
    ·clear hF hS
     rintro s a w st ⟨q17, out_16, t_18, rfl, hF, hS, h17⟩ hb4
     unfold impl_SourcesIn_l2 at hb4
     refine q_seq (q_region (q_x (v := (.bool (decide (t_18 < (goLen p_l))))) hF hS (ex_ibin rfl rfl rfl) rfl rfl fun a hF => q_end (n_sq (q_seq ?_))))
     rcases bcase (decide (t_18 < (goLen p_l))) with hc5 | hc5
     ·have hb4 := cond_f hc5 hb4
      refine q_cond_f hF rfl hc5 (q_exit (x_sq ?_))
      obtain rfl := someI hb4
      exact ⟨nofun, .inl ⟨q17, rfl, hF.sub ⟨rfl, rfl, rfl, rfl, rfl, rfl, rfl, trivial⟩, hS.mask [true, false, true], h17⟩⟩
     ·have hb4 := cond_t hc5 hb4
      refine q_cond_t hF rfl hc5 (q_skipc (n_sq (q_seq (q_block (q_seq (q_region (q_x (v := (.int .i64 t_18)) hF hS (ex_move rfl) rfl rfl fun a hF => ?_)))))))
      obtain ⟨e_19, he_19, hb4⟩ := bindS hb4
      obtain ⟨vs20, at20, d20⟩ := h3.at he_19 4 rfl
      obtain ⟨s21, s22, rfl, h21, h22⟩ : ∃ s21 s22 : Sl, vs20 = [(.int .i64 e_19.Level), s21.v, s22.v, (.int .i64 e_19.Sum)] ∧ Rd m s21 e_19.Vars ∧ Rd m s22 e_19.Where := d20
      refine q_x (v := (elP s3 (t_18.toNat * 4))) hF hS (ex_indexAddr Try.underlying37 sz29 rfl rfl (h3.idx he_19)) rfl rfl fun a hF => q_x (v := (.agg #[(.int .i64 e_19.Level), s21.v, s22.v, (.int .i64 e_19.Sum)])) hF hS (ex_loadEA (us := [(.int .i64 e_19.Level), s21.v, s22.v, (.int .i64 e_19.Sum)]) 0 Try.underlying29 rfl sz29 rfl ((at20).at) rfl rfl rfl) rfl rfl fun a hF => q_alloc (cs := [(.int .i64 0), nilS.v, nilS.v, (.int .i64 0)]) hF hS rfl rfl rfl fun a w b23 hF hS => q_x (v := (.int .i64 t_18)) hF hS (ex_assign rfl) rfl rfl fun a hF => q_store (vs := [(.int .i64 e_19.Level), s21.v, s22.v, (.int .i64 e_19.Sum)]) (cs' := [(.int .i64 e_19.Level), s21.v, s22.v, (.int .i64 e_19.Sum)]) 0 0 hF hS sz29 rfl rfl rfl rfl rfl rfl rfl rfl fun a w hF hS => q_end (n_sq (q_seq (q_region (q_x (v := (.agg #[s1.v])) hF hS (ex_loadA (vs := [s1.v]) 3 0 Try.underlying26 rfl sz26 rfl rfl rfl rfl) rfl rfl fun a hF => q_x (v := s2.v) hF hS (ex_move rfl) rfl rfl fun a hF => q_x (v := (.agg #[(.int .i64 e_11.Level), s13.v, s14.v, (.int .i64 e_11.Sum)])) hF hS (ex_loadA (vs := [(.int .i64 e_11.Level), s13.v, s14.v, (.int .i64 e_11.Sum)]) 2 0 Try.underlying29 rfl sz29 rfl rfl rfl rfl) rfl rfl fun a hF => q_x (v := (.agg #[(.int .i64 e_19.Level), s21.v, s22.v, (.int .i64 e_19.Sum)])) hF hS (ex_loadA (vs := [(.int .i64 e_19.Level), s21.v, s22.v, (.int .i64 e_19.Sum)]) 0 0 Try.underlying29 rfl sz29 rfl rfl rfl rfl) rfl rfl fun a hF => ?_))))
      obtain ⟨t_24, ht_24, hb4⟩ := bindS hb4
      refine q_call (vs := [(.agg #[s1.v]), s2.v, (.agg #[(.int .i64 e_11.Level), s13.v, s14.v, (.int .i64 e_11.Sum)]), (.agg #[(.int .i64 e_19.Level), s21.v, s22.v, (.int .i64 e_19.Sum)])]) hF hS Try.func34 (by kernel_rfl) rfl rfl rfl (c_impl_followsFrom p_g p_s e_11 e_19 t_24 ht_24 _ m hS.vis s1 h1 s2 h2 s13 h13 s14 h14 s21 h21 s22 h22) ?_
      rintro a w _ rfl hF hS
      refine q_end (n_sq ?_)
      obtain ⟨out_34, hj6, hb4⟩ := bindS hb4
      refine q_join (fun a w => ∃ (q35 : Piece), Fr a 53 [(1, s2.v), (2, s3.v), (3, (.pointer (some ⟨b4, 0, none⟩))), (8, s7.v), (9, (.int .i64 t_10)), (10, (.pointer (some ⟨b15, 0, none⟩))), (21, s3.v), (22, (.int .i64 (goLen p_l))), (23, (.int .i64 t_10)), (28, s3.v), (29, (.int .i64 (goLen p_l))), (30, (.int .i64 t_18))] ∧ St [] w0 w m [q35, [⟨b15, [(.int .i64 e_11.Level), s13.v, s14.v, (.int .i64 e_11.Sum)], 29⟩], [⟨b4, [s1.v], 26⟩]] ∧ OwnD m 24 3 q35 s7 out_34) ?_ ?_
      ·rcases bcase (t_24) with hc7 | hc7
       ·have hj6 := cond_f hc7 hj6
        refine q_cond_f hF rfl hc7 (q_skipc (n_jn ?_))
        obtain rfl := someI hj6
        exact ⟨q17, hF.sub ⟨rfl, rfl, rfl, rfl, rfl, rfl, rfl, rfl, rfl, rfl, rfl, rfl, trivial⟩, hS.mask [false, true, true, true], h17⟩
       ·have hj6 := cond_t hc7 hj6
        refine q_cond_t hF rfl hc7 (q_region (q_x (v := s7.v) hF hS (ex_move rfl) rfl rfl fun a hF => q_x (v := (.int .i64 t_10)) hF hS (ex_move rfl) rfl rfl fun a hF => q_x (v := s7.v) hF hS (ex_move rfl) rfl rfl fun a hF => q_x (v := (.int .i64 t_10)) hF hS (ex_move rfl) rfl rfl fun a hF => ?_))
        obtain ⟨e_25, he_25, hj6⟩ := bindS hj6
        obtain ⟨s26, hV26⟩ := h17.view he_25
        refine q_x (v := (elP s7 (t_10.toNat * 1))) hF hS (ex_indexAddr Try.underlying46 sz24 rfl rfl (h17.idx he_25)) rfl rfl fun a hF => q_x (v := s26.v) hF hS (ex_loadE1 0 Try.underlying24 rfl rfl ((hV26.atH he_25).at 1 rfl) rfl rfl) rfl rfl fun a hF => q_x (v := (.int .i64 t_18)) hF hS (ex_move rfl) rfl rfl fun a hF => q_do rfl fun _ hK => wp_buildSlice' (l := ([t_18] : List Int)) (cells := [(.int .i64 t_18)]) hF hS Try.underlying24 inf3 rfl rfl (by kernel_rfl) rfl rfl rfl ⟨rfl, rfl⟩ rfl rfl fun a w q27 s27 hF hS h27 _ => hK _ _ ?_
        have hS : St _ _ _ _ [q17, q27, [⟨b23, [(.int .i64 e_19.Level), s21.v, s22.v, (.int .i64 e_19.Sum)], 29⟩], [⟨b15, [(.int .i64 e_11.Level), s13.v, s14.v, (.int .i64 e_11.Sum)], 29⟩], [⟨b4, [s1.v], 26⟩]] := hS.sel [2, 0, 1, 3, 4] (by decide)
        obtain ⟨q28, q28', hS, h28, h28'⟩ := hS.takeV hV26 he_25
        obtain ⟨l_29, hl_29, hj6⟩ := bindS hj6
        refine q_do rfl fun _ hK => wp_append hF hS h28 Try.underlying24 inf3 rfl rfl rfl rfl (h27.vw hS (j := 2) rfl) rfl (by decide) hl_29 rfl fun a w q30 s30 hF hS h30 => hK _ _ ?_
        obtain ⟨e_31, he_31, hj6⟩ := bindS hj6
        refine q_x (v := (elP s7 (t_10.toNat * 1))) hF hS (ex_indexAddr Try.underlying46 sz24 rfl rfl (h28'.idx he_31)) rfl rfl fun a hF => ?_
        have hS : St _ _ _ _ [q28', q30, q27, [⟨b23, [(.int .i64 e_19.Level), s21.v, s22.v, (.int .i64 e_19.Sum)], 29⟩], [⟨b15, [(.int .i64 e_11.Level), s13.v, s14.v, (.int .i64 e_11.Sum)], 29⟩], [⟨b4, [s1.v], 26⟩]] := hS.sel [1, 0, 2, 3, 4, 5] (by decide)
        refine q_do rfl fun _ hK => wp_storeH hF hS h28' h30 sz24 rfl rfl he_31 rfl fun w q33 hS h33 => hK _ _ (q_end (n_jn ?_))
        obtain rfl := someI hj6
        exact ⟨q33, hF.sub ⟨rfl, rfl, rfl, rfl, rfl, rfl, rfl, rfl, rfl, rfl, rfl, rfl, trivial⟩, hS.mask [true, false, false, true, true], h33⟩
      ·rintro a w ⟨q35, hF, hS, h35⟩
       refine n_ib (n_sq ?_)
       refine q_region (q_x (v := (.int .i64 (w64 (t_18 + 1)))) hF hS (ex_ibin rfl rfl rfl) rfl rfl fun a hF => q_x (v := (.int .i64 (w64 (t_18 + 1)))) hF hS (ex_move rfl) rfl rfl fun a hF => q_end ?_)
       obtain rfl := someI hb4
       exact ⟨rfl, q35, _, _, rfl, hF.sub ⟨rfl, rfl, rfl, rfl, rfl, rfl, rfl, rfl, rfl, rfl, rfl, rfl, trivial⟩, hS, h35⟩
    ·rintro e a w ⟨q37, rfl, hF, hS, h37⟩
     refine x_ib (n_ib (n_sq ?_))
     refine q_region (q_x (v := (.int .i64 (w64 (t_10 + 1)))) hF hS (ex_ibin rfl rfl rfl) rfl rfl fun a hF => q_x (v := (.int .i64 (w64 (t_10 + 1)))) hF hS (ex_move rfl) rfl rfl fun a hF => q_end ?_)
     obtain rfl := someI hb2
     exact ⟨rfl, q37, _, _, rfl, hF.sub ⟨rfl, rfl, rfl, rfl, rfl, rfl, rfl, trivial⟩, hS, h37⟩
  ·rintro e a w ⟨q39, rfl, hF, hS, h39⟩
   refine x_ib (n_sq ?_)
   refine q_seq (q_region (q_x (v := s7.v) hF hS (ex_move rfl) rfl rfl fun a hF => q_x (v := s7.v) hF hS (ex_assign rfl) rfl rfl fun a hF => q_x (v := (.bool true)) hF hS (ex_assign rfl) rfl rfl fun a hF => q_end (n_sq (q_ret ?_))))
   obtain rfl := someI hr
   exact ret_of hF hS rfl (.tmp rfl (.tmp rfl .nil)) ⟨q39, s7, rfl, hS.sel [0] (by decide), h39⟩
 ·have hr := cond_t hc1 hr
  refine q_cond_t hF rfl hc1 (q_seq (q_region (q_x (v := nilS.v) hF hS (ex_assign rfl) rfl rfl fun a hF => q_x (v := (.bool false)) hF hS (ex_assign rfl) rfl rfl fun a hF => q_end (n_sq (q_ret (r_sq ?_))))))
  obtain rfl := someI hr
  exact ret_of hF hS rfl (.tmp rfl (.tmp rfl .nil)) ⟨[], nilS, rfl, hS.sel [1] (by decide), (OwnD.nil (β := Int) m 24 3)⟩

end Go.Proofs.Ytnmimeojimfogaa
