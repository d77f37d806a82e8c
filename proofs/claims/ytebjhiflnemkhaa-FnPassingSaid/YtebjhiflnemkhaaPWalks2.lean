/- The walks of the functions: each returns what its plain function says. -/
import Derived.Test.YtebjhiflnemkhaaPWalks1
namespace Go.Proofs.Ytebjhiflnemkhaa
open Go.Gx Go.Gx.F Go.RowKit
set_option linter.all false
set_option maxRecDepth 10000


theorem c_spec_ePassing (p_s : List impl_Variable) (p_l : List impl_Edit) (r : Int × (List Int)) (hr : spec_ePassing p_s p_l = some r) (w0 : World) (m : Mem) (hv : Vis m w0) (s1 : Sl) (h1 : Rd m s1 p_s) (s2 : Sl) (h2 : Rd m s2 p_l) :
  Ret Try.prog 62 [s1.v, s2.v] w0 (fun v w => ∃ (q0' : Piece) (s0' : Sl), v = (.tuple #[(.int .i64 r.1), s0'.v]) ∧ St [] w0 w m [q0'] ∧ OwnL m 3 q0' s0' r.2) := by
 unfold spec_ePassing at hr
 refine ret_start Try.func62 rfl 31 rfl rfl m hv fun a hF hS => q_seq (q_region (q_x (v := (.int .i64 0)) hF hS (ex_assign rfl) rfl rfl fun a hF => q_x (v := nilS.v) hF hS (ex_assign rfl) rfl rfl fun a hF => q_end (n_sq (q_seq (q_region (q_x (v := (.int .i64 0)) hF hS (ex_assign rfl) rfl rfl fun a hF => q_end (n_sq (q_seq (q_region (q_x (v := nilS.v) hF hS (ex_assign rfl) rfl rfl fun a hF => q_end (n_sq (q_seq (q_seq (q_region (q_x (v := (.int .i64 0)) hF hS (ex_assign rfl) rfl rfl fun a hF => q_end (n_sq (q_block ?_)))))))))))))))))
 obtain ⟨o1, hl1, hr⟩ := bindS hr
 refine q_loop (fun (s : Int × (List Int) × Int) a w => ∃ (q5 : Piece), ∃ (s5 : Sl), ∃ n_3, ∃ first_4, ∃ i_6, s = (n_3, first_4, i_6) ∧ Fr a 31 [(0, s1.v), (1, s2.v), (6, (.int .i64 n_3)), (7, s5.v), (8, (.int .i64 i_6))] ∧ St [] w0 w m [q5] ∧ OwnL m 3 q5 s5 first_4) (fun (o : Int × (List Int)) e a w => ∃ (q22 : Piece), ∃ (s22 : Sl), ∃ n_20, ∃ first_21, o = (n_20, first_21) ∧ e = .exit 0 ∧ Fr a 31 [(6, (.int .i64 n_20)), (7, s22.v)] ∧ St [] w0 w m [q22] ∧ OwnL m 3 q22 s22 first_21) hl1 ⟨[], nilS, _, _, _, rfl, hF.sub ⟨rfl, rfl, rfl, rfl, rfl, trivial⟩, hS.sel [0] (by decide), (OwnL.nil (α := Int) m 3)⟩ ?_ ?_
 ·clear hF hS
  rintro s a w st ⟨q5, s5, n_3, first_4, i_6, rfl, hF, hS, h5⟩ hb1
  unfold spec_ePassing_l1 at hb1
  refine q_seq (q_seq (q_region (q_x (v := (.int .i64 i_6)) hF hS (ex_move rfl) rfl rfl fun a hF => q_x (v := s1.v) hF hS (ex_move rfl) rfl rfl fun a hF => ?_)))
  obtain ⟨t_7, ht_7, hb1⟩ := bindS hb1
  refine q_call (vs := [s1.v]) hF hS Try.func61 (by kernel_rfl) rfl rfl rfl (c_spec_sCount p_s t_7 ht_7 _ m hS.vis s1 h1) ?_
  rintro a w _ rfl hF hS
  refine q_x (v := (.bool (decide (i_6 < t_7)))) hF hS (ex_ibin rfl rfl rfl) rfl rfl fun a hF => q_end (n_sq ?_)
  rcases bcase (decide (i_6 < t_7)) with hc2 | hc2
  ·have hb1 := cond_f hc2 hb1
   refine q_cond_f hF rfl hc2 (q_exit (x_sq ?_))
   obtain rfl := someI hb1
   exact ⟨nofun, .inl ⟨q5, s5, _, _, rfl, rfl, hF.sub ⟨rfl, rfl, trivial⟩, hS, h5⟩⟩
  ·have hb1 := cond_t hc2 hb1
   refine q_cond_t hF rfl hc2 (q_skipc (n_sq (q_seq (q_block (q_seq (q_region (q_x (v := s1.v) hF hS (ex_move rfl) rfl rfl fun a hF => q_x (v := (.int .i64 i_6)) hF hS (ex_move rfl) rfl rfl fun a hF => ?_)))))))
   obtain ⟨t_8, ht_8, hb1⟩ := bindS hb1
   refine q_call (vs := [s1.v, (.int .i64 i_6)]) hF hS Try.func87 (by kernel_rfl) rfl rfl rfl (c_spec_sAt p_s i_6 t_8 ht_8 _ m hS.vis s1 h1) ?_
   rintro a w _ ⟨q10, s10, rfl, hR9, h10⟩ hF hS2
   have hS : St _ _ _ _ [q10, q5] := hS.joinF hR9
   refine q_x (v := s10.v) hF hS (ex_assign rfl) rfl rfl fun a hF => q_end (n_sq (q_seq (q_region (q_x (v := s2.v) hF hS (ex_move rfl) rfl rfl fun a hF => q_x (v := s10.v) hF hS (ex_move rfl) rfl rfl fun a hF => ?_))))
   obtain ⟨m12, hl12, hv12, hz12⟩ := hS.lend
   obtain ⟨t_11, ht_11, hb1⟩ := bindS hb1
   refine q_call (vs := [s2.v, s10.v]) hF hS Try.func67 (by kernel_rfl) rfl rfl rfl (c_spec_eFailed p_l t_8 t_11 ht_11 _ m12 hv12 s2 (h2.mono hl12) s10 (h10.froz hl12 (hz12 0 _ rfl))) ?_
   rintro a w _ ⟨q14, s14, rfl, hR13, h14⟩ hF hS2
   have hS : St _ _ _ _ [q14, q10, q5] := hS.joinF hR13
   have h14 := h14.any m
   refine q_x (v := (.int .i64 (goLen t_11))) hF hS (ex_len Try.underlying24 rfl h14.len) rfl rfl fun a hF => q_x (v := (.bool ((goLen t_11) == 0))) hF hS (ex_ibin rfl rfl rfl) rfl rfl fun a hF => q_end (n_sq ?_)
   obtain ⟨j3, hj3, hb1⟩ := bindS hb1
   refine q_join (fun a w => ∃ (q19 : Piece), ∃ (s19 : Sl), ∃ n_17, ∃ first_18, j3 = (n_17, first_18) ∧ Fr a 31 [(0, s1.v), (1, s2.v), (6, (.int .i64 n_17)), (7, s19.v), (8, (.int .i64 i_6))] ∧ St [] w0 w m [q19] ∧ OwnL m 3 q19 s19 first_18) ?_ ?_
   ·rcases bcase ((goLen t_11) == 0) with hc4 | hc4
    ·have hj3 := cond_f hc4 hj3
     refine q_cond_f hF rfl hc4 (q_skipc (n_jn ?_))
     obtain rfl := someI hj3
     exact ⟨q5, s5, _, _, rfl, hF.sub ⟨rfl, rfl, rfl, rfl, rfl, trivial⟩, hS.mask [false, false, true], h5⟩
    ·have hj3 := cond_t hc4 hj3
     refine q_cond_t hF rfl hc4 (q_seq (q_seq (q_region (q_x (v := (.int .i64 n_3)) hF hS (ex_move rfl) rfl rfl fun a hF => q_x (v := (.bool (n_3 == 0))) hF hS (ex_ibin rfl rfl rfl) rfl rfl fun a hF => q_end (n_sq ?_)))))
     obtain ⟨first_15, hj5, hj3⟩ := bindS hj3
     refine q_join (fun a w => ∃ (q16 : Piece), ∃ (s16 : Sl), Fr a 31 [(0, s1.v), (1, s2.v), (6, (.int .i64 n_3)), (7, s16.v), (8, (.int .i64 i_6))] ∧ St [] w0 w m [q16] ∧ OwnL m 3 q16 s16 first_15) ?_ ?_
     ·rcases bcase (n_3 == 0) with hc6 | hc6
      ·have hj5 := cond_f hc6 hj5
       refine q_cond_f hF rfl hc6 (q_skipc (n_jn ?_))
       obtain rfl := someI hj5
       exact ⟨q5, s5, hF.sub ⟨rfl, rfl, rfl, rfl, rfl, trivial⟩, hS.mask [false, false, true], h5⟩
      ·have hj5 := cond_t hc6 hj5
       refine q_cond_t hF rfl hc6 (q_region (q_x (v := s10.v) hF hS (ex_move rfl) rfl rfl fun a hF => q_x (v := s10.v) hF hS (ex_assign rfl) rfl rfl fun a hF => q_end (n_jn ?_)))
       obtain rfl := someI hj5
       exact ⟨q10, s10, hF.sub ⟨rfl, rfl, rfl, rfl, rfl, trivial⟩, hS.mask [false, true, false], h10⟩
     ·rintro a w ⟨q16, s16, hF, hS, h16⟩
      refine n_sq ?_
      refine q_region (q_x (v := (.int .i64 n_3)) hF hS (ex_move rfl) rfl rfl fun a hF => q_x (v := (.int .i64 (w64 (n_3 + 1)))) hF hS (ex_ibin rfl rfl rfl) rfl rfl fun a hF => q_x (v := (.int .i64 (w64 (n_3 + 1)))) hF hS (ex_assign rfl) rfl rfl fun a hF => q_end (n_jn ?_))
      obtain rfl := someI hj3
      exact ⟨q16, s16, _, _, rfl, hF.sub ⟨rfl, rfl, rfl, rfl, rfl, trivial⟩, hS, h16⟩
   ·rintro a w ⟨q19, s19, n_17, first_18, rfl, hF, hS, h19⟩
    refine n_ib (n_sq ?_)
    refine q_region (q_x (v := (.int .i64 i_6)) hF hS (ex_move rfl) rfl rfl fun a hF => q_x (v := (.int .i64 (w64 (i_6 + 1)))) hF hS (ex_ibin rfl rfl rfl) rfl rfl fun a hF => q_x (v := (.int .i64 (w64 (i_6 + 1)))) hF hS (ex_assign rfl) rfl rfl fun a hF => q_end ?_)
    obtain rfl := someI hb1
    exact ⟨rfl, q19, s19, _, _, _, rfl, hF.sub ⟨rfl, rfl, rfl, rfl, rfl, trivial⟩, hS, h19⟩
 ·rintro e a w ⟨q22, s22, n_20, first_21, rfl, rfl, hF, hS, h22⟩
  refine x_ib (n_sq ?_)
  refine q_seq (q_region (q_x (v := (.int .i64 n_20)) hF hS (ex_move rfl) rfl rfl fun a hF => q_x (v := s22.v) hF hS (ex_move rfl) rfl rfl fun a hF => q_x (v := (.int .i64 n_20)) hF hS (ex_assign rfl) rfl rfl fun a hF => q_x (v := s22.v) hF hS (ex_assign rfl) rfl rfl fun a hF => q_end (n_sq (q_ret ?_))))
  obtain rfl := someI hr
  exact ret_of hF hS rfl (.tmp rfl (.tmp rfl .nil)) ⟨q22, s22, rfl, hS.sel [0] (by decide), h22⟩

theorem c_spec_FirstPassing (p_s : List impl_Variable) (p_l : List impl_Edit) (r : (List Int) × Bool) (hr : spec_FirstPassing p_s p_l = some r) (w0 : World) (m : Mem) (hv : Vis m w0) (s1 : Sl) (h1 : Rd m s1 p_s) (s2 : Sl) (h2 : Rd m s2 p_l) :
  Ret Try.prog 21 [s1.v, s2.v] w0 (fun v w => ∃ (q0' : Piece) (s0' : Sl), v = (.tuple #[s0'.v, (.bool r.2)]) ∧ St [] w0 w m [q0'] ∧ OwnL m 3 q0' s0' r.1) := by
 unfold spec_FirstPassing at hr
 refine ret_start Try.func21 rfl 26 rfl rfl m hv fun a hF hS => q_seq (q_region (q_x (v := nilS.v) hF hS (ex_assign rfl) rfl rfl fun a hF => q_x (v := (.bool false)) hF hS (ex_assign rfl) rfl rfl fun a hF => q_end (n_sq (q_seq (q_seq ?_)))))
 obtain ⟨t_5, hj1, hr⟩ := bindS hr
 refine q_join (fun a w => Fr a 26 [(0, s1.v), (1, s2.v), (16, (.bool t_5))] ∧ St [] w0 w m []) ?_ ?_
 ·refine q_region (q_x (v := s1.v) hF hS (ex_move rfl) rfl rfl fun a hF => q_x (v := s2.v) hF hS (ex_move rfl) rfl rfl fun a hF => ?_)
  obtain ⟨t_3, ht_3, hj1⟩ := bindS hj1
  refine q_call (vs := [s1.v, s2.v]) hF hS Try.func60 (by kernel_rfl) rfl rfl rfl (c_spec_eList p_s p_l t_3 ht_3 _ m hS.vis s1 h1 s2 h2) ?_
  rintro a w _ rfl hF hS
  refine q_x (v := (.bool (!t_3))) hF hS (ex_not rfl) rfl rfl fun a hF => q_x (v := (.bool (!t_3))) hF hS (ex_move rfl) rfl rfl fun a hF => ?_
  rcases bcase (!t_3) with hc2 | hc2
  ·have hj1 := cond_f hc2 hj1
   refine q_xg (v := s1.v) hF hS (ex_move rfl) (wanted_t hF rfl rfl rfl hc2) rfl fun a hF => ?_
   obtain ⟨t_4, ht_4, hj1⟩ := bindS hj1
   refine q_callg (vs := [s1.v]) hF hS (wanted_t hF rfl rfl rfl hc2) Try.func61 (by kernel_rfl) rfl rfl rfl (c_spec_sCount p_s t_4 ht_4 _ m hS.vis s1 h1) ?_
   rintro a w _ rfl hF hS
   refine q_xg (v := (.bool (decide (20000 < t_4)))) hF hS (ex_ibin rfl rfl rfl) (wanted_t hF rfl rfl rfl hc2) rfl fun a hF => q_x (v := (.bool (decide (20000 < t_4)))) hF hS (ex_pick_f rfl rfl hc2) rfl rfl fun a hF => q_end (n_jn ?_)
   obtain rfl := someI hj1
   exact ⟨hF.sub ⟨rfl, rfl, rfl, trivial⟩, hS⟩
  ·have hj1 := cond_t hc2 hj1
   refine q_skip hF (wanted_f hF rfl rfl rfl hc2 rfl) rfl fun a hF => q_skip hF (wanted_f hF rfl rfl rfl hc2 rfl) rfl fun a hF => q_skip hF (wanted_f hF rfl rfl rfl hc2 rfl) rfl fun a hF => q_x (v := (.bool true)) hF hS (ex_pick_t rfl rfl hc2) rfl rfl fun a hF => q_end (n_jn ?_)
   obtain rfl := someI hj1
   exact ⟨hF.sub ⟨rfl, rfl, rfl, trivial⟩, hS⟩
 ·rintro a w ⟨hF, hS⟩
  refine n_sq ?_
  rcases bcase (t_5) with hc3 | hc3
  ·have hr := cond_f hc3 hr
   refine q_cond_f hF rfl hc3 (q_skipc (n_sq (q_seq (q_region (q_x (v := s1.v) hF hS (ex_move rfl) rfl rfl fun a hF => q_x (v := s2.v) hF hS (ex_move rfl) rfl rfl fun a hF => ?_)))))
   obtain ⟨t_6, ht_6, hr⟩ := bindS hr
   refine q_call (vs := [s1.v, s2.v]) hF hS Try.func62 (by kernel_rfl) rfl rfl rfl (c_spec_ePassing p_s p_l t_6 ht_6 _ m hS.vis s1 h1 s2 h2) ?_
   rintro a w _ ⟨q8, s8, rfl, hR7, h8⟩ hF hS2
   have hS : St _ _ _ _ [q8] := hS.joinF hR7
   refine q_x (v := (.tuple #[(.int .i64 t_6.1), s8.v])) hF hS (ex_move rfl) rfl rfl fun a hF => q_x (v := (.int .i64 t_6.1)) hF hS (ex_extract rfl rfl) rfl rfl fun a hF => q_x (v := s8.v) hF hS (ex_extract rfl rfl) rfl rfl fun a hF => q_x (v := (.int .i64 t_6.1)) hF hS (ex_assign rfl) rfl rfl fun a hF => q_x (v := s8.v) hF hS (ex_assign rfl) rfl rfl fun a hF => q_end (n_sq (q_seq (q_region (q_x (v := s8.v) hF hS (ex_move rfl) rfl rfl fun a hF => q_x (v := (.int .i64 t_6.1)) hF hS (ex_move rfl) rfl rfl fun a hF => q_x (v := (.bool (decide (0 < t_6.1)))) hF hS (ex_ibin rfl rfl rfl) rfl rfl fun a hF => q_x (v := s8.v) hF hS (ex_assign rfl) rfl rfl fun a hF => q_x (v := (.bool (decide (0 < t_6.1)))) hF hS (ex_assign rfl) rfl rfl fun a hF => q_end (n_sq (q_ret ?_))))))
   obtain rfl := someI hr
   exact ret_of hF hS rfl (.tmp rfl (.tmp rfl .nil)) ⟨q8, s8, rfl, hS.sel [0] (by decide), h8⟩
  ·have hr := cond_t hc3 hr
   refine q_cond_t hF rfl hc3 (q_seq (q_region (q_x (v := nilS.v) hF hS (ex_assign rfl) rfl rfl fun a hF => q_x (v := (.bool false)) hF hS (ex_assign rfl) rfl rfl fun a hF => q_end (n_sq (q_ret (r_sq ?_))))))
   obtain rfl := someI hr
   exact ret_of hF hS rfl (.tmp rfl (.tmp rfl .nil)) ⟨[], nilS, rfl, hS.sel [0] (by decide), (OwnL.nil (α := Int) m 3)⟩

theorem c_impl_CountPassing_1 (p_x0 : List Int) (p_x1 : Int) (r : Bool × Int) (hr : impl_CountPassing_1 p_x0 p_x1 = some r) (w0 : World) (m : Mem) (b_p_x1 : Nat) (s1 : Sl) (h1 : Rd m s1 p_x0) (X : List Nat) (hS : St X w0 w0 m [[⟨b_p_x1, [(.int .i64 p_x1)], 3⟩]]) :
  RetX Try.prog 63 [s1.v, (.pointer (some ⟨b_p_x1, 0, none⟩))] w0 (fun v w => v = (.bool r.1) ∧ St X w0 w m [[⟨b_p_x1, [(.int .i64 r.2)], 3⟩]]) := by
 unfold impl_CountPassing_1 at hr
 refine ret_startX Try.func63 rfl 6 rfl rfl fun a hF => q_seq (q_region (q_x (v := (.bool false)) hF hS (ex_assign rfl) rfl rfl fun a hF => q_end (n_sq (q_seq (q_region (q_x (v := (.int .i64 p_x1)) hF hS (ex_load1 0 0 Try.underlying3 rfl rfl rfl rfl) rfl rfl fun a hF => q_x (v := (.int .i64 (w64 (p_x1 + 1)))) hF hS (ex_ibin rfl rfl rfl) rfl rfl fun a hF => q_store (vs := [(.int .i64 (w64 (p_x1 + 1)))]) (cs' := [(.int .i64 (w64 (p_x1 + 1)))]) 0 0 hF hS sz3 rfl rfl rfl rfl rfl rfl rfl rfl fun a w hF hS => q_end (n_sq (q_seq (q_region (q_x (v := (.bool true)) hF hS (ex_assign rfl) rfl rfl fun a hF => q_end (n_sq (q_ret ?_))))))))))))
 obtain rfl := someI hr
 exact ret_ofX hF hS rfl (.tmp rfl .nil) ⟨rfl, hS.sel [0] (by decide)⟩

theorem c_impl_passing_of_impl_CountPassing_1 (p_s : List impl_Variable) (p_l : List impl_Edit) (p_x300 : Int) (r : Int) (hr : impl_passing_of_impl_CountPassing_1 p_s p_l p_x300 = some r) (w0 : World) (m : Mem) (b_p_x300 : Nat) (s1 : Sl) (h1 : Rd m s1 p_s) (s2 : Sl) (h2 : Rd m s2 p_l) (X : List Nat) (hS : St X w0 w0 m [[⟨b_p_x300, [(.int .i64 p_x300)], 3⟩]]) :
  RetX Try.prog 58 [s1.v, s2.v, (.func (.func 63) #[] #[(.pointer (some ⟨b_p_x300, 0, none⟩))])] w0 (fun v w => v = (.tuple #[]) ∧ St X w0 w m [[⟨b_p_x300, [(.int .i64 r)], 3⟩]]) := by
 unfold impl_passing_of_impl_CountPassing_1 at hr
 refine ret_startX Try.func58 rfl 27 rfl rfl fun a hF => q_seq (q_region (q_x (v := s1.v) hF hS (ex_move rfl) rfl rfl fun a hF => ?_))
 obtain ⟨t_3, ht_3, hr⟩ := bindS hr
 refine q_call (vs := [s1.v]) hF hS Try.func57 (by kernel_rfl) rfl rfl rfl (c_impl_combinations p_s t_3 ht_3 _ m hS.vis s1 h1) ?_
 rintro a w _ rfl hF hS
 refine q_x (v := (.int .i64 0)) hF hS (ex_move rfl) rfl rfl fun a hF => q_end (n_sq (q_block ?_))
 obtain ⟨o1, hl1, hr⟩ := bindS hr
 refine q_loop (fun (s : Int × Int) a w => ∃ t_4, ∃ p_x300_5, s = (t_4, p_x300_5) ∧ Fr a 27 [(0, s1.v), (1, s2.v), (2, (.func (.func 63) #[] #[(.pointer (some ⟨b_p_x300, 0, none⟩))])), (9, (.int .i64 t_3)), (10, (.int .i64 t_4))] ∧ St X w0 w m [[⟨b_p_x300, [(.int .i64 p_x300_5)], 3⟩]]) (fun (o : (Int) ⊕ (Int)) e a w => ∃ p_x300_15, o = .inl p_x300_15 ∧ e = .exit 0 ∧ Fr a 27 [] ∧ St X w0 w m [[⟨b_p_x300, [(.int .i64 p_x300_15)], 3⟩]]) hl1 ⟨_, _, rfl, hF.sub ⟨rfl, rfl, rfl, rfl, rfl, trivial⟩, hS⟩ ?_ ?_
 ·clear hF hS
  rintro s a w st ⟨t_4, p_x300_5, rfl, hF, hS⟩ hb1
  unfold impl_passing_of_impl_CountPassing_1_l1 at hb1
  refine q_seq (q_region (q_x (v := (.bool (decide (t_4 < t_3)))) hF hS (ex_ibin rfl rfl rfl) rfl rfl fun a hF => q_end (n_sq (q_seq ?_))))
  rcases bcase (decide (t_4 < t_3)) with hc2 | hc2
  ·have hb1 := cond_f hc2 hb1
   refine q_cond_f hF rfl hc2 (q_exit (x_sq ?_))
   obtain rfl := someI hb1
   exact ⟨nofun, .inl ⟨_, rfl, rfl, hF.sub trivial, hS⟩⟩
  ·have hb1 := cond_t hc2 hb1
   refine q_cond_t hF rfl hc2 (q_skipc (n_sq (q_seq (q_block (q_seq (q_region (q_x (v := (.int .i64 t_4)) hF hS (ex_move rfl) rfl rfl fun a hF => q_x (v := (.int .i64 t_4)) hF hS (ex_assign rfl) rfl rfl fun a hF => q_end (n_sq (q_seq (q_region (q_x (v := s1.v) hF hS (ex_move rfl) rfl rfl fun a hF => q_x (v := (.int .i64 t_4)) hF hS (ex_move rfl) rfl rfl fun a hF => ?_)))))))))))
   obtain ⟨t_6, ht_6, hb1⟩ := bindS hb1
   refine q_call (vs := [s1.v, (.int .i64 t_4)]) hF hS Try.func84 (by kernel_rfl) rfl rfl rfl (c_impl_valuesAt p_s t_4 t_6 ht_6 _ m hS.vis s1 h1) ?_
   rintro a w _ ⟨q8, s8, rfl, hR7, h8⟩ hF hS2
   have hS : St _ _ _ _ [q8, [⟨b_p_x300, [(.int .i64 p_x300_5)], 3⟩]] := hS.joinF hR7
   refine q_x (v := s8.v) hF hS (ex_assign rfl) rfl rfl fun a hF => q_end (n_sq (q_seq ?_))
   obtain ⟨j3, hj3, hb1⟩ := bindS hb1
   refine q_join (fun a w => ∃ t_13, ∃ p_x300_14, j3 = (t_13, p_x300_14) ∧ Fr a 27 [(0, s1.v), (1, s2.v), (2, (.func (.func 63) #[] #[(.pointer (some ⟨b_p_x300, 0, none⟩))])), (9, (.int .i64 t_3)), (10, (.int .i64 t_4)), (25, (.bool t_13))] ∧ St X w0 w m [[⟨b_p_x300, [(.int .i64 p_x300_14)], 3⟩]]) ?_ ?_
   ·refine q_region (q_x (v := s2.v) hF hS (ex_move rfl) rfl rfl fun a hF => q_x (v := s8.v) hF hS (ex_move rfl) rfl rfl fun a hF => ?_)
    obtain ⟨m10, hl10, hv10, hz10⟩ := hS.lend
    obtain ⟨t_9, ht_9, hj3⟩ := bindS hj3
    refine q_call (vs := [s2.v, s8.v]) hF hS Try.func85 (by kernel_rfl) rfl rfl rfl (c_impl_failsOne p_l t_6 t_9 ht_9 _ m10 hv10 s2 (h2.mono hl10) s8 (h8.froz hl10 (hz10 0 _ rfl))) ?_
    rintro a w _ rfl hF hS
    refine q_x (v := (.bool (!t_9))) hF hS (ex_not rfl) rfl rfl fun a hF => q_x (v := (.bool (!t_9))) hF hS (ex_move rfl) rfl rfl fun a hF => ?_
    rcases bcase (!t_9) with hc4 | hc4
    ·have hj3 := cond_f hc4 hj3
     refine q_skip hF (wanted_f hF rfl rfl rfl hc4 rfl) rfl fun a hF => q_skip hF (wanted_f hF rfl rfl rfl hc4 rfl) rfl fun a hF => q_skip hF (wanted_f hF rfl rfl rfl hc4 rfl) rfl fun a hF => q_skip hF (wanted_f hF rfl rfl rfl hc4 rfl) rfl fun a hF => q_x (v := (.bool false)) hF hS (ex_pick_f rfl rfl hc4) rfl rfl fun a hF => q_end (n_jn ?_)
     obtain rfl := someI hj3
     exact ⟨_, _, rfl, hF.sub ⟨rfl, rfl, rfl, rfl, rfl, rfl, trivial⟩, hS.mask [false, true]⟩
    ·have hj3 := cond_t hc4 hj3
     refine q_xg (v := (.func (.func 63) #[] #[(.pointer (some ⟨b_p_x300, 0, none⟩))])) hF hS (ex_move rfl) (wanted_t hF rfl rfl rfl hc4) rfl fun a hF => q_xg (v := s8.v) hF hS (ex_move rfl) (wanted_t hF rfl rfl rfl hc4) rfl fun a hF => ?_
     have hS : St _ _ _ _ [[⟨b_p_x300, [(.int .i64 p_x300_5)], 3⟩], q8] := hS.sel [1, 0] (by decide)
     have hS11 : St _ _ _ _ ([[⟨b_p_x300, [(.int .i64 p_x300_5)], 3⟩]] ++ [q8]) := hS
     obtain ⟨m11, hl11, hE11, hz11⟩ := hS11.lendX
     obtain ⟨t_12, ht_12, hj3⟩ := bindS hj3
     refine q_dog (wanted_t hF rfl rfl rfl hc4) fun _ hK => wp_callV (vs := [s8.v]) (cap := [(.pointer (some ⟨b_p_x300, 0, none⟩))]) hF rfl Try.func63 (by kernel_rfl) rfl rfl rfl (c_impl_CountPassing_1 t_6 p_x300_5 t_12 ht_12 _ m11 b_p_x300 s8 (h8.froz hl11 (hz11 0 _ rfl)) _ hE11) fun a w _ hR hF => hK _ _ ?_
     obtain ⟨rfl, hR11⟩ := hR
     have hS : St _ _ _ _ [[⟨b_p_x300, [(.int .i64 t_12.2)], 3⟩], q8] := hS11.leaveF hR11
     refine q_xg (v := (.bool (!t_12.1))) hF hS (ex_not rfl) (wanted_t hF rfl rfl rfl hc4) rfl fun a hF => q_x (v := (.bool (!t_12.1))) hF hS (ex_pick_t rfl rfl hc4) rfl rfl fun a hF => q_end (n_jn ?_)
     obtain rfl := someI hj3
     exact ⟨_, _, rfl, hF.sub ⟨rfl, rfl, rfl, rfl, rfl, rfl, trivial⟩, hS.mask [true, false]⟩
   ·rintro a w ⟨t_13, p_x300_14, rfl, hF, hS⟩
    refine n_sq ?_
    rcases bcase (t_13) with hc5 | hc5
    ·have hb1 := cond_f hc5 hb1
     refine q_cond_f hF rfl hc5 (q_skipc (n_ib (n_sq (q_region (q_x (v := (.int .i64 (w64 (t_4 + 1)))) hF hS (ex_ibin rfl rfl rfl) rfl rfl fun a hF => q_x (v := (.int .i64 (w64 (t_4 + 1)))) hF hS (ex_move rfl) rfl rfl fun a hF => q_end ?_)))))
     obtain rfl := someI hb1
     exact ⟨rfl, _, _, rfl, hF.sub ⟨rfl, rfl, rfl, rfl, rfl, trivial⟩, hS⟩
    ·have hb1 := cond_t hc5 hb1
     refine q_cond_t hF rfl hc5 (q_ret (r_ib (r_sq ?_)))
     obtain rfl := someI hb1
     refine ⟨nofun, .inr fun ho => ?_⟩
     subst ho
     refine r_ib ?_
     obtain rfl := someI hr
     exact ret_ofX hF hS rfl .nil ⟨rfl, hS.sel [0] (by decide)⟩
 ·rintro e a w ⟨p_x300_15, rfl, rfl, hF, hS⟩
  refine x_ib (normal_ret ?_)
  obtain rfl := someI hr
  exact ret_ofX hF hS rfl .nil ⟨rfl, hS.sel [0] (by decide)⟩

theorem c_impl_CountPassing (p_s : List impl_Variable) (p_l : List impl_Edit) (r : Int × Bool) (hr : impl_CountPassing p_s p_l = some r) (w0 : World) (m : Mem) (hv : Vis m w0) (s1 : Sl) (h1 : Rd m s1 p_s) (s2 : Sl) (h2 : Rd m s2 p_l) :
  Ret Try.prog 22 [s1.v, s2.v] w0 (fun v _ => v = (.tuple #[(.int .i64 r.1), (.bool r.2)])) := by
 unfold impl_CountPassing at hr
 refine ret_start Try.func22 rfl 26 rfl rfl m hv fun a hF hS => q_seq (q_region (q_x (v := (.int .i64 0)) hF hS (ex_assign rfl) rfl rfl fun a hF => q_x (v := (.bool false)) hF hS (ex_assign rfl) rfl rfl fun a hF => q_end (n_sq (q_seq (q_seq ?_)))))
 obtain ⟨t_6, hj1, hr⟩ := bindS hr
 refine q_join (fun a w => Fr a 26 [(0, s1.v), (1, s2.v), (20, (.bool t_6))] ∧ St [] w0 w m []) ?_ ?_
 ·refine q_region (q_x (v := s1.v) hF hS (ex_move rfl) rfl rfl fun a hF => ?_)
  obtain ⟨t_3, ht_3, hj1⟩ := bindS hj1
  refine q_call (vs := [s1.v]) hF hS Try.func33 (by kernel_rfl) rfl rfl rfl (c_impl_IsSchema p_s t_3 ht_3 _ m hS.vis s1 h1) ?_
  rintro a w _ rfl hF hS
  refine q_x (v := (.bool (!t_3))) hF hS (ex_not rfl) rfl rfl fun a hF => q_x (v := (.bool (!t_3))) hF hS (ex_move rfl) rfl rfl fun a hF => ?_
  rcases bcase (!t_3) with hc2 | hc2
  ·have hj1 := cond_f hc2 hj1
   refine q_xg (v := s1.v) hF hS (ex_move rfl) (wanted_t hF rfl rfl rfl hc2) rfl fun a hF => q_xg (v := s2.v) hF hS (ex_move rfl) (wanted_t hF rfl rfl rfl hc2) rfl fun a hF => ?_
   obtain ⟨t_4, ht_4, hj1⟩ := bindS hj1
   refine q_callg (vs := [s1.v, s2.v]) hF hS (wanted_t hF rfl rfl rfl hc2) Try.func56 (by kernel_rfl) rfl rfl rfl (c_impl_areEdits p_s p_l t_4 ht_4 _ m hS.vis s1 h1 s2 h2) ?_
   rintro a w _ rfl hF hS
   refine q_xg (v := (.bool (!t_4))) hF hS (ex_not rfl) (wanted_t hF rfl rfl rfl hc2) rfl fun a hF => q_x (v := (.bool (!t_4))) hF hS (ex_pick_f rfl rfl hc2) rfl rfl fun a hF => q_x (v := (.bool (!t_4))) hF hS (ex_move rfl) rfl rfl fun a hF => ?_
   rcases bcase (!t_4) with hc3 | hc3
   ·have hj1 := cond_f hc3 hj1
    refine q_xg (v := s1.v) hF hS (ex_move rfl) (wanted_t hF rfl rfl rfl hc3) rfl fun a hF => ?_
    obtain ⟨t_5, ht_5, hj1⟩ := bindS hj1
    refine q_callg (vs := [s1.v]) hF hS (wanted_t hF rfl rfl rfl hc3) Try.func57 (by kernel_rfl) rfl rfl rfl (c_impl_combinations p_s t_5 ht_5 _ m hS.vis s1 h1) ?_
    rintro a w _ rfl hF hS
    refine q_xg (v := (.bool (decide (20000 < t_5)))) hF hS (ex_ibin rfl rfl rfl) (wanted_t hF rfl rfl rfl hc3) rfl fun a hF => q_x (v := (.bool (decide (20000 < t_5)))) hF hS (ex_pick_f rfl rfl hc3) rfl rfl fun a hF => q_end (n_jn ?_)
    obtain rfl := someI hj1
    exact ⟨hF.sub ⟨rfl, rfl, rfl, trivial⟩, hS⟩
   ·have hj1 := cond_t hc3 hj1
    refine q_skip hF (wanted_f hF rfl rfl rfl hc3 rfl) rfl fun a hF => q_skip hF (wanted_f hF rfl rfl rfl hc3 rfl) rfl fun a hF => q_skip hF (wanted_f hF rfl rfl rfl hc3 rfl) rfl fun a hF => q_x (v := (.bool true)) hF hS (ex_pick_t rfl rfl hc3) rfl rfl fun a hF => q_end (n_jn ?_)
    obtain rfl := someI hj1
    exact ⟨hF.sub ⟨rfl, rfl, rfl, trivial⟩, hS⟩
  ·have hj1 := cond_t hc2 hj1
   refine q_skip hF (wanted_f hF rfl rfl rfl hc2 rfl) rfl fun a hF => q_skip hF (wanted_f hF rfl rfl rfl hc2 rfl) rfl fun a hF => q_skip hF (wanted_f hF rfl rfl rfl hc2 rfl) rfl fun a hF => q_skip hF (wanted_f hF rfl rfl rfl hc2 rfl) rfl fun a hF => q_x (v := (.bool true)) hF hS (ex_pick_t rfl rfl hc2) rfl rfl fun a hF => q_x (v := (.bool true)) hF hS (ex_move rfl) rfl rfl fun a hF => q_skip hF (wanted_f hF rfl rfl rfl rfl rfl) rfl fun a hF => q_skip hF (wanted_f hF rfl rfl rfl rfl rfl) rfl fun a hF => q_skip hF (wanted_f hF rfl rfl rfl rfl rfl) rfl fun a hF => q_x (v := (.bool true)) hF hS (ex_pick_t rfl rfl rfl) rfl rfl fun a hF => q_end (n_jn ?_)
   obtain rfl := someI hj1
   exact ⟨hF.sub ⟨rfl, rfl, rfl, trivial⟩, hS⟩
 ·rintro a w ⟨hF, hS⟩
  refine n_sq ?_
  rcases bcase (t_6) with hc4 | hc4
  ·have hr := cond_f hc4 hr
   refine q_cond_f hF rfl hc4 (q_skipc (n_sq (q_seq (q_region (q_alloc (cs := [(.int .i64 0)]) hF hS rfl rfl rfl fun a w b7 hF hS => q_store (vs := [(.int .i64 0)]) (cs' := [(.int .i64 0)]) 0 0 hF hS sz3 rfl rfl rfl rfl rfl rfl rfl rfl fun a w hF hS => q_end (n_sq (q_seq (q_region (q_x (v := s1.v) hF hS (ex_move rfl) rfl rfl fun a hF => q_x (v := s2.v) hF hS (ex_move rfl) rfl rfl fun a hF => q_x (v := (.func (.func 63) #[] #[(.pointer (some ⟨b7, 0, none⟩))])) hF hS (ex_makeFunc rfl) rfl rfl fun a hF => ?_)))))))))
   have hS8 : St _ _ _ _ ([[⟨b7, [(.int .i64 0)], 3⟩]] ++ []) := hS
   have hE8 := hS8.enter
   obtain ⟨t_9, ht_9, hr⟩ := bindS hr
   refine q_do rfl fun _ hK => wp_callX (vs := [s1.v, s2.v, (.func (.func 63) #[] #[(.pointer (some ⟨b7, 0, none⟩))])]) hF Try.func58 (by kernel_rfl) rfl rfl rfl (c_impl_passing_of_impl_CountPassing_1 p_s p_l 0 t_9 ht_9 _ m b7 s1 h1 s2 h2 _ hE8) fun a w _ hR hF => hK _ _ ?_
   obtain ⟨rfl, hR8⟩ := hR
   have hS : St _ _ _ _ [[⟨b7, [(.int .i64 t_9)], 3⟩]] := hS8.leaveF hR8
   refine q_end (n_sq (q_seq (q_region (q_x (v := (.int .i64 t_9)) hF hS (ex_load1 0 0 Try.underlying3 rfl rfl rfl rfl) rfl rfl fun a hF => q_x (v := (.int .i64 t_9)) hF hS (ex_assign rfl) rfl rfl fun a hF => q_x (v := (.bool true)) hF hS (ex_assign rfl) rfl rfl fun a hF => q_end (n_sq (q_ret ?_))))))
   obtain rfl := someI hr
   exact ret_of hF hS rfl (.tmp rfl (.tmp rfl .nil)) rfl
  ·have hr := cond_t hc4 hr
   refine q_cond_t hF rfl hc4 (q_seq (q_region (q_x (v := (.int .i64 0)) hF hS (ex_assign rfl) rfl rfl fun a hF => q_x (v := (.bool false)) hF hS (ex_assign rfl) rfl rfl fun a hF => q_end (n_sq (q_ret (r_sq ?_))))))
   obtain rfl := someI hr
   exact ret_of hF hS rfl (.tmp rfl (.tmp rfl .nil)) rfl

theorem c_spec_CountPassing (p_s : List impl_Variable) (p_l : List impl_Edit) (r : Int × Bool) (hr : spec_CountPassing p_s p_l = some r) (w0 : World) (m : Mem) (hv : Vis m w0) (s1 : Sl) (h1 : Rd m s1 p_s) (s2 : Sl) (h2 : Rd m s2 p_l) :
  Ret Try.prog 23 [s1.v, s2.v] w0 (fun v _ => v = (.tuple #[(.int .i64 r.1), (.bool r.2)])) := by
 unfold spec_CountPassing at hr
 refine ret_start Try.func23 rfl 24 rfl rfl m hv fun a hF hS => q_seq (q_region (q_x (v := (.int .i64 0)) hF hS (ex_assign rfl) rfl rfl fun a hF => q_x (v := (.bool false)) hF hS (ex_assign rfl) rfl rfl fun a hF => q_end (n_sq (q_seq (q_seq ?_)))))
 obtain ⟨t_5, hj1, hr⟩ := bindS hr
 refine q_join (fun a w => Fr a 24 [(0, s1.v), (1, s2.v), (16, (.bool t_5))] ∧ St [] w0 w m []) ?_ ?_
 ·refine q_region (q_x (v := s1.v) hF hS (ex_move rfl) rfl rfl fun a hF => q_x (v := s2.v) hF hS (ex_move rfl) rfl rfl fun a hF => ?_)
  obtain ⟨t_3, ht_3, hj1⟩ := bindS hj1
  refine q_call (vs := [s1.v, s2.v]) hF hS Try.func60 (by kernel_rfl) rfl rfl rfl (c_spec_eList p_s p_l t_3 ht_3 _ m hS.vis s1 h1 s2 h2) ?_
  rintro a w _ rfl hF hS
  refine q_x (v := (.bool (!t_3))) hF hS (ex_not rfl) rfl rfl fun a hF => q_x (v := (.bool (!t_3))) hF hS (ex_move rfl) rfl rfl fun a hF => ?_
  rcases bcase (!t_3) with hc2 | hc2
  ·have hj1 := cond_f hc2 hj1
   refine q_xg (v := s1.v) hF hS (ex_move rfl) (wanted_t hF rfl rfl rfl hc2) rfl fun a hF => ?_
   obtain ⟨t_4, ht_4, hj1⟩ := bindS hj1
   refine q_callg (vs := [s1.v]) hF hS (wanted_t hF rfl rfl rfl hc2) Try.func61 (by kernel_rfl) rfl rfl rfl (c_spec_sCount p_s t_4 ht_4 _ m hS.vis s1 h1) ?_
   rintro a w _ rfl hF hS
   refine q_xg (v := (.bool (decide (20000 < t_4)))) hF hS (ex_ibin rfl rfl rfl) (wanted_t hF rfl rfl rfl hc2) rfl fun a hF => q_x (v := (.bool (decide (20000 < t_4)))) hF hS (ex_pick_f rfl rfl hc2) rfl rfl fun a hF => q_end (n_jn ?_)
   obtain rfl := someI hj1
   exact ⟨hF.sub ⟨rfl, rfl, rfl, trivial⟩, hS⟩
  ·have hj1 := cond_t hc2 hj1
   refine q_skip hF (wanted_f hF rfl rfl rfl hc2 rfl) rfl fun a hF => q_skip hF (wanted_f hF rfl rfl rfl hc2 rfl) rfl fun a hF => q_skip hF (wanted_f hF rfl rfl rfl hc2 rfl) rfl fun a hF => q_x (v := (.bool true)) hF hS (ex_pick_t rfl rfl hc2) rfl rfl fun a hF => q_end (n_jn ?_)
   obtain rfl := someI hj1
   exact ⟨hF.sub ⟨rfl, rfl, rfl, trivial⟩, hS⟩
 ·rintro a w ⟨hF, hS⟩
  refine n_sq ?_
  rcases bcase (t_5) with hc3 | hc3
  ·have hr := cond_f hc3 hr
   refine q_cond_f hF rfl hc3 (q_skipc (n_sq (q_seq (q_region (q_x (v := s1.v) hF hS (ex_move rfl) rfl rfl fun a hF => q_x (v := s2.v) hF hS (ex_move rfl) rfl rfl fun a hF => ?_)))))
   obtain ⟨t_6, ht_6, hr⟩ := bindS hr
   refine q_call (vs := [s1.v, s2.v]) hF hS Try.func62 (by kernel_rfl) rfl rfl rfl (c_spec_ePassing p_s p_l t_6 ht_6 _ m hS.vis s1 h1 s2 h2) ?_
   rintro a w _ ⟨q8, s8, rfl, hR7, h8⟩ hF hS2
   have hS : St _ _ _ _ [q8] := hS.joinF hR7
   refine q_x (v := (.tuple #[(.int .i64 t_6.1), s8.v])) hF hS (ex_move rfl) rfl rfl fun a hF => q_x (v := (.int .i64 t_6.1)) hF hS (ex_extract rfl rfl) rfl rfl fun a hF => q_x (v := s8.v) hF hS (ex_extract rfl rfl) rfl rfl fun a hF => q_x (v := (.int .i64 t_6.1)) hF hS (ex_assign rfl) rfl rfl fun a hF => q_x (v := s8.v) hF hS (ex_assign rfl) rfl rfl fun a hF => q_end (n_sq (q_seq (q_region (q_x (v := (.int .i64 t_6.1)) hF hS (ex_move rfl) rfl rfl fun a hF => q_x (v := (.int .i64 t_6.1)) hF hS (ex_assign rfl) rfl rfl fun a hF => q_x (v := (.bool true)) hF hS (ex_assign rfl) rfl rfl fun a hF => q_end (n_sq (q_ret ?_))))))
   obtain rfl := someI hr
   exact ret_of hF hS rfl (.tmp rfl (.tmp rfl .nil)) rfl
  ·have hr := cond_t hc3 hr
   refine q_cond_t hF rfl hc3 (q_seq (q_region (q_x (v := (.int .i64 0)) hF hS (ex_assign rfl) rfl rfl fun a hF => q_x (v := (.bool false)) hF hS (ex_assign rfl) rfl rfl fun a hF => q_end (n_sq (q_ret (r_sq ?_))))))
   obtain rfl := someI hr
   exact ret_of hF hS rfl (.tmp rfl (.tmp rfl .nil)) rfl

theorem c_laws_sameInts (p_a : List Int) (p_b : List Int) (r : Bool) (hr : laws_sameInts p_a p_b = some r) (w0 : World) (m : Mem) (hv : Vis m w0) (s1 : Sl) (h1 : Rd m s1 p_a) (s2 : Sl) (h2 : Rd m s2 p_b) :
  Ret Try.prog 24 [s1.v, s2.v] w0 (fun v _ => v = (.bool r)) := by
 unfold laws_sameInts at hr
 refine ret_start Try.func24 rfl 26 rfl rfl m hv fun a hF hS => q_seq (q_region (q_x (v := (.bool false)) hF hS (ex_assign rfl) rfl rfl fun a hF => q_end (n_sq (q_seq (q_seq (q_region (q_x (v := s1.v) hF hS (ex_move rfl) rfl rfl fun a hF => q_x (v := (.int .i64 (goLen p_a))) hF hS (ex_len Try.underlying24 rfl h1.len) rfl rfl fun a hF => q_x (v := s2.v) hF hS (ex_move rfl) rfl rfl fun a hF => q_x (v := (.int .i64 (goLen p_b))) hF hS (ex_len Try.underlying24 rfl h2.len) rfl rfl fun a hF => q_x (v := (.bool ((goLen p_a) != (goLen p_b)))) hF hS (ex_ibin rfl rfl rfl) rfl rfl fun a hF => q_end (n_sq ?_))))))))
 rcases bcase ((goLen p_a) != (goLen p_b)) with hc1 | hc1
 ·have hr := cond_f hc1 hr
  refine q_cond_f hF rfl hc1 (q_skipc (n_sq (q_seq (q_seq (q_region (q_x (v := s1.v) hF hS (ex_move rfl) rfl rfl fun a hF => q_x (v := (.int .i64 (goLen p_a))) hF hS (ex_len Try.underlying24 rfl h1.len) rfl rfl fun a hF => q_x (v := (.int .i64 0)) hF hS (ex_move rfl) rfl rfl fun a hF => q_end (n_sq (q_block ?_))))))))
  obtain ⟨o2, hl2, hr⟩ := bindS hr
  refine q_loop (fun (t_3 : Int) a w => Fr a 26 [(0, s1.v), (1, s2.v), (12, (.int .i64 (goLen p_a))), (13, (.int .i64 t_3))] ∧ St [] w0 w m []) (fun (o : (Unit) ⊕ (Bool)) e a w => o = .inl () ∧ e = .exit 0 ∧ Fr a 26 [] ∧ St [] w0 w m []) hl2 ⟨hF.sub ⟨rfl, rfl, rfl, rfl, trivial⟩, hS⟩ ?_ ?_
  ·clear hF hS
   rintro t_3 a w st ⟨hF, hS⟩ hb2
   unfold laws_sameInts_l1 at hb2
   refine q_seq (q_region (q_x (v := (.bool (decide (t_3 < (goLen p_a))))) hF hS (ex_ibin rfl rfl rfl) rfl rfl fun a hF => q_end (n_sq (q_seq ?_))))
   rcases bcase (decide (t_3 < (goLen p_a))) with hc3 | hc3
   ·have hb2 := cond_f hc3 hb2
    refine q_cond_f hF rfl hc3 (q_exit (x_sq ?_))
    obtain rfl := someI hb2
    exact ⟨nofun, .inl ⟨rfl, rfl, hF.sub trivial, hS⟩⟩
   ·have hb2 := cond_t hc3 hb2
    refine q_cond_t hF rfl hc3 (q_skipc (n_sq (q_seq (q_block (q_seq (q_region (q_x (v := (.int .i64 t_3)) hF hS (ex_move rfl) rfl rfl fun a hF => q_x (v := (.int .i64 t_3)) hF hS (ex_assign rfl) rfl rfl fun a hF => q_end (n_sq (q_seq (e_region ⟨[], []⟩ mixed fun w' hw' => ?_))))))))))
    have hS := hS.below hw'
    refine e_p (v := s1.v) 0 hF rfl (ex_move rfl) rfl rfl (by kernel_rfl) (by kernel_rfl) (by kernel_rfl) fun a hF => e_p (v := (.int .i64 t_3)) 1 hF rfl (ex_move rfl) rfl rfl (by kernel_rfl) (by kernel_rfl) (by kernel_rfl) fun a hF => ?_
    obtain ⟨e_4, he_4, hb2⟩ := bindS hb2
    obtain ⟨vs5, at5, d5⟩ := h1.at he_4 1 rfl
    obtain rfl : vs5 = [(.int .i64 e_4)] := d5
    refine e_p (v := (elP s1 (t_3.toNat * 1))) 2 hF rfl (ex_indexAddr Try.underlying24 sz3 rfl rfl (h1.idx he_4)) rfl rfl (by kernel_rfl) (by kernel_rfl) (by kernel_rfl) fun a hF => e_x (v := (.int .i64 e_4)) 3 hF hS rfl (ex_loadE1 0 Try.underlying3 rfl rfl ((at5).at) rfl rfl) rfl rfl (by kernel_rfl) (by kernel_rfl) (by kernel_rfl) (by kernel_rfl) fun a hF => e_p (v := s2.v) 4 hF rfl (ex_move rfl) rfl rfl (by kernel_rfl) (by kernel_rfl) (by kernel_rfl) fun a hF => e_p (v := (.int .i64 t_3)) 5 hF rfl (ex_move rfl) rfl rfl (by kernel_rfl) (by kernel_rfl) (by kernel_rfl) fun a hF => ?_
    obtain ⟨e_6, he_6, hb2⟩ := bindS hb2
    obtain ⟨vs7, at7, d7⟩ := h2.at he_6 1 rfl
    obtain rfl : vs7 = [(.int .i64 e_6)] := d7
    refine e_p (v := (elP s2 (t_3.toNat * 1))) 6 hF rfl (ex_indexAddr Try.underlying24 sz3 rfl rfl (h2.idx he_6)) rfl rfl (by kernel_rfl) (by kernel_rfl) (by kernel_rfl) fun a hF => e_x (v := (.int .i64 e_6)) 7 hF hS rfl (ex_loadE1 0 Try.underlying3 rfl rfl ((at7).at) rfl rfl) rfl rfl (by kernel_rfl) (by kernel_rfl) (by kernel_rfl) (by kernel_rfl) fun a hF => e_p (v := (.bool (e_4 != e_6))) 8 hF rfl (ex_ibin rfl rfl rfl) rfl rfl (by kernel_rfl) (by kernel_rfl) (by kernel_rfl) fun a hF => e_end (by kernel_rfl) (n_sq ?_) _
    rcases bcase (e_4 != e_6) with hc4 | hc4
    ·have hb2 := cond_f hc4 hb2
     refine q_cond_f hF rfl hc4 (q_skipc (n_ib (n_sq (q_region (q_x (v := (.int .i64 (w64 (t_3 + 1)))) hF hS (ex_ibin rfl rfl rfl) rfl rfl fun a hF => q_x (v := (.int .i64 (w64 (t_3 + 1)))) hF hS (ex_move rfl) rfl rfl fun a hF => q_end ?_)))))
     obtain rfl := someI hb2
     exact ⟨rfl, hF.sub ⟨rfl, rfl, rfl, rfl, trivial⟩, hS⟩
    ·have hb2 := cond_t hc4 hb2
     refine q_cond_t hF rfl hc4 (q_seq (q_region (q_x (v := (.bool false)) hF hS (ex_assign rfl) rfl rfl fun a hF => q_end (n_sq (q_ret (r_ib (r_sq ?_)))))))
     obtain rfl := someI hb2
     refine ⟨nofun, .inr fun ho => ?_⟩
     subst ho
     refine r_ib (r_sq ?_)
     obtain rfl := someI hr
     exact ret_of hF hS rfl (.tmp rfl .nil) rfl
  ·rintro e a w ⟨rfl, rfl, hF, hS⟩
   refine x_ib (n_sq ?_)
   refine q_seq (q_region (q_x (v := (.bool true)) hF hS (ex_assign rfl) rfl rfl fun a hF => q_end (n_sq (q_ret ?_))))
   obtain rfl := someI hr
   exact ret_of hF hS rfl (.tmp rfl .nil) rfl
 ·have hr := cond_t hc1 hr
  refine q_cond_t hF rfl hc1 (q_seq (q_region (q_x (v := (.bool false)) hF hS (ex_assign rfl) rfl rfl fun a hF => q_end (n_sq (q_ret (r_sq ?_))))))
  obtain rfl := someI hr
  exact ret_of hF hS rfl (.tmp rfl .nil) rfl

theorem c_impl_areValues (p_s : List impl_Variable) (p_values : List Int) (r : Bool) (hr : impl_areValues p_s p_values = some r) (w0 : World) (m : Mem) (hv : Vis m w0) (s1 : Sl) (h1 : Rd m s1 p_s) (s2 : Sl) (h2 : Rd m s2 p_values) :
  Ret Try.prog 47 [s1.v, s2.v] w0 (fun v _ => v = (.bool r)) := by
 unfold impl_areValues at hr
 refine ret_start Try.func47 rfl 31 rfl rfl m hv fun a hF hS => q_seq (q_region (q_x (v := (.bool false)) hF hS (ex_assign rfl) rfl rfl fun a hF => q_end (n_sq (q_seq (q_seq (q_region (q_x (v := s2.v) hF hS (ex_move rfl) rfl rfl fun a hF => q_x (v := (.int .i64 (goLen p_values))) hF hS (ex_len Try.underlying24 rfl h2.len) rfl rfl fun a hF => q_x (v := s1.v) hF hS (ex_move rfl) rfl rfl fun a hF => q_x (v := (.int .i64 (goLen p_s))) hF hS (ex_len Try.underlying23 rfl h1.len) rfl rfl fun a hF => q_x (v := (.bool ((goLen p_values) != (goLen p_s)))) hF hS (ex_ibin rfl rfl rfl) rfl rfl fun a hF => q_end (n_sq ?_))))))))
 rcases bcase ((goLen p_values) != (goLen p_s)) with hc1 | hc1
 ·have hr := cond_f hc1 hr
  refine q_cond_f hF rfl hc1 (q_skipc (n_sq (q_seq (q_seq (q_region (q_x (v := s2.v) hF hS (ex_move rfl) rfl rfl fun a hF => q_x (v := (.int .i64 (goLen p_values))) hF hS (ex_len Try.underlying24 rfl h2.len) rfl rfl fun a hF => q_x (v := (.int .i64 0)) hF hS (ex_move rfl) rfl rfl fun a hF => q_end (n_sq (q_block ?_))))))))
  obtain ⟨o2, hl2, hr⟩ := bindS hr
  refine q_loop (fun (t_3 : Int) a w => Fr a 31 [(0, s1.v), (12, s2.v), (13, (.int .i64 (goLen p_values))), (14, (.int .i64 t_3))] ∧ St [] w0 w m []) (fun (o : (Unit) ⊕ (Bool)) e a w => o = .inl () ∧ e = .exit 0 ∧ Fr a 31 [] ∧ St [] w0 w m []) hl2 ⟨hF.sub ⟨rfl, rfl, rfl, rfl, trivial⟩, hS⟩ ?_ ?_
  ·clear hF hS
   rintro t_3 a w st ⟨hF, hS⟩ hb2
   unfold impl_areValues_l1 at hb2
   refine q_seq (q_region (q_x (v := (.bool (decide (t_3 < (goLen p_values))))) hF hS (ex_ibin rfl rfl rfl) rfl rfl fun a hF => q_end (n_sq (q_seq ?_))))
   rcases bcase (decide (t_3 < (goLen p_values))) with hc3 | hc3
   ·have hb2 := cond_f hc3 hb2
    refine q_cond_f hF rfl hc3 (q_exit (x_sq ?_))
    obtain rfl := someI hb2
    exact ⟨nofun, .inl ⟨rfl, rfl, hF.sub trivial, hS⟩⟩
   ·have hb2 := cond_t hc3 hb2
    refine q_cond_t hF rfl hc3 (q_skipc (n_sq (q_seq (q_block (q_seq (q_region (q_x (v := (.int .i64 t_3)) hF hS (ex_move rfl) rfl rfl fun a hF => ?_)))))))
    obtain ⟨e_4, he_4, hb2⟩ := bindS hb2
    obtain ⟨vs5, at5, d5⟩ := h2.at he_4 1 rfl
    obtain rfl : vs5 = [(.int .i64 e_4)] := d5
    refine q_x (v := (elP s2 (t_3.toNat * 1))) hF hS (ex_indexAddr Try.underlying24 sz3 rfl rfl (h2.idx he_4)) rfl rfl fun a hF => q_x (v := (.int .i64 e_4)) hF hS (ex_loadE1 0 Try.underlying3 rfl rfl ((at5).at) rfl rfl) rfl rfl fun a hF => q_x (v := (.int .i64 t_3)) hF hS (ex_assign rfl) rfl rfl fun a hF => q_x (v := (.int .i64 e_4)) hF hS (ex_assign rfl) rfl rfl fun a hF => q_end (n_sq (q_seq ?_))
    obtain ⟨t_8, hj4, hb2⟩ := bindS hb2
    refine q_join (fun a w => Fr a 31 [(0, s1.v), (12, s2.v), (13, (.int .i64 (goLen p_values))), (14, (.int .i64 t_3)), (29, (.bool t_8))] ∧ St [] w0 w m []) ?_ ?_
    ·refine q_region (q_x (v := (.int .i64 e_4)) hF hS (ex_move rfl) rfl rfl fun a hF => q_x (v := (.bool (decide (e_4 < 0)))) hF hS (ex_ibin rfl rfl rfl) rfl rfl fun a hF => q_x (v := (.bool (decide (e_4 < 0)))) hF hS (ex_move rfl) rfl rfl fun a hF => ?_)
     rcases bcase (decide (e_4 < 0)) with hc5 | hc5
     ·have hj4 := cond_f hc5 hj4
      refine q_xg (v := (.int .i64 e_4)) hF hS (ex_move rfl) (wanted_t hF rfl rfl rfl hc5) rfl fun a hF => q_xg (v := s1.v) hF hS (ex_move rfl) (wanted_t hF rfl rfl rfl hc5) rfl fun a hF => q_xg (v := (.int .i64 t_3)) hF hS (ex_move rfl) (wanted_t hF rfl rfl rfl hc5) rfl fun a hF => ?_
      obtain ⟨e_6, he_6, hj4⟩ := bindS hj4
      obtain ⟨vs7, at7, d7⟩ := h1.at he_6 2 rfl
      obtain rfl : vs7 = [(strV e_6.Name), (.int .i64 e_6.Levels)] := d7
      refine q_xg (v := (elP s1 (t_3.toNat * 2))) hF hS (ex_indexAddr Try.underlying23 sz85 rfl rfl (h1.idx he_6)) (wanted_t hF rfl rfl rfl hc5) rfl fun a hF => q_xg (v := (elP s1 (t_3.toNat * 2 + 1))) hF hS (ex_fieldAddrE Try.underlying85 rfl sz3 rfl (h1.idx he_6) rfl) (wanted_t hF rfl rfl rfl hc5) rfl fun a hF => q_xg (v := (.int .i64 e_6.Levels)) hF hS (ex_loadE1 1 Try.underlying3 rfl rfl ((at7).at) rfl rfl) (wanted_t hF rfl rfl rfl hc5) rfl fun a hF => q_xg (v := (.bool (decide (e_6.Levels ≤ e_4)))) hF hS (ex_ibin rfl rfl rfl) (wanted_t hF rfl rfl rfl hc5) rfl fun a hF => q_x (v := (.bool (decide (e_6.Levels ≤ e_4)))) hF hS (ex_pick_f rfl rfl hc5) rfl rfl fun a hF => q_end (n_jn ?_)
      obtain rfl := someI hj4
      exact ⟨hF.sub ⟨rfl, rfl, rfl, rfl, rfl, trivial⟩, hS⟩
     ·have hj4 := cond_t hc5 hj4
      refine q_skip hF (wanted_f hF rfl rfl rfl hc5 rfl) rfl fun a hF => q_skip hF (wanted_f hF rfl rfl rfl hc5 rfl) rfl fun a hF => q_skip hF (wanted_f hF rfl rfl rfl hc5 rfl) rfl fun a hF => q_skip hF (wanted_f hF rfl rfl rfl hc5 rfl) rfl fun a hF => q_skip hF (wanted_f hF rfl rfl rfl hc5 rfl) rfl fun a hF => q_skip hF (wanted_f hF rfl rfl rfl hc5 rfl) rfl fun a hF => q_skip hF (wanted_f hF rfl rfl rfl hc5 rfl) rfl fun a hF => q_x (v := (.bool true)) hF hS (ex_pick_t rfl rfl hc5) rfl rfl fun a hF => q_end (n_jn ?_)
      obtain rfl := someI hj4
      exact ⟨hF.sub ⟨rfl, rfl, rfl, rfl, rfl, trivial⟩, hS⟩
    ·rintro a w ⟨hF, hS⟩
     refine n_sq ?_
     rcases bcase (t_8) with hc6 | hc6
     ·have hb2 := cond_f hc6 hb2
      refine q_cond_f hF rfl hc6 (q_skipc (n_ib (n_sq (q_region (q_x (v := (.int .i64 (w64 (t_3 + 1)))) hF hS (ex_ibin rfl rfl rfl) rfl rfl fun a hF => q_x (v := (.int .i64 (w64 (t_3 + 1)))) hF hS (ex_move rfl) rfl rfl fun a hF => q_end ?_)))))
      obtain rfl := someI hb2
      exact ⟨rfl, hF.sub ⟨rfl, rfl, rfl, rfl, trivial⟩, hS⟩
     ·have hb2 := cond_t hc6 hb2
      refine q_cond_t hF rfl hc6 (q_seq (q_region (q_x (v := (.bool false)) hF hS (ex_assign rfl) rfl rfl fun a hF => q_end (n_sq (q_ret (r_ib (r_sq ?_)))))))
      obtain rfl := someI hb2
      refine ⟨nofun, .inr fun ho => ?_⟩
      subst ho
      refine r_ib (r_sq ?_)
      obtain rfl := someI hr
      exact ret_of hF hS rfl (.tmp rfl .nil) rfl
  ·rintro e a w ⟨rfl, rfl, hF, hS⟩
   refine x_ib (n_sq ?_)
   refine q_seq (q_region (q_x (v := (.bool true)) hF hS (ex_assign rfl) rfl rfl fun a hF => q_end (n_sq (q_ret ?_))))
   obtain rfl := someI hr
   exact ret_of hF hS rfl (.tmp rfl .nil) rfl
 ·have hr := cond_t hc1 hr
  refine q_cond_t hF rfl hc1 (q_seq (q_region (q_x (v := (.bool false)) hF hS (ex_assign rfl) rfl rfl fun a hF => q_end (n_sq (q_ret (r_sq ?_))))))
  obtain rfl := someI hr
  exact ret_of hF hS rfl (.tmp rfl .nil) rfl

theorem c_impl_FailedEdits (p_s : List impl_Variable) (p_l : List impl_Edit) (p_values : List Int) (r : (List Int) × Bool) (hr : impl_FailedEdits p_s p_l p_values = some r) (w0 : World) (m : Mem) (hv : Vis m w0) (s1 : Sl) (h1 : Rd m s1 p_s) (s2 : Sl) (h2 : Rd m s2 p_l) (s3 : Sl) (h3 : Rd m s3 p_values) :
  Ret Try.prog 25 [s1.v, s2.v, s3.v] w0 (fun v w => ∃ (q0' : Piece) (s0' : Sl), v = (.tuple #[s0'.v, (.bool r.2)]) ∧ St [] w0 w m [q0'] ∧ OwnL m 3 q0' s0' r.1) := by
 unfold impl_FailedEdits at hr
 refine ret_start Try.func25 rfl 42 rfl rfl m hv fun a hF hS => q_seq (q_region (q_x (v := nilS.v) hF hS (ex_assign rfl) rfl rfl fun a hF => q_x (v := (.bool false)) hF hS (ex_assign rfl) rfl rfl fun a hF => q_end (n_sq (q_seq (q_seq ?_)))))
 obtain ⟨t_7, hj1, hr⟩ := bindS hr
 refine q_join (fun a w => Fr a 42 [(1, s2.v), (2, s3.v), (25, (.bool t_7))] ∧ St [] w0 w m []) ?_ ?_
 ·refine q_region (q_x (v := s1.v) hF hS (ex_move rfl) rfl rfl fun a hF => ?_)
  obtain ⟨t_4, ht_4, hj1⟩ := bindS hj1
  refine q_call (vs := [s1.v]) hF hS Try.func33 (by kernel_rfl) rfl rfl rfl (c_impl_IsSchema p_s t_4 ht_4 _ m hS.vis s1 h1) ?_
  rintro a w _ rfl hF hS
  refine q_x (v := (.bool (!t_4))) hF hS (ex_not rfl) rfl rfl fun a hF => q_x (v := (.bool (!t_4))) hF hS (ex_move rfl) rfl rfl fun a hF => ?_
  rcases bcase (!t_4) with hc2 | hc2
  ·have hj1 := cond_f hc2 hj1
   refine q_xg (v := s1.v) hF hS (ex_move rfl) (wanted_t hF rfl rfl rfl hc2) rfl fun a hF => q_xg (v := s2.v) hF hS (ex_move rfl) (wanted_t hF rfl rfl rfl hc2) rfl fun a hF => ?_
   obtain ⟨t_5, ht_5, hj1⟩ := bindS hj1
   refine q_callg (vs := [s1.v, s2.v]) hF hS (wanted_t hF rfl rfl rfl hc2) Try.func56 (by kernel_rfl) rfl rfl rfl (c_impl_areEdits p_s p_l t_5 ht_5 _ m hS.vis s1 h1 s2 h2) ?_
   rintro a w _ rfl hF hS
   refine q_xg (v := (.bool (!t_5))) hF hS (ex_not rfl) (wanted_t hF rfl rfl rfl hc2) rfl fun a hF => q_x (v := (.bool (!t_5))) hF hS (ex_pick_f rfl rfl hc2) rfl rfl fun a hF => q_x (v := (.bool (!t_5))) hF hS (ex_move rfl) rfl rfl fun a hF => ?_
   rcases bcase (!t_5) with hc3 | hc3
   ·have hj1 := cond_f hc3 hj1
    refine q_xg (v := s1.v) hF hS (ex_move rfl) (wanted_t hF rfl rfl rfl hc3) rfl fun a hF => q_xg (v := s3.v) hF hS (ex_move rfl) (wanted_t hF rfl rfl rfl hc3) rfl fun a hF => ?_
    obtain ⟨t_6, ht_6, hj1⟩ := bindS hj1
    refine q_callg (vs := [s1.v, s3.v]) hF hS (wanted_t hF rfl rfl rfl hc3) Try.func47 (by kernel_rfl) rfl rfl rfl (c_impl_areValues p_s p_values t_6 ht_6 _ m hS.vis s1 h1 s3 h3) ?_
    rintro a w _ rfl hF hS
    refine q_xg (v := (.bool (!t_6))) hF hS (ex_not rfl) (wanted_t hF rfl rfl rfl hc3) rfl fun a hF => q_x (v := (.bool (!t_6))) hF hS (ex_pick_f rfl rfl hc3) rfl rfl fun a hF => q_end (n_jn ?_)
    obtain rfl := someI hj1
    exact ⟨hF.sub ⟨rfl, rfl, rfl, trivial⟩, hS⟩
   ·have hj1 := cond_t hc3 hj1
    refine q_skip hF (wanted_f hF rfl rfl rfl hc3 rfl) rfl fun a hF => q_skip hF (wanted_f hF rfl rfl rfl hc3 rfl) rfl fun a hF => q_skip hF (wanted_f hF rfl rfl rfl hc3 rfl) rfl fun a hF => q_skip hF (wanted_f hF rfl rfl rfl hc3 rfl) rfl fun a hF => q_x (v := (.bool true)) hF hS (ex_pick_t rfl rfl hc3) rfl rfl fun a hF => q_end (n_jn ?_)
    obtain rfl := someI hj1
    exact ⟨hF.sub ⟨rfl, rfl, rfl, trivial⟩, hS⟩
  ·have hj1 := cond_t hc2 hj1
   refine q_skip hF (wanted_f hF rfl rfl rfl hc2 rfl) rfl fun a hF => q_skip hF (wanted_f hF rfl rfl rfl hc2 rfl) rfl fun a hF => q_skip hF (wanted_f hF rfl rfl rfl hc2 rfl) rfl fun a hF => q_skip hF (wanted_f hF rfl rfl rfl hc2 rfl) rfl fun a hF => q_x (v := (.bool true)) hF hS (ex_pick_t rfl rfl hc2) rfl rfl fun a hF => q_x (v := (.bool true)) hF hS (ex_move rfl) rfl rfl fun a hF => q_skip hF (wanted_f hF rfl rfl rfl rfl rfl) rfl fun a hF => q_skip hF (wanted_f hF rfl rfl rfl rfl rfl) rfl fun a hF => q_skip hF (wanted_f hF rfl rfl rfl rfl rfl) rfl fun a hF => q_skip hF (wanted_f hF rfl rfl rfl rfl rfl) rfl fun a hF => q_x (v := (.bool true)) hF hS (ex_pick_t rfl rfl rfl) rfl rfl fun a hF => q_end (n_jn ?_)
   obtain rfl := someI hj1
   exact ⟨hF.sub ⟨rfl, rfl, rfl, trivial⟩, hS⟩
 ·rintro a w ⟨hF, hS⟩
  refine n_sq ?_
  rcases bcase (t_7) with hc4 | hc4
  ·have hr := cond_f hc4 hr
   refine q_cond_f hF rfl hc4 (q_skipc (n_sq (q_seq (q_region (q_x (v := nilS.v) hF hS (ex_assign rfl) rfl rfl fun a hF => q_end (n_sq (q_seq (q_seq (q_region (q_x (v := s2.v) hF hS (ex_move rfl) rfl rfl fun a hF => q_x (v := (.int .i64 (goLen p_l))) hF hS (ex_len Try.underlying48 rfl h2.len) rfl rfl fun a hF => q_x (v := (.int .i64 0)) hF hS (ex_move rfl) rfl rfl fun a hF => q_end (n_sq (q_block ?_))))))))))))
   obtain ⟨failed_21, hl5, hr⟩ := bindS hr
   refine q_loop (fun (s : (List Int) × Int) a w => ∃ (q9 : Piece), ∃ (s9 : Sl), ∃ failed_8, ∃ t_10, s = (failed_8, t_10) ∧ Fr a 42 [(2, s3.v), (8, s9.v), (26, s2.v), (27, (.int .i64 (goLen p_l))), (28, (.int .i64 t_10))] ∧ St [] w0 w m [q9] ∧ OwnL m 3 q9 s9 failed_8) (fun (failed_21 : (List Int)) e a w => ∃ (q22 : Piece), ∃ (s22 : Sl), e = .exit 0 ∧ Fr a 42 [(8, s22.v)] ∧ St [] w0 w m [q22] ∧ OwnL m 3 q22 s22 failed_21) hl5 ⟨[], nilS, _, _, rfl, hF.sub ⟨rfl, rfl, rfl, rfl, rfl, trivial⟩, hS.sel [0] (by decide), (OwnL.nil (α := Int) m 3)⟩ ?_ ?_
   ·clear hF hS
    rintro s a w st ⟨q9, s9, failed_8, t_10, rfl, hF, hS, h9⟩ hb5
    unfold impl_FailedEdits_l1 at hb5
    refine q_seq (q_region (q_x (v := (.bool (decide (t_10 < (goLen p_l))))) hF hS (ex_ibin rfl rfl rfl) rfl rfl fun a hF => q_end (n_sq (q_seq ?_))))
    rcases bcase (decide (t_10 < (goLen p_l))) with hc6 | hc6
    ·have hb5 := cond_f hc6 hb5
     refine q_cond_f hF rfl hc6 (q_exit (x_sq ?_))
     obtain rfl := someI hb5
     exact ⟨nofun, .inl ⟨q9, s9, rfl, hF.sub ⟨rfl, trivial⟩, hS, h9⟩⟩
    ·have hb5 := cond_t hc6 hb5
     refine q_cond_t hF rfl hc6 (q_skipc (n_sq (q_seq (q_block (q_seq (q_region (q_x (v := (.int .i64 t_10)) hF hS (ex_move rfl) rfl rfl fun a hF => ?_)))))))
     obtain ⟨e_11, he_11, hb5⟩ := bindS hb5
     obtain ⟨vs12, at12, d12⟩ := h2.at he_11 1 rfl
     obtain ⟨s13, rfl, h13⟩ : ∃ s13 : Sl, vs12 = [s13.v] ∧ Rd m s13 e_11.Sets := d12
     refine q_x (v := (elP s2 (t_10.toNat * 1))) hF hS (ex_indexAddr Try.underlying48 sz93 rfl rfl (h2.idx he_11)) rfl rfl fun a hF => q_x (v := (.agg #[s13.v])) hF hS (ex_loadEA (us := [s13.v]) 0 Try.underlying93 rfl sz93 rfl ((at12).at) rfl rfl rfl) rfl rfl fun a hF => q_alloc (cs := [nilS.v]) hF hS rfl rfl rfl fun a w b14 hF hS => q_x (v := (.int .i64 t_10)) hF hS (ex_assign rfl) rfl rfl fun a hF => q_store (vs := [s13.v]) (cs' := [s13.v]) 0 0 hF hS sz93 rfl rfl rfl rfl rfl rfl rfl rfl fun a w hF hS => q_end (n_sq (q_seq (q_region (q_x (v := (.agg #[s13.v])) hF hS (ex_loadA (vs := [s13.v]) 0 0 Try.underlying93 rfl sz93 rfl rfl rfl rfl) rfl rfl fun a hF => q_x (v := s3.v) hF hS (ex_move rfl) rfl rfl fun a hF => ?_))))
     obtain ⟨t_15, ht_15, hb5⟩ := bindS hb5
     refine q_call (vs := [(.agg #[s13.v]), s3.v]) hF hS Try.func64 (by kernel_rfl) rfl rfl rfl (c_impl_fails e_11 p_values t_15 ht_15 _ m hS.vis s13 h13 s3 h3) ?_
     rintro a w _ rfl hF hS
     refine q_end (n_sq ?_)
     obtain ⟨failed_19, hj7, hb5⟩ := bindS hb5
     refine q_join (fun a w => ∃ (q20 : Piece), ∃ (s20 : Sl), Fr a 42 [(2, s3.v), (8, s20.v), (26, s2.v), (27, (.int .i64 (goLen p_l))), (28, (.int .i64 t_10))] ∧ St [] w0 w m [q20] ∧ OwnL m 3 q20 s20 failed_19) ?_ ?_
     ·rcases bcase (t_15) with hc8 | hc8
      ·have hj7 := cond_f hc8 hj7
       refine q_cond_f hF rfl hc8 (q_skipc (n_jn ?_))
       obtain rfl := someI hj7
       exact ⟨q9, s9, hF.sub ⟨rfl, rfl, rfl, rfl, rfl, trivial⟩, hS.mask [false, true], h9⟩
      ·have hj7 := cond_t hc8 hj7
       refine q_cond_t hF rfl hc8 (q_region (q_x (v := s9.v) hF hS (ex_move rfl) rfl rfl fun a hF => q_x (v := (.int .i64 t_10)) hF hS (ex_move rfl) rfl rfl fun a hF => q_do rfl fun _ hK => wp_buildSlice' (l := ([t_10] : List Int)) (cells := [(.int .i64 t_10)]) hF hS Try.underlying24 inf3 rfl rfl (by kernel_rfl) rfl rfl rfl ⟨rfl, rfl⟩ rfl rfl fun a w q16 s16 hF hS h16 _ => hK _ _ ?_))
       have hS : St _ _ _ _ [q9, q16, [⟨b14, [s13.v], 93⟩]] := hS.sel [2, 0, 1] (by decide)
       obtain ⟨l_17, hl_17, hj7⟩ := bindS hj7
       refine q_do rfl fun _ hK => wp_append hF hS h9 Try.underlying24 inf3 rfl rfl rfl rfl (h16.vw hS (j := 1) rfl) rfl (by decide) hl_17 rfl fun a w q18 s18 hF hS h18 => hK _ _ (q_x (v := s18.v) hF hS (ex_assign rfl) rfl rfl fun a hF => q_end (n_jn ?_))
       obtain rfl := someI hj7
       exact ⟨q18, s18, hF.sub ⟨rfl, rfl, rfl, rfl, rfl, trivial⟩, hS.mask [true, false, false], h18⟩
     ·rintro a w ⟨q20, s20, hF, hS, h20⟩
      refine n_ib (n_sq ?_)
      refine q_region (q_x (v := (.int .i64 (w64 (t_10 + 1)))) hF hS (ex_ibin rfl rfl rfl) rfl rfl fun a hF => q_x (v := (.int .i64 (w64 (t_10 + 1)))) hF hS (ex_move rfl) rfl rfl fun a hF => q_end ?_)
      obtain rfl := someI hb5
      exact ⟨rfl, q20, s20, _, _, rfl, hF.sub ⟨rfl, rfl, rfl, rfl, rfl, trivial⟩, hS, h20⟩
   ·rintro e a w ⟨q22, s22, rfl, hF, hS, h22⟩
    refine x_ib (n_sq ?_)
    refine q_seq (q_region (q_x (v := s22.v) hF hS (ex_move rfl) rfl rfl fun a hF => q_x (v := s22.v) hF hS (ex_assign rfl) rfl rfl fun a hF => q_x (v := (.bool true)) hF hS (ex_assign rfl) rfl rfl fun a hF => q_end (n_sq (q_ret ?_))))
    obtain rfl := someI hr
    exact ret_of hF hS rfl (.tmp rfl (.tmp rfl .nil)) ⟨q22, s22, rfl, hS.sel [0] (by decide), h22⟩
  ·have hr := cond_t hc4 hr
   refine q_cond_t hF rfl hc4 (q_seq (q_region (q_x (v := nilS.v) hF hS (ex_assign rfl) rfl rfl fun a hF => q_x (v := (.bool false)) hF hS (ex_assign rfl) rfl rfl fun a hF => q_end (n_sq (q_ret (r_sq ?_))))))
   obtain rfl := someI hr
   exact ret_of hF hS rfl (.tmp rfl (.tmp rfl .nil)) ⟨[], nilS, rfl, hS.sel [0] (by decide), (OwnL.nil (α := Int) m 3)⟩

theorem c_spec_l1Cur_values (p_c : spec_l1Cur) (p_s : List impl_Variable) (r : (List Int) × spec_l1Cur) (hr : spec_l1Cur_values p_c p_s = some r) (w0 : World) (m : Mem) (b_p_c : Nat) (s1 : Sl) (h1 : Rd m s1 p_c.code) (s2 : Sl) (h2 : Rd m s2 p_s) (X : List Nat) (hS : St X w0 w0 m [[⟨b_p_c, [s1.v, (.int .i64 p_c.at_), (.int .u64 p_c.seed.v)], 64⟩]]) :
  RetX Try.prog 73 [(.pointer (some ⟨b_p_c, 0, none⟩)), s2.v] w0 (fun v w => ∃ (q0' : Piece) (s0' : Sl), v = s0'.v ∧ St X w0 w m [[⟨b_p_c, [s1.v, (.int .i64 r.2.at_), (.int .u64 r.2.seed.v)], 64⟩], q0'] ∧ OwnL m 3 q0' s0' r.1 ∧ r.2.code = p_c.code) := by
 unfold spec_l1Cur_values at hr
 refine ret_startX Try.func73 rfl 23 rfl rfl fun a hF => q_seq (q_region (q_x (v := nilS.v) hF hS (ex_assign rfl) rfl rfl fun a hF => q_end (n_sq (q_seq (q_region (q_x (v := nilS.v) hF hS (ex_assign rfl) rfl rfl fun a hF => q_end (n_sq (q_seq (q_seq (q_region (q_x (v := s2.v) hF hS (ex_move rfl) rfl rfl fun a hF => q_x (v := (.int .i64 (goLen p_s))) hF hS (ex_len Try.underlying23 rfl h2.len) rfl rfl fun a hF => q_x (v := (.int .i64 0)) hF hS (ex_move rfl) rfl rfl fun a hF => q_end (n_sq (q_block ?_)))))))))))))
 obtain ⟨o1, hl1, hr⟩ := bindS hr
 refine q_loop (fun (s : (List Int) × Int × spec_l1Cur) a w => ∃ (q4 : Piece), ∃ (s4 : Sl), ∃ out_3, ∃ t_5, ∃ p_c_6, s = (out_3, t_5, p_c_6) ∧ Fr a 23 [(0, (.pointer (some ⟨b_p_c, 0, none⟩))), (5, s4.v), (8, s2.v), (9, (.int .i64 (goLen p_s))), (10, (.int .i64 t_5))] ∧ St X w0 w m [q4, [⟨b_p_c, [s1.v, (.int .i64 p_c_6.at_), (.int .u64 p_c_6.seed.v)], 64⟩]] ∧ OwnL m 3 q4 s4 out_3 ∧ Rd m s1 p_c_6.code ∧ p_c_6.code = p_c.code) (fun (o : (List Int) × spec_l1Cur) e a w => ∃ (q18 : Piece), ∃ (s18 : Sl), ∃ out_17, ∃ p_c_19, o = (out_17, p_c_19) ∧ e = .exit 0 ∧ Fr a 23 [(5, s18.v)] ∧ St X w0 w m [q18, [⟨b_p_c, [s1.v, (.int .i64 p_c_19.at_), (.int .u64 p_c_19.seed.v)], 64⟩]] ∧ OwnL m 3 q18 s18 out_17 ∧ Rd m s1 p_c_19.code ∧ p_c_19.code = p_c.code) hl1 ⟨[], nilS, _, _, _, rfl, hF.sub ⟨rfl, rfl, rfl, rfl, rfl, trivial⟩, hS.sel [1, 0] (by decide), (OwnL.nil (α := Int) m 3), h1, rfl⟩ ?_ ?_
 ·clear hF hS
  rintro s a w st ⟨q4, s4, out_3, t_5, p_c_6, rfl, hF, hS, h4, h7, h7k⟩ hb1
  unfold spec_l1Cur_values_l1 at hb1
  refine q_seq (q_region (q_x (v := (.bool (decide (t_5 < (goLen p_s))))) hF hS (ex_ibin rfl rfl rfl) rfl rfl fun a hF => q_end (n_sq (q_seq ?_))))
  rcases bcase (decide (t_5 < (goLen p_s))) with hc2 | hc2
  ·have hb1 := cond_f hc2 hb1
   refine q_cond_f hF rfl hc2 (q_exit (x_sq ?_))
   obtain rfl := someI hb1
   exact ⟨nofun, .inl ⟨q4, s4, _, _, rfl, rfl, hF.sub ⟨rfl, trivial⟩, hS, h4, h7, h7k⟩⟩
  ·have hb1 := cond_t hc2 hb1
   refine q_cond_t hF rfl hc2 (q_skipc (n_sq (q_seq (q_block (q_seq (q_region ?_))))))
   obtain ⟨e_8, he_8, hb1⟩ := bindS hb1
   obtain ⟨vs9, at9, d9⟩ := h2.at he_8 2 rfl
   obtain rfl : vs9 = [(strV e_8.Name), (.int .i64 e_8.Levels)] := d9
   refine q_x (v := (elP s2 (t_5.toNat * 2))) hF hS (ex_indexAddr Try.underlying23 sz85 rfl rfl (h2.idx he_8)) rfl rfl fun a hF => q_x (v := (.agg #[(strV e_8.Name), (.int .i64 e_8.Levels)])) hF hS (ex_loadEA (us := [(strV e_8.Name), (.int .i64 e_8.Levels)]) 0 Try.underlying85 rfl sz85 rfl ((at9).at) rfl rfl rfl) rfl rfl fun a hF => q_alloc (cs := [(strV ([] : List UInt8)), (.int .i64 0)]) hF hS rfl rfl rfl fun a w b10 hF hS => q_store (vs := [(strV e_8.Name), (.int .i64 e_8.Levels)]) (cs' := [(strV e_8.Name), (.int .i64 e_8.Levels)]) 0 0 hF hS sz85 rfl rfl rfl rfl rfl rfl rfl rfl fun a w hF hS => q_end (n_sq (q_region (q_x (v := s4.v) hF hS (ex_move rfl) rfl rfl fun a hF => q_x (v := (.pointer (some ⟨b_p_c, 0, none⟩))) hF hS (ex_move rfl) rfl rfl fun a hF => q_x (v := (.pointer (some ⟨b10, 1, none⟩))) hF hS (ex_fieldAddr Try.underlying85 rfl sz3 rfl rfl) rfl rfl fun a hF => q_x (v := (.int .i64 e_8.Levels)) hF hS (ex_load1 0 0 Try.underlying3 rfl rfl rfl rfl) rfl rfl fun a hF => ?_)))
   have hS : St _ _ _ _ [[⟨b_p_c, [s1.v, (.int .i64 p_c_6.at_), (.int .u64 p_c_6.seed.v)], 64⟩], [⟨b10, [(strV e_8.Name), (.int .i64 e_8.Levels)], 85⟩], q4] := hS.sel [2, 0, 1] (by decide)
   have hS11 : St _ _ _ _ ([[⟨b_p_c, [s1.v, (.int .i64 p_c_6.at_), (.int .u64 p_c_6.seed.v)], 64⟩]] ++ [[⟨b10, [(strV e_8.Name), (.int .i64 e_8.Levels)], 85⟩], q4]) := hS
   have hE11 := hS11.enter
   obtain ⟨t_12, ht_12, hb1⟩ := bindS hb1
   refine q_do rfl fun _ hK => wp_callX (vs := [(.pointer (some ⟨b_p_c, 0, none⟩)), (.int .i64 e_8.Levels)]) hF Try.func40 (by kernel_rfl) rfl rfl rfl (c_spec_l1Cur_pick p_c_6 e_8.Levels t_12 ht_12 _ m b_p_c s1 h7 _ hE11) fun a w _ hR hF => hK _ _ ?_
   obtain ⟨rfl, hR11, hk13⟩ := hR
   have hS : St _ _ _ _ [[⟨b_p_c, [s1.v, (.int .i64 t_12.2.at_), (.int .u64 t_12.2.seed.v)], 64⟩], [⟨b10, [(strV e_8.Name), (.int .i64 e_8.Levels)], 85⟩], q4] := hS11.leaveF hR11
   have h13 : Rd m s1 t_12.2.code := by rw [hk13]; exact h7
   refine q_do rfl fun _ hK => wp_buildSlice' (l := ([t_12.1] : List Int)) (cells := [(.int .i64 t_12.1)]) hF hS Try.underlying24 inf3 rfl rfl (by kernel_rfl) rfl rfl rfl ⟨rfl, rfl⟩ rfl rfl fun a w q14 s14 hF hS h14 _ => hK _ _ ?_
   have hS : St _ _ _ _ [q4, q14, [⟨b_p_c, [s1.v, (.int .i64 t_12.2.at_), (.int .u64 t_12.2.seed.v)], 64⟩], [⟨b10, [(strV e_8.Name), (.int .i64 e_8.Levels)], 85⟩]] := hS.sel [3, 0, 1, 2] (by decide)
   obtain ⟨l_15, hl_15, hb1⟩ := bindS hb1
   refine q_do rfl fun _ hK => wp_append hF hS h4 Try.underlying24 inf3 rfl rfl rfl rfl (h14.vw hS (j := 1) rfl) rfl (by decide) hl_15 rfl fun a w q16 s16 hF hS h16 => hK _ _ (q_x (v := s16.v) hF hS (ex_assign rfl) rfl rfl fun a hF => q_end (n_ib (n_sq (q_region (q_x (v := (.int .i64 (w64 (t_5 + 1)))) hF hS (ex_ibin rfl rfl rfl) rfl rfl fun a hF => q_x (v := (.int .i64 (w64 (t_5 + 1)))) hF hS (ex_move rfl) rfl rfl fun a hF => q_end ?_)))))
   obtain rfl := someI hb1
   exact ⟨rfl, q16, s16, _, _, _, rfl, hF.sub ⟨rfl, rfl, rfl, rfl, rfl, trivial⟩, hS.mask [true, false, true, false], h16, h13, (hk13.trans h7k)⟩
 ·rintro e a w ⟨q18, s18, out_17, p_c_19, rfl, rfl, hF, hS, h18, h20, h20k⟩
  refine x_ib (n_sq ?_)
  refine q_seq (q_region (q_x (v := s18.v) hF hS (ex_move rfl) rfl rfl fun a hF => q_x (v := s18.v) hF hS (ex_assign rfl) rfl rfl fun a hF => q_end (n_sq (q_ret ?_))))
  obtain rfl := someI hr
  exact ret_ofX hF hS rfl (.tmp rfl .nil) ⟨q18, s18, rfl, hS.sel [1, 0] (by decide), h18, h20k⟩

theorem c_spec_l1Cur_record (p_c : spec_l1Cur) (p_s : List impl_Variable) (p_areas : List Int) (r : impl_Record × spec_l1Cur) (hr : spec_l1Cur_record p_c p_s p_areas = some r) (w0 : World) (m : Mem) (b_p_c : Nat) (s1 : Sl) (h1 : Rd m s1 p_c.code) (s2 : Sl) (h2 : Rd m s2 p_s) (s3 : Sl) (h3 : Rd m s3 p_areas) (X : List Nat) (hS : St X w0 w0 m [[⟨b_p_c, [s1.v, (.int .i64 p_c.at_), (.int .u64 p_c.seed.v)], 64⟩]]) :
  RetX Try.prog 79 [(.pointer (some ⟨b_p_c, 0, none⟩)), s2.v, s3.v] w0 (fun v w => ∃ (q0' : Piece) (s0' : Sl), v = (.agg #[(.int .i64 r.1.Area), (.int .i64 r.1.House), s0'.v]) ∧ St X w0 w m [[⟨b_p_c, [s1.v, (.int .i64 r.2.at_), (.int .u64 r.2.seed.v)], 64⟩], q0'] ∧ OwnL m 3 q0' s0' r.1.Values ∧ r.2.code = p_c.code) := by
 unfold spec_l1Cur_record at hr
 refine ret_startX Try.func79 rfl 16 rfl rfl fun a hF => q_seq (q_region (q_alloc (cs := [(.int .i64 0), (.int .i64 0), nilS.v]) hF hS rfl rfl rfl fun a w b4 hF hS => q_end (n_sq (q_seq (q_region (q_x (v := (.pointer (some ⟨b_p_c, 0, none⟩))) hF hS (ex_move rfl) rfl rfl fun a hF => q_x (v := s3.v) hF hS (ex_move rfl) rfl rfl fun a hF => ?_))))))
 have hS : St _ _ _ _ [[⟨b_p_c, [s1.v, (.int .i64 p_c.at_), (.int .u64 p_c.seed.v)], 64⟩], [⟨b4, [(.int .i64 0), (.int .i64 0), nilS.v], 36⟩]] := hS.sel [1, 0] (by decide)
 have hS5 : St _ _ _ _ ([[⟨b_p_c, [s1.v, (.int .i64 p_c.at_), (.int .u64 p_c.seed.v)], 64⟩]] ++ [[⟨b4, [(.int .i64 0), (.int .i64 0), nilS.v], 36⟩]]) := hS
 have hE5 := hS5.enter
 obtain ⟨t_6, ht_6, hr⟩ := bindS hr
 refine q_do rfl fun _ hK => wp_callX (vs := [(.pointer (some ⟨b_p_c, 0, none⟩)), s3.v]) hF Try.func69 (by kernel_rfl) rfl rfl rfl (c_spec_l1Cur_among p_c p_areas t_6 ht_6 _ m b_p_c s1 h1 s3 h3 _ hE5) fun a w _ hR hF => hK _ _ ?_
 obtain ⟨rfl, hR5, hk7⟩ := hR
 have hS : St _ _ _ _ [[⟨b_p_c, [s1.v, (.int .i64 t_6.2.at_), (.int .u64 t_6.2.seed.v)], 64⟩], [⟨b4, [(.int .i64 0), (.int .i64 0), nilS.v], 36⟩]] := hS5.leaveF hR5
 have h7 : Rd m s1 t_6.2.code := by rw [hk7]; exact h1
 refine q_x (v := (.pointer (some ⟨b_p_c, 0, none⟩))) hF hS (ex_move rfl) rfl rfl fun a hF => ?_
 have hS8 : St _ _ _ _ ([[⟨b_p_c, [s1.v, (.int .i64 t_6.2.at_), (.int .u64 t_6.2.seed.v)], 64⟩]] ++ [[⟨b4, [(.int .i64 0), (.int .i64 0), nilS.v], 36⟩]]) := hS
 have hE8 := hS8.enter
 obtain ⟨t_9, ht_9, hr⟩ := bindS hr
 refine q_do rfl fun _ hK => wp_callX (vs := [(.pointer (some ⟨b_p_c, 0, none⟩)), (.int .i64 6)]) hF Try.func40 (by kernel_rfl) rfl rfl rfl (c_spec_l1Cur_pick t_6.2 6 t_9 ht_9 _ m b_p_c s1 h7 _ hE8) fun a w _ hR hF => hK _ _ ?_
 obtain ⟨rfl, hR8, hk10⟩ := hR
 have hS : St _ _ _ _ [[⟨b_p_c, [s1.v, (.int .i64 t_9.2.at_), (.int .u64 t_9.2.seed.v)], 64⟩], [⟨b4, [(.int .i64 0), (.int .i64 0), nilS.v], 36⟩]] := hS8.leaveF hR8
 have h10 : Rd m s1 t_9.2.code := by rw [hk10]; exact h7
 refine q_x (v := (.pointer (some ⟨b_p_c, 0, none⟩))) hF hS (ex_move rfl) rfl rfl fun a hF => q_x (v := s2.v) hF hS (ex_move rfl) rfl rfl fun a hF => ?_
 have hS11 : St _ _ _ _ ([[⟨b_p_c, [s1.v, (.int .i64 t_9.2.at_), (.int .u64 t_9.2.seed.v)], 64⟩]] ++ [[⟨b4, [(.int .i64 0), (.int .i64 0), nilS.v], 36⟩]]) := hS
 have hE11 := hS11.enter
 obtain ⟨t_12, ht_12, hr⟩ := bindS hr
 refine q_do rfl fun _ hK => wp_callX (vs := [(.pointer (some ⟨b_p_c, 0, none⟩)), s2.v]) hF Try.func73 (by kernel_rfl) rfl rfl rfl (c_spec_l1Cur_values t_9.2 p_s t_12 ht_12 _ m b_p_c s1 h10 s2 h2 _ hE11) fun a w _ hR hF => hK _ _ ?_
 obtain ⟨q13, s13, rfl, hR11, h13, hk14⟩ := hR
 have hS : St _ _ _ _ [[⟨b_p_c, [s1.v, (.int .i64 t_12.2.at_), (.int .u64 t_12.2.seed.v)], 64⟩], q13, [⟨b4, [(.int .i64 0), (.int .i64 0), nilS.v], 36⟩]] := hS11.leaveF hR11
 have h14 : Rd m s1 t_12.2.code := by rw [hk14]; exact h10
 refine q_x (v := (.agg #[(.int .i64 t_6.1), (.int .i64 t_9.1), s13.v])) hF hS (ex_build (cells := [(.int .i64 t_6.1), (.int .i64 t_9.1), s13.v]) rfl (by kernel_rfl)) rfl rfl fun a hF => q_store (vs := [(.int .i64 t_6.1), (.int .i64 t_9.1), s13.v]) (cs' := [(.int .i64 t_6.1), (.int .i64 t_9.1), s13.v]) 2 0 hF hS sz36 rfl rfl rfl rfl rfl rfl rfl rfl fun a w hF hS => q_end (n_sq (q_ret ?_))
 obtain rfl := someI hr
 exact ret_ofX hF hS rfl (.cellA (us := [(.int .i64 t_6.1), (.int .i64 t_9.1), s13.v]) 2 0 Try.underlying36 rfl sz36 rfl rfl rfl rfl .nil) ⟨q13, s13, rfl, hS.sel [0, 1] (by decide), h13, (hk14.trans (hk10.trans hk7))⟩

theorem c_spec_rOwn (p_r : impl_Record) (r : impl_Record) (hr : spec_rOwn p_r = some r) (w0 : World) (m : Mem) (hv : Vis m w0) (s1 : Sl) (h1 : Rd m s1 p_r.Values) :
  Ret Try.prog 39 [(.agg #[(.int .i64 p_r.Area), (.int .i64 p_r.House), s1.v])] w0 (fun v w => ∃ (q0' : Piece) (s0' : Sl), v = (.agg #[(.int .i64 r.Area), (.int .i64 r.House), s0'.v]) ∧ St [] w0 w m [q0'] ∧ OwnL m 3 q0' s0' r.Values) := by
 unfold spec_rOwn at hr
 refine ret_start Try.func39 rfl 11 rfl rfl m hv fun a hF hS => q_seq (q_region (q_box (cs := [(.int .i64 p_r.Area), (.int .i64 p_r.House), s1.v]) hF hS rfl rfl rfl fun a w b2 hF hS => q_alloc (cs := [(.int .i64 0), (.int .i64 0), nilS.v]) hF hS rfl rfl rfl fun a w b3 hF hS => q_end (n_sq (q_seq (e_region ⟨[8], [b2]⟩ mixed fun w' hw' => ?_)))))
 have hS := hS.below hw'
 refine e_p (v := (.pointer (some ⟨b2, 0, none⟩))) 0 hF rfl (ex_fieldAddr Try.underlying36 rfl sz3 rfl rfl) rfl rfl (by kernel_rfl) (by kernel_rfl) (by kernel_rfl) fun a hF => e_xb (v := (.int .i64 p_r.Area)) 1 1 hF hS (.head _) rfl rfl (ex_load1 0 0 Try.underlying3 rfl rfl rfl rfl) rfl rfl (by kernel_rfl) (by kernel_rfl) (by kernel_rfl) fun a hF => e_p (v := (.pointer (some ⟨b2, 1, none⟩))) 2 hF rfl (ex_fieldAddr Try.underlying36 rfl sz3 rfl rfl) rfl rfl (by kernel_rfl) (by kernel_rfl) (by kernel_rfl) fun a hF => e_xb (v := (.int .i64 p_r.House)) 3 1 hF hS (.head _) rfl rfl (ex_load1 0 0 Try.underlying3 rfl rfl rfl rfl) rfl rfl (by kernel_rfl) (by kernel_rfl) (by kernel_rfl) fun a hF => e_p (v := (.pointer (some ⟨b2, 2, none⟩))) 4 hF rfl (ex_fieldAddr Try.underlying36 rfl sz24 rfl rfl) rfl rfl (by kernel_rfl) (by kernel_rfl) (by kernel_rfl) fun a hF => e_xb (v := s1.v) 5 1 hF hS (.head _) rfl rfl (ex_load1 0 0 Try.underlying24 rfl rfl rfl rfl) rfl rfl (by kernel_rfl) (by kernel_rfl) (by kernel_rfl) fun a hF => e_one 6 (by kernel_rfl) ?_
 obtain ⟨t_4, ht_4, hr⟩ := bindS hr
 refine e_call (vs := [s1.v]) hF hS rfl Try.func52 (by kernel_rfl) rfl rfl rfl (c_spec_l1Own p_r.Values t_4 ht_4 _ m hS.vis s1 h1) ?_
 rintro a w _ ⟨q6, s6, rfl, hR5, h6⟩ hF hS2
 have hS : St _ _ _ _ [q6, [⟨b3, [(.int .i64 0), (.int .i64 0), nilS.v], 36⟩], [⟨b2, [(.int .i64 p_r.Area), (.int .i64 p_r.House), s1.v], 36⟩]] := hS.joinF hR5
 refine e_p (v := (.agg #[(.int .i64 p_r.Area), (.int .i64 p_r.House), s6.v])) 7 hF rfl (ex_build (cells := [(.int .i64 p_r.Area), (.int .i64 p_r.House), s6.v]) rfl (by kernel_rfl)) rfl rfl (by kernel_rfl) (by kernel_rfl) (by kernel_rfl) fun a hF => e_one 8 (by kernel_rfl) ?_
 have hSo := hS
 refine e_store (vs := [(.int .i64 p_r.Area), (.int .i64 p_r.House), s6.v]) (cs' := [(.int .i64 p_r.Area), (.int .i64 p_r.House), s6.v]) 1 0 hF hS rfl rfl sz36 rfl rfl rfl rfl rfl rfl rfl rfl fun a w hF hS => ⟨kpC hSo hS 2 2 rfl rfl kpN, ?_⟩
 refine e_end (by kernel_rfl) (n_sq (q_ret ?_)) _
 obtain rfl := someI hr
 exact ret_of hF hS rfl (.cellA (us := [(.int .i64 p_r.Area), (.int .i64 p_r.House), s6.v]) 1 0 Try.underlying36 rfl sz36 rfl rfl rfl rfl .nil) ⟨q6, s6, rfl, hS.sel [0] (by decide), h6⟩

theorem c_spec_l1Cur_data (p_c : spec_l1Cur) (p_s : List impl_Variable) (p_areas : List Int) (r : (List impl_Record) × spec_l1Cur) (hr : spec_l1Cur_data p_c p_s p_areas = some r) (w0 : World) (m : Mem) (b_p_c : Nat) (s1 : Sl) (h1 : Rd m s1 p_c.code) (s2 : Sl) (h2 : Rd m s2 p_s) (s3 : Sl) (h3 : Rd m s3 p_areas) (X : List Nat) (hS : St X w0 w0 m [[⟨b_p_c, [s1.v, (.int .i64 p_c.at_), (.int .u64 p_c.seed.v)], 64⟩]]) :
  RetX Try.prog 72 [(.pointer (some ⟨b_p_c, 0, none⟩)), s2.v, s3.v] w0 (fun v w => ∃ (m' : Mem) (q0' : Piece) (s0' : Sl), v = s0'.v ∧ MLe X w0.heap.size m m' ∧ St X w0 w m' [[⟨b_p_c, [s1.v, (.int .i64 r.2.at_), (.int .u64 r.2.seed.v)], 64⟩], q0'] ∧ OwnL m' 36 q0' s0' r.1 ∧ r.2.code = p_c.code) := by
 unfold spec_l1Cur_data at hr
 refine ret_startX Try.func72 rfl 32 rfl rfl fun a hF => q_seq (q_region (q_x (v := nilS.v) hF hS (ex_assign rfl) rfl rfl fun a hF => q_end (n_sq (q_seq (q_region (q_x (v := nilS.v) hF hS (ex_assign rfl) rfl rfl fun a hF => q_end (n_sq (q_seq (q_seq (q_region (q_x (v := (.pointer (some ⟨b_p_c, 0, none⟩))) hF hS (ex_move rfl) rfl rfl fun a hF => ?_)))))))))))
 have hS4 : St _ _ _ _ ([[⟨b_p_c, [s1.v, (.int .i64 p_c.at_), (.int .u64 p_c.seed.v)], 64⟩]] ++ []) := hS
 have hE4 := hS4.enter
 obtain ⟨t_5, ht_5, hr⟩ := bindS hr
 refine q_do rfl fun _ hK => wp_callX (vs := [(.pointer (some ⟨b_p_c, 0, none⟩)), (.int .i64 12)]) hF Try.func40 (by kernel_rfl) rfl rfl rfl (c_spec_l1Cur_pick p_c 12 t_5 ht_5 _ m b_p_c s1 h1 _ hE4) fun a w _ hR hF => hK _ _ ?_
 obtain ⟨rfl, hR4, hk6⟩ := hR
 have hS : St _ _ _ _ [[⟨b_p_c, [s1.v, (.int .i64 t_5.2.at_), (.int .u64 t_5.2.seed.v)], 64⟩]] := hS4.leaveF hR4
 have h6 : Rd m s1 t_5.2.code := by rw [hk6]; exact h1
 refine q_x (v := (.int .i64 t_5.1)) hF hS (ex_assign rfl) rfl rfl fun a hF => q_end (n_sq (q_block ?_))
 obtain ⟨o1, hl1, hr⟩ := bindS hr
 refine q_loop (fun (s : (List impl_Record) × Int × spec_l1Cur) a w => ∃ (m12 : Mem), ∃ (q8 : Piece), ∃ (s8 : Sl), ∃ out_7, ∃ k_9, ∃ p_c_10, s = (out_7, k_9, p_c_10) ∧ Fr a 32 [(0, (.pointer (some ⟨b_p_c, 0, none⟩))), (1, s2.v), (2, s3.v), (7, s8.v), (8, (.int .i64 k_9))] ∧ St X w0 w m12 [q8, [⟨b_p_c, [s1.v, (.int .i64 p_c_10.at_), (.int .u64 p_c_10.seed.v)], 64⟩]] ∧ MLe X w0.heap.size m m12 ∧ OwnL m12 36 q8 s8 out_7 ∧ Rd m12 s1 p_c_10.code ∧ p_c_10.code = p_c.code) (fun (o : (List impl_Record) × spec_l1Cur) e a w => ∃ (m39 : Mem), ∃ (q36 : Piece), ∃ (s36 : Sl), ∃ out_35, ∃ p_c_37, o = (out_35, p_c_37) ∧ e = .exit 0 ∧ Fr a 32 [(7, s36.v)] ∧ St X w0 w m39 [q36, [⟨b_p_c, [s1.v, (.int .i64 p_c_37.at_), (.int .u64 p_c_37.seed.v)], 64⟩]] ∧ MLe X w0.heap.size m m39 ∧ OwnL m39 36 q36 s36 out_35 ∧ Rd m39 s1 p_c_37.code ∧ p_c_37.code = p_c.code) hl1 ⟨m, [], nilS, _, _, _, rfl, hF.sub ⟨rfl, rfl, rfl, rfl, rfl, trivial⟩, hS.sel [1, 0] (by decide), (MLe.refl _ _), (OwnL.nil (α := impl_Record) m 36), h6, hk6⟩ ?_ ?_
 ·clear hF hS
  rintro s a w st ⟨m12, q8, s8, out_7, k_9, p_c_10, rfl, hF, hS, hm12, h8, h11, h11k⟩ hb1
  unfold spec_l1Cur_data_l1 at hb1
  refine q_seq (q_seq (q_region (q_x (v := (.int .i64 k_9)) hF hS (ex_move rfl) rfl rfl fun a hF => q_x (v := (.bool (decide (0 < k_9)))) hF hS (ex_ibin rfl rfl rfl) rfl rfl fun a hF => q_end (n_sq ?_))))
  rcases bcase (decide (0 < k_9)) with hc2 | hc2
  ·have hb1 := cond_f hc2 hb1
   refine q_cond_f hF rfl hc2 (q_exit (x_sq ?_))
   obtain rfl := someI hb1
   exact ⟨nofun, .inl ⟨m12, q8, s8, _, _, rfl, rfl, hF.sub ⟨rfl, trivial⟩, hS, hm12, h8, h11, h11k⟩⟩
  ·have hb1 := cond_t hc2 hb1
   refine q_cond_t hF rfl hc2 (q_skipc (n_sq (q_seq (q_block (q_seq (q_region (q_x (v := (.pointer (some ⟨b_p_c, 0, none⟩))) hF hS (ex_move rfl) rfl rfl fun a hF => q_x (v := s2.v) hF hS (ex_move rfl) rfl rfl fun a hF => q_x (v := s3.v) hF hS (ex_move rfl) rfl rfl fun a hF => ?_)))))))
   have hS : St _ _ _ _ [[⟨b_p_c, [s1.v, (.int .i64 p_c_10.at_), (.int .u64 p_c_10.seed.v)], 64⟩], q8] := hS.sel [1, 0] (by decide)
   have hS13 : St _ _ _ _ ([[⟨b_p_c, [s1.v, (.int .i64 p_c_10.at_), (.int .u64 p_c_10.seed.v)], 64⟩]] ++ [q8]) := hS
   have hE13 := hS13.enter
   obtain ⟨t_14, ht_14, hb1⟩ := bindS hb1
   refine q_do rfl fun _ hK => wp_callX (vs := [(.pointer (some ⟨b_p_c, 0, none⟩)), s2.v, s3.v]) hF Try.func79 (by kernel_rfl) rfl rfl rfl (c_spec_l1Cur_record p_c_10 p_s p_areas t_14 ht_14 _ m12 b_p_c s1 h11 s2 (h2.mono hm12.le) s3 (h3.mono hm12.le) _ hE13) fun a w _ hR hF => hK _ _ ?_
   obtain ⟨q15, s15, rfl, hR13, h15, hk16⟩ := hR
   have hS : St _ _ _ _ [[⟨b_p_c, [s1.v, (.int .i64 t_14.2.at_), (.int .u64 t_14.2.seed.v)], 64⟩], q15, q8] := hS13.leaveF hR13
   have h16 : Rd m12 s1 t_14.2.code := by rw [hk16]; exact h11
   refine q_alloc (cs := [(.int .i64 0), (.int .i64 0), nilS.v]) hF hS rfl rfl rfl fun a w b17 hF hS => q_store (vs := [(.int .i64 t_14.1.Area), (.int .i64 t_14.1.House), s15.v]) (cs' := [(.int .i64 t_14.1.Area), (.int .i64 t_14.1.House), s15.v]) 0 0 hF hS sz36 rfl rfl rfl rfl rfl rfl rfl rfl fun a w hF hS => q_end (n_sq (q_seq (q_region (q_x (v := s8.v) hF hS (ex_move rfl) rfl rfl fun a hF => q_x (v := (.agg #[(.int .i64 t_14.1.Area), (.int .i64 t_14.1.House), s15.v])) hF hS (ex_loadA (vs := [(.int .i64 t_14.1.Area), (.int .i64 t_14.1.House), s15.v]) 0 0 Try.underlying36 rfl sz36 rfl rfl rfl rfl) rfl rfl fun a hF => ?_))))
   have hS : St _ _ _ _ [q15, [⟨b17, [(.int .i64 t_14.1.Area), (.int .i64 t_14.1.House), s15.v], 36⟩], [⟨b_p_c, [s1.v, (.int .i64 t_14.2.at_), (.int .u64 t_14.2.seed.v)], 64⟩], q8] := hS.sel [2, 0, 1, 3] (by decide)
   obtain ⟨m19, hm19, hS, hz19⟩ := hS.freeze
   have h19 := h15.froz hm19.le hz19
   refine q_do rfl fun _ hK => wp_buildSlice' (l := ([t_14.1] : List impl_Record)) (cells := [(.int .i64 t_14.1.Area), (.int .i64 t_14.1.House), s15.v]) hF hS Try.underlying27 inf36 rfl rfl (by kernel_rfl) rfl rfl rfl ⟨⟨s15, rfl, h19⟩, rfl⟩ rfl rfl fun a w q18 s18 hF hS h18 _ => hK _ _ ?_
   have hS : St _ _ _ _ [q8, q18, [⟨b17, [(.int .i64 t_14.1.Area), (.int .i64 t_14.1.House), s15.v], 36⟩], [⟨b_p_c, [s1.v, (.int .i64 t_14.2.at_), (.int .u64 t_14.2.seed.v)], 64⟩]] := hS.sel [3, 0, 1, 2] (by decide)
   obtain ⟨l_20, hl_20, hb1⟩ := bindS hb1
   refine q_do rfl fun _ hK => wp_append hF hS (h8.mono hm19.le) Try.underlying27 inf36 rfl rfl rfl rfl (h18.vw hS (j := 1) rfl) rfl (by decide) hl_20 rfl fun a w q21 s21 hF hS h21 => hK _ _ (q_x (v := s21.v) hF hS (ex_assign rfl) rfl rfl fun a hF => q_end (n_sq (q_seq (q_region (q_x (v := (.pointer (some ⟨b_p_c, 0, none⟩))) hF hS (ex_move rfl) rfl rfl fun a hF => ?_)))))
   have hS : St _ _ _ _ [[⟨b_p_c, [s1.v, (.int .i64 t_14.2.at_), (.int .u64 t_14.2.seed.v)], 64⟩], q21, q18, [⟨b17, [(.int .i64 t_14.1.Area), (.int .i64 t_14.1.House), s15.v], 36⟩]] := hS.sel [3, 0, 1, 2] (by decide)
   have hS22 : St _ _ _ _ ([[⟨b_p_c, [s1.v, (.int .i64 t_14.2.at_), (.int .u64 t_14.2.seed.v)], 64⟩]] ++ [q21, q18, [⟨b17, [(.int .i64 t_14.1.Area), (.int .i64 t_14.1.House), s15.v], 36⟩]]) := hS
   have hE22 := hS22.enter
   obtain ⟨t_23, ht_23, hb1⟩ := bindS hb1
   refine q_do rfl fun _ hK => wp_callX (vs := [(.pointer (some ⟨b_p_c, 0, none⟩)), (.int .i64 4)]) hF Try.func80 (by kernel_rfl) rfl rfl rfl (c_spec_l1Cur_one t_14.2 4 t_23 ht_23 _ m19 b_p_c s1 (h16.mono hm19.le) _ hE22) fun a w _ hR hF => hK _ _ ?_
   obtain ⟨rfl, hR22, hk24⟩ := hR
   have hS : St _ _ _ _ [[⟨b_p_c, [s1.v, (.int .i64 t_23.2.at_), (.int .u64 t_23.2.seed.v)], 64⟩], q21, q18, [⟨b17, [(.int .i64 t_14.1.Area), (.int .i64 t_14.1.House), s15.v], 36⟩]] := hS22.leaveF hR22
   have h24 : Rd m19 s1 t_23.2.code := by rw [hk24]; exact (h16.mono hm19.le)
   refine q_end (n_sq ?_)
   obtain ⟨out_32, hj3, hb1⟩ := bindS hb1
   refine q_join (fun a w => ∃ (m34 : Mem), ∃ (q33 : Piece), ∃ (s33 : Sl), Fr a 32 [(0, (.pointer (some ⟨b_p_c, 0, none⟩))), (1, s2.v), (2, s3.v), (7, s33.v), (8, (.int .i64 k_9))] ∧ St X w0 w m34 [q33, [⟨b_p_c, [s1.v, (.int .i64 t_23.2.at_), (.int .u64 t_23.2.seed.v)], 64⟩]] ∧ MLe X w0.heap.size m19 m34 ∧ OwnL m34 36 q33 s33 out_32) ?_ ?_
   ·rcases bcase (t_23.1) with hc4 | hc4
    ·have hj3 := cond_f hc4 hj3
     refine q_cond_f hF rfl hc4 (q_skipc (n_jn ?_))
     obtain rfl := someI hj3
     exact ⟨m19, q21, s21, hF.sub ⟨rfl, rfl, rfl, rfl, rfl, trivial⟩, hS.sel [1, 0] (by decide), (MLe.refl _ _), h21⟩
    ·have hj3 := cond_t hc4 hj3
     refine q_cond_t hF rfl hc4 (q_region (q_x (v := s21.v) hF hS (ex_move rfl) rfl rfl fun a hF => q_x (v := (.agg #[(.int .i64 t_14.1.Area), (.int .i64 t_14.1.House), s15.v])) hF hS (ex_loadA (vs := [(.int .i64 t_14.1.Area), (.int .i64 t_14.1.House), s15.v]) 3 0 Try.underlying36 rfl sz36 rfl rfl rfl rfl) rfl rfl fun a hF => ?_))
     obtain ⟨t_25, ht_25, hj3⟩ := bindS hj3
     refine q_call (vs := [(.agg #[(.int .i64 t_14.1.Area), (.int .i64 t_14.1.House), s15.v])]) hF hS Try.func39 (by kernel_rfl) rfl rfl rfl (c_spec_rOwn t_14.1 t_25 ht_25 _ m19 hS.vis s15 h19) ?_
     rintro a w _ ⟨q27, s27, rfl, hR26, h27⟩ hF hS2
     have hS : St _ _ _ _ [q27, [⟨b_p_c, [s1.v, (.int .i64 t_23.2.at_), (.int .u64 t_23.2.seed.v)], 64⟩], q21, q18, [⟨b17, [(.int .i64 t_14.1.Area), (.int .i64 t_14.1.House), s15.v], 36⟩]] := hS.joinF hR26
     obtain ⟨m29, hm29, hS, hz29⟩ := hS.freeze
     have h29 := h27.froz hm29.le hz29
     refine q_do rfl fun _ hK => wp_buildSlice' (l := ([t_25] : List impl_Record)) (cells := [(.int .i64 t_25.Area), (.int .i64 t_25.House), s27.v]) hF hS Try.underlying27 inf36 rfl rfl (by kernel_rfl) rfl rfl rfl ⟨⟨s27, rfl, h29⟩, rfl⟩ rfl rfl fun a w q28 s28 hF hS h28 _ => hK _ _ ?_
     have hS : St _ _ _ _ [q21, q28, [⟨b_p_c, [s1.v, (.int .i64 t_23.2.at_), (.int .u64 t_23.2.seed.v)], 64⟩], q18, [⟨b17, [(.int .i64 t_14.1.Area), (.int .i64 t_14.1.House), s15.v], 36⟩]] := hS.sel [2, 0, 1, 3, 4] (by decide)
     obtain ⟨l_30, hl_30, hj3⟩ := bindS hj3
     refine q_do rfl fun _ hK => wp_append hF hS (h21.mono hm29.le) Try.underlying27 inf36 rfl rfl rfl rfl (h28.vw hS (j := 1) rfl) rfl (by decide) hl_30 rfl fun a w q31 s31 hF hS h31 => hK _ _ (q_x (v := s31.v) hF hS (ex_assign rfl) rfl rfl fun a hF => q_end (n_jn ?_))
     obtain rfl := someI hj3
     exact ⟨m29, q31, s31, hF.sub ⟨rfl, rfl, rfl, rfl, rfl, trivial⟩, hS.mask [true, false, true, false, false], hm29, h31⟩
   ·rintro a w ⟨m34, q33, s33, hF, hS, hm34, h33⟩
    refine n_ib (n_sq ?_)
    refine q_region (q_x (v := (.int .i64 k_9)) hF hS (ex_move rfl) rfl rfl fun a hF => q_x (v := (.int .i64 (w64 (k_9 - 1)))) hF hS (ex_ibin rfl rfl rfl) rfl rfl fun a hF => q_x (v := (.int .i64 (w64 (k_9 - 1)))) hF hS (ex_assign rfl) rfl rfl fun a hF => q_end ?_)
    obtain rfl := someI hb1
    exact ⟨rfl, m34, q33, s33, _, _, _, rfl, hF.sub ⟨rfl, rfl, rfl, rfl, rfl, trivial⟩, hS, ((hm12.trans hm19).trans hm34), h33, (h24.mono hm34.le), (hk24.trans (hk16.trans h11k))⟩
 ·rintro e a w ⟨m39, q36, s36, out_35, p_c_37, rfl, rfl, hF, hS, hm39, h36, h38, h38k⟩
  refine x_ib (n_sq ?_)
  refine q_seq (q_region (q_x (v := s36.v) hF hS (ex_move rfl) rfl rfl fun a hF => q_x (v := s36.v) hF hS (ex_assign rfl) rfl rfl fun a hF => q_end (n_sq (q_ret ?_))))
  obtain rfl := someI hr
  exact ret_ofX hF hS rfl (.tmp rfl .nil) ⟨m39, q36, s36, rfl, hm39, hS.sel [1, 0] (by decide), h36, h38k⟩

theorem c_spec_l1Cur_anyValues (p_c : spec_l1Cur) (p_s : List impl_Variable) (r : (List Int) × spec_l1Cur) (hr : spec_l1Cur_anyValues p_c p_s = some r) (w0 : World) (m : Mem) (b_p_c : Nat) (s1 : Sl) (h1 : Rd m s1 p_c.code) (s2 : Sl) (h2 : Rd m s2 p_s) (X : List Nat) (hS : St X w0 w0 m [[⟨b_p_c, [s1.v, (.int .i64 p_c.at_), (.int .u64 p_c.seed.v)], 64⟩]]) :
  RetX Try.prog 45 [(.pointer (some ⟨b_p_c, 0, none⟩)), s2.v] w0 (fun v w => ∃ (q0' : Piece) (s0' : Sl), v = s0'.v ∧ St X w0 w m [[⟨b_p_c, [s1.v, (.int .i64 r.2.at_), (.int .u64 r.2.seed.v)], 64⟩], q0'] ∧ OwnL m 3 q0' s0' r.1 ∧ r.2.code = p_c.code) := by
 unfold spec_l1Cur_anyValues at hr
 refine ret_startX Try.func45 rfl 33 rfl rfl fun a hF => q_seq (q_region (q_x (v := nilS.v) hF hS (ex_assign rfl) rfl rfl fun a hF => q_end (n_sq (q_seq (q_region (q_x (v := (.pointer (some ⟨b_p_c, 0, none⟩))) hF hS (ex_move rfl) rfl rfl fun a hF => q_x (v := s2.v) hF hS (ex_move rfl) rfl rfl fun a hF => ?_))))))
 have hS3 : St _ _ _ _ ([[⟨b_p_c, [s1.v, (.int .i64 p_c.at_), (.int .u64 p_c.seed.v)], 64⟩]] ++ []) := hS
 have hE3 := hS3.enter
 obtain ⟨t_4, ht_4, hr⟩ := bindS hr
 refine q_do rfl fun _ hK => wp_callX (vs := [(.pointer (some ⟨b_p_c, 0, none⟩)), s2.v]) hF Try.func73 (by kernel_rfl) rfl rfl rfl (c_spec_l1Cur_values p_c p_s t_4 ht_4 _ m b_p_c s1 h1 s2 h2 _ hE3) fun a w _ hR hF => hK _ _ ?_
 obtain ⟨q5, s5, rfl, hR3, h5, hk6⟩ := hR
 have hS : St _ _ _ _ [[⟨b_p_c, [s1.v, (.int .i64 t_4.2.at_), (.int .u64 t_4.2.seed.v)], 64⟩], q5] := hS3.leaveF hR3
 have h6 : Rd m s1 t_4.2.code := by rw [hk6]; exact h1
 refine q_x (v := s5.v) hF hS (ex_assign rfl) rfl rfl fun a hF => q_end (n_sq (q_seq (q_block (q_seq ?_))))
 obtain ⟨j1, hj1, hr⟩ := bindS hr
 refine q_join (fun a w => ∃ t_10, ∃ p_c_11, j1 = (t_10, p_c_11) ∧ Fr a 33 [(0, (.pointer (some ⟨b_p_c, 0, none⟩))), (5, s5.v), (9, (.bool t_10))] ∧ St X w0 w m [q5, [⟨b_p_c, [s1.v, (.int .i64 p_c_11.at_), (.int .u64 p_c_11.seed.v)], 64⟩]] ∧ Rd m s1 p_c_11.code ∧ p_c_11.code = p_c.code) ?_ ?_
 ·refine q_region (q_x (v := s5.v) hF hS (ex_move rfl) rfl rfl fun a hF => q_x (v := (.int .i64 (goLen t_4.1))) hF hS (ex_len Try.underlying24 rfl h5.len) rfl rfl fun a hF => q_x (v := (.bool (decide (0 < (goLen t_4.1))))) hF hS (ex_ibin rfl rfl rfl) rfl rfl fun a hF => q_x (v := (.bool (decide (0 < (goLen t_4.1))))) hF hS (ex_move rfl) rfl rfl fun a hF => ?_)
  rcases bcase (decide (0 < (goLen t_4.1))) with hc2 | hc2
  ·have hj1 := cond_f hc2 hj1
   refine q_skip hF (wanted_f hF rfl rfl rfl hc2 rfl) rfl fun a hF => q_skip hF (wanted_f hF rfl rfl rfl hc2 rfl) rfl fun a hF => q_x (v := (.bool false)) hF hS (ex_pick_f rfl rfl hc2) rfl rfl fun a hF => q_x (v := (.bool false)) hF hS (ex_assign rfl) rfl rfl fun a hF => q_end (n_jn ?_)
   obtain rfl := someI hj1
   exact ⟨_, _, rfl, hF.sub ⟨rfl, rfl, rfl, trivial⟩, hS.sel [1, 0] (by decide), h6, hk6⟩
  ·have hj1 := cond_t hc2 hj1
   refine q_xg (v := (.pointer (some ⟨b_p_c, 0, none⟩))) hF hS (ex_move rfl) (wanted_t hF rfl rfl rfl hc2) rfl fun a hF => ?_
   have hS7 : St _ _ _ _ ([[⟨b_p_c, [s1.v, (.int .i64 t_4.2.at_), (.int .u64 t_4.2.seed.v)], 64⟩]] ++ [q5]) := hS
   have hE7 := hS7.enter
   obtain ⟨t_8, ht_8, hj1⟩ := bindS hj1
   refine q_dog (wanted_t hF rfl rfl rfl hc2) fun _ hK => wp_callX (vs := [(.pointer (some ⟨b_p_c, 0, none⟩)), (.int .i64 16)]) hF Try.func80 (by kernel_rfl) rfl rfl rfl (c_spec_l1Cur_one t_4.2 16 t_8 ht_8 _ m b_p_c s1 h6 _ hE7) fun a w _ hR hF => hK _ _ ?_
   obtain ⟨rfl, hR7, hk9⟩ := hR
   have hS : St _ _ _ _ [[⟨b_p_c, [s1.v, (.int .i64 t_8.2.at_), (.int .u64 t_8.2.seed.v)], 64⟩], q5] := hS7.leaveF hR7
   have h9 : Rd m s1 t_8.2.code := by rw [hk9]; exact h6
   refine q_x (v := (.bool t_8.1)) hF hS (ex_pick_t rfl rfl hc2) rfl rfl fun a hF => q_x (v := (.bool t_8.1)) hF hS (ex_assign rfl) rfl rfl fun a hF => q_end (n_jn ?_)
   obtain rfl := someI hj1
   exact ⟨_, _, rfl, hF.sub ⟨rfl, rfl, rfl, trivial⟩, hS.sel [1, 0] (by decide), h9, (hk9.trans hk6)⟩
 ·rintro a w ⟨t_10, p_c_11, rfl, hF, hS, h12, h12k⟩
  refine n_sq ?_
  obtain ⟨j3, hj3, hr⟩ := bindS hr
  refine q_join (fun a w => ∃ (q30 : Piece), ∃ out_29, ∃ p_c_31, j3 = .inl (out_29, p_c_31) ∧ Fr a 33 [(5, s5.v)] ∧ St X w0 w m [q30, [⟨b_p_c, [s1.v, (.int .i64 p_c_31.at_), (.int .u64 p_c_31.seed.v)], 64⟩]] ∧ OwnL m 3 q30 s5 out_29 ∧ Rd m s1 p_c_31.code ∧ p_c_31.code = p_c.code) ?_ ?_
  ·rcases bcase (t_10) with hc4 | hc4
   ·have hj3 := cond_f hc4 hj3
    refine q_cond_f hF rfl hc4 (q_seq (q_region (q_x (v := (.pointer (some ⟨b_p_c, 0, none⟩))) hF hS (ex_move rfl) rfl rfl fun a hF => ?_)))
    have hS : St _ _ _ _ [[⟨b_p_c, [s1.v, (.int .i64 p_c_11.at_), (.int .u64 p_c_11.seed.v)], 64⟩], q5] := hS.sel [1, 0] (by decide)
    have hS13 : St _ _ _ _ ([[⟨b_p_c, [s1.v, (.int .i64 p_c_11.at_), (.int .u64 p_c_11.seed.v)], 64⟩]] ++ [q5]) := hS
    have hE13 := hS13.enter
    obtain ⟨t_14, ht_14, hj3⟩ := bindS hj3
    refine q_do rfl fun _ hK => wp_callX (vs := [(.pointer (some ⟨b_p_c, 0, none⟩)), (.int .i64 24)]) hF Try.func80 (by kernel_rfl) rfl rfl rfl (c_spec_l1Cur_one p_c_11 24 t_14 ht_14 _ m b_p_c s1 h12 _ hE13) fun a w _ hR hF => hK _ _ ?_
    obtain ⟨rfl, hR13, hk15⟩ := hR
    have hS : St _ _ _ _ [[⟨b_p_c, [s1.v, (.int .i64 t_14.2.at_), (.int .u64 t_14.2.seed.v)], 64⟩], q5] := hS13.leaveF hR13
    have h15 : Rd m s1 t_14.2.code := by rw [hk15]; exact h12
    refine q_x (v := (.bool t_14.1)) hF hS (ex_assign rfl) rfl rfl fun a hF => q_end (n_sq ?_)
    rcases bcase (t_14.1) with hc5 | hc5
    ·have hj3 := cond_f hc5 hj3
     refine q_cond_f hF rfl hc5 (q_skipc (n_jn ?_))
     obtain rfl := someI hj3
     exact ⟨q5, _, _, rfl, hF.sub ⟨rfl, trivial⟩, hS.sel [1, 0] (by decide), h5, h15, (hk15.trans h12k)⟩
    ·have hj3 := cond_t hc5 hj3
     refine q_cond_t hF rfl hc5 (q_seq (q_region (q_x (v := s5.v) hF hS (ex_move rfl) rfl rfl fun a hF => q_do rfl fun _ hK => wp_buildSlice' (l := ([0] : List Int)) (cells := [(.int .i64 0)]) hF hS Try.underlying24 inf3 rfl rfl (by kernel_rfl) rfl rfl rfl ⟨rfl, rfl⟩ rfl rfl fun a w q16 s16 hF hS h16 _ => hK _ _ ?_)))
     have hS : St _ _ _ _ [q5, q16, [⟨b_p_c, [s1.v, (.int .i64 t_14.2.at_), (.int .u64 t_14.2.seed.v)], 64⟩]] := hS.sel [2, 0, 1] (by decide)
     obtain ⟨l_17, hl_17, hj3⟩ := bindS hj3
     refine q_do rfl fun _ hK => wp_append hF hS h5 Try.underlying24 inf3 rfl rfl rfl rfl (h16.vw hS (j := 1) rfl) rfl (by decide) hl_17 rfl fun a w q18 s18 hF hS h18 => hK _ _ (q_x (v := s18.v) hF hS (ex_assign rfl) rfl rfl fun a hF => q_end (n_sq (q_ret (r_jn ?_))))
     obtain rfl := someI hj3
     refine r_ib (r_sq ?_)
     obtain rfl := someI hr
     exact ret_ofX hF hS rfl (.tmp rfl .nil) ⟨q18, s18, rfl, hS.sel [2, 0] (by decide), h18, (hk15.trans h12k)⟩
   ·have hj3 := cond_t hc4 hj3
    refine q_cond_t hF rfl hc4 (q_region (q_x (v := s5.v) hF hS (ex_move rfl) rfl rfl fun a hF => q_x (v := (.pointer (some ⟨b_p_c, 0, none⟩))) hF hS (ex_move rfl) rfl rfl fun a hF => q_x (v := s5.v) hF hS (ex_move rfl) rfl rfl fun a hF => q_x (v := (.int .i64 (goLen t_4.1))) hF hS (ex_len Try.underlying24 rfl h5.len) rfl rfl fun a hF => ?_))
    have hS : St _ _ _ _ [[⟨b_p_c, [s1.v, (.int .i64 p_c_11.at_), (.int .u64 p_c_11.seed.v)], 64⟩], q5] := hS.sel [1, 0] (by decide)
    have hS19 : St _ _ _ _ ([[⟨b_p_c, [s1.v, (.int .i64 p_c_11.at_), (.int .u64 p_c_11.seed.v)], 64⟩]] ++ [q5]) := hS
    have hE19 := hS19.enter
    obtain ⟨t_20, ht_20, hj3⟩ := bindS hj3
    refine q_do rfl fun _ hK => wp_callX (vs := [(.pointer (some ⟨b_p_c, 0, none⟩)), (.int .i64 (goLen t_4.1))]) hF Try.func40 (by kernel_rfl) rfl rfl rfl (c_spec_l1Cur_pick p_c_11 (goLen t_4.1) t_20 ht_20 _ m b_p_c s1 h12 _ hE19) fun a w _ hR hF => hK _ _ ?_
    obtain ⟨rfl, hR19, hk21⟩ := hR
    have hS : St _ _ _ _ [[⟨b_p_c, [s1.v, (.int .i64 t_20.2.at_), (.int .u64 t_20.2.seed.v)], 64⟩], q5] := hS19.leaveF hR19
    have h21 : Rd m s1 t_20.2.code := by rw [hk21]; exact h12
    refine q_x (v := (.pointer (some ⟨b_p_c, 0, none⟩))) hF hS (ex_move rfl) rfl rfl fun a hF => q_do rfl fun _ hK => wp_buildSlice' (l := ([-1, 2, 8] : List Int)) (cells := [(.int .i64 (-1)), (.int .i64 2), (.int .i64 8)]) hF hS Try.underlying24 inf3 rfl rfl (by kernel_rfl) rfl rfl rfl ⟨rfl, rfl, rfl, rfl⟩ rfl rfl fun a w q22 s22 hF hS h22 _ => hK _ _ ?_
    have hS : St _ _ _ _ [[⟨b_p_c, [s1.v, (.int .i64 t_20.2.at_), (.int .u64 t_20.2.seed.v)], 64⟩], q22, q5] := hS.sel [1, 0, 2] (by decide)
    have hS23 : St _ _ _ _ ([[⟨b_p_c, [s1.v, (.int .i64 t_20.2.at_), (.int .u64 t_20.2.seed.v)], 64⟩]] ++ [q22, q5]) := hS
    obtain ⟨m23, hl23, hE23, hz23⟩ := hS23.lendX
    obtain ⟨t_24, ht_24, hj3⟩ := bindS hj3
    refine q_do rfl fun _ hK => wp_callX (vs := [(.pointer (some ⟨b_p_c, 0, none⟩)), s22.v]) hF Try.func69 (by kernel_rfl) rfl rfl rfl (c_spec_l1Cur_among t_20.2 ([-1, 2, 8] : List Int) t_24 ht_24 _ m23 b_p_c s1 (h21.mono hl23) s22 (h22.froz hl23 (hz23 0 _ rfl)) _ hE23) fun a w _ hR hF => hK _ _ ?_
    obtain ⟨rfl, hR23, hk25⟩ := hR
    have hS : St _ _ _ _ [[⟨b_p_c, [s1.v, (.int .i64 t_24.2.at_), (.int .u64 t_24.2.seed.v)], 64⟩], q22, q5] := hS23.leaveF hR23
    have h25 : Rd m s1 t_24.2.code := by rw [hk25]; exact h21
    obtain ⟨e_26, he_26, hj3⟩ := bindS hj3
    obtain ⟨vs27, at27, d27⟩ := h5.at he_26 1 rfl
    obtain rfl : vs27 = [(.int .i64 e_26)] := d27
    refine q_x (v := (elP s5 (t_20.1.toNat * 1))) hF hS (ex_indexAddr Try.underlying24 sz3 rfl rfl (h5.idx he_26)) rfl rfl fun a hF => ?_
    have hS : St _ _ _ _ [q5, [⟨b_p_c, [s1.v, (.int .i64 t_24.2.at_), (.int .u64 t_24.2.seed.v)], 64⟩], q22] := hS.sel [2, 0, 1] (by decide)
    refine q_do rfl fun _ hK => wp_storeE (e' := t_24.1) (us := [(.int .i64 t_24.1)]) (vs := [(.int .i64 e_26)]) 0 hF hS h5 sz3 rfl rfl rfl rfl rfl rfl rfl he_26 at27 rfl rfl rfl fun w q28 hS h28 => hK _ _ (q_end (n_jn ?_))
    obtain rfl := someI hj3
    exact ⟨q28, _, _, rfl, hF.sub ⟨rfl, trivial⟩, hS.mask [true, true, false], h28, h25, (hk25.trans (hk21.trans h12k))⟩
  ·rintro a w ⟨q30, out_29, p_c_31, rfl, hF, hS, h30, h32, h32k⟩
   refine n_ib (n_sq ?_)
   refine q_seq (q_region (q_x (v := s5.v) hF hS (ex_move rfl) rfl rfl fun a hF => q_x (v := s5.v) hF hS (ex_assign rfl) rfl rfl fun a hF => q_end (n_sq (q_ret ?_))))
   obtain rfl := someI hr
   exact ret_ofX hF hS rfl (.tmp rfl .nil) ⟨q30, s5, rfl, hS.sel [1, 0] (by decide), h30, h32k⟩

theorem c_spec_l1Cur_anyData (p_c : spec_l1Cur) (p_s : List impl_Variable) (r : (List impl_Record) × spec_l1Cur) (hr : spec_l1Cur_anyData p_c p_s = some r) (w0 : World) (m : Mem) (b_p_c : Nat) (s1 : Sl) (h1 : Rd m s1 p_c.code) (s2 : Sl) (h2 : Rd m s2 p_s) (X : List Nat) (hS : St X w0 w0 m [[⟨b_p_c, [s1.v, (.int .i64 p_c.at_), (.int .u64 p_c.seed.v)], 64⟩]]) :
  RetX Try.prog 32 [(.pointer (some ⟨b_p_c, 0, none⟩)), s2.v] w0 (fun v w => ∃ (m' : Mem) (q0' : Piece) (s0' : Sl), v = s0'.v ∧ MLe X w0.heap.size m m' ∧ St X w0 w m' [[⟨b_p_c, [s1.v, (.int .i64 r.2.at_), (.int .u64 r.2.seed.v)], 64⟩], q0'] ∧ OwnL m' 36 q0' s0' r.1 ∧ r.2.code = p_c.code) := by
 unfold spec_l1Cur_anyData at hr
 refine ret_startX Try.func32 rfl 43 rfl rfl fun a hF => q_seq (q_region (q_x (v := nilS.v) hF hS (ex_assign rfl) rfl rfl fun a hF => q_end (n_sq (q_seq (q_region (q_x (v := (.pointer (some ⟨b_p_c, 0, none⟩))) hF hS (ex_move rfl) rfl rfl fun a hF => q_x (v := s2.v) hF hS (ex_move rfl) rfl rfl fun a hF => q_do rfl fun _ hK => wp_buildSlice' (l := ([0, 1, 2, 3] : List Int)) (cells := [(.int .i64 0), (.int .i64 1), (.int .i64 2), (.int .i64 3)]) hF hS Try.underlying24 inf3 rfl rfl (by kernel_rfl) rfl rfl rfl ⟨rfl, rfl, rfl, rfl, rfl⟩ rfl rfl fun a w q3 s3 hF hS h3 _ => hK _ _ ?_))))))
 obtain ⟨m4, hm4, hS, hz4⟩ := hS.freeze
 have h4 := h3.froz hm4.le hz4
 have hS5 : St _ _ _ _ ([[⟨b_p_c, [s1.v, (.int .i64 p_c.at_), (.int .u64 p_c.seed.v)], 64⟩]] ++ []) := hS
 have hE5 := hS5.enter
 obtain ⟨t_6, ht_6, hr⟩ := bindS hr
 refine q_do rfl fun _ hK => wp_callX (vs := [(.pointer (some ⟨b_p_c, 0, none⟩)), s2.v, s3.v]) hF Try.func72 (by kernel_rfl) rfl rfl rfl (c_spec_l1Cur_data p_c p_s ([0, 1, 2, 3] : List Int) t_6 ht_6 _ m4 b_p_c s1 (h1.mono hm4.le) s2 (h2.mono hm4.le) s3 h4 _ hE5) fun a w _ hR hF => hK _ _ ?_
 obtain ⟨m5', q7, s7, rfl, hm5, hR5, h7, hk8⟩ := hR
 have hS : St _ _ _ _ [[⟨b_p_c, [s1.v, (.int .i64 t_6.2.at_), (.int .u64 t_6.2.seed.v)], 64⟩], q7] := hS5.leave hR5 hm5
 have hm5 := MLe.weakX hS5 hm5
 have h8 : Rd m5' s1 t_6.2.code := by rw [hk8]; exact ((h1.mono hm4.le).mono hm5.le)
 refine q_x (v := s7.v) hF hS (ex_assign rfl) rfl rfl fun a hF => q_end (n_sq (q_seq (q_seq (q_region (q_x (v := (.pointer (some ⟨b_p_c, 0, none⟩))) hF hS (ex_move rfl) rfl rfl fun a hF => ?_)))))
 have hS9 : St _ _ _ _ ([[⟨b_p_c, [s1.v, (.int .i64 t_6.2.at_), (.int .u64 t_6.2.seed.v)], 64⟩]] ++ [q7]) := hS
 have hE9 := hS9.enter
 obtain ⟨t_10, ht_10, hr⟩ := bindS hr
 refine q_do rfl fun _ hK => wp_callX (vs := [(.pointer (some ⟨b_p_c, 0, none⟩)), (.int .i64 24)]) hF Try.func40 (by kernel_rfl) rfl rfl rfl (c_spec_l1Cur_pick t_6.2 24 t_10 ht_10 _ m5' b_p_c s1 h8 _ hE9) fun a w _ hR hF => hK _ _ ?_
 obtain ⟨rfl, hR9, hk11⟩ := hR
 have hS : St _ _ _ _ [[⟨b_p_c, [s1.v, (.int .i64 t_10.2.at_), (.int .u64 t_10.2.seed.v)], 64⟩], q7] := hS9.leaveF hR9
 have h11 : Rd m5' s1 t_10.2.code := by rw [hk11]; exact h8
 refine q_end (n_sq (q_block (q_seq (q_region (q_x (v := (.bool (t_10.1 == 0))) hF hS (ex_ibin rfl rfl rfl) rfl rfl fun a hF => q_x (v := (.bool (t_10.1 == 0))) hF hS (ex_assign rfl) rfl rfl fun a hF => q_end (n_sq ?_))))))
 obtain ⟨j1, hj1, hr⟩ := bindS hr
 refine q_join (fun a w => ∃ (m58 : Mem), ∃ (q55 : Piece), ∃ (s55 : Sl), ∃ out_54, ∃ p_c_56, j1 = (out_54, p_c_56) ∧ Fr a 43 [(5, s55.v)] ∧ St X w0 w m58 [q55, [⟨b_p_c, [s1.v, (.int .i64 p_c_56.at_), (.int .u64 p_c_56.seed.v)], 64⟩]] ∧ MLe X w0.heap.size m5' m58 ∧ OwnL m58 36 q55 s55 out_54 ∧ Rd m58 s1 p_c_56.code ∧ p_c_56.code = p_c.code) ?_ ?_
 ·rcases bcase (t_10.1 == 0) with hc2 | hc2
  ·have hj1 := cond_f hc2 hj1
   refine q_cond_f hF rfl hc2 (q_seq (q_region (q_x (v := (.bool (t_10.1 == 1))) hF hS (ex_ibin rfl rfl rfl) rfl rfl fun a hF => q_x (v := (.bool (t_10.1 == 1))) hF hS (ex_assign rfl) rfl rfl fun a hF => q_end (n_sq ?_))))
   obtain ⟨j3, hj3, hj1⟩ := bindS hj1
   refine q_join (fun a w => ∃ (m37 : Mem), ∃ (q34 : Piece), ∃ (s34 : Sl), ∃ out_33, ∃ p_c_35, j3 = (out_33, p_c_35) ∧ Fr a 43 [(5, s34.v)] ∧ St X w0 w m37 [q34, [⟨b_p_c, [s1.v, (.int .i64 p_c_35.at_), (.int .u64 p_c_35.seed.v)], 64⟩]] ∧ MLe X w0.heap.size m5' m37 ∧ OwnL m37 36 q34 s34 out_33 ∧ Rd m37 s1 p_c_35.code ∧ p_c_35.code = p_c.code) ?_ ?_
   ·rcases bcase (t_10.1 == 1) with hc4 | hc4
    ·have hj3 := cond_f hc4 hj3
     refine q_cond_f hF rfl hc4 (q_skipc (n_jn ?_))
     obtain rfl := someI hj3
     exact ⟨m5', q7, s7, _, _, rfl, hF.sub ⟨rfl, trivial⟩, hS.sel [1, 0] (by decide), (MLe.refl _ _), h7, h11, (hk11.trans hk8)⟩
    ·have hj3 := cond_t hc4 hj3
     refine q_cond_t hF rfl hc4 (q_block ?_)
     obtain ⟨o5, hl5, hj3⟩ := bindS hj3
     refine q_loop (fun (s : (List impl_Record) × spec_l1Cur) a w => ∃ (m16 : Mem), ∃ (q13 : Piece), ∃ (s13 : Sl), ∃ out_12, ∃ p_c_14, s = (out_12, p_c_14) ∧ Fr a 43 [(0, (.pointer (some ⟨b_p_c, 0, none⟩))), (1, s2.v), (5, s13.v)] ∧ St X w0 w m16 [q13, [⟨b_p_c, [s1.v, (.int .i64 p_c_14.at_), (.int .u64 p_c_14.seed.v)], 64⟩]] ∧ MLe X w0.heap.size m5' m16 ∧ OwnL m16 36 q13 s13 out_12 ∧ Rd m16 s1 p_c_14.code ∧ p_c_14.code = p_c.code) (fun (o : (List impl_Record) × spec_l1Cur) e a w => ∃ (m32 : Mem), ∃ (q29 : Piece), ∃ (s29 : Sl), ∃ out_28, ∃ p_c_30, o = (out_28, p_c_30) ∧ e = .exit 1 ∧ Fr a 43 [(5, s29.v)] ∧ St X w0 w m32 [q29, [⟨b_p_c, [s1.v, (.int .i64 p_c_30.at_), (.int .u64 p_c_30.seed.v)], 64⟩]] ∧ MLe X w0.heap.size m5' m32 ∧ OwnL m32 36 q29 s29 out_28 ∧ Rd m32 s1 p_c_30.code ∧ p_c_30.code = p_c.code) hl5 ⟨m5', q7, s7, _, _, rfl, hF.sub ⟨rfl, rfl, rfl, trivial⟩, hS.sel [1, 0] (by decide), (MLe.refl _ _), h7, h11, (hk11.trans hk8)⟩ ?_ ?_
     ·clear hF hS
      rintro s a w st ⟨m16, q13, s13, out_12, p_c_14, rfl, hF, hS, hm16, h13, h15, h15k⟩ hb5
      unfold spec_l1Cur_anyData_l1 at hb5
      refine q_seq (q_seq (q_region (q_x (v := s13.v) hF hS (ex_move rfl) rfl rfl fun a hF => q_x (v := (.int .i64 (goLen out_12))) hF hS (ex_len Try.underlying27 rfl h13.len) rfl rfl fun a hF => q_x (v := (.pointer (some ⟨b_p_c, 0, none⟩))) hF hS (ex_move rfl) rfl rfl fun a hF => ?_)))
      have hS : St _ _ _ _ [[⟨b_p_c, [s1.v, (.int .i64 p_c_14.at_), (.int .u64 p_c_14.seed.v)], 64⟩], q13] := hS.sel [1, 0] (by decide)
      have hS17 : St _ _ _ _ ([[⟨b_p_c, [s1.v, (.int .i64 p_c_14.at_), (.int .u64 p_c_14.seed.v)], 64⟩]] ++ [q13]) := hS
      have hE17 := hS17.enter
      obtain ⟨t_18, ht_18, hb5⟩ := bindS hb5
      refine q_do rfl fun _ hK => wp_callX (vs := [(.pointer (some ⟨b_p_c, 0, none⟩)), (.int .i64 2)]) hF Try.func40 (by kernel_rfl) rfl rfl rfl (c_spec_l1Cur_pick p_c_14 2 t_18 ht_18 _ m16 b_p_c s1 h15 _ hE17) fun a w _ hR hF => hK _ _ ?_
      obtain ⟨rfl, hR17, hk19⟩ := hR
      have hS : St _ _ _ _ [[⟨b_p_c, [s1.v, (.int .i64 t_18.2.at_), (.int .u64 t_18.2.seed.v)], 64⟩], q13] := hS17.leaveF hR17
      have h19 : Rd m16 s1 t_18.2.code := by rw [hk19]; exact h15
      refine q_x (v := (.int .i64 (w64 (40 + t_18.1)))) hF hS (ex_ibin rfl rfl rfl) rfl rfl fun a hF => q_x (v := (.bool (decide ((goLen out_12) < (w64 (40 + t_18.1)))))) hF hS (ex_ibin rfl rfl rfl) rfl rfl fun a hF => q_end (n_sq ?_)
      rcases bcase (decide ((goLen out_12) < (w64 (40 + t_18.1)))) with hc6 | hc6
      ·have hb5 := cond_f hc6 hb5
       refine q_cond_f hF rfl hc6 (q_exit (x_sq ?_))
       obtain rfl := someI hb5
       exact ⟨nofun, .inl ⟨m16, q13, s13, _, _, rfl, rfl, hF.sub ⟨rfl, trivial⟩, hS.sel [1, 0] (by decide), hm16, h13, h19, (hk19.trans h15k)⟩⟩
      ·have hb5 := cond_t hc6 hb5
       refine q_cond_t hF rfl hc6 (q_skipc (n_sq (q_block (q_region (q_x (v := s13.v) hF hS (ex_move rfl) rfl rfl fun a hF => q_x (v := (.pointer (some ⟨b_p_c, 0, none⟩))) hF hS (ex_move rfl) rfl rfl fun a hF => q_x (v := s2.v) hF hS (ex_move rfl) rfl rfl fun a hF => ?_)))))
       have hS20 : St _ _ _ _ ([[⟨b_p_c, [s1.v, (.int .i64 t_18.2.at_), (.int .u64 t_18.2.seed.v)], 64⟩]] ++ [q13]) := hS
       have hE20 := hS20.enter
       obtain ⟨t_21, ht_21, hb5⟩ := bindS hb5
       refine q_do rfl fun _ hK => wp_callX (vs := [(.pointer (some ⟨b_p_c, 0, none⟩)), s2.v]) hF Try.func73 (by kernel_rfl) rfl rfl rfl (c_spec_l1Cur_values t_18.2 p_s t_21 ht_21 _ m16 b_p_c s1 h19 s2 (((h2.mono hm4.le).mono hm5.le).mono hm16.le) _ hE20) fun a w _ hR hF => hK _ _ ?_
       obtain ⟨q22, s22, rfl, hR20, h22, hk23⟩ := hR
       have hS : St _ _ _ _ [[⟨b_p_c, [s1.v, (.int .i64 t_21.2.at_), (.int .u64 t_21.2.seed.v)], 64⟩], q22, q13] := hS20.leaveF hR20
       have h23 : Rd m16 s1 t_21.2.code := by rw [hk23]; exact h19
       refine q_x (v := (.agg #[(.int .i64 0), (.int .i64 0), s22.v])) hF hS (ex_build (cells := [(.int .i64 0), (.int .i64 0), s22.v]) rfl (by kernel_rfl)) rfl rfl fun a hF => ?_
       have hS : St _ _ _ _ [q22, [⟨b_p_c, [s1.v, (.int .i64 t_21.2.at_), (.int .u64 t_21.2.seed.v)], 64⟩], q13] := hS.sel [1, 0, 2] (by decide)
       obtain ⟨m25, hm25, hS, hz25⟩ := hS.freeze
       have h25 := h22.froz hm25.le hz25
       refine q_do rfl fun _ hK => wp_buildSlice' (l := ([(impl_Record.mk 0 0 t_21.1)] : List impl_Record)) (cells := [(.int .i64 0), (.int .i64 0), s22.v]) hF hS Try.underlying27 inf36 rfl rfl (by kernel_rfl) rfl rfl rfl ⟨⟨s22, rfl, h25⟩, rfl⟩ rfl rfl fun a w q24 s24 hF hS h24 _ => hK _ _ ?_
       have hS : St _ _ _ _ [q13, q24, [⟨b_p_c, [s1.v, (.int .i64 t_21.2.at_), (.int .u64 t_21.2.seed.v)], 64⟩]] := hS.sel [2, 0, 1] (by decide)
       obtain ⟨l_26, hl_26, hb5⟩ := bindS hb5
       refine q_do rfl fun _ hK => wp_append hF hS (h13.mono hm25.le) Try.underlying27 inf36 rfl rfl rfl rfl (h24.vw hS (j := 1) rfl) rfl (by decide) hl_26 rfl fun a w q27 s27 hF hS h27 => hK _ _ (q_x (v := s27.v) hF hS (ex_assign rfl) rfl rfl fun a hF => q_end (n_ib ?_))
       obtain rfl := someI hb5
       exact ⟨rfl, m25, q27, s27, _, _, rfl, hF.sub ⟨rfl, rfl, rfl, trivial⟩, hS.mask [true, false, true], (hm16.trans hm25), h27, (h23.mono hm25.le), (hk23.trans (hk19.trans h15k))⟩
     ·rintro e a w ⟨m32, q29, s29, out_28, p_c_30, rfl, rfl, hF, hS, hm32, h29, h31, h31k⟩
      refine x_ib (n_jn ?_)
      obtain rfl := someI hj3
      exact ⟨m32, q29, s29, _, _, rfl, hF.sub ⟨rfl, trivial⟩, hS, hm32, h29, h31, h31k⟩
   ·rintro a w ⟨m37, q34, s34, out_33, p_c_35, rfl, hF, hS, hm37, h34, h36, h36k⟩
    refine n_jn ?_
    obtain rfl := someI hj1
    exact ⟨m37, q34, s34, _, _, rfl, hF.sub ⟨rfl, trivial⟩, hS, hm37, h34, h36, h36k⟩
  ·have hj1 := cond_t hc2 hj1
   refine q_cond_t hF rfl hc2 (q_region (q_x (v := s7.v) hF hS (ex_move rfl) rfl rfl fun a hF => q_x (v := (.pointer (some ⟨b_p_c, 0, none⟩))) hF hS (ex_move rfl) rfl rfl fun a hF => q_do rfl fun _ hK => wp_buildSlice' (l := ([-1, 29, 30] : List Int)) (cells := [(.int .i64 (-1)), (.int .i64 29), (.int .i64 30)]) hF hS Try.underlying24 inf3 rfl rfl (by kernel_rfl) rfl rfl rfl ⟨rfl, rfl, rfl, rfl⟩ rfl rfl fun a w q38 s38 hF hS h38 _ => hK _ _ ?_))
   have hS : St _ _ _ _ [[⟨b_p_c, [s1.v, (.int .i64 t_10.2.at_), (.int .u64 t_10.2.seed.v)], 64⟩], q38, q7] := hS.sel [1, 0, 2] (by decide)
   have hS39 : St _ _ _ _ ([[⟨b_p_c, [s1.v, (.int .i64 t_10.2.at_), (.int .u64 t_10.2.seed.v)], 64⟩]] ++ [q38, q7]) := hS
   obtain ⟨m39, hl39, hE39, hz39⟩ := hS39.lendX
   obtain ⟨t_40, ht_40, hj1⟩ := bindS hj1
   refine q_do rfl fun _ hK => wp_callX (vs := [(.pointer (some ⟨b_p_c, 0, none⟩)), s38.v]) hF Try.func69 (by kernel_rfl) rfl rfl rfl (c_spec_l1Cur_among t_10.2 ([-1, 29, 30] : List Int) t_40 ht_40 _ m39 b_p_c s1 (h11.mono hl39) s38 (h38.froz hl39 (hz39 0 _ rfl)) _ hE39) fun a w _ hR hF => hK _ _ ?_
   obtain ⟨rfl, hR39, hk41⟩ := hR
   have hS : St _ _ _ _ [[⟨b_p_c, [s1.v, (.int .i64 t_40.2.at_), (.int .u64 t_40.2.seed.v)], 64⟩], q38, q7] := hS39.leaveF hR39
   have h41 : Rd m5' s1 t_40.2.code := by rw [hk41]; exact h11
   refine q_x (v := (.pointer (some ⟨b_p_c, 0, none⟩))) hF hS (ex_move rfl) rfl rfl fun a hF => q_do rfl fun _ hK => wp_buildSlice' (l := ([0, 999, 1000, -1] : List Int)) (cells := [(.int .i64 0), (.int .i64 999), (.int .i64 1000), (.int .i64 (-1))]) hF hS Try.underlying24 inf3 rfl rfl (by kernel_rfl) rfl rfl rfl ⟨rfl, rfl, rfl, rfl, rfl⟩ rfl rfl fun a w q42 s42 hF hS h42 _ => hK _ _ ?_
   have hS : St _ _ _ _ [[⟨b_p_c, [s1.v, (.int .i64 t_40.2.at_), (.int .u64 t_40.2.seed.v)], 64⟩], q42, q38, q7] := hS.sel [1, 0, 2, 3] (by decide)
   have hS43 : St _ _ _ _ ([[⟨b_p_c, [s1.v, (.int .i64 t_40.2.at_), (.int .u64 t_40.2.seed.v)], 64⟩]] ++ [q42, q38, q7]) := hS
   obtain ⟨m43, hl43, hE43, hz43⟩ := hS43.lendX
   obtain ⟨t_44, ht_44, hj1⟩ := bindS hj1
   refine q_do rfl fun _ hK => wp_callX (vs := [(.pointer (some ⟨b_p_c, 0, none⟩)), s42.v]) hF Try.func69 (by kernel_rfl) rfl rfl rfl (c_spec_l1Cur_among t_40.2 ([0, 999, 1000, -1] : List Int) t_44 ht_44 _ m43 b_p_c s1 (h41.mono hl43) s42 (h42.froz hl43 (hz43 0 _ rfl)) _ hE43) fun a w _ hR hF => hK _ _ ?_
   obtain ⟨rfl, hR43, hk45⟩ := hR
   have hS : St _ _ _ _ [[⟨b_p_c, [s1.v, (.int .i64 t_44.2.at_), (.int .u64 t_44.2.seed.v)], 64⟩], q42, q38, q7] := hS43.leaveF hR43
   have h45 : Rd m5' s1 t_44.2.code := by rw [hk45]; exact h41
   refine q_x (v := (.pointer (some ⟨b_p_c, 0, none⟩))) hF hS (ex_move rfl) rfl rfl fun a hF => q_x (v := s2.v) hF hS (ex_move rfl) rfl rfl fun a hF => ?_
   have hS46 : St _ _ _ _ ([[⟨b_p_c, [s1.v, (.int .i64 t_44.2.at_), (.int .u64 t_44.2.seed.v)], 64⟩]] ++ [q42, q38, q7]) := hS
   have hE46 := hS46.enter
   obtain ⟨t_47, ht_47, hj1⟩ := bindS hj1
   refine q_do rfl fun _ hK => wp_callX (vs := [(.pointer (some ⟨b_p_c, 0, none⟩)), s2.v]) hF Try.func45 (by kernel_rfl) rfl rfl rfl (c_spec_l1Cur_anyValues t_44.2 p_s t_47 ht_47 _ m5' b_p_c s1 h45 s2 ((h2.mono hm4.le).mono hm5.le) _ hE46) fun a w _ hR hF => hK _ _ ?_
   obtain ⟨q48, s48, rfl, hR46, h48, hk49⟩ := hR
   have hS : St _ _ _ _ [[⟨b_p_c, [s1.v, (.int .i64 t_47.2.at_), (.int .u64 t_47.2.seed.v)], 64⟩], q48, q42, q38, q7] := hS46.leaveF hR46
   have h49 : Rd m5' s1 t_47.2.code := by rw [hk49]; exact h45
   refine q_x (v := (.agg #[(.int .i64 t_40.1), (.int .i64 t_44.1), s48.v])) hF hS (ex_build (cells := [(.int .i64 t_40.1), (.int .i64 t_44.1), s48.v]) rfl (by kernel_rfl)) rfl rfl fun a hF => ?_
   have hS : St _ _ _ _ [q48, [⟨b_p_c, [s1.v, (.int .i64 t_47.2.at_), (.int .u64 t_47.2.seed.v)], 64⟩], q42, q38, q7] := hS.sel [1, 0, 2, 3, 4] (by decide)
   obtain ⟨m51, hm51, hS, hz51⟩ := hS.freeze
   have h51 := h48.froz hm51.le hz51
   refine q_do rfl fun _ hK => wp_buildSlice' (l := ([(impl_Record.mk t_40.1 t_44.1 t_47.1)] : List impl_Record)) (cells := [(.int .i64 t_40.1), (.int .i64 t_44.1), s48.v]) hF hS Try.underlying27 inf36 rfl rfl (by kernel_rfl) rfl rfl rfl ⟨⟨s48, rfl, h51⟩, rfl⟩ rfl rfl fun a w q50 s50 hF hS h50 _ => hK _ _ ?_
   have hS : St _ _ _ _ [q7, q50, [⟨b_p_c, [s1.v, (.int .i64 t_47.2.at_), (.int .u64 t_47.2.seed.v)], 64⟩], q42, q38] := hS.sel [4, 0, 1, 2, 3] (by decide)
   obtain ⟨l_52, hl_52, hj1⟩ := bindS hj1
   refine q_do rfl fun _ hK => wp_append hF hS (h7.mono hm51.le) Try.underlying27 inf36 rfl rfl rfl rfl (h50.vw hS (j := 1) rfl) rfl (by decide) hl_52 rfl fun a w q53 s53 hF hS h53 => hK _ _ (q_x (v := s53.v) hF hS (ex_assign rfl) rfl rfl fun a hF => q_end (n_jn ?_))
   obtain rfl := someI hj1
   exact ⟨m51, q53, s53, _, _, rfl, hF.sub ⟨rfl, trivial⟩, hS.mask [true, false, true, false, false], hm51, h53, (h49.mono hm51.le), (hk49.trans (hk45.trans (hk41.trans (hk11.trans hk8))))⟩
 ·rintro a w ⟨m58, q55, s55, out_54, p_c_56, rfl, hF, hS, hm58, h55, h57, h57k⟩
  refine n_ib (n_sq ?_)
  refine q_seq (q_region (q_x (v := s55.v) hF hS (ex_move rfl) rfl rfl fun a hF => q_x (v := s55.v) hF hS (ex_assign rfl) rfl rfl fun a hF => q_end (n_sq (q_ret ?_))))
  obtain rfl := someI hr
  exact ret_ofX hF hS rfl (.tmp rfl .nil) ⟨m58, q55, s55, rfl, ((hm4.trans hm5).trans hm58), hS.sel [1, 0] (by decide), h55, h57k⟩

theorem c_spec_DrawFailureCounts (p_code : List (K .u8)) (r : (List impl_Variable) × (List impl_Edit) × (List impl_Record)) (hr : spec_DrawFailureCounts p_code = some r) (w0 : World) (m : Mem) (hv : Vis m w0) (s1 : Sl) (h1 : Rd m s1 p_code) :
  Ret Try.prog 26 [s1.v] w0 (fun v w => ∃ (m' : Mem) (q1' : Piece) (q2' : Piece) (s0' : Sl) (s1' : Sl) (s2' : Sl), v = (.tuple #[s0'.v, s1'.v, s2'.v]) ∧ MLe [] w0.heap.size m m' ∧ St [] w0 w m' [q1', q2'] ∧ Rd m' s0' r.1 ∧ OwnL m' 93 q1' s1' r.2.1 ∧ OwnL m' 36 q2' s2' r.2.2) := by
 unfold spec_DrawFailureCounts at hr
 refine ret_start Try.func26 rfl 19 rfl rfl m hv fun a hF hS => q_seq (q_region (q_x (v := nilS.v) hF hS (ex_assign rfl) rfl rfl fun a hF => q_x (v := nilS.v) hF hS (ex_assign rfl) rfl rfl fun a hF => q_x (v := nilS.v) hF hS (ex_assign rfl) rfl rfl fun a hF => q_end (n_sq (q_seq (q_region (q_x (v := s1.v) hF hS (ex_move rfl) rfl rfl fun a hF => q_x (v := (.agg #[s1.v, (.int .i64 0), (.int .u64 0)])) hF hS (ex_build (cells := [s1.v, (.int .i64 0), (.int .u64 0)]) rfl (by kernel_rfl)) rfl rfl fun a hF => q_box (cs := [s1.v, (.int .i64 0), (.int .u64 0)]) hF hS rfl rfl rfl fun a w b2 hF hS => q_x (v := (.pointer (some ⟨b2, 0, none⟩))) hF hS (ex_assign rfl) rfl rfl fun a hF => q_end (n_sq (q_seq (q_region (q_x (v := (.pointer (some ⟨b2, 0, none⟩))) hF hS (ex_move rfl) rfl rfl fun a hF => ?_))))))))))
 have hS3 : St _ _ _ _ ([[⟨b2, [s1.v, (.int .i64 0), (.int .u64 0)], 64⟩]] ++ []) := hS
 have hE3 := hS3.enter
 obtain ⟨t_4, ht_4, hr⟩ := bindS hr
 refine q_do rfl fun _ hK => wp_callX (vs := [(.pointer (some ⟨b2, 0, none⟩))]) hF Try.func30 (by kernel_rfl) rfl rfl rfl (c_spec_l1Cur_anySchema (spec_l1Cur.mk p_code 0 (⟨0⟩ : K .u64)) t_4 ht_4 _ m b2 s1 h1 _ hE3) fun a w _ hR hF => hK _ _ ?_
 obtain ⟨q5, s5, rfl, hR3, h5, hk6⟩ := hR
 have hS : St _ _ _ _ [[⟨b2, [s1.v, (.int .i64 t_4.2.at_), (.int .u64 t_4.2.seed.v)], 64⟩], q5] := hS3.leaveF hR3
 have h6 : Rd m s1 t_4.2.code := by rw [hk6]; exact h1
 refine q_x (v := s5.v) hF hS (ex_assign rfl) rfl rfl fun a hF => q_end (n_sq (q_seq (q_region (q_x (v := s5.v) hF hS (ex_move rfl) rfl rfl fun a hF => q_x (v := (.pointer (some ⟨b2, 0, none⟩))) hF hS (ex_move rfl) rfl rfl fun a hF => q_x (v := s5.v) hF hS (ex_move rfl) rfl rfl fun a hF => ?_))))
 have hS : St _ _ _ _ [q5, [⟨b2, [s1.v, (.int .i64 t_4.2.at_), (.int .u64 t_4.2.seed.v)], 64⟩]] := hS.sel [1, 0] (by decide)
 obtain ⟨m7, hm7, hS, hz7⟩ := hS.freeze
 have h7 := h5.froz hm7.le hz7
 have hS8 : St _ _ _ _ ([[⟨b2, [s1.v, (.int .i64 t_4.2.at_), (.int .u64 t_4.2.seed.v)], 64⟩]] ++ []) := hS
 have hE8 := hS8.enter
 obtain ⟨t_9, ht_9, hr⟩ := bindS hr
 refine q_do rfl fun _ hK => wp_callX (vs := [(.pointer (some ⟨b2, 0, none⟩)), s5.v]) hF Try.func65 (by kernel_rfl) rfl rfl rfl (c_spec_l1Cur_edits t_4.2 t_4.1 t_9 ht_9 _ m7 b2 s1 (h6.mono hm7.le) s5 h7 _ hE8) fun a w _ hR hF => hK _ _ ?_
 obtain ⟨m8', q10, s10, rfl, hm8, hR8, h10, hk11⟩ := hR
 have hS : St _ _ _ _ [[⟨b2, [s1.v, (.int .i64 t_9.2.at_), (.int .u64 t_9.2.seed.v)], 64⟩], q10] := hS8.leave hR8 hm8
 have hm8 := MLe.weakX hS8 hm8
 have h11 : Rd m8' s1 t_9.2.code := by rw [hk11]; exact ((h6.mono hm7.le).mono hm8.le)
 refine q_x (v := (.pointer (some ⟨b2, 0, none⟩))) hF hS (ex_move rfl) rfl rfl fun a hF => q_x (v := s5.v) hF hS (ex_move rfl) rfl rfl fun a hF => ?_
 have hS12 : St _ _ _ _ ([[⟨b2, [s1.v, (.int .i64 t_9.2.at_), (.int .u64 t_9.2.seed.v)], 64⟩]] ++ [q10]) := hS
 have hE12 := hS12.enter
 obtain ⟨t_13, ht_13, hr⟩ := bindS hr
 refine q_do rfl fun _ hK => wp_callX (vs := [(.pointer (some ⟨b2, 0, none⟩)), s5.v]) hF Try.func32 (by kernel_rfl) rfl rfl rfl (c_spec_l1Cur_anyData t_9.2 t_4.1 t_13 ht_13 _ m8' b2 s1 h11 s5 (h7.mono hm8.le) _ hE12) fun a w _ hR hF => hK _ _ ?_
 obtain ⟨m12', q14, s14, rfl, hm12, hR12, h14, hk15⟩ := hR
 have hS : St _ _ _ _ [[⟨b2, [s1.v, (.int .i64 t_13.2.at_), (.int .u64 t_13.2.seed.v)], 64⟩], q14, q10] := hS12.leave hR12 hm12
 have hm12 := MLe.weakX hS12 hm12
 have h15 : Rd m12' s1 t_13.2.code := by rw [hk15]; exact (h11.mono hm12.le)
 refine q_x (v := s5.v) hF hS (ex_assign rfl) rfl rfl fun a hF => q_x (v := s10.v) hF hS (ex_assign rfl) rfl rfl fun a hF => q_x (v := s14.v) hF hS (ex_assign rfl) rfl rfl fun a hF => q_end (n_sq (q_ret ?_))
 obtain rfl := someI hr
 exact ret_of hF hS rfl (.tmp rfl (.tmp rfl (.tmp rfl .nil))) ⟨m12', q10, q14, s5, s10, s14, rfl, ((hm7.trans hm8).trans hm12), hS.sel [2, 1] (by decide), ((h7.mono hm8.le).mono hm12.le), (h10.mono hm12.le), h14⟩

theorem c_impl_isRecord (p_s : List impl_Variable) (p_r : impl_Record) (r : Bool) (hr : impl_isRecord p_s p_r = some r) (w0 : World) (m : Mem) (hv : Vis m w0) (s1 : Sl) (h1 : Rd m s1 p_s) (s2 : Sl) (h2 : Rd m s2 p_r.Values) :
  Ret Try.prog 46 [s1.v, (.agg #[(.int .i64 p_r.Area), (.int .i64 p_r.House), s2.v])] w0 (fun v _ => v = (.bool r)) := by
 unfold impl_isRecord at hr
 refine ret_start Try.func46 rfl 29 rfl rfl m hv fun a hF hS => q_seq (q_region (q_box (cs := [(.int .i64 p_r.Area), (.int .i64 p_r.House), s2.v]) hF hS rfl rfl rfl fun a w b3 hF hS => q_x (v := (.bool false)) hF hS (ex_assign rfl) rfl rfl fun a hF => q_end (n_sq (q_seq ?_))))
 obtain ⟨t_5, hj1, hr⟩ := bindS hr
 refine q_join (fun a w => Fr a 29 [(4, (.bool t_5))] ∧ St [] w0 w m []) ?_ ?_
 ·refine q_region (q_x (v := (.pointer (some ⟨b3, 0, none⟩))) hF hS (ex_fieldAddr Try.underlying36 rfl sz3 rfl rfl) rfl rfl fun a hF => q_x (v := (.int .i64 p_r.Area)) hF hS (ex_load1 0 0 Try.underlying3 rfl rfl rfl rfl) rfl rfl fun a hF => q_x (v := (.bool (decide (0 ≤ p_r.Area)))) hF hS (ex_ibin rfl rfl rfl) rfl rfl fun a hF => q_x (v := (.bool (decide (0 ≤ p_r.Area)))) hF hS (ex_move rfl) rfl rfl fun a hF => ?_)
  rcases bcase (decide (0 ≤ p_r.Area)) with hc2 | hc2
  ·have hj1 := cond_f hc2 hj1
   refine q_skip hF (wanted_f hF rfl rfl rfl hc2 rfl) rfl fun a hF => q_skip hF (wanted_f hF rfl rfl rfl hc2 rfl) rfl fun a hF => q_skip hF (wanted_f hF rfl rfl rfl hc2 rfl) rfl fun a hF => q_x (v := (.bool false)) hF hS (ex_pick_f rfl rfl hc2) rfl rfl fun a hF => q_x (v := (.bool false)) hF hS (ex_move rfl) rfl rfl fun a hF => q_skip hF (wanted_f hF rfl rfl rfl rfl rfl) rfl fun a hF => q_skip hF (wanted_f hF rfl rfl rfl rfl rfl) rfl fun a hF => q_skip hF (wanted_f hF rfl rfl rfl rfl rfl) rfl fun a hF => q_x (v := (.bool false)) hF hS (ex_pick_f rfl rfl rfl) rfl rfl fun a hF => q_x (v := (.bool false)) hF hS (ex_move rfl) rfl rfl fun a hF => q_skip hF (wanted_f hF rfl rfl rfl rfl rfl) rfl fun a hF => q_skip hF (wanted_f hF rfl rfl rfl rfl rfl) rfl fun a hF => q_skip hF (wanted_f hF rfl rfl rfl rfl rfl) rfl fun a hF => q_x (v := (.bool false)) hF hS (ex_pick_f rfl rfl rfl) rfl rfl fun a hF => q_x (v := (.bool false)) hF hS (ex_move rfl) rfl rfl fun a hF => q_skip hF (wanted_f hF rfl rfl rfl rfl rfl) rfl fun a hF => q_skip hF (wanted_f hF rfl rfl rfl rfl rfl) rfl fun a hF => q_skip hF (wanted_f hF rfl rfl rfl rfl rfl) rfl fun a hF => q_skip hF (wanted_f hF rfl rfl rfl rfl rfl) rfl fun a hF => q_x (v := (.bool false)) hF hS (ex_pick_f rfl rfl rfl) rfl rfl fun a hF => q_x (v := (.bool false)) hF hS (ex_assign rfl) rfl rfl fun a hF => q_end (n_jn ?_)
   obtain rfl := someI hj1
   exact ⟨hF.sub ⟨rfl, trivial⟩, hS.mask [false]⟩
  ·have hj1 := cond_t hc2 hj1
   refine q_xg (v := (.pointer (some ⟨b3, 0, none⟩))) hF hS (ex_fieldAddr Try.underlying36 rfl sz3 rfl rfl) (wanted_t hF rfl rfl rfl hc2) rfl fun a hF => q_xg (v := (.int .i64 p_r.Area)) hF hS (ex_load1 0 0 Try.underlying3 rfl rfl rfl rfl) (wanted_t hF rfl rfl rfl hc2) rfl fun a hF => q_xg (v := (.bool (decide (p_r.Area ≤ 29)))) hF hS (ex_ibin rfl rfl rfl) (wanted_t hF rfl rfl rfl hc2) rfl fun a hF => q_x (v := (.bool (decide (p_r.Area ≤ 29)))) hF hS (ex_pick_t rfl rfl hc2) rfl rfl fun a hF => q_x (v := (.bool (decide (p_r.Area ≤ 29)))) hF hS (ex_move rfl) rfl rfl fun a hF => ?_
   rcases bcase (decide (p_r.Area ≤ 29)) with hc3 | hc3
   ·have hj1 := cond_f hc3 hj1
    refine q_skip hF (wanted_f hF rfl rfl rfl hc3 rfl) rfl fun a hF => q_skip hF (wanted_f hF rfl rfl rfl hc3 rfl) rfl fun a hF => q_skip hF (wanted_f hF rfl rfl rfl hc3 rfl) rfl fun a hF => q_x (v := (.bool false)) hF hS (ex_pick_f rfl rfl hc3) rfl rfl fun a hF => q_x (v := (.bool false)) hF hS (ex_move rfl) rfl rfl fun a hF => q_skip hF (wanted_f hF rfl rfl rfl rfl rfl) rfl fun a hF => q_skip hF (wanted_f hF rfl rfl rfl rfl rfl) rfl fun a hF => q_skip hF (wanted_f hF rfl rfl rfl rfl rfl) rfl fun a hF => q_x (v := (.bool false)) hF hS (ex_pick_f rfl rfl rfl) rfl rfl fun a hF => q_x (v := (.bool false)) hF hS (ex_move rfl) rfl rfl fun a hF => q_skip hF (wanted_f hF rfl rfl rfl rfl rfl) rfl fun a hF => q_skip hF (wanted_f hF rfl rfl rfl rfl rfl) rfl fun a hF => q_skip hF (wanted_f hF rfl rfl rfl rfl rfl) rfl fun a hF => q_skip hF (wanted_f hF rfl rfl rfl rfl rfl) rfl fun a hF => q_x (v := (.bool false)) hF hS (ex_pick_f rfl rfl rfl) rfl rfl fun a hF => q_x (v := (.bool false)) hF hS (ex_assign rfl) rfl rfl fun a hF => q_end (n_jn ?_)
    obtain rfl := someI hj1
    exact ⟨hF.sub ⟨rfl, trivial⟩, hS.mask [false]⟩
   ·have hj1 := cond_t hc3 hj1
    refine q_xg (v := (.pointer (some ⟨b3, 1, none⟩))) hF hS (ex_fieldAddr Try.underlying36 rfl sz3 rfl rfl) (wanted_t hF rfl rfl rfl hc3) rfl fun a hF => q_xg (v := (.int .i64 p_r.House)) hF hS (ex_load1 0 0 Try.underlying3 rfl rfl rfl rfl) (wanted_t hF rfl rfl rfl hc3) rfl fun a hF => q_xg (v := (.bool (decide (0 ≤ p_r.House)))) hF hS (ex_ibin rfl rfl rfl) (wanted_t hF rfl rfl rfl hc3) rfl fun a hF => q_x (v := (.bool (decide (0 ≤ p_r.House)))) hF hS (ex_pick_t rfl rfl hc3) rfl rfl fun a hF => q_x (v := (.bool (decide (0 ≤ p_r.House)))) hF hS (ex_move rfl) rfl rfl fun a hF => ?_
    rcases bcase (decide (0 ≤ p_r.House)) with hc4 | hc4
    ·have hj1 := cond_f hc4 hj1
     refine q_skip hF (wanted_f hF rfl rfl rfl hc4 rfl) rfl fun a hF => q_skip hF (wanted_f hF rfl rfl rfl hc4 rfl) rfl fun a hF => q_skip hF (wanted_f hF rfl rfl rfl hc4 rfl) rfl fun a hF => q_x (v := (.bool false)) hF hS (ex_pick_f rfl rfl hc4) rfl rfl fun a hF => q_x (v := (.bool false)) hF hS (ex_move rfl) rfl rfl fun a hF => q_skip hF (wanted_f hF rfl rfl rfl rfl rfl) rfl fun a hF => q_skip hF (wanted_f hF rfl rfl rfl rfl rfl) rfl fun a hF => q_skip hF (wanted_f hF rfl rfl rfl rfl rfl) rfl fun a hF => q_skip hF (wanted_f hF rfl rfl rfl rfl rfl) rfl fun a hF => q_x (v := (.bool false)) hF hS (ex_pick_f rfl rfl rfl) rfl rfl fun a hF => q_x (v := (.bool false)) hF hS (ex_assign rfl) rfl rfl fun a hF => q_end (n_jn ?_)
     obtain rfl := someI hj1
     exact ⟨hF.sub ⟨rfl, trivial⟩, hS.mask [false]⟩
    ·have hj1 := cond_t hc4 hj1
     refine q_xg (v := (.pointer (some ⟨b3, 1, none⟩))) hF hS (ex_fieldAddr Try.underlying36 rfl sz3 rfl rfl) (wanted_t hF rfl rfl rfl hc4) rfl fun a hF => q_xg (v := (.int .i64 p_r.House)) hF hS (ex_load1 0 0 Try.underlying3 rfl rfl rfl rfl) (wanted_t hF rfl rfl rfl hc4) rfl fun a hF => q_xg (v := (.bool (decide (p_r.House ≤ 999)))) hF hS (ex_ibin rfl rfl rfl) (wanted_t hF rfl rfl rfl hc4) rfl fun a hF => q_x (v := (.bool (decide (p_r.House ≤ 999)))) hF hS (ex_pick_t rfl rfl hc4) rfl rfl fun a hF => q_x (v := (.bool (decide (p_r.House ≤ 999)))) hF hS (ex_move rfl) rfl rfl fun a hF => ?_
     rcases bcase (decide (p_r.House ≤ 999)) with hc5 | hc5
     ·have hj1 := cond_f hc5 hj1
      refine q_skip hF (wanted_f hF rfl rfl rfl hc5 rfl) rfl fun a hF => q_skip hF (wanted_f hF rfl rfl rfl hc5 rfl) rfl fun a hF => q_skip hF (wanted_f hF rfl rfl rfl hc5 rfl) rfl fun a hF => q_skip hF (wanted_f hF rfl rfl rfl hc5 rfl) rfl fun a hF => q_x (v := (.bool false)) hF hS (ex_pick_f rfl rfl hc5) rfl rfl fun a hF => q_x (v := (.bool false)) hF hS (ex_assign rfl) rfl rfl fun a hF => q_end (n_jn ?_)
      obtain rfl := someI hj1
      exact ⟨hF.sub ⟨rfl, trivial⟩, hS.mask [false]⟩
     ·have hj1 := cond_t hc5 hj1
      refine q_xg (v := s1.v) hF hS (ex_move rfl) (wanted_t hF rfl rfl rfl hc5) rfl fun a hF => q_xg (v := (.pointer (some ⟨b3, 2, none⟩))) hF hS (ex_fieldAddr Try.underlying36 rfl sz24 rfl rfl) (wanted_t hF rfl rfl rfl hc5) rfl fun a hF => q_xg (v := s2.v) hF hS (ex_load1 0 0 Try.underlying24 rfl rfl rfl rfl) (wanted_t hF rfl rfl rfl hc5) rfl fun a hF => ?_
      obtain ⟨t_4, ht_4, hj1⟩ := bindS hj1
      refine q_callg (vs := [s1.v, s2.v]) hF hS (wanted_t hF rfl rfl rfl hc5) Try.func47 (by kernel_rfl) rfl rfl rfl (c_impl_areValues p_s p_r.Values t_4 ht_4 _ m hS.vis s1 h1 s2 h2) ?_
      rintro a w _ rfl hF hS
      refine q_x (v := (.bool t_4)) hF hS (ex_pick_t rfl rfl hc5) rfl rfl fun a hF => q_x (v := (.bool t_4)) hF hS (ex_assign rfl) rfl rfl fun a hF => q_end (n_jn ?_)
      obtain rfl := someI hj1
      exact ⟨hF.sub ⟨rfl, trivial⟩, hS.mask [false]⟩
 ·rintro a w ⟨hF, hS⟩
  refine n_sq (q_ret ?_)
  obtain rfl := someI hr
  exact ret_of hF hS rfl (.tmp rfl .nil) rfl

theorem c_impl_isData (p_s : List impl_Variable) (p_l : List impl_Record) (r : Bool) (hr : impl_isData p_s p_l = some r) (w0 : World) (m : Mem) (hv : Vis m w0) (s1 : Sl) (h1 : Rd m s1 p_s) (s2 : Sl) (h2 : Rd m s2 p_l) :
  Ret Try.prog 35 [s1.v, s2.v] w0 (fun v _ => v = (.bool r)) := by
 unfold impl_isData at hr
 refine ret_start Try.func35 rfl 21 rfl rfl m hv fun a hF hS => q_seq (q_region (q_x (v := (.bool false)) hF hS (ex_assign rfl) rfl rfl fun a hF => q_end (n_sq (q_seq (q_seq (q_region (q_x (v := s2.v) hF hS (ex_move rfl) rfl rfl fun a hF => q_x (v := (.int .i64 (goLen p_l))) hF hS (ex_len Try.underlying27 rfl h2.len) rfl rfl fun a hF => q_x (v := (.bool (decide (40 < (goLen p_l))))) hF hS (ex_ibin rfl rfl rfl) rfl rfl fun a hF => q_end (n_sq ?_))))))))
 rcases bcase (decide (40 < (goLen p_l))) with hc1 | hc1
 ·have hr := cond_f hc1 hr
  refine q_cond_f hF rfl hc1 (q_skipc (n_sq (q_seq (q_seq (q_region (q_x (v := s2.v) hF hS (ex_move rfl) rfl rfl fun a hF => q_x (v := (.int .i64 (goLen p_l))) hF hS (ex_len Try.underlying27 rfl h2.len) rfl rfl fun a hF => q_x (v := (.int .i64 0)) hF hS (ex_move rfl) rfl rfl fun a hF => q_end (n_sq (q_block ?_))))))))
  obtain ⟨o2, hl2, hr⟩ := bindS hr
  refine q_loop (fun (t_3 : Int) a w => Fr a 21 [(0, s1.v), (10, s2.v), (11, (.int .i64 (goLen p_l))), (12, (.int .i64 t_3))] ∧ St [] w0 w m []) (fun (o : (Unit) ⊕ (Bool)) e a w => o = .inl () ∧ e = .exit 0 ∧ Fr a 21 [] ∧ St [] w0 w m []) hl2 ⟨hF.sub ⟨rfl, rfl, rfl, rfl, trivial⟩, hS⟩ ?_ ?_
  ·clear hF hS
   rintro t_3 a w st ⟨hF, hS⟩ hb2
   unfold impl_isData_l1 at hb2
   refine q_seq (q_region (q_x (v := (.bool (decide (t_3 < (goLen p_l))))) hF hS (ex_ibin rfl rfl rfl) rfl rfl fun a hF => q_end (n_sq (q_seq ?_))))
   rcases bcase (decide (t_3 < (goLen p_l))) with hc3 | hc3
   ·have hb2 := cond_f hc3 hb2
    refine q_cond_f hF rfl hc3 (q_exit (x_sq ?_))
    obtain rfl := someI hb2
    exact ⟨nofun, .inl ⟨rfl, rfl, hF.sub trivial, hS⟩⟩
   ·have hb2 := cond_t hc3 hb2
    refine q_cond_t hF rfl hc3 (q_skipc (n_sq (q_seq (q_block (q_seq (q_region ?_))))))
    obtain ⟨e_4, he_4, hb2⟩ := bindS hb2
    obtain ⟨vs5, at5, d5⟩ := h2.at he_4 3 rfl
    obtain ⟨s6, rfl, h6⟩ : ∃ s6 : Sl, vs5 = [(.int .i64 e_4.Area), (.int .i64 e_4.House), s6.v] ∧ Rd m s6 e_4.Values := d5
    refine q_x (v := (elP s2 (t_3.toNat * 3))) hF hS (ex_indexAddr Try.underlying27 sz36 rfl rfl (h2.idx he_4)) rfl rfl fun a hF => q_x (v := (.agg #[(.int .i64 e_4.Area), (.int .i64 e_4.House), s6.v])) hF hS (ex_loadEA (us := [(.int .i64 e_4.Area), (.int .i64 e_4.House), s6.v]) 0 Try.underlying36 rfl sz36 rfl ((at5).at) rfl rfl rfl) rfl rfl fun a hF => q_alloc (cs := [(.int .i64 0), (.int .i64 0), nilS.v]) hF hS rfl rfl rfl fun a w b7 hF hS => q_store (vs := [(.int .i64 e_4.Area), (.int .i64 e_4.House), s6.v]) (cs' := [(.int .i64 e_4.Area), (.int .i64 e_4.House), s6.v]) 0 0 hF hS sz36 rfl rfl rfl rfl rfl rfl rfl rfl fun a w hF hS => q_end (n_sq (q_seq (q_region (q_x (v := s1.v) hF hS (ex_move rfl) rfl rfl fun a hF => q_x (v := (.agg #[(.int .i64 e_4.Area), (.int .i64 e_4.House), s6.v])) hF hS (ex_loadA (vs := [(.int .i64 e_4.Area), (.int .i64 e_4.House), s6.v]) 0 0 Try.underlying36 rfl sz36 rfl rfl rfl rfl) rfl rfl fun a hF => ?_))))
    obtain ⟨t_8, ht_8, hb2⟩ := bindS hb2
    refine q_call (vs := [s1.v, (.agg #[(.int .i64 e_4.Area), (.int .i64 e_4.House), s6.v])]) hF hS Try.func46 (by kernel_rfl) rfl rfl rfl (c_impl_isRecord p_s e_4 t_8 ht_8 _ m hS.vis s1 h1 s6 h6) ?_
    rintro a w _ rfl hF hS
    refine q_x (v := (.bool (!t_8))) hF hS (ex_not rfl) rfl rfl fun a hF => q_end (n_sq ?_)
    rcases bcase (!t_8) with hc4 | hc4
    ·have hb2 := cond_f hc4 hb2
     refine q_cond_f hF rfl hc4 (q_skipc (n_ib (n_sq (q_region (q_x (v := (.int .i64 (w64 (t_3 + 1)))) hF hS (ex_ibin rfl rfl rfl) rfl rfl fun a hF => q_x (v := (.int .i64 (w64 (t_3 + 1)))) hF hS (ex_move rfl) rfl rfl fun a hF => q_end ?_)))))
     obtain rfl := someI hb2
     exact ⟨rfl, hF.sub ⟨rfl, rfl, rfl, rfl, trivial⟩, hS.mask [false]⟩
    ·have hb2 := cond_t hc4 hb2
     refine q_cond_t hF rfl hc4 (q_seq (q_region (q_x (v := (.bool false)) hF hS (ex_assign rfl) rfl rfl fun a hF => q_end (n_sq (q_ret (r_ib (r_sq ?_)))))))
     obtain rfl := someI hb2
     refine ⟨nofun, .inr fun ho => ?_⟩
     subst ho
     refine r_ib (r_sq ?_)
     obtain rfl := someI hr
     exact ret_of hF hS rfl (.tmp rfl .nil) rfl
  ·rintro e a w ⟨rfl, rfl, hF, hS⟩
   refine x_ib (n_sq ?_)
   refine q_seq (q_region (q_x (v := (.bool true)) hF hS (ex_assign rfl) rfl rfl fun a hF => q_end (n_sq (q_ret ?_))))
   obtain rfl := someI hr
   exact ret_of hF hS rfl (.tmp rfl .nil) rfl
 ·have hr := cond_t hc1 hr
  refine q_cond_t hF rfl hc1 (q_seq (q_region (q_x (v := (.bool false)) hF hS (ex_assign rfl) rfl rfl fun a hF => q_end (n_sq (q_ret (r_sq ?_))))))
  obtain rfl := someI hr
  exact ret_of hF hS rfl (.tmp rfl .nil) rfl

theorem c_impl_FailureCounts (p_s : List impl_Variable) (p_l : List impl_Edit) (p_data : List impl_Record) (r : (List Int) × Bool) (hr : impl_FailureCounts p_s p_l p_data = some r) (w0 : World) (m : Mem) (hv : Vis m w0) (s1 : Sl) (h1 : Rd m s1 p_s) (s2 : Sl) (h2 : Rd m s2 p_l) (s3 : Sl) (h3 : Rd m s3 p_data) :
  Ret Try.prog 27 [s1.v, s2.v, s3.v] w0 (fun v w => ∃ (q0' : Piece) (s0' : Sl), v = (.tuple #[s0'.v, (.bool r.2)]) ∧ St [] w0 w m [q0'] ∧ OwnL m 3 q0' s0' r.1) := by
 unfold impl_FailureCounts at hr
 refine ret_start Try.func27 rfl 57 rfl rfl m hv fun a hF hS => q_seq (q_region (q_x (v := nilS.v) hF hS (ex_assign rfl) rfl rfl fun a hF => q_x (v := (.bool false)) hF hS (ex_assign rfl) rfl rfl fun a hF => q_end (n_sq (q_seq (q_seq ?_)))))
 obtain ⟨t_7, hj1, hr⟩ := bindS hr
 refine q_join (fun a w => Fr a 57 [(1, s2.v), (2, s3.v), (27, (.bool t_7))] ∧ St [] w0 w m []) ?_ ?_
 ·refine q_region (q_x (v := s1.v) hF hS (ex_move rfl) rfl rfl fun a hF => ?_)
  obtain ⟨t_4, ht_4, hj1⟩ := bindS hj1
  refine q_call (vs := [s1.v]) hF hS Try.func33 (by kernel_rfl) rfl rfl rfl (c_impl_IsSchema p_s t_4 ht_4 _ m hS.vis s1 h1) ?_
  rintro a w _ rfl hF hS
  refine q_x (v := (.bool (!t_4))) hF hS (ex_not rfl) rfl rfl fun a hF => q_x (v := (.bool (!t_4))) hF hS (ex_move rfl) rfl rfl fun a hF => ?_
  rcases bcase (!t_4) with hc2 | hc2
  ·have hj1 := cond_f hc2 hj1
   refine q_xg (v := s1.v) hF hS (ex_move rfl) (wanted_t hF rfl rfl rfl hc2) rfl fun a hF => q_xg (v := s2.v) hF hS (ex_move rfl) (wanted_t hF rfl rfl rfl hc2) rfl fun a hF => ?_
   obtain ⟨t_5, ht_5, hj1⟩ := bindS hj1
   refine q_callg (vs := [s1.v, s2.v]) hF hS (wanted_t hF rfl rfl rfl hc2) Try.func56 (by kernel_rfl) rfl rfl rfl (c_impl_areEdits p_s p_l t_5 ht_5 _ m hS.vis s1 h1 s2 h2) ?_
   rintro a w _ rfl hF hS
   refine q_xg (v := (.bool (!t_5))) hF hS (ex_not rfl) (wanted_t hF rfl rfl rfl hc2) rfl fun a hF => q_x (v := (.bool (!t_5))) hF hS (ex_pick_f rfl rfl hc2) rfl rfl fun a hF => q_x (v := (.bool (!t_5))) hF hS (ex_move rfl) rfl rfl fun a hF => ?_
   rcases bcase (!t_5) with hc3 | hc3
   ·have hj1 := cond_f hc3 hj1
    refine q_xg (v := s1.v) hF hS (ex_move rfl) (wanted_t hF rfl rfl rfl hc3) rfl fun a hF => q_xg (v := s3.v) hF hS (ex_move rfl) (wanted_t hF rfl rfl rfl hc3) rfl fun a hF => ?_
    obtain ⟨t_6, ht_6, hj1⟩ := bindS hj1
    refine q_callg (vs := [s1.v, s3.v]) hF hS (wanted_t hF rfl rfl rfl hc3) Try.func35 (by kernel_rfl) rfl rfl rfl (c_impl_isData p_s p_data t_6 ht_6 _ m hS.vis s1 h1 s3 h3) ?_
    rintro a w _ rfl hF hS
    refine q_xg (v := (.bool (!t_6))) hF hS (ex_not rfl) (wanted_t hF rfl rfl rfl hc3) rfl fun a hF => q_x (v := (.bool (!t_6))) hF hS (ex_pick_f rfl rfl hc3) rfl rfl fun a hF => q_end (n_jn ?_)
    obtain rfl := someI hj1
    exact ⟨hF.sub ⟨rfl, rfl, rfl, trivial⟩, hS⟩
   ·have hj1 := cond_t hc3 hj1
    refine q_skip hF (wanted_f hF rfl rfl rfl hc3 rfl) rfl fun a hF => q_skip hF (wanted_f hF rfl rfl rfl hc3 rfl) rfl fun a hF => q_skip hF (wanted_f hF rfl rfl rfl hc3 rfl) rfl fun a hF => q_skip hF (wanted_f hF rfl rfl rfl hc3 rfl) rfl fun a hF => q_x (v := (.bool true)) hF hS (ex_pick_t rfl rfl hc3) rfl rfl fun a hF => q_end (n_jn ?_)
    obtain rfl := someI hj1
    exact ⟨hF.sub ⟨rfl, rfl, rfl, trivial⟩, hS⟩
  ·have hj1 := cond_t hc2 hj1
   refine q_skip hF (wanted_f hF rfl rfl rfl hc2 rfl) rfl fun a hF => q_skip hF (wanted_f hF rfl rfl rfl hc2 rfl) rfl fun a hF => q_skip hF (wanted_f hF rfl rfl rfl hc2 rfl) rfl fun a hF => q_skip hF (wanted_f hF rfl rfl rfl hc2 rfl) rfl fun a hF => q_x (v := (.bool true)) hF hS (ex_pick_t rfl rfl hc2) rfl rfl fun a hF => q_x (v := (.bool true)) hF hS (ex_move rfl) rfl rfl fun a hF => q_skip hF (wanted_f hF rfl rfl rfl rfl rfl) rfl fun a hF => q_skip hF (wanted_f hF rfl rfl rfl rfl rfl) rfl fun a hF => q_skip hF (wanted_f hF rfl rfl rfl rfl rfl) rfl fun a hF => q_skip hF (wanted_f hF rfl rfl rfl rfl rfl) rfl fun a hF => q_x (v := (.bool true)) hF hS (ex_pick_t rfl rfl rfl) rfl rfl fun a hF => q_end (n_jn ?_)
   obtain rfl := someI hj1
   exact ⟨hF.sub ⟨rfl, rfl, rfl, trivial⟩, hS⟩
 ·rintro a w ⟨hF, hS⟩
  refine n_sq ?_
  rcases bcase (t_7) with hc4 | hc4
  ·have hr := cond_f hc4 hr
   refine q_cond_f hF rfl hc4 (q_skipc (n_sq (q_seq (q_region (q_x (v := s2.v) hF hS (ex_move rfl) rfl rfl fun a hF => q_x (v := (.int .i64 (goLen p_l))) hF hS (ex_len Try.underlying48 rfl h2.len) rfl rfl fun a hF => ?_)))))
   obtain ⟨l_8, hl_8, hr⟩ := bindS hr
   refine q_do rfl fun _ hK => wp_make (z := (0 : Int)) hF hS Try.underlying24 inf3 rfl rfl rfl rfl rfl (by decide) hl_8 rfl fun a w q9 s9 hF hS h9 _ => hK _ _ (q_x (v := s9.v) hF hS (ex_assign rfl) rfl rfl fun a hF => q_end (n_sq (q_seq (q_seq (q_region (q_x (v := s2.v) hF hS (ex_move rfl) rfl rfl fun a hF => q_x (v := (.int .i64 (goLen p_l))) hF hS (ex_len Try.underlying48 rfl h2.len) rfl rfl fun a hF => q_x (v := (.int .i64 0)) hF hS (ex_move rfl) rfl rfl fun a hF => q_end (n_sq (q_block ?_))))))))
   obtain ⟨counts_34, hl5, hr⟩ := bindS hr
   refine q_loop (fun (s : (List Int) × Int) a w => ∃ (q11 : Piece), ∃ counts_10, ∃ t_12, s = (counts_10, t_12) ∧ Fr a 57 [(2, s3.v), (8, s9.v), (31, s2.v), (32, (.int .i64 (goLen p_l))), (33, (.int .i64 t_12))] ∧ St [] w0 w m [q11] ∧ OwnL m 3 q11 s9 counts_10) (fun (counts_34 : (List Int)) e a w => ∃ (q35 : Piece), e = .exit 0 ∧ Fr a 57 [(8, s9.v)] ∧ St [] w0 w m [q35] ∧ OwnL m 3 q35 s9 counts_34) hl5 ⟨q9, _, _, rfl, hF.sub ⟨rfl, rfl, rfl, rfl, rfl, trivial⟩, hS, h9⟩ ?_ ?_
   ·clear hF hS
    rintro s a w st ⟨q11, counts_10, t_12, rfl, hF, hS, h11⟩ hb5
    unfold impl_FailureCounts_l1 at hb5
    refine q_seq (q_region (q_x (v := (.bool (decide (t_12 < (goLen p_l))))) hF hS (ex_ibin rfl rfl rfl) rfl rfl fun a hF => q_end (n_sq (q_seq ?_))))
    rcases bcase (decide (t_12 < (goLen p_l))) with hc6 | hc6
    ·have hb5 := cond_f hc6 hb5
     refine q_cond_f hF rfl hc6 (q_exit (x_sq ?_))
     obtain rfl := someI hb5
     exact ⟨nofun, .inl ⟨q11, rfl, hF.sub ⟨rfl, trivial⟩, hS, h11⟩⟩
    ·have hb5 := cond_t hc6 hb5
     refine q_cond_t hF rfl hc6 (q_skipc (n_sq (q_seq (q_block (q_seq (q_region (q_x (v := (.int .i64 t_12)) hF hS (ex_move rfl) rfl rfl fun a hF => ?_)))))))
     obtain ⟨e_13, he_13, hb5⟩ := bindS hb5
     obtain ⟨vs14, at14, d14⟩ := h2.at he_13 1 rfl
     obtain ⟨s15, rfl, h15⟩ : ∃ s15 : Sl, vs14 = [s15.v] ∧ Rd m s15 e_13.Sets := d14
     refine q_x (v := (elP s2 (t_12.toNat * 1))) hF hS (ex_indexAddr Try.underlying48 sz93 rfl rfl (h2.idx he_13)) rfl rfl fun a hF => q_x (v := (.agg #[s15.v])) hF hS (ex_loadEA (us := [s15.v]) 0 Try.underlying93 rfl sz93 rfl ((at14).at) rfl rfl rfl) rfl rfl fun a hF => q_alloc (cs := [nilS.v]) hF hS rfl rfl rfl fun a w b16 hF hS => q_x (v := (.int .i64 t_12)) hF hS (ex_assign rfl) rfl rfl fun a hF => q_store (vs := [s15.v]) (cs' := [s15.v]) 0 0 hF hS sz93 rfl rfl rfl rfl rfl rfl rfl rfl fun a w hF hS => q_end (n_sq (q_seq (q_region (q_x (v := s3.v) hF hS (ex_move rfl) rfl rfl fun a hF => q_x (v := (.int .i64 (goLen p_data))) hF hS (ex_len Try.underlying27 rfl h3.len) rfl rfl fun a hF => q_x (v := (.int .i64 0)) hF hS (ex_move rfl) rfl rfl fun a hF => q_end (n_sq (q_block ?_))))))
     obtain ⟨counts_32, hl7, hb5⟩ := bindS hb5
     refine q_loop (fun (s : (List Int) × Int) a w => ∃ (q18 : Piece), ∃ counts_17, ∃ t_19, s = (counts_17, t_19) ∧ Fr a 57 [(2, s3.v), (8, s9.v), (9, (.int .i64 t_12)), (10, (.pointer (some ⟨b16, 0, none⟩))), (31, s2.v), (32, (.int .i64 (goLen p_l))), (33, (.int .i64 t_12)), (38, s3.v), (39, (.int .i64 (goLen p_data))), (40, (.int .i64 t_19))] ∧ St [] w0 w m [q18, [⟨b16, [s15.v], 93⟩]] ∧ OwnL m 3 q18 s9 counts_17) (fun (counts_32 : (List Int)) e a w => ∃ (q33 : Piece), e = .exit 2 ∧ Fr a 57 [(2, s3.v), (8, s9.v), (31, s2.v), (32, (.int .i64 (goLen p_l))), (33, (.int .i64 t_12))] ∧ St [] w0 w m [q33] ∧ OwnL m 3 q33 s9 counts_32) hl7 ⟨q11, _, _, rfl, hF.sub ⟨rfl, rfl, rfl, rfl, rfl, rfl, rfl, rfl, rfl, rfl, trivial⟩, hS.sel [1, 0] (by decide), h11⟩ ?_ ?_
     ·clear hF hS
      rintro s a w st ⟨q18, counts_17, t_19, rfl, hF, hS, h18⟩ hb7
      unfold impl_FailureCounts_l2 at hb7
      refine q_seq (q_region (q_x (v := (.bool (decide (t_19 < (goLen p_data))))) hF hS (ex_ibin rfl rfl rfl) rfl rfl fun a hF => q_end (n_sq (q_seq ?_))))
      rcases bcase (decide (t_19 < (goLen p_data))) with hc8 | hc8
      ·have hb7 := cond_f hc8 hb7
       refine q_cond_f hF rfl hc8 (q_exit (x_sq ?_))
       obtain rfl := someI hb7
       exact ⟨nofun, .inl ⟨q18, rfl, hF.sub ⟨rfl, rfl, rfl, rfl, rfl, trivial⟩, hS.mask [true, false], h18⟩⟩
      ·have hb7 := cond_t hc8 hb7
       refine q_cond_t hF rfl hc8 (q_skipc (n_sq (q_seq (q_block (q_seq (q_region ?_))))))
       obtain ⟨e_20, he_20, hb7⟩ := bindS hb7
       obtain ⟨vs21, at21, d21⟩ := h3.at he_20 3 rfl
       obtain ⟨s22, rfl, h22⟩ : ∃ s22 : Sl, vs21 = [(.int .i64 e_20.Area), (.int .i64 e_20.House), s22.v] ∧ Rd m s22 e_20.Values := d21
       refine q_x (v := (elP s3 (t_19.toNat * 3))) hF hS (ex_indexAddr Try.underlying27 sz36 rfl rfl (h3.idx he_20)) rfl rfl fun a hF => q_x (v := (.agg #[(.int .i64 e_20.Area), (.int .i64 e_20.House), s22.v])) hF hS (ex_loadEA (us := [(.int .i64 e_20.Area), (.int .i64 e_20.House), s22.v]) 0 Try.underlying36 rfl sz36 rfl ((at21).at) rfl rfl rfl) rfl rfl fun a hF => q_alloc (cs := [(.int .i64 0), (.int .i64 0), nilS.v]) hF hS rfl rfl rfl fun a w b23 hF hS => q_store (vs := [(.int .i64 e_20.Area), (.int .i64 e_20.House), s22.v]) (cs' := [(.int .i64 e_20.Area), (.int .i64 e_20.House), s22.v]) 0 0 hF hS sz36 rfl rfl rfl rfl rfl rfl rfl rfl fun a w hF hS => q_end (n_sq (q_seq (q_region (q_x (v := (.agg #[s15.v])) hF hS (ex_loadA (vs := [s15.v]) 2 0 Try.underlying93 rfl sz93 rfl rfl rfl rfl) rfl rfl fun a hF => q_x (v := (.pointer (some ⟨b23, 2, none⟩))) hF hS (ex_fieldAddr Try.underlying36 rfl sz24 rfl rfl) rfl rfl fun a hF => q_x (v := s22.v) hF hS (ex_load1 0 0 Try.underlying24 rfl rfl rfl rfl) rfl rfl fun a hF => ?_))))
       obtain ⟨t_24, ht_24, hb7⟩ := bindS hb7
       refine q_call (vs := [(.agg #[s15.v]), s22.v]) hF hS Try.func64 (by kernel_rfl) rfl rfl rfl (c_impl_fails e_13 e_20.Values t_24 ht_24 _ m hS.vis s15 h15 s22 h22) ?_
       rintro a w _ rfl hF hS
       refine q_end (n_sq ?_)
       obtain ⟨counts_30, hj9, hb7⟩ := bindS hb7
       refine q_join (fun a w => ∃ (q31 : Piece), Fr a 57 [(2, s3.v), (8, s9.v), (9, (.int .i64 t_12)), (10, (.pointer (some ⟨b16, 0, none⟩))), (31, s2.v), (32, (.int .i64 (goLen p_l))), (33, (.int .i64 t_12)), (38, s3.v), (39, (.int .i64 (goLen p_data))), (40, (.int .i64 t_19))] ∧ St [] w0 w m [q31, [⟨b16, [s15.v], 93⟩]] ∧ OwnL m 3 q31 s9 counts_30) ?_ ?_
       ·rcases bcase (t_24) with hc10 | hc10
        ·have hj9 := cond_f hc10 hj9
         refine q_cond_f hF rfl hc10 (q_skipc (n_jn ?_))
         obtain rfl := someI hj9
         exact ⟨q18, hF.sub ⟨rfl, rfl, rfl, rfl, rfl, rfl, rfl, rfl, rfl, rfl, trivial⟩, hS.mask [false, true, true], h18⟩
        ·have hj9 := cond_t hc10 hj9
         refine q_cond_t hF rfl hc10 (q_region (q_x (v := s9.v) hF hS (ex_move rfl) rfl rfl fun a hF => q_x (v := (.int .i64 t_12)) hF hS (ex_move rfl) rfl rfl fun a hF => ?_))
         obtain ⟨e_25, he_25, hj9⟩ := bindS hj9
         obtain ⟨vs26, at26, d26⟩ := h18.at he_25 1 rfl
         obtain rfl : vs26 = [(.int .i64 e_25)] := d26
         refine q_x (v := (elP s9 (t_12.toNat * 1))) hF hS (ex_indexAddr Try.underlying24 sz3 rfl rfl (h18.idx he_25)) rfl rfl fun a hF => q_x (v := (.int .i64 e_25)) hF hS (ex_loadE1 0 Try.underlying3 rfl rfl (at26.at 1 rfl) rfl rfl) rfl rfl fun a hF => q_x (v := (.int .i64 (w64 (e_25 + 1)))) hF hS (ex_ibin rfl rfl rfl) rfl rfl fun a hF => ?_
         obtain ⟨e_27, he_27, hj9⟩ := bindS hj9
         obtain ⟨vs28, at28, d28⟩ := h18.at he_27 1 rfl
         obtain rfl : vs28 = [(.int .i64 e_27)] := d28
         refine q_x (v := (elP s9 (t_12.toNat * 1))) hF hS (ex_indexAddr Try.underlying24 sz3 rfl rfl (h18.idx he_27)) rfl rfl fun a hF => ?_
         have hS : St _ _ _ _ [q18, [⟨b23, [(.int .i64 e_20.Area), (.int .i64 e_20.House), s22.v], 36⟩], [⟨b16, [s15.v], 93⟩]] := hS.sel [1, 0, 2] (by decide)
         refine q_do rfl fun _ hK => wp_storeE (e' := (w64 (e_25 + 1))) (us := [(.int .i64 (w64 (e_25 + 1)))]) (vs := [(.int .i64 e_27)]) 0 hF hS h18 sz3 rfl rfl rfl rfl rfl rfl rfl he_27 at28 rfl rfl rfl fun w q29 hS h29 => hK _ _ (q_end (n_jn ?_))
         obtain rfl := someI hj9
         exact ⟨q29, hF.sub ⟨rfl, rfl, rfl, rfl, rfl, rfl, rfl, rfl, rfl, rfl, trivial⟩, hS.mask [true, false, true], h29⟩
       ·rintro a w ⟨q31, hF, hS, h31⟩
        refine n_ib (n_sq ?_)
        refine q_region (q_x (v := (.int .i64 (w64 (t_19 + 1)))) hF hS (ex_ibin rfl rfl rfl) rfl rfl fun a hF => q_x (v := (.int .i64 (w64 (t_19 + 1)))) hF hS (ex_move rfl) rfl rfl fun a hF => q_end ?_)
        obtain rfl := someI hb7
        exact ⟨rfl, q31, _, _, rfl, hF.sub ⟨rfl, rfl, rfl, rfl, rfl, rfl, rfl, rfl, rfl, rfl, trivial⟩, hS, h31⟩
     ·rintro e a w ⟨q33, rfl, hF, hS, h33⟩
      refine x_ib (n_ib (n_sq ?_))
      refine q_region (q_x (v := (.int .i64 (w64 (t_12 + 1)))) hF hS (ex_ibin rfl rfl rfl) rfl rfl fun a hF => q_x (v := (.int .i64 (w64 (t_12 + 1)))) hF hS (ex_move rfl) rfl rfl fun a hF => q_end ?_)
      obtain rfl := someI hb5
      exact ⟨rfl, q33, _, _, rfl, hF.sub ⟨rfl, rfl, rfl, rfl, rfl, trivial⟩, hS, h33⟩
   ·rintro e a w ⟨q35, rfl, hF, hS, h35⟩
    refine x_ib (n_sq ?_)
    refine q_seq (q_region (q_x (v := s9.v) hF hS (ex_move rfl) rfl rfl fun a hF => q_x (v := s9.v) hF hS (ex_assign rfl) rfl rfl fun a hF => q_x (v := (.bool true)) hF hS (ex_assign rfl) rfl rfl fun a hF => q_end (n_sq (q_ret ?_))))
    obtain rfl := someI hr
    exact ret_of hF hS rfl (.tmp rfl (.tmp rfl .nil)) ⟨q35, s9, rfl, hS.sel [0] (by decide), h35⟩
  ·have hr := cond_t hc4 hr
   refine q_cond_t hF rfl hc4 (q_seq (q_region (q_x (v := nilS.v) hF hS (ex_assign rfl) rfl rfl fun a hF => q_x (v := (.bool false)) hF hS (ex_assign rfl) rfl rfl fun a hF => q_end (n_sq (q_ret (r_sq ?_))))))
   obtain rfl := someI hr
   exact ret_of hF hS rfl (.tmp rfl (.tmp rfl .nil)) ⟨[], nilS, rfl, hS.sel [0] (by decide), (OwnL.nil (α := Int) m 3)⟩

theorem c_spec_sFits (p_s : List impl_Variable) (p_values : List Int) (r : Bool) (hr : spec_sFits p_s p_values = some r) (w0 : World) (m : Mem) (hv : Vis m w0) (s1 : Sl) (h1 : Rd m s1 p_s) (s2 : Sl) (h2 : Rd m s2 p_values) :
  Ret Try.prog 51 [s1.v, s2.v] w0 (fun v _ => v = (.bool r)) := by
 unfold spec_sFits at hr
 refine ret_start Try.func51 rfl 29 rfl rfl m hv fun a hF hS => q_seq (q_region (q_x (v := (.bool false)) hF hS (ex_assign rfl) rfl rfl fun a hF => q_end (n_sq (q_seq (q_seq (q_region (q_x (v := s2.v) hF hS (ex_move rfl) rfl rfl fun a hF => q_x (v := (.int .i64 (goLen p_values))) hF hS (ex_len Try.underlying24 rfl h2.len) rfl rfl fun a hF => q_x (v := s1.v) hF hS (ex_move rfl) rfl rfl fun a hF => q_x (v := (.int .i64 (goLen p_s))) hF hS (ex_len Try.underlying23 rfl h1.len) rfl rfl fun a hF => q_x (v := (.bool ((goLen p_values) != (goLen p_s)))) hF hS (ex_ibin rfl rfl rfl) rfl rfl fun a hF => q_end (n_sq ?_))))))))
 rcases bcase ((goLen p_values) != (goLen p_s)) with hc1 | hc1
 ·have hr := cond_f hc1 hr
  refine q_cond_f hF rfl hc1 (q_skipc (n_sq (q_seq (q_seq (q_region (q_x (v := s1.v) hF hS (ex_move rfl) rfl rfl fun a hF => q_x (v := (.int .i64 (goLen p_s))) hF hS (ex_len Try.underlying23 rfl h1.len) rfl rfl fun a hF => q_x (v := (.int .i64 0)) hF hS (ex_move rfl) rfl rfl fun a hF => q_end (n_sq (q_block ?_))))))))
  obtain ⟨o2, hl2, hr⟩ := bindS hr
  refine q_loop (fun (t_3 : Int) a w => Fr a 29 [(1, s2.v), (12, s1.v), (13, (.int .i64 (goLen p_s))), (14, (.int .i64 t_3))] ∧ St [] w0 w m []) (fun (o : (Unit) ⊕ (Bool)) e a w => o = .inl () ∧ e = .exit 0 ∧ Fr a 29 [] ∧ St [] w0 w m []) hl2 ⟨hF.sub ⟨rfl, rfl, rfl, rfl, trivial⟩, hS⟩ ?_ ?_
  ·clear hF hS
   rintro t_3 a w st ⟨hF, hS⟩ hb2
   unfold spec_sFits_l1 at hb2
   refine q_seq (q_region (q_x (v := (.bool (decide (t_3 < (goLen p_s))))) hF hS (ex_ibin rfl rfl rfl) rfl rfl fun a hF => q_end (n_sq (q_seq ?_))))
   rcases bcase (decide (t_3 < (goLen p_s))) with hc3 | hc3
   ·have hb2 := cond_f hc3 hb2
    refine q_cond_f hF rfl hc3 (q_exit (x_sq ?_))
    obtain rfl := someI hb2
    exact ⟨nofun, .inl ⟨rfl, rfl, hF.sub trivial, hS⟩⟩
   ·have hb2 := cond_t hc3 hb2
    refine q_cond_t hF rfl hc3 (q_skipc (n_sq (q_seq (q_block (q_seq (q_region (q_x (v := (.int .i64 t_3)) hF hS (ex_move rfl) rfl rfl fun a hF => ?_)))))))
    obtain ⟨e_4, he_4, hb2⟩ := bindS hb2
    obtain ⟨vs5, at5, d5⟩ := h1.at he_4 2 rfl
    obtain rfl : vs5 = [(strV e_4.Name), (.int .i64 e_4.Levels)] := d5
    refine q_x (v := (elP s1 (t_3.toNat * 2))) hF hS (ex_indexAddr Try.underlying23 sz85 rfl rfl (h1.idx he_4)) rfl rfl fun a hF => q_x (v := (.agg #[(strV e_4.Name), (.int .i64 e_4.Levels)])) hF hS (ex_loadEA (us := [(strV e_4.Name), (.int .i64 e_4.Levels)]) 0 Try.underlying85 rfl sz85 rfl ((at5).at) rfl rfl rfl) rfl rfl fun a hF => q_alloc (cs := [(strV ([] : List UInt8)), (.int .i64 0)]) hF hS rfl rfl rfl fun a w b6 hF hS => q_x (v := (.int .i64 t_3)) hF hS (ex_assign rfl) rfl rfl fun a hF => q_store (vs := [(strV e_4.Name), (.int .i64 e_4.Levels)]) (cs' := [(strV e_4.Name), (.int .i64 e_4.Levels)]) 0 0 hF hS sz85 rfl rfl rfl rfl rfl rfl rfl rfl fun a w hF hS => q_end (n_sq (q_seq (e_region ⟨[], []⟩ mixed fun w' hw' => ?_)))
    have hS := hS.below hw'
    refine e_p (v := s2.v) 0 hF rfl (ex_move rfl) rfl rfl (by kernel_rfl) (by kernel_rfl) (by kernel_rfl) fun a hF => e_p (v := (.int .i64 t_3)) 1 hF rfl (ex_move rfl) rfl rfl (by kernel_rfl) (by kernel_rfl) (by kernel_rfl) fun a hF => ?_
    obtain ⟨e_7, he_7, hb2⟩ := bindS hb2
    obtain ⟨vs8, at8, d8⟩ := h2.at he_7 1 rfl
    obtain rfl : vs8 = [(.int .i64 e_7)] := d8
    refine e_p (v := (elP s2 (t_3.toNat * 1))) 2 hF rfl (ex_indexAddr Try.underlying24 sz3 rfl rfl (h2.idx he_7)) rfl rfl (by kernel_rfl) (by kernel_rfl) (by kernel_rfl) fun a hF => e_x (v := (.int .i64 e_7)) 3 hF hS rfl (ex_loadE1 0 Try.underlying3 rfl rfl ((at8).at) rfl rfl) rfl rfl (by kernel_rfl) (by kernel_rfl) (by kernel_rfl) (by kernel_rfl) fun a hF => e_p (v := (.pointer (some ⟨b6, 1, none⟩))) 4 hF rfl (ex_fieldAddr Try.underlying85 rfl sz3 rfl rfl) rfl rfl (by kernel_rfl) (by kernel_rfl) (by kernel_rfl) fun a hF => e_x (v := (.int .i64 e_4.Levels)) 5 hF hS rfl (ex_load1 0 0 Try.underlying3 rfl rfl rfl rfl) rfl rfl (by kernel_rfl) (by kernel_rfl) (by kernel_rfl) (by kernel_rfl) fun a hF => e_p (v := (.int .i64 (w64 (e_4.Levels - 1)))) 6 hF rfl (ex_ibin rfl rfl rfl) rfl rfl (by kernel_rfl) (by kernel_rfl) (by kernel_rfl) fun a hF => e_one 7 (by kernel_rfl) ?_
    obtain ⟨t_9, ht_9, hb2⟩ := bindS hb2
    refine e_call (vs := [(.int .i64 e_7), (.int .i64 0), (.int .i64 (w64 (e_4.Levels - 1)))]) hF hS rfl Try.func42 (by kernel_rfl) rfl rfl rfl (c_spec_l1In e_7 0 (w64 (e_4.Levels - 1)) t_9 ht_9 _ m hS.vis) ?_
    rintro a w _ rfl hF hS
    refine e_p (v := (.bool (!t_9))) 8 hF rfl (ex_not rfl) rfl rfl (by kernel_rfl) (by kernel_rfl) (by kernel_rfl) fun a hF => e_end (by kernel_rfl) (n_sq ?_) _
    rcases bcase (!t_9) with hc4 | hc4
    ·have hb2 := cond_f hc4 hb2
     refine q_cond_f hF rfl hc4 (q_skipc (n_ib (n_sq (q_region (q_x (v := (.int .i64 (w64 (t_3 + 1)))) hF hS (ex_ibin rfl rfl rfl) rfl rfl fun a hF => q_x (v := (.int .i64 (w64 (t_3 + 1)))) hF hS (ex_move rfl) rfl rfl fun a hF => q_end ?_)))))
     obtain rfl := someI hb2
     exact ⟨rfl, hF.sub ⟨rfl, rfl, rfl, rfl, trivial⟩, hS.mask [false]⟩
    ·have hb2 := cond_t hc4 hb2
     refine q_cond_t hF rfl hc4 (q_seq (q_region (q_x (v := (.bool false)) hF hS (ex_assign rfl) rfl rfl fun a hF => q_end (n_sq (q_ret (r_ib (r_sq ?_)))))))
     obtain rfl := someI hb2
     refine ⟨nofun, .inr fun ho => ?_⟩
     subst ho
     refine r_ib (r_sq ?_)
     obtain rfl := someI hr
     exact ret_of hF hS rfl (.tmp rfl .nil) rfl
  ·rintro e a w ⟨rfl, rfl, hF, hS⟩
   refine x_ib (n_sq ?_)
   refine q_seq (q_region (q_x (v := (.bool true)) hF hS (ex_assign rfl) rfl rfl fun a hF => q_end (n_sq (q_ret ?_))))
   obtain rfl := someI hr
   exact ret_of hF hS rfl (.tmp rfl .nil) rfl
 ·have hr := cond_t hc1 hr
  refine q_cond_t hF rfl hc1 (q_seq (q_region (q_x (v := (.bool false)) hF hS (ex_assign rfl) rfl rfl fun a hF => q_end (n_sq (q_ret (r_sq ?_))))))
  obtain rfl := someI hr
  exact ret_of hF hS rfl (.tmp rfl .nil) rfl

theorem c_spec_rGood (p_s : List impl_Variable) (p_r : impl_Record) (r : Bool) (hr : spec_rGood p_s p_r = some r) (w0 : World) (m : Mem) (hv : Vis m w0) (s1 : Sl) (h1 : Rd m s1 p_s) (s2 : Sl) (h2 : Rd m s2 p_r.Values) :
  Ret Try.prog 50 [s1.v, (.agg #[(.int .i64 p_r.Area), (.int .i64 p_r.House), s2.v])] w0 (fun v _ => v = (.bool r)) := by
 unfold spec_rGood at hr
 refine ret_start Try.func50 rfl 19 rfl rfl m hv fun a hF hS => q_seq (q_region (q_box (cs := [(.int .i64 p_r.Area), (.int .i64 p_r.House), s2.v]) hF hS rfl rfl rfl fun a w b3 hF hS => q_x (v := (.bool false)) hF hS (ex_assign rfl) rfl rfl fun a hF => q_end (n_sq (q_seq ?_))))
 obtain ⟨t_7, hj1, hr⟩ := bindS hr
 refine q_join (fun a w => Fr a 19 [(4, (.bool t_7))] ∧ St [] w0 w m []) ?_ ?_
 ·refine q_region (q_x (v := (.pointer (some ⟨b3, 0, none⟩))) hF hS (ex_fieldAddr Try.underlying36 rfl sz3 rfl rfl) rfl rfl fun a hF => q_x (v := (.int .i64 p_r.Area)) hF hS (ex_load1 0 0 Try.underlying3 rfl rfl rfl rfl) rfl rfl fun a hF => ?_)
  obtain ⟨t_4, ht_4, hj1⟩ := bindS hj1
  refine q_call (vs := [(.int .i64 p_r.Area), (.int .i64 0), (.int .i64 29)]) hF hS Try.func42 (by kernel_rfl) rfl rfl rfl (c_spec_l1In p_r.Area 0 29 t_4 ht_4 _ m hS.vis) ?_
  rintro a w _ rfl hF hS
  refine q_x (v := (.bool t_4)) hF hS (ex_move rfl) rfl rfl fun a hF => ?_
  rcases bcase (t_4) with hc2 | hc2
  ·have hj1 := cond_f hc2 hj1
   refine q_skip hF (wanted_f hF rfl rfl rfl hc2 rfl) rfl fun a hF => q_skip hF (wanted_f hF rfl rfl rfl hc2 rfl) rfl fun a hF => q_skip hF (wanted_f hF rfl rfl rfl hc2 rfl) rfl fun a hF => q_x (v := (.bool false)) hF hS (ex_pick_f rfl rfl hc2) rfl rfl fun a hF => q_x (v := (.bool false)) hF hS (ex_move rfl) rfl rfl fun a hF => q_skip hF (wanted_f hF rfl rfl rfl rfl rfl) rfl fun a hF => q_skip hF (wanted_f hF rfl rfl rfl rfl rfl) rfl fun a hF => q_skip hF (wanted_f hF rfl rfl rfl rfl rfl) rfl fun a hF => q_skip hF (wanted_f hF rfl rfl rfl rfl rfl) rfl fun a hF => q_x (v := (.bool false)) hF hS (ex_pick_f rfl rfl rfl) rfl rfl fun a hF => q_x (v := (.bool false)) hF hS (ex_assign rfl) rfl rfl fun a hF => q_end (n_jn ?_)
   obtain rfl := someI hj1
   exact ⟨hF.sub ⟨rfl, trivial⟩, hS.mask [false]⟩
  ·have hj1 := cond_t hc2 hj1
   refine q_xg (v := (.pointer (some ⟨b3, 1, none⟩))) hF hS (ex_fieldAddr Try.underlying36 rfl sz3 rfl rfl) (wanted_t hF rfl rfl rfl hc2) rfl fun a hF => q_xg (v := (.int .i64 p_r.House)) hF hS (ex_load1 0 0 Try.underlying3 rfl rfl rfl rfl) (wanted_t hF rfl rfl rfl hc2) rfl fun a hF => ?_
   obtain ⟨t_5, ht_5, hj1⟩ := bindS hj1
   refine q_callg (vs := [(.int .i64 p_r.House), (.int .i64 0), (.int .i64 999)]) hF hS (wanted_t hF rfl rfl rfl hc2) Try.func42 (by kernel_rfl) rfl rfl rfl (c_spec_l1In p_r.House 0 999 t_5 ht_5 _ m hS.vis) ?_
   rintro a w _ rfl hF hS
   refine q_x (v := (.bool t_5)) hF hS (ex_pick_t rfl rfl hc2) rfl rfl fun a hF => q_x (v := (.bool t_5)) hF hS (ex_move rfl) rfl rfl fun a hF => ?_
   rcases bcase (t_5) with hc3 | hc3
   ·have hj1 := cond_f hc3 hj1
    refine q_skip hF (wanted_f hF rfl rfl rfl hc3 rfl) rfl fun a hF => q_skip hF (wanted_f hF rfl rfl rfl hc3 rfl) rfl fun a hF => q_skip hF (wanted_f hF rfl rfl rfl hc3 rfl) rfl fun a hF => q_skip hF (wanted_f hF rfl rfl rfl hc3 rfl) rfl fun a hF => q_x (v := (.bool false)) hF hS (ex_pick_f rfl rfl hc3) rfl rfl fun a hF => q_x (v := (.bool false)) hF hS (ex_assign rfl) rfl rfl fun a hF => q_end (n_jn ?_)
    obtain rfl := someI hj1
    exact ⟨hF.sub ⟨rfl, trivial⟩, hS.mask [false]⟩
   ·have hj1 := cond_t hc3 hj1
    refine q_xg (v := s1.v) hF hS (ex_move rfl) (wanted_t hF rfl rfl rfl hc3) rfl fun a hF => q_xg (v := (.pointer (some ⟨b3, 2, none⟩))) hF hS (ex_fieldAddr Try.underlying36 rfl sz24 rfl rfl) (wanted_t hF rfl rfl rfl hc3) rfl fun a hF => q_xg (v := s2.v) hF hS (ex_load1 0 0 Try.underlying24 rfl rfl rfl rfl) (wanted_t hF rfl rfl rfl hc3) rfl fun a hF => ?_
    obtain ⟨t_6, ht_6, hj1⟩ := bindS hj1
    refine q_callg (vs := [s1.v, s2.v]) hF hS (wanted_t hF rfl rfl rfl hc3) Try.func51 (by kernel_rfl) rfl rfl rfl (c_spec_sFits p_s p_r.Values t_6 ht_6 _ m hS.vis s1 h1 s2 h2) ?_
    rintro a w _ rfl hF hS
    refine q_x (v := (.bool t_6)) hF hS (ex_pick_t rfl rfl hc3) rfl rfl fun a hF => q_x (v := (.bool t_6)) hF hS (ex_assign rfl) rfl rfl fun a hF => q_end (n_jn ?_)
    obtain rfl := someI hj1
    exact ⟨hF.sub ⟨rfl, trivial⟩, hS.mask [false]⟩
 ·rintro a w ⟨hF, hS⟩
  refine n_sq (q_ret ?_)
  obtain rfl := someI hr
  exact ret_of hF hS rfl (.tmp rfl .nil) rfl

theorem c_spec_dGood (p_s : List impl_Variable) (p_l : List impl_Record) (r : Bool) (hr : spec_dGood p_s p_l = some r) (w0 : World) (m : Mem) (hv : Vis m w0) (s1 : Sl) (h1 : Rd m s1 p_s) (s2 : Sl) (h2 : Rd m s2 p_l) :
  Ret Try.prog 66 [s1.v, s2.v] w0 (fun v _ => v = (.bool r)) := by
 unfold spec_dGood at hr
 refine ret_start Try.func66 rfl 21 rfl rfl m hv fun a hF hS => q_seq (q_region (q_x (v := (.bool false)) hF hS (ex_assign rfl) rfl rfl fun a hF => q_end (n_sq (q_seq (q_seq (q_region (q_x (v := s2.v) hF hS (ex_move rfl) rfl rfl fun a hF => q_x (v := (.int .i64 (goLen p_l))) hF hS (ex_len Try.underlying27 rfl h2.len) rfl rfl fun a hF => q_x (v := (.int .i64 0)) hF hS (ex_move rfl) rfl rfl fun a hF => q_end (n_sq (q_block ?_)))))))))
 obtain ⟨o1, hl1, hr⟩ := bindS hr
 refine q_loop (fun (t_3 : Int) a w => Fr a 21 [(0, s1.v), (1, s2.v), (7, s2.v), (8, (.int .i64 (goLen p_l))), (9, (.int .i64 t_3))] ∧ St [] w0 w m []) (fun (o : (Unit) ⊕ (Bool)) e a w => o = .inl () ∧ e = .exit 0 ∧ Fr a 21 [(1, s2.v)] ∧ St [] w0 w m []) hl1 ⟨hF.sub ⟨rfl, rfl, rfl, rfl, rfl, trivial⟩, hS⟩ ?_ ?_
 ·clear hF hS
  rintro t_3 a w st ⟨hF, hS⟩ hb1
  unfold spec_dGood_l1 at hb1
  refine q_seq (q_region (q_x (v := (.bool (decide (t_3 < (goLen p_l))))) hF hS (ex_ibin rfl rfl rfl) rfl rfl fun a hF => q_end (n_sq (q_seq ?_))))
  rcases bcase (decide (t_3 < (goLen p_l))) with hc2 | hc2
  ·have hb1 := cond_f hc2 hb1
   refine q_cond_f hF rfl hc2 (q_exit (x_sq ?_))
   obtain rfl := someI hb1
   exact ⟨nofun, .inl ⟨rfl, rfl, hF.sub ⟨rfl, trivial⟩, hS⟩⟩
  ·have hb1 := cond_t hc2 hb1
   refine q_cond_t hF rfl hc2 (q_skipc (n_sq (q_seq (q_block (q_seq (q_region ?_))))))
   obtain ⟨e_4, he_4, hb1⟩ := bindS hb1
   obtain ⟨vs5, at5, d5⟩ := h2.at he_4 3 rfl
   obtain ⟨s6, rfl, h6⟩ : ∃ s6 : Sl, vs5 = [(.int .i64 e_4.Area), (.int .i64 e_4.House), s6.v] ∧ Rd m s6 e_4.Values := d5
   refine q_x (v := (elP s2 (t_3.toNat * 3))) hF hS (ex_indexAddr Try.underlying27 sz36 rfl rfl (h2.idx he_4)) rfl rfl fun a hF => q_x (v := (.agg #[(.int .i64 e_4.Area), (.int .i64 e_4.House), s6.v])) hF hS (ex_loadEA (us := [(.int .i64 e_4.Area), (.int .i64 e_4.House), s6.v]) 0 Try.underlying36 rfl sz36 rfl ((at5).at) rfl rfl rfl) rfl rfl fun a hF => q_alloc (cs := [(.int .i64 0), (.int .i64 0), nilS.v]) hF hS rfl rfl rfl fun a w b7 hF hS => q_store (vs := [(.int .i64 e_4.Area), (.int .i64 e_4.House), s6.v]) (cs' := [(.int .i64 e_4.Area), (.int .i64 e_4.House), s6.v]) 0 0 hF hS sz36 rfl rfl rfl rfl rfl rfl rfl rfl fun a w hF hS => q_end (n_sq (q_seq (q_region (q_x (v := s1.v) hF hS (ex_move rfl) rfl rfl fun a hF => q_x (v := (.agg #[(.int .i64 e_4.Area), (.int .i64 e_4.House), s6.v])) hF hS (ex_loadA (vs := [(.int .i64 e_4.Area), (.int .i64 e_4.House), s6.v]) 0 0 Try.underlying36 rfl sz36 rfl rfl rfl rfl) rfl rfl fun a hF => ?_))))
   obtain ⟨t_8, ht_8, hb1⟩ := bindS hb1
   refine q_call (vs := [s1.v, (.agg #[(.int .i64 e_4.Area), (.int .i64 e_4.House), s6.v])]) hF hS Try.func50 (by kernel_rfl) rfl rfl rfl (c_spec_rGood p_s e_4 t_8 ht_8 _ m hS.vis s1 h1 s6 h6) ?_
   rintro a w _ rfl hF hS
   refine q_x (v := (.bool (!t_8))) hF hS (ex_not rfl) rfl rfl fun a hF => q_end (n_sq ?_)
   rcases bcase (!t_8) with hc3 | hc3
   ·have hb1 := cond_f hc3 hb1
    refine q_cond_f hF rfl hc3 (q_skipc (n_ib (n_sq (q_region (q_x (v := (.int .i64 (w64 (t_3 + 1)))) hF hS (ex_ibin rfl rfl rfl) rfl rfl fun a hF => q_x (v := (.int .i64 (w64 (t_3 + 1)))) hF hS (ex_move rfl) rfl rfl fun a hF => q_end ?_)))))
    obtain rfl := someI hb1
    exact ⟨rfl, hF.sub ⟨rfl, rfl, rfl, rfl, rfl, trivial⟩, hS.mask [false]⟩
   ·have hb1 := cond_t hc3 hb1
    refine q_cond_t hF rfl hc3 (q_seq (q_region (q_x (v := (.bool false)) hF hS (ex_assign rfl) rfl rfl fun a hF => q_end (n_sq (q_ret (r_ib (r_sq ?_)))))))
    obtain rfl := someI hb1
    refine ⟨nofun, .inr fun ho => ?_⟩
    subst ho
    refine r_ib (r_sq ?_)
    obtain rfl := someI hr
    exact ret_of hF hS rfl (.tmp rfl .nil) rfl
 ·rintro e a w ⟨rfl, rfl, hF, hS⟩
  refine x_ib (n_sq ?_)
  refine q_seq (q_region (q_x (v := s2.v) hF hS (ex_move rfl) rfl rfl fun a hF => q_x (v := (.int .i64 (goLen p_l))) hF hS (ex_len Try.underlying27 rfl h2.len) rfl rfl fun a hF => q_x (v := (.bool (decide ((goLen p_l) ≤ 40)))) hF hS (ex_ibin rfl rfl rfl) rfl rfl fun a hF => q_x (v := (.bool (decide ((goLen p_l) ≤ 40)))) hF hS (ex_assign rfl) rfl rfl fun a hF => q_end (n_sq (q_ret ?_))))
  obtain rfl := someI hr
  exact ret_of hF hS rfl (.tmp rfl .nil) rfl

theorem c_spec_FailureCounts (p_s : List impl_Variable) (p_l : List impl_Edit) (p_data : List impl_Record) (r : (List Int) × Bool) (hr : spec_FailureCounts p_s p_l p_data = some r) (w0 : World) (m : Mem) (hv : Vis m w0) (s1 : Sl) (h1 : Rd m s1 p_s) (s2 : Sl) (h2 : Rd m s2 p_l) (s3 : Sl) (h3 : Rd m s3 p_data) :
  Ret Try.prog 28 [s1.v, s2.v, s3.v] w0 (fun v w => ∃ (q0' : Piece) (s0' : Sl), v = (.tuple #[s0'.v, (.bool r.2)]) ∧ St [] w0 w m [q0'] ∧ OwnL m 3 q0' s0' r.1) := by
 unfold spec_FailureCounts at hr
 refine ret_start Try.func28 rfl 50 rfl rfl m hv fun a hF hS => q_seq (q_region (q_x (v := nilS.v) hF hS (ex_assign rfl) rfl rfl fun a hF => q_x (v := (.bool false)) hF hS (ex_assign rfl) rfl rfl fun a hF => q_end (n_sq (q_seq (q_seq ?_)))))
 obtain ⟨t_6, hj1, hr⟩ := bindS hr
 refine q_join (fun a w => Fr a 50 [(1, s2.v), (2, s3.v), (22, (.bool t_6))] ∧ St [] w0 w m []) ?_ ?_
 ·refine q_region (q_x (v := s1.v) hF hS (ex_move rfl) rfl rfl fun a hF => q_x (v := s2.v) hF hS (ex_move rfl) rfl rfl fun a hF => ?_)
  obtain ⟨t_4, ht_4, hj1⟩ := bindS hj1
  refine q_call (vs := [s1.v, s2.v]) hF hS Try.func60 (by kernel_rfl) rfl rfl rfl (c_spec_eList p_s p_l t_4 ht_4 _ m hS.vis s1 h1 s2 h2) ?_
  rintro a w _ rfl hF hS
  refine q_x (v := (.bool (!t_4))) hF hS (ex_not rfl) rfl rfl fun a hF => q_x (v := (.bool (!t_4))) hF hS (ex_move rfl) rfl rfl fun a hF => ?_
  rcases bcase (!t_4) with hc2 | hc2
  ·have hj1 := cond_f hc2 hj1
   refine q_xg (v := s1.v) hF hS (ex_move rfl) (wanted_t hF rfl rfl rfl hc2) rfl fun a hF => q_xg (v := s3.v) hF hS (ex_move rfl) (wanted_t hF rfl rfl rfl hc2) rfl fun a hF => ?_
   obtain ⟨t_5, ht_5, hj1⟩ := bindS hj1
   refine q_callg (vs := [s1.v, s3.v]) hF hS (wanted_t hF rfl rfl rfl hc2) Try.func66 (by kernel_rfl) rfl rfl rfl (c_spec_dGood p_s p_data t_5 ht_5 _ m hS.vis s1 h1 s3 h3) ?_
   rintro a w _ rfl hF hS
   refine q_xg (v := (.bool (!t_5))) hF hS (ex_not rfl) (wanted_t hF rfl rfl rfl hc2) rfl fun a hF => q_x (v := (.bool (!t_5))) hF hS (ex_pick_f rfl rfl hc2) rfl rfl fun a hF => q_end (n_jn ?_)
   obtain rfl := someI hj1
   exact ⟨hF.sub ⟨rfl, rfl, rfl, trivial⟩, hS⟩
  ·have hj1 := cond_t hc2 hj1
   refine q_skip hF (wanted_f hF rfl rfl rfl hc2 rfl) rfl fun a hF => q_skip hF (wanted_f hF rfl rfl rfl hc2 rfl) rfl fun a hF => q_skip hF (wanted_f hF rfl rfl rfl hc2 rfl) rfl fun a hF => q_skip hF (wanted_f hF rfl rfl rfl hc2 rfl) rfl fun a hF => q_x (v := (.bool true)) hF hS (ex_pick_t rfl rfl hc2) rfl rfl fun a hF => q_end (n_jn ?_)
   obtain rfl := someI hj1
   exact ⟨hF.sub ⟨rfl, rfl, rfl, trivial⟩, hS⟩
 ·rintro a w ⟨hF, hS⟩
  refine n_sq ?_
  rcases bcase (t_6) with hc3 | hc3
  ·have hr := cond_f hc3 hr
   refine q_cond_f hF rfl hc3 (q_skipc (n_sq (q_seq (q_region (q_x (v := s2.v) hF hS (ex_move rfl) rfl rfl fun a hF => q_x (v := (.int .i64 (goLen p_l))) hF hS (ex_len Try.underlying48 rfl h2.len) rfl rfl fun a hF => ?_)))))
   obtain ⟨l_7, hl_7, hr⟩ := bindS hr
   refine q_do rfl fun _ hK => wp_make (z := (0 : Int)) hF hS Try.underlying24 inf3 rfl rfl rfl rfl rfl (by decide) hl_7 rfl fun a w q8 s8 hF hS h8 _ => hK _ _ (q_x (v := s8.v) hF hS (ex_assign rfl) rfl rfl fun a hF => q_end (n_sq (q_seq (q_seq (q_region (q_x (v := s3.v) hF hS (ex_move rfl) rfl rfl fun a hF => q_x (v := (.int .i64 (goLen p_data))) hF hS (ex_len Try.underlying27 rfl h3.len) rfl rfl fun a hF => q_x (v := (.int .i64 0)) hF hS (ex_move rfl) rfl rfl fun a hF => q_end (n_sq (q_block ?_))))))))
   obtain ⟨out_31, hl4, hr⟩ := bindS hr
   refine q_loop (fun (s : (List Int) × Int) a w => ∃ (q10 : Piece), ∃ out_9, ∃ t_11, s = (out_9, t_11) ∧ Fr a 50 [(1, s2.v), (8, s8.v), (26, s3.v), (27, (.int .i64 (goLen p_data))), (28, (.int .i64 t_11))] ∧ St [] w0 w m [q10] ∧ OwnL m 3 q10 s8 out_9) (fun (out_31 : (List Int)) e a w => ∃ (q32 : Piece), e = .exit 0 ∧ Fr a 50 [(8, s8.v)] ∧ St [] w0 w m [q32] ∧ OwnL m 3 q32 s8 out_31) hl4 ⟨q8, _, _, rfl, hF.sub ⟨rfl, rfl, rfl, rfl, rfl, trivial⟩, hS, h8⟩ ?_ ?_
   ·clear hF hS
    rintro s a w st ⟨q10, out_9, t_11, rfl, hF, hS, h10⟩ hb4
    unfold spec_FailureCounts_l1 at hb4
    refine q_seq (q_region (q_x (v := (.bool (decide (t_11 < (goLen p_data))))) hF hS (ex_ibin rfl rfl rfl) rfl rfl fun a hF => q_end (n_sq (q_seq ?_))))
    rcases bcase (decide (t_11 < (goLen p_data))) with hc5 | hc5
    ·have hb4 := cond_f hc5 hb4
     refine q_cond_f hF rfl hc5 (q_exit (x_sq ?_))
     obtain rfl := someI hb4
     exact ⟨nofun, .inl ⟨q10, rfl, hF.sub ⟨rfl, trivial⟩, hS, h10⟩⟩
    ·have hb4 := cond_t hc5 hb4
     refine q_cond_t hF rfl hc5 (q_skipc (n_sq (q_seq (q_block (q_seq (q_region ?_))))))
     obtain ⟨e_12, he_12, hb4⟩ := bindS hb4
     obtain ⟨vs13, at13, d13⟩ := h3.at he_12 3 rfl
     obtain ⟨s14, rfl, h14⟩ : ∃ s14 : Sl, vs13 = [(.int .i64 e_12.Area), (.int .i64 e_12.House), s14.v] ∧ Rd m s14 e_12.Values := d13
     refine q_x (v := (elP s3 (t_11.toNat * 3))) hF hS (ex_indexAddr Try.underlying27 sz36 rfl rfl (h3.idx he_12)) rfl rfl fun a hF => q_x (v := (.agg #[(.int .i64 e_12.Area), (.int .i64 e_12.House), s14.v])) hF hS (ex_loadEA (us := [(.int .i64 e_12.Area), (.int .i64 e_12.House), s14.v]) 0 Try.underlying36 rfl sz36 rfl ((at13).at) rfl rfl rfl) rfl rfl fun a hF => q_alloc (cs := [(.int .i64 0), (.int .i64 0), nilS.v]) hF hS rfl rfl rfl fun a w b15 hF hS => q_store (vs := [(.int .i64 e_12.Area), (.int .i64 e_12.House), s14.v]) (cs' := [(.int .i64 e_12.Area), (.int .i64 e_12.House), s14.v]) 0 0 hF hS sz36 rfl rfl rfl rfl rfl rfl rfl rfl fun a w hF hS => q_end (n_sq (q_seq (q_region (q_x (v := s2.v) hF hS (ex_move rfl) rfl rfl fun a hF => q_x (v := (.pointer (some ⟨b15, 2, none⟩))) hF hS (ex_fieldAddr Try.underlying36 rfl sz24 rfl rfl) rfl rfl fun a hF => q_x (v := s14.v) hF hS (ex_load1 0 0 Try.underlying24 rfl rfl rfl rfl) rfl rfl fun a hF => ?_))))
     obtain ⟨t_16, ht_16, hb4⟩ := bindS hb4
     refine q_call (vs := [s2.v, s14.v]) hF hS Try.func67 (by kernel_rfl) rfl rfl rfl (c_spec_eFailed p_l e_12.Values t_16 ht_16 _ m hS.vis s2 h2 s14 h14) ?_
     rintro a w _ ⟨q18, s18, rfl, hR17, h18⟩ hF hS2
     have hS : St _ _ _ _ [q18, [⟨b15, [(.int .i64 e_12.Area), (.int .i64 e_12.House), s14.v], 36⟩], q10] := hS.joinF hR17
     refine q_x (v := (.int .i64 (goLen t_16))) hF hS (ex_len Try.underlying24 rfl h18.len) rfl rfl fun a hF => q_x (v := (.int .i64 0)) hF hS (ex_move rfl) rfl rfl fun a hF => q_end (n_sq (q_block ?_))
     obtain ⟨out_29, hl6, hb4⟩ := bindS hb4
     refine q_loop (fun (s : (List Int) × Int) a w => ∃ (q20 : Piece), ∃ out_19, ∃ t_21, s = (out_19, t_21) ∧ Fr a 50 [(1, s2.v), (8, s8.v), (26, s3.v), (27, (.int .i64 (goLen p_data))), (28, (.int .i64 t_11)), (35, s18.v), (36, (.int .i64 (goLen t_16))), (37, (.int .i64 t_21))] ∧ St [] w0 w m [q20, q18] ∧ OwnL m 3 q20 s8 out_19) (fun (out_29 : (List Int)) e a w => ∃ (q30 : Piece), e = .exit 2 ∧ Fr a 50 [(1, s2.v), (8, s8.v), (26, s3.v), (27, (.int .i64 (goLen p_data))), (28, (.int .i64 t_11))] ∧ St [] w0 w m [q30] ∧ OwnL m 3 q30 s8 out_29) hl6 ⟨q10, _, _, rfl, hF.sub ⟨rfl, rfl, rfl, rfl, rfl, rfl, rfl, rfl, trivial⟩, hS.sel [2, 0] (by decide), h10⟩ ?_ ?_
     ·clear hF hS
      rintro s a w st ⟨q20, out_19, t_21, rfl, hF, hS, h20⟩ hb6
      unfold spec_FailureCounts_l2 at hb6
      refine q_seq (q_region (q_x (v := (.bool (decide (t_21 < (goLen t_16))))) hF hS (ex_ibin rfl rfl rfl) rfl rfl fun a hF => q_end (n_sq (q_seq ?_))))
      rcases bcase (decide (t_21 < (goLen t_16))) with hc7 | hc7
      ·have hb6 := cond_f hc7 hb6
       refine q_cond_f hF rfl hc7 (q_exit (x_sq ?_))
       obtain rfl := someI hb6
       exact ⟨nofun, .inl ⟨q20, rfl, hF.sub ⟨rfl, rfl, rfl, rfl, rfl, trivial⟩, hS.mask [true, false], h20⟩⟩
      ·have hb6 := cond_t hc7 hb6
       refine q_cond_t hF rfl hc7 (q_skipc (n_sq (q_seq (q_block (q_seq (q_region ?_))))))
       obtain ⟨e_22, he_22, hb6⟩ := bindS hb6
       obtain ⟨vs23, at23, d23⟩ := h18.at he_22 1 rfl
       obtain rfl : vs23 = [(.int .i64 e_22)] := d23
       refine q_x (v := (elP s18 (t_21.toNat * 1))) hF hS (ex_indexAddr Try.underlying24 sz3 rfl rfl (h18.idx he_22)) rfl rfl fun a hF => q_x (v := (.int .i64 e_22)) hF hS (ex_loadE1 0 Try.underlying3 rfl rfl (at23.at 1 rfl) rfl rfl) rfl rfl fun a hF => q_x (v := (.int .i64 e_22)) hF hS (ex_assign rfl) rfl rfl fun a hF => q_end (n_sq (q_region (q_x (v := s8.v) hF hS (ex_move rfl) rfl rfl fun a hF => q_x (v := (.int .i64 e_22)) hF hS (ex_move rfl) rfl rfl fun a hF => ?_)))
       obtain ⟨e_24, he_24, hb6⟩ := bindS hb6
       obtain ⟨vs25, at25, d25⟩ := h20.at he_24 1 rfl
       obtain rfl : vs25 = [(.int .i64 e_24)] := d25
       refine q_x (v := (elP s8 (e_22.toNat * 1))) hF hS (ex_indexAddr Try.underlying24 sz3 rfl rfl (h20.idx he_24)) rfl rfl fun a hF => q_x (v := (.int .i64 e_24)) hF hS (ex_loadE1 0 Try.underlying3 rfl rfl (at25.at 0 rfl) rfl rfl) rfl rfl fun a hF => q_x (v := (.int .i64 (w64 (e_24 + 1)))) hF hS (ex_ibin rfl rfl rfl) rfl rfl fun a hF => ?_
       obtain ⟨e_26, he_26, hb6⟩ := bindS hb6
       obtain ⟨vs27, at27, d27⟩ := h20.at he_26 1 rfl
       obtain rfl : vs27 = [(.int .i64 e_26)] := d27
       refine q_x (v := (elP s8 (e_22.toNat * 1))) hF hS (ex_indexAddr Try.underlying24 sz3 rfl rfl (h20.idx he_26)) rfl rfl fun a hF => q_do rfl fun _ hK => wp_storeE (e' := (w64 (e_24 + 1))) (us := [(.int .i64 (w64 (e_24 + 1)))]) (vs := [(.int .i64 e_26)]) 0 hF hS h20 sz3 rfl rfl rfl rfl rfl rfl rfl he_26 at27 rfl rfl rfl fun w q28 hS h28 => hK _ _ (q_end (n_ib (n_sq (q_region (q_x (v := (.int .i64 (w64 (t_21 + 1)))) hF hS (ex_ibin rfl rfl rfl) rfl rfl fun a hF => q_x (v := (.int .i64 (w64 (t_21 + 1)))) hF hS (ex_move rfl) rfl rfl fun a hF => q_end ?_)))))
       obtain rfl := someI hb6
       exact ⟨rfl, q28, _, _, rfl, hF.sub ⟨rfl, rfl, rfl, rfl, rfl, rfl, rfl, rfl, trivial⟩, hS, h28⟩
     ·rintro e a w ⟨q30, rfl, hF, hS, h30⟩
      refine x_ib (n_ib (n_sq ?_))
      refine q_region (q_x (v := (.int .i64 (w64 (t_11 + 1)))) hF hS (ex_ibin rfl rfl rfl) rfl rfl fun a hF => q_x (v := (.int .i64 (w64 (t_11 + 1)))) hF hS (ex_move rfl) rfl rfl fun a hF => q_end ?_)
      obtain rfl := someI hb4
      exact ⟨rfl, q30, _, _, rfl, hF.sub ⟨rfl, rfl, rfl, rfl, rfl, trivial⟩, hS, h30⟩
   ·rintro e a w ⟨q32, rfl, hF, hS, h32⟩
    refine x_ib (n_sq ?_)
    refine q_seq (q_region (q_x (v := s8.v) hF hS (ex_move rfl) rfl rfl fun a hF => q_x (v := s8.v) hF hS (ex_assign rfl) rfl rfl fun a hF => q_x (v := (.bool true)) hF hS (ex_assign rfl) rfl rfl fun a hF => q_end (n_sq (q_ret ?_))))
    obtain rfl := someI hr
    exact ret_of hF hS rfl (.tmp rfl (.tmp rfl .nil)) ⟨q32, s8, rfl, hS.sel [0] (by decide), h32⟩
  ·have hr := cond_t hc3 hr
   refine q_cond_t hF rfl hc3 (q_seq (q_region (q_x (v := nilS.v) hF hS (ex_assign rfl) rfl rfl fun a hF => q_x (v := (.bool false)) hF hS (ex_assign rfl) rfl rfl fun a hF => q_end (n_sq (q_ret (r_sq ?_))))))
   obtain rfl := someI hr
   exact ret_of hF hS rfl (.tmp rfl (.tmp rfl .nil)) ⟨[], nilS, rfl, hS.sel [0] (by decide), (OwnL.nil (α := Int) m 3)⟩

theorem c_laws_pSum (p_l : List Int) (r : Int) (hr : laws_pSum p_l = some r) (w0 : World) (m : Mem) (hv : Vis m w0) (s1 : Sl) (h1 : Rd m s1 p_l) :
  Ret Try.prog 29 [s1.v] w0 (fun v _ => v = (.int .i64 r)) := by
 unfold laws_pSum at hr
 refine ret_start Try.func29 rfl 17 rfl rfl m hv fun a hF hS => q_seq (q_region (q_x (v := (.int .i64 0)) hF hS (ex_assign rfl) rfl rfl fun a hF => q_end (n_sq (q_seq (q_region (q_x (v := (.int .i64 0)) hF hS (ex_assign rfl) rfl rfl fun a hF => q_end (n_sq (q_seq (q_seq (q_region (q_x (v := s1.v) hF hS (ex_move rfl) rfl rfl fun a hF => q_x (v := (.int .i64 (goLen p_l))) hF hS (ex_len Try.underlying24 rfl h1.len) rfl rfl fun a hF => q_x (v := (.int .i64 0)) hF hS (ex_move rfl) rfl rfl fun a hF => q_end (n_sq (q_block ?_)))))))))))))
 obtain ⟨sum_6, hl1, hr⟩ := bindS hr
 refine q_loop (fun (s : Int × Int) a w => ∃ sum_2, ∃ t_3, s = (sum_2, t_3) ∧ Fr a 17 [(3, (.int .i64 sum_2)), (6, s1.v), (7, (.int .i64 (goLen p_l))), (8, (.int .i64 t_3))] ∧ St [] w0 w m []) (fun (sum_6 : Int) e a w => e = .exit 0 ∧ Fr a 17 [(3, (.int .i64 sum_6))] ∧ St [] w0 w m []) hl1 ⟨_, _, rfl, hF.sub ⟨rfl, rfl, rfl, rfl, trivial⟩, hS⟩ ?_ ?_
 ·clear hF hS
  rintro s a w st ⟨sum_2, t_3, rfl, hF, hS⟩ hb1
  unfold laws_pSum_l1 at hb1
  refine q_seq (q_region (q_x (v := (.bool (decide (t_3 < (goLen p_l))))) hF hS (ex_ibin rfl rfl rfl) rfl rfl fun a hF => q_end (n_sq (q_seq ?_))))
  rcases bcase (decide (t_3 < (goLen p_l))) with hc2 | hc2
  ·have hb1 := cond_f hc2 hb1
   refine q_cond_f hF rfl hc2 (q_exit (x_sq ?_))
   obtain rfl := someI hb1
   exact ⟨nofun, .inl ⟨rfl, hF.sub ⟨rfl, trivial⟩, hS⟩⟩
  ·have hb1 := cond_t hc2 hb1
   refine q_cond_t hF rfl hc2 (q_skipc (n_sq (q_seq (q_block (q_seq (q_region ?_))))))
   obtain ⟨e_4, he_4, hb1⟩ := bindS hb1
   obtain ⟨vs5, at5, d5⟩ := h1.at he_4 1 rfl
   obtain rfl : vs5 = [(.int .i64 e_4)] := d5
   refine q_x (v := (elP s1 (t_3.toNat * 1))) hF hS (ex_indexAddr Try.underlying24 sz3 rfl rfl (h1.idx he_4)) rfl rfl fun a hF => q_x (v := (.int .i64 e_4)) hF hS (ex_loadE1 0 Try.underlying3 rfl rfl ((at5).at) rfl rfl) rfl rfl fun a hF => q_x (v := (.int .i64 e_4)) hF hS (ex_assign rfl) rfl rfl fun a hF => q_end (n_sq (q_region (q_x (v := (.int .i64 sum_2)) hF hS (ex_move rfl) rfl rfl fun a hF => q_x (v := (.int .i64 e_4)) hF hS (ex_move rfl) rfl rfl fun a hF => q_x (v := (.int .i64 (w64 (sum_2 + e_4)))) hF hS (ex_ibin rfl rfl rfl) rfl rfl fun a hF => q_x (v := (.int .i64 (w64 (sum_2 + e_4)))) hF hS (ex_assign rfl) rfl rfl fun a hF => q_end (n_ib (n_sq (q_region (q_x (v := (.int .i64 (w64 (t_3 + 1)))) hF hS (ex_ibin rfl rfl rfl) rfl rfl fun a hF => q_x (v := (.int .i64 (w64 (t_3 + 1)))) hF hS (ex_move rfl) rfl rfl fun a hF => q_end ?_)))))))
   obtain rfl := someI hb1
   exact ⟨rfl, _, _, rfl, hF.sub ⟨rfl, rfl, rfl, rfl, trivial⟩, hS⟩
 ·rintro e a w ⟨rfl, hF, hS⟩
  refine x_ib (n_sq ?_)
  refine q_seq (q_region (q_x (v := (.int .i64 sum_6)) hF hS (ex_move rfl) rfl rfl fun a hF => q_x (v := (.int .i64 sum_6)) hF hS (ex_assign rfl) rfl rfl fun a hF => q_end (n_sq (q_ret ?_))))
  obtain rfl := someI hr
  exact ret_of hF hS rfl (.tmp rfl .nil) rfl

theorem c_laws_FnPassing (p_code : List (K .u8)) (p_more : List (K .u8)) (r : Bool) (hr : laws_FnPassing p_code p_more = some r) (w0 : World) (m : Mem) (hv : Vis m w0) (s1 : Sl) (h1 : Rd m s1 p_code) (s2 : Sl) (h2 : Rd m s2 p_more) :
  Ret Try.prog 4 [s1.v, s2.v] w0 (fun v _ => v = (.bool r)) := by
 unfold laws_FnPassing at hr
 refine ret_start Try.func4 rfl 159 rfl rfl m hv fun a hF hS => q_seq (q_region (q_x (v := (.bool false)) hF hS (ex_assign rfl) rfl rfl fun a hF => q_end (n_sq (q_seq (q_seq (q_region (q_x (v := s1.v) hF hS (ex_move rfl) rfl rfl fun a hF => q_x (v := s2.v) hF hS (ex_move rfl) rfl rfl fun a hF => ?_)))))))
 obtain ⟨t_3, ht_3, hr⟩ := bindS hr
 refine q_call (vs := [s1.v, s2.v]) hF hS Try.func18 (by kernel_rfl) rfl rfl rfl (c_laws_big p_code p_more t_3 ht_3 _ m hS.vis s1 h1 s2 h2) ?_
 rintro a w _ rfl hF hS
 refine q_end (n_sq ?_)
 rcases bcase (t_3) with hc1 | hc1
 ·have hr := cond_f hc1 hr
  refine q_cond_f hF rfl hc1 (q_skipc (n_sq (q_seq (q_region (q_x (v := s1.v) hF hS (ex_move rfl) rfl rfl fun a hF => ?_)))))
  obtain ⟨t_4, ht_4, hr⟩ := bindS hr
  refine q_call (vs := [s1.v]) hF hS Try.func19 (by kernel_rfl) rfl rfl rfl (c_spec_DrawFirstPassing p_code t_4 ht_4 _ m hS.vis s1 h1) ?_
  have hT := hS
  rintro a w _ ⟨m5, q7, s6, s7, rfl, hm5, hR5, h6, h7⟩ hF hS2
  have hS : St _ _ _ _ [q7] := hS.join hR5 hm5
  have hm5 := MLe.weakX (O0 := []) hT hm5
  refine q_x (v := (.tuple #[s6.v, s7.v])) hF hS (ex_move rfl) rfl rfl fun a hF => q_x (v := s6.v) hF hS (ex_extract rfl rfl) rfl rfl fun a hF => q_x (v := s7.v) hF hS (ex_extract rfl rfl) rfl rfl fun a hF => q_x (v := s6.v) hF hS (ex_assign rfl) rfl rfl fun a hF => q_x (v := s7.v) hF hS (ex_assign rfl) rfl rfl fun a hF => q_end (n_sq (q_seq (q_region (q_x (v := s6.v) hF hS (ex_move rfl) rfl rfl fun a hF => q_x (v := s7.v) hF hS (ex_move rfl) rfl rfl fun a hF => ?_))))
  obtain ⟨m8, hm8, hS, hz8⟩ := hS.freeze
  have h8 := h7.froz hm8.le hz8
  obtain ⟨t_9, ht_9, hr⟩ := bindS hr
  refine q_call (vs := [s6.v, s7.v]) hF hS Try.func20 (by kernel_rfl) rfl rfl rfl (c_impl_FirstPassing t_4.1 t_4.2 t_9 ht_9 _ m8 hS.vis s6 (h6.mono hm8.le) s7 h8) ?_
  have hT := hS
  rintro a w _ ⟨m10, s11, rfl, hm10, hR10, h11, h11n⟩ hF hS2
  have hS : St _ _ _ _ [] := hS.join hR10 hm10
  have hm10 := MLe.weakX (O0 := []) hT hm10
  refine q_x (v := (.tuple #[s11.v, (.bool t_9.2)])) hF hS (ex_move rfl) rfl rfl fun a hF => q_x (v := s11.v) hF hS (ex_extract rfl rfl) rfl rfl fun a hF => q_x (v := (.bool t_9.2)) hF hS (ex_extract rfl rfl) rfl rfl fun a hF => q_x (v := s11.v) hF hS (ex_assign rfl) rfl rfl fun a hF => q_x (v := (.bool t_9.2)) hF hS (ex_assign rfl) rfl rfl fun a hF => q_end (n_sq (q_seq (q_region (q_x (v := s6.v) hF hS (ex_move rfl) rfl rfl fun a hF => q_x (v := s7.v) hF hS (ex_move rfl) rfl rfl fun a hF => ?_))))
  obtain ⟨t_12, ht_12, hr⟩ := bindS hr
  refine q_call (vs := [s6.v, s7.v]) hF hS Try.func21 (by kernel_rfl) rfl rfl rfl (c_spec_FirstPassing t_4.1 t_4.2 t_12 ht_12 _ m10 hS.vis s6 ((h6.mono hm8.le).mono hm10.le) s7 (h8.mono hm10.le)) ?_
  rintro a w _ ⟨q14, s14, rfl, hR13, h14⟩ hF hS2
  have hS : St _ _ _ _ [q14] := hS.joinF hR13
  refine q_x (v := (.tuple #[s14.v, (.bool t_12.2)])) hF hS (ex_move rfl) rfl rfl fun a hF => q_x (v := s14.v) hF hS (ex_extract rfl rfl) rfl rfl fun a hF => q_x (v := (.bool t_12.2)) hF hS (ex_extract rfl rfl) rfl rfl fun a hF => q_x (v := s14.v) hF hS (ex_assign rfl) rfl rfl fun a hF => q_x (v := (.bool t_12.2)) hF hS (ex_assign rfl) rfl rfl fun a hF => q_end (n_sq (q_seq (q_region (q_x (v := s6.v) hF hS (ex_move rfl) rfl rfl fun a hF => q_x (v := s7.v) hF hS (ex_move rfl) rfl rfl fun a hF => ?_))))
  obtain ⟨t_15, ht_15, hr⟩ := bindS hr
  refine q_call (vs := [s6.v, s7.v]) hF hS Try.func22 (by kernel_rfl) rfl rfl rfl (c_impl_CountPassing t_4.1 t_4.2 t_15 ht_15 _ m10 hS.vis s6 ((h6.mono hm8.le).mono hm10.le) s7 (h8.mono hm10.le)) ?_
  rintro a w _ rfl hF hS
  refine q_x (v := (.tuple #[(.int .i64 t_15.1), (.bool t_15.2)])) hF hS (ex_move rfl) rfl rfl fun a hF => q_x (v := (.int .i64 t_15.1)) hF hS (ex_extract rfl rfl) rfl rfl fun a hF => q_x (v := (.bool t_15.2)) hF hS (ex_extract rfl rfl) rfl rfl fun a hF => q_x (v := (.int .i64 t_15.1)) hF hS (ex_assign rfl) rfl rfl fun a hF => q_x (v := (.bool t_15.2)) hF hS (ex_assign rfl) rfl rfl fun a hF => q_end (n_sq (q_seq (q_region (q_x (v := s6.v) hF hS (ex_move rfl) rfl rfl fun a hF => q_x (v := s7.v) hF hS (ex_move rfl) rfl rfl fun a hF => ?_))))
  obtain ⟨t_16, ht_16, hr⟩ := bindS hr
  refine q_call (vs := [s6.v, s7.v]) hF hS Try.func23 (by kernel_rfl) rfl rfl rfl (c_spec_CountPassing t_4.1 t_4.2 t_16 ht_16 _ m10 hS.vis s6 ((h6.mono hm8.le).mono hm10.le) s7 (h8.mono hm10.le)) ?_
  rintro a w _ rfl hF hS
  refine q_x (v := (.tuple #[(.int .i64 t_16.1), (.bool t_16.2)])) hF hS (ex_move rfl) rfl rfl fun a hF => q_x (v := (.int .i64 t_16.1)) hF hS (ex_extract rfl rfl) rfl rfl fun a hF => q_x (v := (.bool t_16.2)) hF hS (ex_extract rfl rfl) rfl rfl fun a hF => q_x (v := (.int .i64 t_16.1)) hF hS (ex_assign rfl) rfl rfl fun a hF => q_x (v := (.bool t_16.2)) hF hS (ex_assign rfl) rfl rfl fun a hF => q_end (n_sq (q_seq (q_seq ?_)))
  obtain ⟨t_19, hj2, hr⟩ := bindS hr
  refine q_join (fun a w => Fr a 159 [(1, s2.v), (5, s6.v), (6, s7.v), (7, s11.v), (8, (.bool t_9.2)), (88, (.bool t_19))] ∧ St [] w0 w m10 []) ?_ ?_
  ·refine q_region (q_x (v := (.bool t_9.2)) hF hS (ex_move rfl) rfl rfl fun a hF => q_x (v := (.bool t_12.2)) hF hS (ex_move rfl) rfl rfl fun a hF => q_x (v := (.bool (t_9.2 != t_12.2))) hF hS (ex_bne Try.underlying4 rfl rfl) rfl rfl fun a hF => q_x (v := (.bool (t_9.2 != t_12.2))) hF hS (ex_move rfl) rfl rfl fun a hF => ?_)
   rcases bcase (t_9.2 != t_12.2) with hc3 | hc3
   ·have hj2 := cond_f hc3 hj2
    refine q_xg (v := s11.v) hF hS (ex_move rfl) (wanted_t hF rfl rfl rfl hc3) rfl fun a hF => q_xg (v := s14.v) hF hS (ex_move rfl) (wanted_t hF rfl rfl rfl hc3) rfl fun a hF => ?_
    obtain ⟨m18, hl18, hv18, hz18⟩ := hS.lend
    obtain ⟨t_17, ht_17, hj2⟩ := bindS hj2
    refine q_callg (vs := [s11.v, s14.v]) hF hS (wanted_t hF rfl rfl rfl hc3) Try.func24 (by kernel_rfl) rfl rfl rfl (c_laws_sameInts t_9.1 t_12.1 t_17 ht_17 _ m18 hv18 s11 (h11.mono hl18) s14 (h14.froz hl18 (hz18 0 _ rfl))) ?_
    rintro a w _ rfl hF hS
    refine q_xg (v := (.bool (!t_17))) hF hS (ex_not rfl) (wanted_t hF rfl rfl rfl hc3) rfl fun a hF => q_x (v := (.bool (!t_17))) hF hS (ex_pick_f rfl rfl hc3) rfl rfl fun a hF => q_x (v := (.bool (!t_17))) hF hS (ex_move rfl) rfl rfl fun a hF => ?_
    rcases bcase (!t_17) with hc4 | hc4
    ·have hj2 := cond_f hc4 hj2
     refine q_xg (v := (.bool t_15.2)) hF hS (ex_move rfl) (wanted_t hF rfl rfl rfl hc4) rfl fun a hF => q_xg (v := (.bool t_16.2)) hF hS (ex_move rfl) (wanted_t hF rfl rfl rfl hc4) rfl fun a hF => q_xg (v := (.bool (t_15.2 != t_16.2))) hF hS (ex_bne Try.underlying4 rfl rfl) (wanted_t hF rfl rfl rfl hc4) rfl fun a hF => q_x (v := (.bool (t_15.2 != t_16.2))) hF hS (ex_pick_f rfl rfl hc4) rfl rfl fun a hF => q_x (v := (.bool (t_15.2 != t_16.2))) hF hS (ex_move rfl) rfl rfl fun a hF => ?_
     rcases bcase (t_15.2 != t_16.2) with hc5 | hc5
     ·have hj2 := cond_f hc5 hj2
      refine q_xg (v := (.int .i64 t_15.1)) hF hS (ex_move rfl) (wanted_t hF rfl rfl rfl hc5) rfl fun a hF => q_xg (v := (.int .i64 t_16.1)) hF hS (ex_move rfl) (wanted_t hF rfl rfl rfl hc5) rfl fun a hF => q_xg (v := (.bool (t_15.1 != t_16.1))) hF hS (ex_ibin rfl rfl rfl) (wanted_t hF rfl rfl rfl hc5) rfl fun a hF => q_x (v := (.bool (t_15.1 != t_16.1))) hF hS (ex_pick_f rfl rfl hc5) rfl rfl fun a hF => q_x (v := (.bool (t_15.1 != t_16.1))) hF hS (ex_move rfl) rfl rfl fun a hF => ?_
      rcases bcase (t_15.1 != t_16.1) with hc6 | hc6
      ·have hj2 := cond_f hc6 hj2
       refine q_xg (v := (.bool t_15.2)) hF hS (ex_move rfl) (wanted_t hF rfl rfl rfl hc6) rfl fun a hF => q_xg (v := (.bool t_15.2)) hF hS (ex_move rfl) (wanted_t hF rfl rfl rfl hc6) rfl fun a hF => ?_
       rcases bcase (t_15.2) with hc7 | hc7
       ·have hj2 := cond_f hc7 hj2
        refine q_skip hF (wanted_f hF rfl rfl rfl hc7 rfl) rfl fun a hF => q_skip hF (wanted_f hF rfl rfl rfl hc7 rfl) rfl fun a hF => q_skip hF (wanted_f hF rfl rfl rfl hc7 rfl) rfl fun a hF => q_skip hF (wanted_f hF rfl rfl rfl hc7 rfl) rfl fun a hF => q_xg (v := (.bool false)) hF hS (ex_pick_f rfl rfl hc7) (wanted_t hF rfl rfl rfl hc6) rfl fun a hF => q_x (v := (.bool false)) hF hS (ex_pick_f rfl rfl hc6) rfl rfl fun a hF => q_end (n_jn ?_)
        obtain rfl := someI hj2
        exact ⟨hF.sub ⟨rfl, rfl, rfl, rfl, rfl, rfl, trivial⟩, hS.mask [false]⟩
       ·have hj2 := cond_t hc7 hj2
        refine q_xg (v := (.bool t_9.2)) hF hS (ex_move rfl) (wanted_t hF rfl rfl rfl hc7) rfl fun a hF => q_xg (v := (.int .i64 t_15.1)) hF hS (ex_move rfl) (wanted_t hF rfl rfl rfl hc7) rfl fun a hF => q_xg (v := (.bool (decide (0 < t_15.1)))) hF hS (ex_ibin rfl rfl rfl) (wanted_t hF rfl rfl rfl hc7) rfl fun a hF => q_xg (v := (.bool (t_9.2 != (decide (0 < t_15.1))))) hF hS (ex_bne Try.underlying4 rfl rfl) (wanted_t hF rfl rfl rfl hc7) rfl fun a hF => q_xg (v := (.bool (t_9.2 != (decide (0 < t_15.1))))) hF hS (ex_pick_t rfl rfl hc7) (wanted_t hF rfl rfl rfl hc6) rfl fun a hF => q_x (v := (.bool (t_9.2 != (decide (0 < t_15.1))))) hF hS (ex_pick_f rfl rfl hc6) rfl rfl fun a hF => q_end (n_jn ?_)
        obtain rfl := someI hj2
        exact ⟨hF.sub ⟨rfl, rfl, rfl, rfl, rfl, rfl, trivial⟩, hS.mask [false]⟩
      ·have hj2 := cond_t hc6 hj2
       refine q_skip hF (wanted_f hF rfl rfl rfl hc6 rfl) rfl fun a hF => q_skip hF (wanted_f hF rfl rfl rfl hc6 rfl) rfl fun a hF => q_skip hF (wanted_u hF rfl rfl rfl) rfl fun a hF => q_skip hF (wanted_u hF rfl rfl rfl) rfl fun a hF => q_skip hF (wanted_u hF rfl rfl rfl) rfl fun a hF => q_skip hF (wanted_u hF rfl rfl rfl) rfl fun a hF => q_skip hF (wanted_f hF rfl rfl rfl hc6 rfl) rfl fun a hF => q_x (v := (.bool true)) hF hS (ex_pick_t rfl rfl hc6) rfl rfl fun a hF => q_end (n_jn ?_)
       obtain rfl := someI hj2
       exact ⟨hF.sub ⟨rfl, rfl, rfl, rfl, rfl, rfl, trivial⟩, hS.mask [false]⟩
     ·have hj2 := cond_t hc5 hj2
      refine q_skip hF (wanted_f hF rfl rfl rfl hc5 rfl) rfl fun a hF => q_skip hF (wanted_f hF rfl rfl rfl hc5 rfl) rfl fun a hF => q_skip hF (wanted_f hF rfl rfl rfl hc5 rfl) rfl fun a hF => q_x (v := (.bool true)) hF hS (ex_pick_t rfl rfl hc5) rfl rfl fun a hF => q_x (v := (.bool true)) hF hS (ex_move rfl) rfl rfl fun a hF => q_skip hF (wanted_f hF rfl rfl rfl rfl rfl) rfl fun a hF => q_skip hF (wanted_f hF rfl rfl rfl rfl rfl) rfl fun a hF => q_skip hF (wanted_u hF rfl rfl rfl) rfl fun a hF => q_skip hF (wanted_u hF rfl rfl rfl) rfl fun a hF => q_skip hF (wanted_u hF rfl rfl rfl) rfl fun a hF => q_skip hF (wanted_u hF rfl rfl rfl) rfl fun a hF => q_skip hF (wanted_f hF rfl rfl rfl rfl rfl) rfl fun a hF => q_x (v := (.bool true)) hF hS (ex_pick_t rfl rfl rfl) rfl rfl fun a hF => q_end (n_jn ?_)
      obtain rfl := someI hj2
      exact ⟨hF.sub ⟨rfl, rfl, rfl, rfl, rfl, rfl, trivial⟩, hS.mask [false]⟩
    ·have hj2 := cond_t hc4 hj2
     refine q_skip hF (wanted_f hF rfl rfl rfl hc4 rfl) rfl fun a hF => q_skip hF (wanted_f hF rfl rfl rfl hc4 rfl) rfl fun a hF => q_skip hF (wanted_f hF rfl rfl rfl hc4 rfl) rfl fun a hF => q_x (v := (.bool true)) hF hS (ex_pick_t rfl rfl hc4) rfl rfl fun a hF => q_x (v := (.bool true)) hF hS (ex_move rfl) rfl rfl fun a hF => q_skip hF (wanted_f hF rfl rfl rfl rfl rfl) rfl fun a hF => q_skip hF (wanted_f hF rfl rfl rfl rfl rfl) rfl fun a hF => q_skip hF (wanted_f hF rfl rfl rfl rfl rfl) rfl fun a hF => q_x (v := (.bool true)) hF hS (ex_pick_t rfl rfl rfl) rfl rfl fun a hF => q_x (v := (.bool true)) hF hS (ex_move rfl) rfl rfl fun a hF => q_skip hF (wanted_f hF rfl rfl rfl rfl rfl) rfl fun a hF => q_skip hF (wanted_f hF rfl rfl rfl rfl rfl) rfl fun a hF => q_skip hF (wanted_u hF rfl rfl rfl) rfl fun a hF => q_skip hF (wanted_u hF rfl rfl rfl) rfl fun a hF => q_skip hF (wanted_u hF rfl rfl rfl) rfl fun a hF => q_skip hF (wanted_u hF rfl rfl rfl) rfl fun a hF => q_skip hF (wanted_f hF rfl rfl rfl rfl rfl) rfl fun a hF => q_x (v := (.bool true)) hF hS (ex_pick_t rfl rfl rfl) rfl rfl fun a hF => q_end (n_jn ?_)
     obtain rfl := someI hj2
     exact ⟨hF.sub ⟨rfl, rfl, rfl, rfl, rfl, rfl, trivial⟩, hS.mask [false]⟩
   ·have hj2 := cond_t hc3 hj2
    refine q_skip hF (wanted_f hF rfl rfl rfl hc3 rfl) rfl fun a hF => q_skip hF (wanted_f hF rfl rfl rfl hc3 rfl) rfl fun a hF => q_skip hF (wanted_f hF rfl rfl rfl hc3 rfl) rfl fun a hF => q_skip hF (wanted_f hF rfl rfl rfl hc3 rfl) rfl fun a hF => q_x (v := (.bool true)) hF hS (ex_pick_t rfl rfl hc3) rfl rfl fun a hF => q_x (v := (.bool true)) hF hS (ex_move rfl) rfl rfl fun a hF => q_skip hF (wanted_f hF rfl rfl rfl rfl rfl) rfl fun a hF => q_skip hF (wanted_f hF rfl rfl rfl rfl rfl) rfl fun a hF => q_skip hF (wanted_f hF rfl rfl rfl rfl rfl) rfl fun a hF => q_x (v := (.bool true)) hF hS (ex_pick_t rfl rfl rfl) rfl rfl fun a hF => q_x (v := (.bool true)) hF hS (ex_move rfl) rfl rfl fun a hF => q_skip hF (wanted_f hF rfl rfl rfl rfl rfl) rfl fun a hF => q_skip hF (wanted_f hF rfl rfl rfl rfl rfl) rfl fun a hF => q_skip hF (wanted_f hF rfl rfl rfl rfl rfl) rfl fun a hF => q_x (v := (.bool true)) hF hS (ex_pick_t rfl rfl rfl) rfl rfl fun a hF => q_x (v := (.bool true)) hF hS (ex_move rfl) rfl rfl fun a hF => q_skip hF (wanted_f hF rfl rfl rfl rfl rfl) rfl fun a hF => q_skip hF (wanted_f hF rfl rfl rfl rfl rfl) rfl fun a hF => q_skip hF (wanted_u hF rfl rfl rfl) rfl fun a hF => q_skip hF (wanted_u hF rfl rfl rfl) rfl fun a hF => q_skip hF (wanted_u hF rfl rfl rfl) rfl fun a hF => q_skip hF (wanted_u hF rfl rfl rfl) rfl fun a hF => q_skip hF (wanted_f hF rfl rfl rfl rfl rfl) rfl fun a hF => q_x (v := (.bool true)) hF hS (ex_pick_t rfl rfl rfl) rfl rfl fun a hF => q_end (n_jn ?_)
    obtain rfl := someI hj2
    exact ⟨hF.sub ⟨rfl, rfl, rfl, rfl, rfl, rfl, trivial⟩, hS.mask [false]⟩
  ·rintro a w ⟨hF, hS⟩
   refine n_sq ?_
   rcases bcase (t_19) with hc8 | hc8
   ·have hr := cond_f hc8 hr
    refine q_cond_f hF rfl hc8 (q_skipc (n_sq (q_seq (q_seq (q_region (q_x (v := (.bool t_9.2)) hF hS (ex_move rfl) rfl rfl fun a hF => q_end (n_sq ?_)))))))
    obtain ⟨j9, hj9, hr⟩ := bindS hr
    refine q_join (fun a w => j9 = .inl () ∧ Fr a 159 [(1, s2.v)] ∧ St [] w0 w m10 []) ?_ ?_
    ·rcases bcase (t_9.2) with hc10 | hc10
     ·have hj9 := cond_f hc10 hj9
      refine q_cond_f hF rfl hc10 (q_skipc (n_jn ?_))
      obtain rfl := someI hj9
      exact ⟨rfl, hF.sub ⟨rfl, trivial⟩, hS⟩
     ·have hj9 := cond_t hc10 hj9
      refine q_cond_t hF rfl hc10 (q_seq (q_region (q_x (v := s6.v) hF hS (ex_move rfl) rfl rfl fun a hF => q_x (v := s7.v) hF hS (ex_move rfl) rfl rfl fun a hF => q_x (v := s11.v) hF hS (ex_move rfl) rfl rfl fun a hF => ?_)))
      obtain ⟨t_20, ht_20, hj9⟩ := bindS hj9
      refine q_call (vs := [s6.v, s7.v, s11.v]) hF hS Try.func25 (by kernel_rfl) rfl rfl rfl (c_impl_FailedEdits t_4.1 t_4.2 t_9.1 t_20 ht_20 _ m10 hS.vis s6 ((h6.mono hm8.le).mono hm10.le) s7 (h8.mono hm10.le) s11 h11) ?_
      rintro a w _ ⟨q22, s22, rfl, hR21, h22⟩ hF hS2
      have hS : St _ _ _ _ [q22] := hS.joinF hR21
      refine q_x (v := (.tuple #[s22.v, (.bool t_20.2)])) hF hS (ex_move rfl) rfl rfl fun a hF => q_x (v := s22.v) hF hS (ex_extract rfl rfl) rfl rfl fun a hF => q_x (v := (.bool t_20.2)) hF hS (ex_extract rfl rfl) rfl rfl fun a hF => q_x (v := s22.v) hF hS (ex_assign rfl) rfl rfl fun a hF => q_x (v := (.bool t_20.2)) hF hS (ex_assign rfl) rfl rfl fun a hF => q_end (n_sq (q_seq ?_))
      obtain ⟨t_23, hj11, hj9⟩ := bindS hj9
      refine q_join (fun a w => Fr a 159 [(1, s2.v), (103, (.bool t_23))] ∧ St [] w0 w m10 []) ?_ ?_
      ·refine q_region (q_x (v := (.bool t_20.2)) hF hS (ex_move rfl) rfl rfl fun a hF => q_x (v := (.bool (!t_20.2))) hF hS (ex_not rfl) rfl rfl fun a hF => q_x (v := (.bool (!t_20.2))) hF hS (ex_move rfl) rfl rfl fun a hF => ?_)
       rcases bcase (!t_20.2) with hc12 | hc12
       ·have hj11 := cond_f hc12 hj11
        refine q_xg (v := s22.v) hF hS (ex_move rfl) (wanted_t hF rfl rfl rfl hc12) rfl fun a hF => q_xg (v := (.int .i64 (goLen t_20.1))) hF hS (ex_len Try.underlying24 rfl h22.len) (wanted_t hF rfl rfl rfl hc12) rfl fun a hF => q_xg (v := (.bool ((goLen t_20.1) != 0))) hF hS (ex_ibin rfl rfl rfl) (wanted_t hF rfl rfl rfl hc12) rfl fun a hF => q_x (v := (.bool ((goLen t_20.1) != 0))) hF hS (ex_pick_f rfl rfl hc12) rfl rfl fun a hF => q_end (n_jn ?_)
        obtain rfl := someI hj11
        exact ⟨hF.sub ⟨rfl, rfl, trivial⟩, hS.mask [false]⟩
       ·have hj11 := cond_t hc12 hj11
        refine q_skip hF (wanted_f hF rfl rfl rfl hc12 rfl) rfl fun a hF => q_skip hF (wanted_f hF rfl rfl rfl hc12 rfl) rfl fun a hF => q_skip hF (wanted_f hF rfl rfl rfl hc12 rfl) rfl fun a hF => q_x (v := (.bool true)) hF hS (ex_pick_t rfl rfl hc12) rfl rfl fun a hF => q_end (n_jn ?_)
        obtain rfl := someI hj11
        exact ⟨hF.sub ⟨rfl, rfl, trivial⟩, hS.mask [false]⟩
      ·rintro a w ⟨hF, hS⟩
       refine n_sq ?_
       rcases bcase (t_23) with hc13 | hc13
       ·have hj9 := cond_f hc13 hj9
        refine q_cond_f hF rfl hc13 (q_skipc (n_jn ?_))
        obtain rfl := someI hj9
        exact ⟨rfl, hF.sub ⟨rfl, trivial⟩, hS⟩
       ·have hj9 := cond_t hc13 hj9
        refine q_cond_t hF rfl hc13 (q_seq (q_region (q_x (v := (.bool false)) hF hS (ex_assign rfl) rfl rfl fun a hF => q_end (n_sq (q_ret (r_jn ?_))))))
        obtain rfl := someI hj9
        refine r_sq ?_
        obtain rfl := someI hr
        exact ret_of hF hS rfl (.tmp rfl .nil) rfl
    ·rintro a w ⟨rfl, hF, hS⟩
     refine n_sq ?_
     refine q_seq (q_region (q_x (v := s2.v) hF hS (ex_move rfl) rfl rfl fun a hF => ?_))
     obtain ⟨t_24, ht_24, hr⟩ := bindS hr
     refine q_call (vs := [s2.v]) hF hS Try.func26 (by kernel_rfl) rfl rfl rfl (c_spec_DrawFailureCounts p_more t_24 ht_24 _ m10 hS.vis s2 (((h2.mono hm5.le).mono hm8.le).mono hm10.le)) ?_
     have hT := hS
     rintro a w _ ⟨m25, q27, q28, s26, s27, s28, rfl, hm25, hR25, h26, h27, h28⟩ hF hS2
     have hS : St _ _ _ _ [q27, q28] := hS.join hR25 hm25
     have hm25 := MLe.weakX (O0 := []) hT hm25
     refine q_x (v := (.tuple #[s26.v, s27.v, s28.v])) hF hS (ex_move rfl) rfl rfl fun a hF => q_x (v := s26.v) hF hS (ex_extract rfl rfl) rfl rfl fun a hF => q_x (v := s27.v) hF hS (ex_extract rfl rfl) rfl rfl fun a hF => q_x (v := s28.v) hF hS (ex_extract rfl rfl) rfl rfl fun a hF => q_x (v := s26.v) hF hS (ex_assign rfl) rfl rfl fun a hF => q_x (v := s27.v) hF hS (ex_assign rfl) rfl rfl fun a hF => q_x (v := s28.v) hF hS (ex_assign rfl) rfl rfl fun a hF => q_end (n_sq (q_seq (q_region (q_x (v := s26.v) hF hS (ex_move rfl) rfl rfl fun a hF => q_x (v := s27.v) hF hS (ex_move rfl) rfl rfl fun a hF => q_x (v := s28.v) hF hS (ex_move rfl) rfl rfl fun a hF => ?_))))
     obtain ⟨m30, hl30, hv30, hz30⟩ := hS.lend
     obtain ⟨t_29, ht_29, hr⟩ := bindS hr
     refine q_call (vs := [s26.v, s27.v, s28.v]) hF hS Try.func27 (by kernel_rfl) rfl rfl rfl (c_impl_FailureCounts t_24.1 t_24.2.1 t_24.2.2 t_29 ht_29 _ m30 hv30 s26 (h26.mono hl30) s27 (h27.froz hl30 (hz30 0 _ rfl)) s28 (h28.froz hl30 (hz30 1 _ rfl))) ?_
     rintro a w _ ⟨q32, s32, rfl, hR31, h32⟩ hF hS2
     have hS : St _ _ _ _ [q32, q27, q28] := hS.joinF hR31
     have h32 := h32.any m25
     refine q_x (v := (.tuple #[s32.v, (.bool t_29.2)])) hF hS (ex_move rfl) rfl rfl fun a hF => q_x (v := s32.v) hF hS (ex_extract rfl rfl) rfl rfl fun a hF => q_x (v := (.bool t_29.2)) hF hS (ex_extract rfl rfl) rfl rfl fun a hF => q_x (v := s32.v) hF hS (ex_assign rfl) rfl rfl fun a hF => q_x (v := (.bool t_29.2)) hF hS (ex_assign rfl) rfl rfl fun a hF => q_end (n_sq (q_seq (q_region (q_x (v := s26.v) hF hS (ex_move rfl) rfl rfl fun a hF => q_x (v := s27.v) hF hS (ex_move rfl) rfl rfl fun a hF => q_x (v := s28.v) hF hS (ex_move rfl) rfl rfl fun a hF => ?_))))
     obtain ⟨m34, hl34, hv34, hz34⟩ := hS.lend
     obtain ⟨t_33, ht_33, hr⟩ := bindS hr
     refine q_call (vs := [s26.v, s27.v, s28.v]) hF hS Try.func28 (by kernel_rfl) rfl rfl rfl (c_spec_FailureCounts t_24.1 t_24.2.1 t_24.2.2 t_33 ht_33 _ m34 hv34 s26 (h26.mono hl34) s27 (h27.froz hl34 (hz34 1 _ rfl)) s28 (h28.froz hl34 (hz34 2 _ rfl))) ?_
     rintro a w _ ⟨q36, s36, rfl, hR35, h36⟩ hF hS2
     have hS : St _ _ _ _ [q36, q32, q27, q28] := hS.joinF hR35
     have h36 := h36.any m25
     refine q_x (v := (.tuple #[s36.v, (.bool t_33.2)])) hF hS (ex_move rfl) rfl rfl fun a hF => q_x (v := s36.v) hF hS (ex_extract rfl rfl) rfl rfl fun a hF => q_x (v := (.bool t_33.2)) hF hS (ex_extract rfl rfl) rfl rfl fun a hF => q_x (v := s36.v) hF hS (ex_assign rfl) rfl rfl fun a hF => q_x (v := (.bool t_33.2)) hF hS (ex_assign rfl) rfl rfl fun a hF => q_end (n_sq (q_seq (q_seq ?_)))
     obtain ⟨t_39, hj14, hr⟩ := bindS hr
     refine q_join (fun a w => Fr a 159 [(17, s26.v), (18, s27.v), (19, s28.v), (20, s32.v), (21, (.bool t_29.2)), (132, (.bool t_39))] ∧ St [] w0 w m25 [q27, q28, q32]) ?_ ?_
     ·refine q_region (q_x (v := (.bool t_29.2)) hF hS (ex_move rfl) rfl rfl fun a hF => q_x (v := (.bool t_33.2)) hF hS (ex_move rfl) rfl rfl fun a hF => q_x (v := (.bool (t_29.2 != t_33.2))) hF hS (ex_bne Try.underlying4 rfl rfl) rfl rfl fun a hF => q_x (v := (.bool (t_29.2 != t_33.2))) hF hS (ex_move rfl) rfl rfl fun a hF => ?_)
      rcases bcase (t_29.2 != t_33.2) with hc15 | hc15
      ·have hj14 := cond_f hc15 hj14
       refine q_xg (v := s32.v) hF hS (ex_move rfl) (wanted_t hF rfl rfl rfl hc15) rfl fun a hF => q_xg (v := s36.v) hF hS (ex_move rfl) (wanted_t hF rfl rfl rfl hc15) rfl fun a hF => ?_
       obtain ⟨m38, hl38, hv38, hz38⟩ := hS.lend
       obtain ⟨t_37, ht_37, hj14⟩ := bindS hj14
       refine q_callg (vs := [s32.v, s36.v]) hF hS (wanted_t hF rfl rfl rfl hc15) Try.func24 (by kernel_rfl) rfl rfl rfl (c_laws_sameInts t_29.1 t_33.1 t_37 ht_37 _ m38 hv38 s32 (h32.froz hl38 (hz38 1 _ rfl)) s36 (h36.froz hl38 (hz38 0 _ rfl))) ?_
       rintro a w _ rfl hF hS
       refine q_xg (v := (.bool (!t_37))) hF hS (ex_not rfl) (wanted_t hF rfl rfl rfl hc15) rfl fun a hF => q_x (v := (.bool (!t_37))) hF hS (ex_pick_f rfl rfl hc15) rfl rfl fun a hF => q_end (n_jn ?_)
       obtain rfl := someI hj14
       exact ⟨hF.sub ⟨rfl, rfl, rfl, rfl, rfl, rfl, trivial⟩, hS.sel [2, 3, 1] (by decide)⟩
      ·have hj14 := cond_t hc15 hj14
       refine q_skip hF (wanted_f hF rfl rfl rfl hc15 rfl) rfl fun a hF => q_skip hF (wanted_f hF rfl rfl rfl hc15 rfl) rfl fun a hF => q_skip hF (wanted_f hF rfl rfl rfl hc15 rfl) rfl fun a hF => q_skip hF (wanted_f hF rfl rfl rfl hc15 rfl) rfl fun a hF => q_x (v := (.bool true)) hF hS (ex_pick_t rfl rfl hc15) rfl rfl fun a hF => q_end (n_jn ?_)
       obtain rfl := someI hj14
       exact ⟨hF.sub ⟨rfl, rfl, rfl, rfl, rfl, rfl, trivial⟩, hS.sel [2, 3, 1] (by decide)⟩
     ·rintro a w ⟨hF, hS⟩
      refine n_sq ?_
      rcases bcase (t_39) with hc16 | hc16
      ·have hr := cond_f hc16 hr
       refine q_cond_f hF rfl hc16 (q_skipc (n_sq (q_seq (q_seq (q_region (q_x (v := (.bool t_29.2)) hF hS (ex_move rfl) rfl rfl fun a hF => q_end (n_sq ?_)))))))
       rcases bcase (t_29.2) with hc17 | hc17
       ·have hr := cond_f hc17 hr
        refine q_cond_f hF rfl hc17 (q_skipc (n_sq (q_seq (q_region (q_x (v := (.bool true)) hF hS (ex_assign rfl) rfl rfl fun a hF => q_end (n_sq (q_ret ?_)))))))
        obtain rfl := someI hr
        exact ret_of hF hS rfl (.tmp rfl .nil) rfl
       ·have hr := cond_t hc17 hr
        refine q_cond_t hF rfl hc17 (q_seq (q_region (q_x (v := (.int .i64 0)) hF hS (ex_assign rfl) rfl rfl fun a hF => q_end (n_sq (q_seq (q_seq (q_region (q_x (v := s28.v) hF hS (ex_move rfl) rfl rfl fun a hF => q_x (v := (.int .i64 (goLen t_24.2.2))) hF hS (ex_len Try.underlying27 rfl h28.len) rfl rfl fun a hF => q_x (v := (.int .i64 0)) hF hS (ex_move rfl) rfl rfl fun a hF => q_end (n_sq (q_block ?_))))))))))
        obtain ⟨o18, hl18, hr⟩ := bindS hr
        refine q_loop (fun (s : Int × Int) a w => ∃ sum_40, ∃ t_41, s = (sum_40, t_41) ∧ Fr a 159 [(17, s26.v), (18, s27.v), (20, s32.v), (24, (.int .i64 sum_40)), (134, s28.v), (135, (.int .i64 (goLen t_24.2.2))), (136, (.int .i64 t_41))] ∧ St [] w0 w m25 [q27, q28, q32]) (fun (o : (Int) ⊕ (Bool)) e a w => ∃ sum_50, o = .inl sum_50 ∧ e = .exit 0 ∧ Fr a 159 [(20, s32.v), (24, (.int .i64 sum_50))] ∧ St [] w0 w m25 [q32]) hl18 ⟨_, _, rfl, hF.sub ⟨rfl, rfl, rfl, rfl, rfl, rfl, rfl, trivial⟩, hS⟩ ?_ ?_
        ·clear hF hS
         rintro s a w st ⟨sum_40, t_41, rfl, hF, hS⟩ hb18
         unfold laws_FnPassing_l1 at hb18
         refine q_seq (q_region (q_x (v := (.bool (decide (t_41 < (goLen t_24.2.2))))) hF hS (ex_ibin rfl rfl rfl) rfl rfl fun a hF => q_end (n_sq (q_seq ?_))))
         rcases bcase (decide (t_41 < (goLen t_24.2.2))) with hc19 | hc19
         ·have hb18 := cond_f hc19 hb18
          refine q_cond_f hF rfl hc19 (q_exit (x_sq ?_))
          obtain rfl := someI hb18
          exact ⟨nofun, .inl ⟨_, rfl, rfl, hF.sub ⟨rfl, rfl, trivial⟩, hS.mask [false, false, true]⟩⟩
         ·have hb18 := cond_t hc19 hb18
          refine q_cond_t hF rfl hc19 (q_skipc (n_sq (q_seq (q_block (q_seq (q_region ?_))))))
          obtain ⟨e_42, he_42, hb18⟩ := bindS hb18
          obtain ⟨vs43, at43, d43⟩ := h28.at he_42 3 rfl
          obtain ⟨s44, rfl, h44⟩ : ∃ s44 : Sl, vs43 = [(.int .i64 e_42.Area), (.int .i64 e_42.House), s44.v] ∧ Rd m25 s44 e_42.Values := d43
          refine q_x (v := (elP s28 (t_41.toNat * 3))) hF hS (ex_indexAddr Try.underlying27 sz36 rfl rfl (h28.idx he_42)) rfl rfl fun a hF => q_x (v := (.agg #[(.int .i64 e_42.Area), (.int .i64 e_42.House), s44.v])) hF hS (ex_loadEA (us := [(.int .i64 e_42.Area), (.int .i64 e_42.House), s44.v]) 0 Try.underlying36 rfl sz36 rfl (at43.at 1 rfl) rfl rfl rfl) rfl rfl fun a hF => q_alloc (cs := [(.int .i64 0), (.int .i64 0), nilS.v]) hF hS rfl rfl rfl fun a w b45 hF hS => q_store (vs := [(.int .i64 e_42.Area), (.int .i64 e_42.House), s44.v]) (cs' := [(.int .i64 e_42.Area), (.int .i64 e_42.House), s44.v]) 0 0 hF hS sz36 rfl rfl rfl rfl rfl rfl rfl rfl fun a w hF hS => q_end (n_sq (q_seq (q_region (q_x (v := s26.v) hF hS (ex_move rfl) rfl rfl fun a hF => q_x (v := s27.v) hF hS (ex_move rfl) rfl rfl fun a hF => q_x (v := (.pointer (some ⟨b45, 2, none⟩))) hF hS (ex_fieldAddr Try.underlying36 rfl sz24 rfl rfl) rfl rfl fun a hF => q_x (v := s44.v) hF hS (ex_load1 0 0 Try.underlying24 rfl rfl rfl rfl) rfl rfl fun a hF => ?_))))
          obtain ⟨m47, hl47, hv47, hz47⟩ := hS.lend
          obtain ⟨t_46, ht_46, hb18⟩ := bindS hb18
          refine q_call (vs := [s26.v, s27.v, s44.v]) hF hS Try.func25 (by kernel_rfl) rfl rfl rfl (c_impl_FailedEdits t_24.1 t_24.2.1 e_42.Values t_46 ht_46 _ m47 hv47 s26 (h26.mono hl47) s27 (h27.froz hl47 (hz47 1 _ rfl)) s44 (h44.mono hl47)) ?_
          rintro a w _ ⟨q49, s49, rfl, hR48, h49⟩ hF hS2
          have hS : St _ _ _ _ [q49, [⟨b45, [(.int .i64 e_42.Area), (.int .i64 e_42.House), s44.v], 36⟩], q27, q28, q32] := hS.joinF hR48
          have h49 := h49.any m25
          refine q_x (v := (.tuple #[s49.v, (.bool t_46.2)])) hF hS (ex_move rfl) rfl rfl fun a hF => q_x (v := s49.v) hF hS (ex_extract rfl rfl) rfl rfl fun a hF => q_x (v := (.bool t_46.2)) hF hS (ex_extract rfl rfl) rfl rfl fun a hF => q_x (v := s49.v) hF hS (ex_assign rfl) rfl rfl fun a hF => q_x (v := (.bool t_46.2)) hF hS (ex_assign rfl) rfl rfl fun a hF => q_end (n_sq (q_seq (q_seq (q_region (q_x (v := (.bool t_46.2)) hF hS (ex_move rfl) rfl rfl fun a hF => q_x (v := (.bool (!t_46.2))) hF hS (ex_not rfl) rfl rfl fun a hF => q_end (n_sq ?_))))))
          rcases bcase (!t_46.2) with hc20 | hc20
          ·have hb18 := cond_f hc20 hb18
           refine q_cond_f hF rfl hc20 (q_skipc (n_sq (q_region (q_x (v := (.int .i64 sum_40)) hF hS (ex_move rfl) rfl rfl fun a hF => q_x (v := s49.v) hF hS (ex_move rfl) rfl rfl fun a hF => q_x (v := (.int .i64 (goLen t_46.1))) hF hS (ex_len Try.underlying24 rfl h49.len) rfl rfl fun a hF => q_x (v := (.int .i64 (w64 (sum_40 + (goLen t_46.1))))) hF hS (ex_ibin rfl rfl rfl) rfl rfl fun a hF => q_x (v := (.int .i64 (w64 (sum_40 + (goLen t_46.1))))) hF hS (ex_assign rfl) rfl rfl fun a hF => q_end (n_ib (n_sq (q_region (q_x (v := (.int .i64 (w64 (t_41 + 1)))) hF hS (ex_ibin rfl rfl rfl) rfl rfl fun a hF => q_x (v := (.int .i64 (w64 (t_41 + 1)))) hF hS (ex_move rfl) rfl rfl fun a hF => q_end ?_))))))))
           obtain rfl := someI hb18
           exact ⟨rfl, _, _, rfl, hF.sub ⟨rfl, rfl, rfl, rfl, rfl, rfl, rfl, trivial⟩, hS.mask [false, false, true, true, true]⟩
          ·have hb18 := cond_t hc20 hb18
           refine q_cond_t hF rfl hc20 (q_seq (q_region (q_x (v := (.bool false)) hF hS (ex_assign rfl) rfl rfl fun a hF => q_end (n_sq (q_ret (r_sq (r_ib (r_sq ?_))))))))
           obtain rfl := someI hb18
           refine ⟨nofun, .inr fun ho => ?_⟩
           subst ho
           refine r_ib (r_sq (r_sq ?_))
           obtain rfl := someI hr
           exact ret_of hF hS rfl (.tmp rfl .nil) rfl
        ·rintro e a w ⟨sum_50, rfl, rfl, hF, hS⟩
         refine x_ib (n_sq ?_)
         refine q_seq (q_region (q_x (v := (.int .i64 sum_50)) hF hS (ex_move rfl) rfl rfl fun a hF => q_x (v := s32.v) hF hS (ex_move rfl) rfl rfl fun a hF => ?_))
         obtain ⟨m52, hl52, hv52, hz52⟩ := hS.lend
         obtain ⟨t_51, ht_51, hr⟩ := bindS hr
         refine q_call (vs := [s32.v]) hF hS Try.func29 (by kernel_rfl) rfl rfl rfl (c_laws_pSum t_29.1 t_51 ht_51 _ m52 hv52 s32 (h32.froz hl52 (hz52 0 _ rfl))) ?_
         rintro a w _ rfl hF hS
         refine q_x (v := (.bool (sum_50 == t_51))) hF hS (ex_ibin rfl rfl rfl) rfl rfl fun a hF => q_x (v := (.bool (sum_50 == t_51))) hF hS (ex_assign rfl) rfl rfl fun a hF => q_end (n_sq (q_ret (r_sq ?_)))
         obtain rfl := someI hr
         exact ret_of hF hS rfl (.tmp rfl .nil) rfl
      ·have hr := cond_t hc16 hr
       refine q_cond_t hF rfl hc16 (q_seq (q_region (q_x (v := (.bool false)) hF hS (ex_assign rfl) rfl rfl fun a hF => q_end (n_sq (q_ret (r_sq ?_))))))
       obtain rfl := someI hr
       exact ret_of hF hS rfl (.tmp rfl .nil) rfl
   ·have hr := cond_t hc8 hr
    refine q_cond_t hF rfl hc8 (q_seq (q_region (q_x (v := (.bool false)) hF hS (ex_assign rfl) rfl rfl fun a hF => q_end (n_sq (q_ret (r_sq ?_))))))
    obtain rfl := someI hr
    exact ret_of hF hS rfl (.tmp rfl .nil) rfl
 ·have hr := cond_t hc1 hr
  refine q_cond_t hF rfl hc1 (q_seq (q_region (q_x (v := (.bool true)) hF hS (ex_assign rfl) rfl rfl fun a hF => q_end (n_sq (q_ret (r_sq ?_))))))
  obtain rfl := someI hr
  exact ret_of hF hS rfl (.tmp rfl .nil) rfl

end Go.Proofs.Ytebjhiflnemkhaa
