/- The walks of the functions: each returns what its plain function says. -/
import Derived.Test.YtdbgmkfniichdaaFWalks1
namespace Go.Proofs.Ytdbgmkfniichdaa
open Go.Gx Go.Gx.F Go.RowKit
set_option linter.all false
set_option maxRecDepth 10000


theorem c_impl_MeetOf (p_g : impl_Geo) (p_i : Int) (p_k : Int) (r : Int × Bool) (hr : impl_MeetOf p_g p_i p_k = some r) (w0 : World) (m : Mem) (hv : Vis m w0) (s1 : Sl) (h1 : Rd m s1 p_g.Parents) :
    Ret Try.prog 74 [(.agg #[s1.v]), (.int .i64 p_i), (.int .i64 p_k)] w0 (fun v _ => v = (.tuple #[(.int .i64 r.1), (.bool r.2)])) := by
  unfold impl_MeetOf at hr
  refine ret_start Try.func74 rfl 40 rfl rfl m hv fun a hF hS => ?_
  refine q_seq ?_
  refine q_region ?_
  refine q_box (cs := [s1.v]) hF hS rfl rfl rfl fun a w b2 hF hS => ?_
  refine q_x (v := (.int .i64 0)) hF hS (ex_assign rfl) rfl rfl fun a hF => ?_
  refine q_x (v := (.bool false)) hF hS (ex_assign rfl) rfl rfl fun a hF => ?_
  refine q_end (n_sq ?_)
  refine q_seq ?_
  refine q_seq ?_
  obtain ⟨t_6, hj1, hr⟩ := bindS hr
  refine q_join (fun a w => Fr a 40 [(1, (.int .i64 p_i)), (2, (.int .i64 p_k)), (3, (.pointer (some ⟨b2, 0, none⟩))), (22, (.bool t_6))] ∧ St [] w0 w m [[⟨b2, [s1.v], 89⟩]]) ?_ ?_
  · refine q_region ?_
    refine q_x (v := (.agg #[s1.v])) hF hS (ex_loadA (vs := [s1.v]) 0 0 Try.underlying89 rfl sz89 rfl rfl rfl rfl) rfl rfl fun a hF => ?_
    obtain ⟨t_3, ht_3, hj1⟩ := bindS hj1
    refine q_call (vs := [(.agg #[s1.v])]) hF hS Try.func144 (by kernel_rfl) rfl rfl rfl (c_impl_IsGeo p_g t_3 ht_3 _ m hS.vis s1 h1) ?_
    rintro a w _ rfl hF hS
    refine q_x (v := (.bool (!t_3))) hF hS (ex_not rfl) rfl rfl fun a hF => ?_
    refine q_x (v := (.bool (!t_3))) hF hS (ex_move rfl) rfl rfl fun a hF => ?_
    rcases bcase (!t_3) with hc2 | hc2
    · have hj1 := cond_f hc2 hj1
      refine q_xg (v := (.agg #[s1.v])) hF hS (ex_loadA (vs := [s1.v]) 0 0 Try.underlying89 rfl sz89 rfl rfl rfl rfl) (wanted_t hF rfl rfl rfl hc2) rfl fun a hF => ?_
      refine q_xg (v := (.int .i64 p_i)) hF hS (ex_move rfl) (wanted_t hF rfl rfl rfl hc2) rfl fun a hF => ?_
      obtain ⟨t_4, ht_4, hj1⟩ := bindS hj1
      refine q_callg (vs := [(.agg #[s1.v]), (.int .i64 p_i)]) hF hS (wanted_t hF rfl rfl rfl hc2) Try.func145 (by kernel_rfl) rfl rfl rfl (c_impl_isArea p_g p_i t_4 ht_4 _ m hS.vis s1 h1) ?_
      rintro a w _ rfl hF hS
      refine q_xg (v := (.bool (!t_4))) hF hS (ex_not rfl) (wanted_t hF rfl rfl rfl hc2) rfl fun a hF => ?_
      refine q_x (v := (.bool (!t_4))) hF hS (ex_pick_f rfl rfl hc2) rfl rfl fun a hF => ?_
      refine q_x (v := (.bool (!t_4))) hF hS (ex_move rfl) rfl rfl fun a hF => ?_
      rcases bcase (!t_4) with hc3 | hc3
      · have hj1 := cond_f hc3 hj1
        refine q_xg (v := (.agg #[s1.v])) hF hS (ex_loadA (vs := [s1.v]) 0 0 Try.underlying89 rfl sz89 rfl rfl rfl rfl) (wanted_t hF rfl rfl rfl hc3) rfl fun a hF => ?_
        refine q_xg (v := (.int .i64 p_k)) hF hS (ex_move rfl) (wanted_t hF rfl rfl rfl hc3) rfl fun a hF => ?_
        obtain ⟨t_5, ht_5, hj1⟩ := bindS hj1
        refine q_callg (vs := [(.agg #[s1.v]), (.int .i64 p_k)]) hF hS (wanted_t hF rfl rfl rfl hc3) Try.func145 (by kernel_rfl) rfl rfl rfl (c_impl_isArea p_g p_k t_5 ht_5 _ m hS.vis s1 h1) ?_
        rintro a w _ rfl hF hS
        refine q_xg (v := (.bool (!t_5))) hF hS (ex_not rfl) (wanted_t hF rfl rfl rfl hc3) rfl fun a hF => ?_
        refine q_x (v := (.bool (!t_5))) hF hS (ex_pick_f rfl rfl hc3) rfl rfl fun a hF => ?_
        refine q_end (n_jn ?_)
        obtain rfl := someI hj1
        exact ⟨hF.sub ⟨rfl, rfl, rfl, rfl, trivial⟩, hS⟩
      · have hj1 := cond_t hc3 hj1
        refine q_skip hF (wanted_f hF rfl rfl rfl hc3 rfl) rfl fun a hF => ?_
        refine q_skip hF (wanted_f hF rfl rfl rfl hc3 rfl) rfl fun a hF => ?_
        refine q_skip hF (wanted_f hF rfl rfl rfl hc3 rfl) rfl fun a hF => ?_
        refine q_skip hF (wanted_f hF rfl rfl rfl hc3 rfl) rfl fun a hF => ?_
        refine q_x (v := (.bool true)) hF hS (ex_pick_t rfl rfl hc3) rfl rfl fun a hF => ?_
        refine q_end (n_jn ?_)
        obtain rfl := someI hj1
        exact ⟨hF.sub ⟨rfl, rfl, rfl, rfl, trivial⟩, hS⟩
    · have hj1 := cond_t hc2 hj1
      refine q_skip hF (wanted_f hF rfl rfl rfl hc2 rfl) rfl fun a hF => ?_
      refine q_skip hF (wanted_f hF rfl rfl rfl hc2 rfl) rfl fun a hF => ?_
      refine q_skip hF (wanted_f hF rfl rfl rfl hc2 rfl) rfl fun a hF => ?_
      refine q_skip hF (wanted_f hF rfl rfl rfl hc2 rfl) rfl fun a hF => ?_
      refine q_x (v := (.bool true)) hF hS (ex_pick_t rfl rfl hc2) rfl rfl fun a hF => ?_
      refine q_x (v := (.bool true)) hF hS (ex_move rfl) rfl rfl fun a hF => ?_
      refine q_skip hF (wanted_f hF rfl rfl rfl rfl rfl) rfl fun a hF => ?_
      refine q_skip hF (wanted_f hF rfl rfl rfl rfl rfl) rfl fun a hF => ?_
      refine q_skip hF (wanted_f hF rfl rfl rfl rfl rfl) rfl fun a hF => ?_
      refine q_skip hF (wanted_f hF rfl rfl rfl rfl rfl) rfl fun a hF => ?_
      refine q_x (v := (.bool true)) hF hS (ex_pick_t rfl rfl rfl) rfl rfl fun a hF => ?_
      refine q_end (n_jn ?_)
      obtain rfl := someI hj1
      exact ⟨hF.sub ⟨rfl, rfl, rfl, rfl, trivial⟩, hS⟩
  · rintro a w ⟨hF, hS⟩
    refine n_sq ?_
    rcases bcase (t_6) with hc4 | hc4
    · have hr := cond_f hc4 hr
      refine q_cond_f hF rfl hc4 ?_
      refine q_skipc (n_sq ?_)
      refine q_seq ?_
      refine q_block ?_
      obtain ⟨i_15, hl5, hr⟩ := bindS hr
      refine q_loop (fun (s : Int × Int) a w => ∃ i_7, ∃ k_8, s = (i_7, k_8) ∧ Fr a 40 [(1, (.int .i64 i_7)), (2, (.int .i64 k_8)), (3, (.pointer (some ⟨b2, 0, none⟩)))] ∧ St [] w0 w m [[⟨b2, [s1.v], 89⟩]]) (fun (i_15 : Int) e a w => e = .exit 0 ∧ Fr a 40 [(1, (.int .i64 i_15))] ∧ St [] w0 w m []) hl5 ⟨_, _, rfl, hF.sub ⟨rfl, rfl, rfl, trivial⟩, hS⟩ ?_ ?_
      · clear hF hS
        rintro s a w st ⟨i_7, k_8, rfl, hF, hS⟩ hb5
        unfold impl_MeetOf_l1 at hb5
        refine q_seq ?_
        refine q_seq ?_
        refine q_region ?_
        refine q_x (v := (.int .i64 i_7)) hF hS (ex_move rfl) rfl rfl fun a hF => ?_
        refine q_x (v := (.int .i64 k_8)) hF hS (ex_move rfl) rfl rfl fun a hF => ?_
        refine q_x (v := (.bool (i_7 != k_8))) hF hS (ex_ibin rfl rfl rfl) rfl rfl fun a hF => ?_
        refine q_end (n_sq ?_)
        rcases bcase (i_7 != k_8) with hc6 | hc6
        · have hb5 := cond_f hc6 hb5
          refine q_cond_f hF rfl hc6 ?_
          refine q_exit (x_sq ?_)
          obtain rfl := someI hb5
          exact ⟨nofun, .inl ⟨rfl, hF.sub ⟨rfl, trivial⟩, hS.mask [false]⟩⟩
        · have hb5 := cond_t hc6 hb5
          refine q_cond_t hF rfl hc6 ?_
          refine q_skipc (n_sq ?_)
          refine q_block ?_
          refine q_seq ?_
          refine q_region ?_
          refine q_x (v := (.int .i64 i_7)) hF hS (ex_move rfl) rfl rfl fun a hF => ?_
          refine q_x (v := (.int .i64 k_8)) hF hS (ex_move rfl) rfl rfl fun a hF => ?_
          refine q_x (v := (.bool (decide (k_8 < i_7)))) hF hS (ex_ibin rfl rfl rfl) rfl rfl fun a hF => ?_
          refine q_end (n_sq ?_)
          obtain ⟨j7, hj7, hb5⟩ := bindS hb5
          refine q_join (fun a w => ∃ i_13, ∃ k_14, j7 = (i_13, k_14) ∧ Fr a 40 [(1, (.int .i64 i_13)), (2, (.int .i64 k_14)), (3, (.pointer (some ⟨b2, 0, none⟩)))] ∧ St [] w0 w m [[⟨b2, [s1.v], 89⟩]]) ?_ ?_
          · rcases bcase (decide (k_8 < i_7)) with hc8 | hc8
            · have hj7 := cond_f hc8 hj7
              refine q_cond_f hF rfl hc8 ?_
              refine q_region ?_
              refine q_x (v := (.pointer (some ⟨b2, 0, none⟩))) hF hS (ex_fieldAddr Try.underlying89 rfl sz42 rfl rfl) rfl rfl fun a hF => ?_
              refine q_x (v := s1.v) hF hS (ex_load1 0 0 Try.underlying42 rfl rfl rfl rfl) rfl rfl fun a hF => ?_
              refine q_x (v := (.int .i64 k_8)) hF hS (ex_move rfl) rfl rfl fun a hF => ?_
              obtain ⟨e_9, he_9, hj7⟩ := bindS hj7
              obtain ⟨vs10, at10, d10⟩ := h1.at he_9 1 rfl
              obtain rfl : vs10 = [(.int .i64 e_9)] := d10
              refine q_x (v := (elP s1 (k_8.toNat * 1))) hF hS (ex_indexAddr Try.underlying42 sz3 rfl rfl (h1.idx he_9)) rfl rfl fun a hF => ?_
              refine q_x (v := (.int .i64 e_9)) hF hS (ex_loadE1 0 Try.underlying3 rfl rfl ((at10).at) rfl rfl) rfl rfl fun a hF => ?_
              refine q_x (v := (.int .i64 e_9)) hF hS (ex_assign rfl) rfl rfl fun a hF => ?_
              refine q_end (n_jn ?_)
              obtain rfl := someI hj7
              exact ⟨_, _, rfl, hF.sub ⟨rfl, rfl, rfl, trivial⟩, hS⟩
            · have hj7 := cond_t hc8 hj7
              refine q_cond_t hF rfl hc8 ?_
              refine q_region ?_
              refine q_x (v := (.pointer (some ⟨b2, 0, none⟩))) hF hS (ex_fieldAddr Try.underlying89 rfl sz42 rfl rfl) rfl rfl fun a hF => ?_
              refine q_x (v := s1.v) hF hS (ex_load1 0 0 Try.underlying42 rfl rfl rfl rfl) rfl rfl fun a hF => ?_
              refine q_x (v := (.int .i64 i_7)) hF hS (ex_move rfl) rfl rfl fun a hF => ?_
              obtain ⟨e_11, he_11, hj7⟩ := bindS hj7
              obtain ⟨vs12, at12, d12⟩ := h1.at he_11 1 rfl
              obtain rfl : vs12 = [(.int .i64 e_11)] := d12
              refine q_x (v := (elP s1 (i_7.toNat * 1))) hF hS (ex_indexAddr Try.underlying42 sz3 rfl rfl (h1.idx he_11)) rfl rfl fun a hF => ?_
              refine q_x (v := (.int .i64 e_11)) hF hS (ex_loadE1 0 Try.underlying3 rfl rfl ((at12).at) rfl rfl) rfl rfl fun a hF => ?_
              refine q_x (v := (.int .i64 e_11)) hF hS (ex_assign rfl) rfl rfl fun a hF => ?_
              refine q_end (n_jn ?_)
              obtain rfl := someI hj7
              exact ⟨_, _, rfl, hF.sub ⟨rfl, rfl, rfl, trivial⟩, hS⟩
          · rintro a w ⟨i_13, k_14, rfl, hF, hS⟩
            refine n_ib ?_
            obtain rfl := someI hb5
            exact ⟨rfl, _, _, rfl, hF.sub ⟨rfl, rfl, rfl, trivial⟩, hS⟩
      · rintro e a w ⟨rfl, hF, hS⟩
        refine x_ib (n_sq ?_)
        refine q_seq ?_
        refine q_region ?_
        refine q_x (v := (.int .i64 i_15)) hF hS (ex_move rfl) rfl rfl fun a hF => ?_
        refine q_x (v := (.int .i64 i_15)) hF hS (ex_assign rfl) rfl rfl fun a hF => ?_
        refine q_x (v := (.bool true)) hF hS (ex_assign rfl) rfl rfl fun a hF => ?_
        refine q_end (n_sq (q_ret ?_))
        obtain rfl := someI hr
        exact ret_of hF hS rfl (.tmp rfl (.tmp rfl .nil)) rfl
    · have hr := cond_t hc4 hr
      refine q_cond_t hF rfl hc4 ?_
      refine q_seq ?_
      refine q_region ?_
      refine q_x (v := (.int .i64 0)) hF hS (ex_assign rfl) rfl rfl fun a hF => ?_
      refine q_x (v := (.bool false)) hF hS (ex_assign rfl) rfl rfl fun a hF => ?_
      refine q_end (n_sq (q_ret (r_sq ?_)))
      obtain rfl := someI hr
      exact ret_of hF hS rfl (.tmp rfl (.tmp rfl .nil)) rfl

theorem c_spec_MeetOf (p_g : impl_Geo) (p_i : Int) (p_k : Int) (r : Int × Bool) (hr : spec_MeetOf p_g p_i p_k = some r) (w0 : World) (m : Mem) (hv : Vis m w0) (s1 : Sl) (h1 : Rd m s1 p_g.Parents) :
    Ret Try.prog 75 [(.agg #[s1.v]), (.int .i64 p_i), (.int .i64 p_k)] w0 (fun v _ => v = (.tuple #[(.int .i64 r.1), (.bool r.2)])) := by
  unfold spec_MeetOf at hr
  refine ret_start Try.func75 rfl 56 rfl rfl m hv fun a hF hS => ?_
  refine q_seq ?_
  refine q_region ?_
  refine q_box (cs := [s1.v]) hF hS rfl rfl rfl fun a w b2 hF hS => ?_
  refine q_x (v := (.int .i64 0)) hF hS (ex_assign rfl) rfl rfl fun a hF => ?_
  refine q_x (v := (.bool false)) hF hS (ex_assign rfl) rfl rfl fun a hF => ?_
  refine q_end (n_sq ?_)
  refine q_seq ?_
  refine q_seq ?_
  obtain ⟨t_5, hj1, hr⟩ := bindS hr
  refine q_join (fun a w => Fr a 56 [(1, (.int .i64 p_i)), (2, (.int .i64 p_k)), (3, (.pointer (some ⟨b2, 0, none⟩))), (21, (.bool t_5))] ∧ St [] w0 w m [[⟨b2, [s1.v], 89⟩]]) ?_ ?_
  · refine q_region ?_
    refine q_x (v := (.agg #[s1.v])) hF hS (ex_loadA (vs := [s1.v]) 0 0 Try.underlying89 rfl sz89 rfl rfl rfl rfl) rfl rfl fun a hF => ?_
    refine q_x (v := (.int .i64 p_i)) hF hS (ex_move rfl) rfl rfl fun a hF => ?_
    obtain ⟨t_3, ht_3, hj1⟩ := bindS hj1
    refine q_call (vs := [(.agg #[s1.v]), (.int .i64 p_i)]) hF hS Try.func147 (by kernel_rfl) rfl rfl rfl (c_spec_gArea p_g p_i t_3 ht_3 _ m hS.vis s1 h1) ?_
    rintro a w _ rfl hF hS
    refine q_x (v := (.bool (!t_3))) hF hS (ex_not rfl) rfl rfl fun a hF => ?_
    refine q_x (v := (.bool (!t_3))) hF hS (ex_move rfl) rfl rfl fun a hF => ?_
    rcases bcase (!t_3) with hc2 | hc2
    · have hj1 := cond_f hc2 hj1
      refine q_xg (v := (.agg #[s1.v])) hF hS (ex_loadA (vs := [s1.v]) 0 0 Try.underlying89 rfl sz89 rfl rfl rfl rfl) (wanted_t hF rfl rfl rfl hc2) rfl fun a hF => ?_
      refine q_xg (v := (.int .i64 p_k)) hF hS (ex_move rfl) (wanted_t hF rfl rfl rfl hc2) rfl fun a hF => ?_
      obtain ⟨t_4, ht_4, hj1⟩ := bindS hj1
      refine q_callg (vs := [(.agg #[s1.v]), (.int .i64 p_k)]) hF hS (wanted_t hF rfl rfl rfl hc2) Try.func147 (by kernel_rfl) rfl rfl rfl (c_spec_gArea p_g p_k t_4 ht_4 _ m hS.vis s1 h1) ?_
      rintro a w _ rfl hF hS
      refine q_xg (v := (.bool (!t_4))) hF hS (ex_not rfl) (wanted_t hF rfl rfl rfl hc2) rfl fun a hF => ?_
      refine q_x (v := (.bool (!t_4))) hF hS (ex_pick_f rfl rfl hc2) rfl rfl fun a hF => ?_
      refine q_end (n_jn ?_)
      obtain rfl := someI hj1
      exact ⟨hF.sub ⟨rfl, rfl, rfl, rfl, trivial⟩, hS⟩
    · have hj1 := cond_t hc2 hj1
      refine q_skip hF (wanted_f hF rfl rfl rfl hc2 rfl) rfl fun a hF => ?_
      refine q_skip hF (wanted_f hF rfl rfl rfl hc2 rfl) rfl fun a hF => ?_
      refine q_skip hF (wanted_f hF rfl rfl rfl hc2 rfl) rfl fun a hF => ?_
      refine q_skip hF (wanted_f hF rfl rfl rfl hc2 rfl) rfl fun a hF => ?_
      refine q_x (v := (.bool true)) hF hS (ex_pick_t rfl rfl hc2) rfl rfl fun a hF => ?_
      refine q_end (n_jn ?_)
      obtain rfl := someI hj1
      exact ⟨hF.sub ⟨rfl, rfl, rfl, rfl, trivial⟩, hS⟩
  · rintro a w ⟨hF, hS⟩
    refine n_sq ?_
    rcases bcase (t_5) with hc3 | hc3
    · have hr := cond_f hc3 hr
      refine q_cond_f hF rfl hc3 ?_
      refine q_skipc (n_sq ?_)
      refine q_seq ?_
      refine e_region [] mixed fun w' hw' => ?_
      have hS := hS.below hw'
      refine e_x (v := (.agg #[s1.v])) 0 hF hS rfl (ex_loadA (vs := [s1.v]) 0 0 Try.underlying89 rfl sz89 rfl rfl rfl rfl) rfl rfl (by kernel_rfl) (by kernel_rfl) (by kernel_rfl) (by kernel_rfl) fun a hF => ?_
      refine e_p (v := (.int .i64 p_i)) 1 hF rfl (ex_move rfl) rfl rfl (by kernel_rfl) (by kernel_rfl) (by kernel_rfl) fun a hF => ?_
      refine e_x (v := (.agg #[s1.v])) 3 hF hS rfl (ex_loadA (vs := [s1.v]) 0 0 Try.underlying89 rfl sz89 rfl rfl rfl rfl) rfl rfl (by kernel_rfl) (by kernel_rfl) (by kernel_rfl) (by kernel_rfl) fun a hF => ?_
      refine e_p (v := (.int .i64 p_k)) 4 hF rfl (ex_move rfl) rfl rfl (by kernel_rfl) (by kernel_rfl) (by kernel_rfl) fun a hF => ?_
      refine e_one 2 (by kernel_rfl) ?_
      obtain ⟨t_12, ht_12, hr⟩ := bindS hr
      refine e_call (vs := [(.agg #[s1.v]), (.int .i64 p_i)]) hF hS rfl Try.func148 (by kernel_rfl) rfl rfl rfl (c_spec_gPath p_g p_i t_12 ht_12 _ m hS.vis s1 h1) ?_
      rintro a w _ ⟨q14, s14, rfl, hR13, h14⟩ hF hS2
      have hS : St _ _ _ _ [q14, [⟨b2, [s1.v], 89⟩]] := hS.joinF hR13
      refine e_one 5 (by kernel_rfl) ?_
      obtain ⟨t_15, ht_15, hr⟩ := bindS hr
      refine e_call (vs := [(.agg #[s1.v]), (.int .i64 p_k)]) hF hS rfl Try.func148 (by kernel_rfl) rfl rfl rfl (c_spec_gPath p_g p_k t_15 ht_15 _ m hS.vis s1 h1) ?_
      rintro a w _ ⟨q17, s17, rfl, hR16, h17⟩ hF hS2
      have hS : St _ _ _ _ [q17, q14, [⟨b2, [s1.v], 89⟩]] := hS.joinF hR16
      refine e_p (v := s14.v) 6 hF rfl (ex_assign rfl) rfl rfl (by kernel_rfl) (by kernel_rfl) (by kernel_rfl) fun a hF => ?_
      refine e_p (v := s17.v) 7 hF rfl (ex_assign rfl) rfl rfl (by kernel_rfl) (by kernel_rfl) (by kernel_rfl) fun a hF => ?_
      refine e_end (by kernel_rfl) (n_sq ?_) _
      refine q_seq ?_
      refine q_region ?_
      refine q_x (v := (.int .i64 0)) hF hS (ex_assign rfl) rfl rfl fun a hF => ?_
      refine q_end (n_sq ?_)
      refine q_seq ?_
      refine q_seq ?_
      refine q_region ?_
      refine q_x (v := (.int .i64 0)) hF hS (ex_assign rfl) rfl rfl fun a hF => ?_
      refine q_end (n_sq ?_)
      refine q_block ?_
      obtain ⟨last_27, hl4, hr⟩ := bindS hr
      refine q_loop (fun (s : Int × Int) a w => ∃ last_18, ∃ n_19, s = (last_18, n_19) ∧ Fr a 56 [(8, s14.v), (9, s17.v), (10, (.int .i64 last_18)), (11, (.int .i64 n_19))] ∧ St [] w0 w m [q17, q14]) (fun (last_27 : Int) e a w => e = .exit 0 ∧ Fr a 56 [(10, (.int .i64 last_27))] ∧ St [] w0 w m []) hl4 ⟨_, _, rfl, hF.sub ⟨rfl, rfl, rfl, rfl, trivial⟩, hS.mask [true, true, false]⟩ ?_ ?_
      · clear hF hS
        rintro s a w st ⟨last_18, n_19, rfl, hF, hS⟩ hb4
        unfold spec_MeetOf_l1 at hb4
        refine q_seq ?_
        refine q_seq ?_
        obtain ⟨t_24, hj5, hb4⟩ := bindS hb4
        refine q_join (fun a w => Fr a 56 [(8, s14.v), (9, s17.v), (10, (.int .i64 last_18)), (11, (.int .i64 n_19)), (48, (.bool t_24))] ∧ St [] w0 w m [q14, q17]) ?_ ?_
        · refine e_region [] mixed fun w' hw' => ?_
          have hS := hS.below hw'
          refine e_p (v := (.int .i64 n_19)) 0 hF rfl (ex_move rfl) rfl rfl (by kernel_rfl) (by kernel_rfl) (by kernel_rfl) fun a hF => ?_
          refine e_p (v := s14.v) 1 hF rfl (ex_move rfl) rfl rfl (by kernel_rfl) (by kernel_rfl) (by kernel_rfl) fun a hF => ?_
          refine e_p (v := (.int .i64 (goLen t_12))) 2 hF rfl (ex_len Try.underlying42 rfl h14.len) rfl rfl (by kernel_rfl) (by kernel_rfl) (by kernel_rfl) fun a hF => ?_
          refine e_p (v := (.bool (decide (n_19 < (goLen t_12))))) 3 hF rfl (ex_ibin rfl rfl rfl) rfl rfl (by kernel_rfl) (by kernel_rfl) (by kernel_rfl) fun a hF => ?_
          refine e_p (v := (.bool (decide (n_19 < (goLen t_12))))) 4 hF rfl (ex_move rfl) rfl rfl (by kernel_rfl) (by kernel_rfl) (by kernel_rfl) fun a hF => ?_
          rcases bcase (decide (n_19 < (goLen t_12))) with hc6 | hc6
          · have hj5 := cond_f hc6 hj5
            refine e_skipP 5 hF rfl (wanted_f hF rfl rfl rfl hc6 rfl) rfl (by kernel_rfl) (by kernel_rfl) (by kernel_rfl) fun a hF => ?_
            refine e_skipP 6 hF rfl (wanted_f hF rfl rfl rfl hc6 rfl) rfl (by kernel_rfl) (by kernel_rfl) (by kernel_rfl) fun a hF => ?_
            refine e_skipP 7 hF rfl (wanted_f hF rfl rfl rfl hc6 rfl) rfl (by kernel_rfl) (by kernel_rfl) (by kernel_rfl) fun a hF => ?_
            refine e_skipP 8 hF rfl (wanted_f hF rfl rfl rfl hc6 rfl) rfl (by kernel_rfl) (by kernel_rfl) (by kernel_rfl) fun a hF => ?_
            refine e_p (v := (.bool false)) 9 hF rfl (ex_pick_f rfl rfl hc6) rfl rfl (by kernel_rfl) (by kernel_rfl) (by kernel_rfl) fun a hF => ?_
            refine e_p (v := (.bool false)) 10 hF rfl (ex_move rfl) rfl rfl (by kernel_rfl) (by kernel_rfl) (by kernel_rfl) fun a hF => ?_
            refine e_skipP 11 hF rfl (wanted_f hF rfl rfl rfl rfl rfl) rfl (by kernel_rfl) (by kernel_rfl) (by kernel_rfl) fun a hF => ?_
            refine e_skipP 12 hF rfl (wanted_f hF rfl rfl rfl rfl rfl) rfl (by kernel_rfl) (by kernel_rfl) (by kernel_rfl) fun a hF => ?_
            refine e_skipP 13 hF rfl (wanted_f hF rfl rfl rfl rfl rfl) rfl (by kernel_rfl) (by kernel_rfl) (by kernel_rfl) fun a hF => ?_
            refine e_skipP 14 hF rfl (wanted_f hF rfl rfl rfl rfl rfl) rfl (by kernel_rfl) (by kernel_rfl) (by kernel_rfl) fun a hF => ?_
            refine e_skipP 15 hF rfl (wanted_f hF rfl rfl rfl rfl rfl) rfl (by kernel_rfl) (by kernel_rfl) (by kernel_rfl) fun a hF => ?_
            refine e_skipP 16 hF rfl (wanted_f hF rfl rfl rfl rfl rfl) rfl (by kernel_rfl) (by kernel_rfl) (by kernel_rfl) fun a hF => ?_
            refine e_skipP 17 hF rfl (wanted_f hF rfl rfl rfl rfl rfl) rfl (by kernel_rfl) (by kernel_rfl) (by kernel_rfl) fun a hF => ?_
            refine e_skipP 18 hF rfl (wanted_f hF rfl rfl rfl rfl rfl) rfl (by kernel_rfl) (by kernel_rfl) (by kernel_rfl) fun a hF => ?_
            refine e_skipP 19 hF rfl (wanted_f hF rfl rfl rfl rfl rfl) rfl (by kernel_rfl) (by kernel_rfl) (by kernel_rfl) fun a hF => ?_
            refine e_p (v := (.bool false)) 20 hF rfl (ex_pick_f rfl rfl rfl) rfl rfl (by kernel_rfl) (by kernel_rfl) (by kernel_rfl) fun a hF => ?_
            refine e_end (by kernel_rfl) (n_jn ?_) _
            obtain rfl := someI hj5
            exact ⟨hF.sub ⟨rfl, rfl, rfl, rfl, rfl, trivial⟩, hS.sel [1, 0] (by decide)⟩
          · have hj5 := cond_t hc6 hj5
            refine e_pg (v := (.int .i64 n_19)) 5 hF rfl (ex_move rfl) (wanted_t hF rfl rfl rfl hc6) rfl (by kernel_rfl) (by kernel_rfl) (by kernel_rfl) fun a hF => ?_
            refine e_pg (v := s17.v) 6 hF rfl (ex_move rfl) (wanted_t hF rfl rfl rfl hc6) rfl (by kernel_rfl) (by kernel_rfl) (by kernel_rfl) fun a hF => ?_
            refine e_pg (v := (.int .i64 (goLen t_15))) 7 hF rfl (ex_len Try.underlying42 rfl h17.len) (wanted_t hF rfl rfl rfl hc6) rfl (by kernel_rfl) (by kernel_rfl) (by kernel_rfl) fun a hF => ?_
            refine e_pg (v := (.bool (decide (n_19 < (goLen t_15))))) 8 hF rfl (ex_ibin rfl rfl rfl) (wanted_t hF rfl rfl rfl hc6) rfl (by kernel_rfl) (by kernel_rfl) (by kernel_rfl) fun a hF => ?_
            refine e_p (v := (.bool (decide (n_19 < (goLen t_15))))) 9 hF rfl (ex_pick_t rfl rfl hc6) rfl rfl (by kernel_rfl) (by kernel_rfl) (by kernel_rfl) fun a hF => ?_
            refine e_p (v := (.bool (decide (n_19 < (goLen t_15))))) 10 hF rfl (ex_move rfl) rfl rfl (by kernel_rfl) (by kernel_rfl) (by kernel_rfl) fun a hF => ?_
            rcases bcase (decide (n_19 < (goLen t_15))) with hc7 | hc7
            · have hj5 := cond_f hc7 hj5
              refine e_skipP 11 hF rfl (wanted_f hF rfl rfl rfl hc7 rfl) rfl (by kernel_rfl) (by kernel_rfl) (by kernel_rfl) fun a hF => ?_
              refine e_skipP 12 hF rfl (wanted_f hF rfl rfl rfl hc7 rfl) rfl (by kernel_rfl) (by kernel_rfl) (by kernel_rfl) fun a hF => ?_
              refine e_skipP 13 hF rfl (wanted_f hF rfl rfl rfl hc7 rfl) rfl (by kernel_rfl) (by kernel_rfl) (by kernel_rfl) fun a hF => ?_
              refine e_skipP 14 hF rfl (wanted_f hF rfl rfl rfl hc7 rfl) rfl (by kernel_rfl) (by kernel_rfl) (by kernel_rfl) fun a hF => ?_
              refine e_skipP 15 hF rfl (wanted_f hF rfl rfl rfl hc7 rfl) rfl (by kernel_rfl) (by kernel_rfl) (by kernel_rfl) fun a hF => ?_
              refine e_skipP 16 hF rfl (wanted_f hF rfl rfl rfl hc7 rfl) rfl (by kernel_rfl) (by kernel_rfl) (by kernel_rfl) fun a hF => ?_
              refine e_skipP 17 hF rfl (wanted_f hF rfl rfl rfl hc7 rfl) rfl (by kernel_rfl) (by kernel_rfl) (by kernel_rfl) fun a hF => ?_
              refine e_skipP 18 hF rfl (wanted_f hF rfl rfl rfl hc7 rfl) rfl (by kernel_rfl) (by kernel_rfl) (by kernel_rfl) fun a hF => ?_
              refine e_skipP 19 hF rfl (wanted_f hF rfl rfl rfl hc7 rfl) rfl (by kernel_rfl) (by kernel_rfl) (by kernel_rfl) fun a hF => ?_
              refine e_p (v := (.bool false)) 20 hF rfl (ex_pick_f rfl rfl hc7) rfl rfl (by kernel_rfl) (by kernel_rfl) (by kernel_rfl) fun a hF => ?_
              refine e_end (by kernel_rfl) (n_jn ?_) _
              obtain rfl := someI hj5
              exact ⟨hF.sub ⟨rfl, rfl, rfl, rfl, rfl, trivial⟩, hS.sel [1, 0] (by decide)⟩
            · have hj5 := cond_t hc7 hj5
              refine e_pg (v := s14.v) 11 hF rfl (ex_move rfl) (wanted_t hF rfl rfl rfl hc7) rfl (by kernel_rfl) (by kernel_rfl) (by kernel_rfl) fun a hF => ?_
              refine e_pg (v := (.int .i64 n_19)) 12 hF rfl (ex_move rfl) (wanted_t hF rfl rfl rfl hc7) rfl (by kernel_rfl) (by kernel_rfl) (by kernel_rfl) fun a hF => ?_
              obtain ⟨e_20, he_20, hj5⟩ := bindS hj5
              obtain ⟨vs21, at21, d21⟩ := h14.at he_20 1 rfl
              obtain rfl : vs21 = [(.int .i64 e_20)] := d21
              refine e_pg (v := (elP s14 (n_19.toNat * 1))) 13 hF rfl (ex_indexAddr Try.underlying42 sz3 rfl rfl (h14.idx he_20)) (wanted_t hF rfl rfl rfl hc7) rfl (by kernel_rfl) (by kernel_rfl) (by kernel_rfl) fun a hF => ?_
              refine e_xg (v := (.int .i64 e_20)) 14 hF hS rfl (ex_loadE1 0 Try.underlying3 rfl rfl (at21.at 1 rfl) rfl rfl) (wanted_t hF rfl rfl rfl hc7) rfl (by kernel_rfl) (by kernel_rfl) (by kernel_rfl) (by kernel_rfl) fun a hF => ?_
              refine e_pg (v := s17.v) 15 hF rfl (ex_move rfl) (wanted_t hF rfl rfl rfl hc7) rfl (by kernel_rfl) (by kernel_rfl) (by kernel_rfl) fun a hF => ?_
              refine e_pg (v := (.int .i64 n_19)) 16 hF rfl (ex_move rfl) (wanted_t hF rfl rfl rfl hc7) rfl (by kernel_rfl) (by kernel_rfl) (by kernel_rfl) fun a hF => ?_
              obtain ⟨e_22, he_22, hj5⟩ := bindS hj5
              obtain ⟨vs23, at23, d23⟩ := h17.at he_22 1 rfl
              obtain rfl : vs23 = [(.int .i64 e_22)] := d23
              refine e_pg (v := (elP s17 (n_19.toNat * 1))) 17 hF rfl (ex_indexAddr Try.underlying42 sz3 rfl rfl (h17.idx he_22)) (wanted_t hF rfl rfl rfl hc7) rfl (by kernel_rfl) (by kernel_rfl) (by kernel_rfl) fun a hF => ?_
              refine e_xg (v := (.int .i64 e_22)) 18 hF hS rfl (ex_loadE1 0 Try.underlying3 rfl rfl (at23.at 0 rfl) rfl rfl) (wanted_t hF rfl rfl rfl hc7) rfl (by kernel_rfl) (by kernel_rfl) (by kernel_rfl) (by kernel_rfl) fun a hF => ?_
              refine e_pg (v := (.bool (e_20 == e_22))) 19 hF rfl (ex_ibin rfl rfl rfl) (wanted_t hF rfl rfl rfl hc7) rfl (by kernel_rfl) (by kernel_rfl) (by kernel_rfl) fun a hF => ?_
              refine e_p (v := (.bool (e_20 == e_22))) 20 hF rfl (ex_pick_t rfl rfl hc7) rfl rfl (by kernel_rfl) (by kernel_rfl) (by kernel_rfl) fun a hF => ?_
              refine e_end (by kernel_rfl) (n_jn ?_) _
              obtain rfl := someI hj5
              exact ⟨hF.sub ⟨rfl, rfl, rfl, rfl, rfl, trivial⟩, hS.sel [1, 0] (by decide)⟩
        · rintro a w ⟨hF, hS⟩
          refine n_sq ?_
          rcases bcase (t_24) with hc8 | hc8
          · have hb4 := cond_f hc8 hb4
            refine q_cond_f hF rfl hc8 ?_
            refine q_exit (x_sq ?_)
            obtain rfl := someI hb4
            exact ⟨nofun, .inl ⟨rfl, hF.sub ⟨rfl, trivial⟩, hS.mask [false, false]⟩⟩
          · have hb4 := cond_t hc8 hb4
            refine q_cond_t hF rfl hc8 ?_
            refine q_skipc (n_sq ?_)
            refine q_seq ?_
            refine q_block ?_
            refine q_region ?_
            refine q_x (v := s14.v) hF hS (ex_move rfl) rfl rfl fun a hF => ?_
            refine q_x (v := (.int .i64 n_19)) hF hS (ex_move rfl) rfl rfl fun a hF => ?_
            obtain ⟨e_25, he_25, hb4⟩ := bindS hb4
            obtain ⟨vs26, at26, d26⟩ := h14.at he_25 1 rfl
            obtain rfl : vs26 = [(.int .i64 e_25)] := d26
            refine q_x (v := (elP s14 (n_19.toNat * 1))) hF hS (ex_indexAddr Try.underlying42 sz3 rfl rfl (h14.idx he_25)) rfl rfl fun a hF => ?_
            refine q_x (v := (.int .i64 e_25)) hF hS (ex_loadE1 0 Try.underlying3 rfl rfl (at26.at 0 rfl) rfl rfl) rfl rfl fun a hF => ?_
            refine q_x (v := (.int .i64 e_25)) hF hS (ex_assign rfl) rfl rfl fun a hF => ?_
            refine q_end (n_ib (n_sq ?_))
            refine q_region ?_
            refine q_x (v := (.int .i64 n_19)) hF hS (ex_move rfl) rfl rfl fun a hF => ?_
            refine q_x (v := (.int .i64 (w64 (n_19 + 1)))) hF hS (ex_ibin rfl rfl rfl) rfl rfl fun a hF => ?_
            refine q_x (v := (.int .i64 (w64 (n_19 + 1)))) hF hS (ex_assign rfl) rfl rfl fun a hF => ?_
            refine q_end ?_
            obtain rfl := someI hb4
            exact ⟨rfl, _, _, rfl, hF.sub ⟨rfl, rfl, rfl, rfl, trivial⟩, hS.sel [1, 0] (by decide)⟩
      · rintro e a w ⟨rfl, hF, hS⟩
        refine x_ib (n_sq ?_)
        refine q_seq ?_
        refine q_region ?_
        refine q_x (v := (.int .i64 last_27)) hF hS (ex_move rfl) rfl rfl fun a hF => ?_
        refine q_x (v := (.int .i64 last_27)) hF hS (ex_assign rfl) rfl rfl fun a hF => ?_
        refine q_x (v := (.bool true)) hF hS (ex_assign rfl) rfl rfl fun a hF => ?_
        refine q_end (n_sq (q_ret ?_))
        obtain rfl := someI hr
        exact ret_of hF hS rfl (.tmp rfl (.tmp rfl .nil)) rfl
    · have hr := cond_t hc3 hr
      refine q_cond_t hF rfl hc3 ?_
      refine q_seq ?_
      refine q_region ?_
      refine q_x (v := (.int .i64 0)) hF hS (ex_assign rfl) rfl rfl fun a hF => ?_
      refine q_x (v := (.bool false)) hF hS (ex_assign rfl) rfl rfl fun a hF => ?_
      refine q_end (n_sq (q_ret (r_sq ?_)))
      obtain rfl := someI hr
      exact ret_of hF hS rfl (.tmp rfl (.tmp rfl .nil)) rfl

theorem c_slices_Index_int_int (p_s : List Int) (p_v : Int) (r : Int) (hr : slices_Index_int_int p_s p_v = some r) (w0 : World) (m : Mem) (hv : Vis m w0) (s1 : Sl) (h1 : Rd m s1 p_s) :
    Ret Try.prog 179 [s1.v, (.int .i64 p_v)] w0 (fun v _ => v = (.int .i64 r)) := by
  unfold slices_Index_int_int at hr
  refine ret_start Try.func179 rfl 19 rfl rfl m hv fun a hF hS => ?_
  refine q_seq ?_
  refine q_region ?_
  refine q_x (v := (.int .i64 0)) hF hS (ex_assign rfl) rfl rfl fun a hF => ?_
  refine q_end (n_sq ?_)
  refine q_seq ?_
  refine q_seq ?_
  refine q_region ?_
  refine q_x (v := s1.v) hF hS (ex_move rfl) rfl rfl fun a hF => ?_
  refine q_x (v := (.int .i64 (goLen p_s))) hF hS (ex_len Try.underlying42 rfl h1.len) rfl rfl fun a hF => ?_
  refine q_x (v := (.int .i64 0)) hF hS (ex_move rfl) rfl rfl fun a hF => ?_
  refine q_end (n_sq ?_)
  refine q_block ?_
  obtain ⟨o1, hl1, hr⟩ := bindS hr
  refine q_loop (fun (t_2 : Int) a w => Fr a 19 [(0, s1.v), (1, (.int .i64 p_v)), (7, (.int .i64 (goLen p_s))), (8, (.int .i64 t_2))] ∧ St [] w0 w m []) (fun (o : (Unit) ⊕ (Int)) e a w => o = .inl () ∧ e = .exit 0 ∧ Fr a 19 [] ∧ St [] w0 w m []) hl1 ⟨hF.sub ⟨rfl, rfl, rfl, rfl, trivial⟩, hS⟩ ?_ ?_
  · clear hF hS
    rintro t_2 a w st ⟨hF, hS⟩ hb1
    unfold slices_Index_int_int_l1 at hb1
    refine q_seq ?_
    refine q_region ?_
    refine q_x (v := (.bool (decide (t_2 < (goLen p_s))))) hF hS (ex_ibin rfl rfl rfl) rfl rfl fun a hF => ?_
    refine q_end (n_sq ?_)
    refine q_seq ?_
    rcases bcase (decide (t_2 < (goLen p_s))) with hc2 | hc2
    · have hb1 := cond_f hc2 hb1
      refine q_cond_f hF rfl hc2 ?_
      refine q_exit (x_sq ?_)
      obtain rfl := someI hb1
      exact ⟨nofun, .inl ⟨rfl, rfl, hF.sub trivial, hS⟩⟩
    · have hb1 := cond_t hc2 hb1
      refine q_cond_t hF rfl hc2 ?_
      refine q_skipc (n_sq ?_)
      refine q_seq ?_
      refine q_block ?_
      refine q_seq ?_
      refine q_region ?_
      refine q_x (v := (.int .i64 t_2)) hF hS (ex_move rfl) rfl rfl fun a hF => ?_
      refine q_x (v := (.int .i64 t_2)) hF hS (ex_assign rfl) rfl rfl fun a hF => ?_
      refine q_end (n_sq ?_)
      refine q_seq ?_
      refine q_region ?_
      refine q_x (v := (.int .i64 p_v)) hF hS (ex_move rfl) rfl rfl fun a hF => ?_
      refine q_x (v := s1.v) hF hS (ex_move rfl) rfl rfl fun a hF => ?_
      refine q_x (v := (.int .i64 t_2)) hF hS (ex_move rfl) rfl rfl fun a hF => ?_
      obtain ⟨e_3, he_3, hb1⟩ := bindS hb1
      obtain ⟨vs4, at4, d4⟩ := h1.at he_3 1 rfl
      obtain rfl : vs4 = [(.int .i64 e_3)] := d4
      refine q_x (v := (elP s1 (t_2.toNat * 1))) hF hS (ex_indexAddr Try.underlying42 sz3 rfl rfl (h1.idx he_3)) rfl rfl fun a hF => ?_
      refine q_x (v := (.int .i64 e_3)) hF hS (ex_loadE1 0 Try.underlying3 rfl rfl ((at4).at) rfl rfl) rfl rfl fun a hF => ?_
      refine q_x (v := (.bool (p_v == e_3))) hF hS (ex_ibin rfl rfl rfl) rfl rfl fun a hF => ?_
      refine q_end (n_sq ?_)
      rcases bcase (p_v == e_3) with hc3 | hc3
      · have hb1 := cond_f hc3 hb1
        refine q_cond_f hF rfl hc3 ?_
        refine q_skipc (n_ib (n_sq ?_))
        refine q_region ?_
        refine q_x (v := (.int .i64 (w64 (t_2 + 1)))) hF hS (ex_ibin rfl rfl rfl) rfl rfl fun a hF => ?_
        refine q_x (v := (.int .i64 (w64 (t_2 + 1)))) hF hS (ex_move rfl) rfl rfl fun a hF => ?_
        refine q_end ?_
        obtain rfl := someI hb1
        exact ⟨rfl, hF.sub ⟨rfl, rfl, rfl, rfl, trivial⟩, hS⟩
      · have hb1 := cond_t hc3 hb1
        refine q_cond_t hF rfl hc3 ?_
        refine q_seq ?_
        refine q_region ?_
        refine q_x (v := (.int .i64 t_2)) hF hS (ex_move rfl) rfl rfl fun a hF => ?_
        refine q_x (v := (.int .i64 t_2)) hF hS (ex_assign rfl) rfl rfl fun a hF => ?_
        refine q_end (n_sq (q_ret (r_ib (r_sq ?_))))
        obtain rfl := someI hb1
        refine ⟨nofun, .inr fun ho => ?_⟩
        subst ho
        refine r_ib (r_sq ?_)
        obtain rfl := someI hr
        exact ret_of hF hS rfl (.tmp rfl .nil) rfl
  · rintro e a w ⟨rfl, rfl, hF, hS⟩
    refine x_ib (n_sq ?_)
    refine q_seq ?_
    refine q_region ?_
    refine q_x (v := (.int .i64 (-1))) hF hS (ex_assign rfl) rfl rfl fun a hF => ?_
    refine q_end (n_sq (q_ret ?_))
    obtain rfl := someI hr
    exact ret_of hF hS rfl (.tmp rfl .nil) rfl

theorem c_slices_Contains_int_int (p_s : List Int) (p_v : Int) (r : Bool) (hr : slices_Contains_int_int p_s p_v = some r) (w0 : World) (m : Mem) (hv : Vis m w0) (s1 : Sl) (h1 : Rd m s1 p_s) :
    Ret Try.prog 177 [s1.v, (.int .i64 p_v)] w0 (fun v _ => v = (.bool r)) := by
  unfold slices_Contains_int_int at hr
  refine ret_start Try.func177 rfl 9 rfl rfl m hv fun a hF hS => ?_
  refine q_seq ?_
  refine q_region ?_
  refine q_x (v := (.bool false)) hF hS (ex_assign rfl) rfl rfl fun a hF => ?_
  refine q_end (n_sq ?_)
  refine q_seq ?_
  refine q_region ?_
  refine q_x (v := s1.v) hF hS (ex_move rfl) rfl rfl fun a hF => ?_
  refine q_x (v := (.int .i64 p_v)) hF hS (ex_move rfl) rfl rfl fun a hF => ?_
  obtain ⟨t_2, ht_2, hr⟩ := bindS hr
  refine q_call (vs := [s1.v, (.int .i64 p_v)]) hF hS Try.func179 (by kernel_rfl) rfl rfl rfl (c_slices_Index_int_int p_s p_v t_2 ht_2 _ m hS.vis s1 h1) ?_
  rintro a w _ rfl hF hS
  refine q_x (v := (.bool (decide (0 ≤ t_2)))) hF hS (ex_ibin rfl rfl rfl) rfl rfl fun a hF => ?_
  refine q_x (v := (.bool (decide (0 ≤ t_2)))) hF hS (ex_assign rfl) rfl rfl fun a hF => ?_
  refine q_end (n_sq (q_ret ?_))
  obtain rfl := someI hr
  exact ret_of hF hS rfl (.tmp rfl .nil) rfl

theorem c_impl_isLeaf (p_g : impl_Geo) (p_i : Int) (r : Bool) (hr : impl_isLeaf p_g p_i = some r) (w0 : World) (m : Mem) (hv : Vis m w0) (s1 : Sl) (h1 : Rd m s1 p_g.Parents) :
    Ret Try.prog 173 [(.agg #[s1.v]), (.int .i64 p_i)] w0 (fun v _ => v = (.bool r)) := by
  unfold impl_isLeaf at hr
  refine ret_start Try.func173 rfl 10 rfl rfl m hv fun a hF hS => ?_
  refine q_seq ?_
  refine q_region ?_
  refine q_box (cs := [s1.v]) hF hS rfl rfl rfl fun a w b2 hF hS => ?_
  refine q_x (v := (.bool false)) hF hS (ex_assign rfl) rfl rfl fun a hF => ?_
  refine q_end (n_sq ?_)
  refine q_seq ?_
  refine q_region ?_
  refine q_x (v := (.pointer (some ⟨b2, 0, none⟩))) hF hS (ex_fieldAddr Try.underlying89 rfl sz42 rfl rfl) rfl rfl fun a hF => ?_
  refine q_x (v := s1.v) hF hS (ex_load1 0 0 Try.underlying42 rfl rfl rfl rfl) rfl rfl fun a hF => ?_
  refine q_x (v := (.int .i64 p_i)) hF hS (ex_move rfl) rfl rfl fun a hF => ?_
  obtain ⟨t_3, ht_3, hr⟩ := bindS hr
  refine q_call (vs := [s1.v, (.int .i64 p_i)]) hF hS Try.func177 (by kernel_rfl) rfl rfl rfl (c_slices_Contains_int_int p_g.Parents p_i t_3 ht_3 _ m hS.vis s1 h1) ?_
  rintro a w _ rfl hF hS
  refine q_x (v := (.bool (!t_3))) hF hS (ex_not rfl) rfl rfl fun a hF => ?_
  refine q_x (v := (.bool (!t_3))) hF hS (ex_assign rfl) rfl rfl fun a hF => ?_
  refine q_end (n_sq (q_ret ?_))
  obtain rfl := someI hr
  exact ret_of hF hS rfl (.tmp rfl .nil) rfl

theorem c_impl_leavesOf (p_g : impl_Geo) (r : (List Int)) (hr : impl_leavesOf p_g = some r) (w0 : World) (m : Mem) (hv : Vis m w0) (s1 : Sl) (h1 : Rd m s1 p_g.Parents) :
    Ret Try.prog 153 [(.agg #[s1.v])] w0 (fun v w => ∃ (q0' : Piece) (s0' : Sl), v = s0'.v ∧ St [] w0 w m [q0'] ∧ OwnL m 3 q0' s0' r) := by
  unfold impl_leavesOf at hr
  refine ret_start Try.func153 rfl 20 rfl rfl m hv fun a hF hS => ?_
  refine q_seq ?_
  refine q_region ?_
  refine q_box (cs := [s1.v]) hF hS rfl rfl rfl fun a w b2 hF hS => ?_
  refine q_x (v := nilS.v) hF hS (ex_assign rfl) rfl rfl fun a hF => ?_
  refine q_end (n_sq ?_)
  refine q_seq ?_
  refine q_region ?_
  refine q_x (v := nilS.v) hF hS (ex_assign rfl) rfl rfl fun a hF => ?_
  refine q_end (n_sq ?_)
  refine q_seq ?_
  refine q_seq ?_
  refine q_region ?_
  refine q_x (v := (.pointer (some ⟨b2, 0, none⟩))) hF hS (ex_fieldAddr Try.underlying89 rfl sz42 rfl rfl) rfl rfl fun a hF => ?_
  refine q_x (v := s1.v) hF hS (ex_load1 0 0 Try.underlying42 rfl rfl rfl rfl) rfl rfl fun a hF => ?_
  refine q_x (v := (.int .i64 (goLen p_g.Parents))) hF hS (ex_len Try.underlying42 rfl h1.len) rfl rfl fun a hF => ?_
  refine q_x (v := (.int .i64 0)) hF hS (ex_move rfl) rfl rfl fun a hF => ?_
  refine q_end (n_sq ?_)
  refine q_block ?_
  obtain ⟨list_12, hl1, hr⟩ := bindS hr
  refine q_loop (fun (s : (List Int) × Int) a w => ∃ (q4 : Piece), ∃ (s4 : Sl), ∃ list_3, ∃ t_5, s = (list_3, t_5) ∧ Fr a 20 [(1, (.pointer (some ⟨b2, 0, none⟩))), (3, s4.v), (7, (.int .i64 (goLen p_g.Parents))), (8, (.int .i64 t_5))] ∧ St [] w0 w m [q4, [⟨b2, [s1.v], 89⟩]] ∧ OwnL m 3 q4 s4 list_3) (fun (list_12 : (List Int)) e a w => ∃ (q13 : Piece), ∃ (s13 : Sl), e = .exit 0 ∧ Fr a 20 [(3, s13.v)] ∧ St [] w0 w m [q13] ∧ OwnL m 3 q13 s13 list_12) hl1 ⟨[], nilS, _, _, rfl, hF.sub ⟨rfl, rfl, rfl, rfl, trivial⟩, hS.sel [1, 0] (by decide), (OwnL.nil (α := Int) m 3)⟩ ?_ ?_
  · clear hF hS
    rintro s a w st ⟨q4, s4, list_3, t_5, rfl, hF, hS, h4⟩ hb1
    unfold impl_leavesOf_l1 at hb1
    refine q_seq ?_
    refine q_region ?_
    refine q_x (v := (.bool (decide (t_5 < (goLen p_g.Parents))))) hF hS (ex_ibin rfl rfl rfl) rfl rfl fun a hF => ?_
    refine q_end (n_sq ?_)
    refine q_seq ?_
    rcases bcase (decide (t_5 < (goLen p_g.Parents))) with hc2 | hc2
    · have hb1 := cond_f hc2 hb1
      refine q_cond_f hF rfl hc2 ?_
      refine q_exit (x_sq ?_)
      obtain rfl := someI hb1
      exact ⟨nofun, .inl ⟨q4, s4, rfl, hF.sub ⟨rfl, trivial⟩, hS.mask [true, false], h4⟩⟩
    · have hb1 := cond_t hc2 hb1
      refine q_cond_t hF rfl hc2 ?_
      refine q_skipc (n_sq ?_)
      refine q_seq ?_
      refine q_block ?_
      refine q_seq ?_
      refine q_region ?_
      refine q_x (v := (.int .i64 t_5)) hF hS (ex_move rfl) rfl rfl fun a hF => ?_
      refine q_x (v := (.int .i64 t_5)) hF hS (ex_assign rfl) rfl rfl fun a hF => ?_
      refine q_end (n_sq ?_)
      refine q_seq ?_
      refine q_region ?_
      refine q_x (v := (.agg #[s1.v])) hF hS (ex_loadA (vs := [s1.v]) 1 0 Try.underlying89 rfl sz89 rfl rfl rfl rfl) rfl rfl fun a hF => ?_
      refine q_x (v := (.int .i64 t_5)) hF hS (ex_move rfl) rfl rfl fun a hF => ?_
      obtain ⟨t_6, ht_6, hb1⟩ := bindS hb1
      refine q_call (vs := [(.agg #[s1.v]), (.int .i64 t_5)]) hF hS Try.func173 (by kernel_rfl) rfl rfl rfl (c_impl_isLeaf p_g t_5 t_6 ht_6 _ m hS.vis s1 h1) ?_
      rintro a w _ rfl hF hS
      refine q_end (n_sq ?_)
      obtain ⟨list_10, hj3, hb1⟩ := bindS hb1
      refine q_join (fun a w => ∃ (q11 : Piece), ∃ (s11 : Sl), Fr a 20 [(1, (.pointer (some ⟨b2, 0, none⟩))), (3, s11.v), (7, (.int .i64 (goLen p_g.Parents))), (8, (.int .i64 t_5))] ∧ St [] w0 w m [q11, [⟨b2, [s1.v], 89⟩]] ∧ OwnL m 3 q11 s11 list_10) ?_ ?_
      · rcases bcase (t_6) with hc4 | hc4
        · have hj3 := cond_f hc4 hj3
          refine q_cond_f hF rfl hc4 ?_
          refine q_skipc (n_jn ?_)
          obtain rfl := someI hj3
          exact ⟨q4, s4, hF.sub ⟨rfl, rfl, rfl, rfl, trivial⟩, hS, h4⟩
        · have hj3 := cond_t hc4 hj3
          refine q_cond_t hF rfl hc4 ?_
          refine q_region ?_
          refine q_x (v := s4.v) hF hS (ex_move rfl) rfl rfl fun a hF => ?_
          refine q_x (v := (.int .i64 t_5)) hF hS (ex_move rfl) rfl rfl fun a hF => ?_
          refine q_do rfl fun _ hK => wp_buildSlice' (l := ([t_5] : List Int)) (cells := [(.int .i64 t_5)]) hF hS Try.underlying42 inf3 rfl rfl (by kernel_rfl) rfl rfl rfl ⟨rfl, rfl⟩ rfl rfl fun a w q7 s7 hF hS h7 _ => hK _ _ ?_
          have hS : St _ _ _ _ [q4, q7, [⟨b2, [s1.v], 89⟩]] := hS.sel [1, 0, 2] (by decide)
          obtain ⟨l_8, hl_8, hj3⟩ := bindS hj3
          refine q_do rfl fun _ hK => wp_append hF hS h4 Try.underlying42 inf3 rfl rfl rfl rfl (h7.vw hS (j := 1) rfl) rfl (by decide) hl_8 rfl fun a w q9 s9 hF hS h9 => hK _ _ ?_
          refine q_x (v := s9.v) hF hS (ex_assign rfl) rfl rfl fun a hF => ?_
          refine q_end (n_jn ?_)
          obtain rfl := someI hj3
          exact ⟨q9, s9, hF.sub ⟨rfl, rfl, rfl, rfl, trivial⟩, hS.mask [true, false, true], h9⟩
      · rintro a w ⟨q11, s11, hF, hS, h11⟩
        refine n_ib (n_sq ?_)
        refine q_region ?_
        refine q_x (v := (.int .i64 (w64 (t_5 + 1)))) hF hS (ex_ibin rfl rfl rfl) rfl rfl fun a hF => ?_
        refine q_x (v := (.int .i64 (w64 (t_5 + 1)))) hF hS (ex_move rfl) rfl rfl fun a hF => ?_
        refine q_end ?_
        obtain rfl := someI hb1
        exact ⟨rfl, q11, s11, _, _, rfl, hF.sub ⟨rfl, rfl, rfl, rfl, trivial⟩, hS, h11⟩
  · rintro e a w ⟨q13, s13, rfl, hF, hS, h13⟩
    refine x_ib (n_sq ?_)
    refine q_seq ?_
    refine q_region ?_
    refine q_x (v := s13.v) hF hS (ex_move rfl) rfl rfl fun a hF => ?_
    refine q_x (v := s13.v) hF hS (ex_assign rfl) rfl rfl fun a hF => ?_
    refine q_end (n_sq (q_ret ?_))
    obtain rfl := someI hr
    exact ret_of hF hS rfl (.tmp rfl .nil) ⟨q13, s13, rfl, hS.sel [0] (by decide), h13⟩

theorem c_impl_IsUniform (p_g : impl_Geo) (r : Bool × Bool) (hr : impl_IsUniform p_g = some r) (w0 : World) (m : Mem) (hv : Vis m w0) (s1 : Sl) (h1 : Rd m s1 p_g.Parents) :
    Ret Try.prog 76 [(.agg #[s1.v])] w0 (fun v _ => v = (.tuple #[(.bool r.1), (.bool r.2)])) := by
  unfold impl_IsUniform at hr
  refine ret_start Try.func76 rfl 28 rfl rfl m hv fun a hF hS => ?_
  refine q_seq ?_
  refine q_region ?_
  refine q_box (cs := [s1.v]) hF hS rfl rfl rfl fun a w b2 hF hS => ?_
  refine q_x (v := (.bool false)) hF hS (ex_assign rfl) rfl rfl fun a hF => ?_
  refine q_x (v := (.bool false)) hF hS (ex_assign rfl) rfl rfl fun a hF => ?_
  refine q_end (n_sq ?_)
  refine q_seq ?_
  refine q_seq ?_
  refine q_region ?_
  refine q_x (v := (.agg #[s1.v])) hF hS (ex_loadA (vs := [s1.v]) 0 0 Try.underlying89 rfl sz89 rfl rfl rfl rfl) rfl rfl fun a hF => ?_
  obtain ⟨t_3, ht_3, hr⟩ := bindS hr
  refine q_call (vs := [(.agg #[s1.v])]) hF hS Try.func144 (by kernel_rfl) rfl rfl rfl (c_impl_IsGeo p_g t_3 ht_3 _ m hS.vis s1 h1) ?_
  rintro a w _ rfl hF hS
  refine q_x (v := (.bool (!t_3))) hF hS (ex_not rfl) rfl rfl fun a hF => ?_
  refine q_end (n_sq ?_)
  rcases bcase (!t_3) with hc1 | hc1
  · have hr := cond_f hc1 hr
    refine q_cond_f hF rfl hc1 ?_
    refine q_skipc (n_sq ?_)
    refine q_seq ?_
    refine q_region ?_
    refine q_x (v := (.agg #[s1.v])) hF hS (ex_loadA (vs := [s1.v]) 0 0 Try.underlying89 rfl sz89 rfl rfl rfl rfl) rfl rfl fun a hF => ?_
    obtain ⟨t_4, ht_4, hr⟩ := bindS hr
    refine q_call (vs := [(.agg #[s1.v])]) hF hS Try.func153 (by kernel_rfl) rfl rfl rfl (c_impl_leavesOf p_g t_4 ht_4 _ m hS.vis s1 h1) ?_
    rintro a w _ ⟨q6, s6, rfl, hR5, h6⟩ hF hS2
    have hS : St _ _ _ _ [q6, [⟨b2, [s1.v], 89⟩]] := hS.joinF hR5
    refine q_x (v := s6.v) hF hS (ex_assign rfl) rfl rfl fun a hF => ?_
    refine q_end (n_sq ?_)
    refine q_seq ?_
    refine q_seq ?_
    refine q_region ?_
    refine q_x (v := s6.v) hF hS (ex_move rfl) rfl rfl fun a hF => ?_
    refine q_x (v := (.int .i64 (goLen t_4))) hF hS (ex_len Try.underlying42 rfl h6.len) rfl rfl fun a hF => ?_
    refine q_x (v := (.int .i64 0)) hF hS (ex_move rfl) rfl rfl fun a hF => ?_
    refine q_end (n_sq ?_)
    refine q_block ?_
    obtain ⟨o2, hl2, hr⟩ := bindS hr
    refine q_loop (fun (t_7 : Int) a w => Fr a 28 [(1, (.pointer (some ⟨b2, 0, none⟩))), (4, s6.v), (12, s6.v), (13, (.int .i64 (goLen t_4))), (14, (.int .i64 t_7))] ∧ St [] w0 w m [q6, [⟨b2, [s1.v], 89⟩]]) (fun (o : (Unit) ⊕ (Bool × Bool)) e a w => o = .inl () ∧ e = .exit 0 ∧ Fr a 28 [] ∧ St [] w0 w m []) hl2 ⟨hF.sub ⟨rfl, rfl, rfl, rfl, rfl, trivial⟩, hS⟩ ?_ ?_
    · clear hF hS
      rintro t_7 a w st ⟨hF, hS⟩ hb2
      unfold impl_IsUniform_l1 at hb2
      refine q_seq ?_
      refine q_region ?_
      refine q_x (v := (.bool (decide (t_7 < (goLen t_4))))) hF hS (ex_ibin rfl rfl rfl) rfl rfl fun a hF => ?_
      refine q_end (n_sq ?_)
      refine q_seq ?_
      rcases bcase (decide (t_7 < (goLen t_4))) with hc3 | hc3
      · have hb2 := cond_f hc3 hb2
        refine q_cond_f hF rfl hc3 ?_
        refine q_exit (x_sq ?_)
        obtain rfl := someI hb2
        exact ⟨nofun, .inl ⟨rfl, rfl, hF.sub trivial, hS.mask [false, false]⟩⟩
      · have hb2 := cond_t hc3 hb2
        refine q_cond_t hF rfl hc3 ?_
        refine q_skipc (n_sq ?_)
        refine q_seq ?_
        refine q_block ?_
        refine q_seq ?_
        refine q_region ?_
        obtain ⟨e_8, he_8, hb2⟩ := bindS hb2
        obtain ⟨vs9, at9, d9⟩ := h6.at he_8 1 rfl
        obtain rfl : vs9 = [(.int .i64 e_8)] := d9
        refine q_x (v := (elP s6 (t_7.toNat * 1))) hF hS (ex_indexAddr Try.underlying42 sz3 rfl rfl (h6.idx he_8)) rfl rfl fun a hF => ?_
        refine q_x (v := (.int .i64 e_8)) hF hS (ex_loadE1 0 Try.underlying3 rfl rfl (at9.at 0 rfl) rfl rfl) rfl rfl fun a hF => ?_
        refine q_x (v := (.int .i64 e_8)) hF hS (ex_assign rfl) rfl rfl fun a hF => ?_
        refine q_end (n_sq ?_)
        refine q_seq ?_
        refine e_region [] mixed fun w' hw' => ?_
        have hS := hS.below hw'
        refine e_x (v := (.agg #[s1.v])) 0 hF hS rfl (ex_loadA (vs := [s1.v]) 1 0 Try.underlying89 rfl sz89 rfl rfl rfl rfl) rfl rfl (by kernel_rfl) (by kernel_rfl) (by kernel_rfl) (by kernel_rfl) fun a hF => ?_
        refine e_p (v := (.int .i64 e_8)) 1 hF rfl (ex_move rfl) rfl rfl (by kernel_rfl) (by kernel_rfl) (by kernel_rfl) fun a hF => ?_
        refine e_x (v := (.agg #[s1.v])) 3 hF hS rfl (ex_loadA (vs := [s1.v]) 1 0 Try.underlying89 rfl sz89 rfl rfl rfl rfl) rfl rfl (by kernel_rfl) (by kernel_rfl) (by kernel_rfl) (by kernel_rfl) fun a hF => ?_
        refine e_p (v := s6.v) 4 hF rfl (ex_move rfl) rfl rfl (by kernel_rfl) (by kernel_rfl) (by kernel_rfl) fun a hF => ?_
        obtain ⟨e_13, he_13, hb2⟩ := bindS hb2
        obtain ⟨vs14, at14, d14⟩ := h6.at he_13 1 rfl
        obtain rfl : vs14 = [(.int .i64 e_13)] := d14
        refine e_p (v := (elP s6 ((0 : Int).toNat * 1))) 5 hF rfl (ex_indexAddr Try.underlying42 sz3 rfl rfl (h6.idx he_13)) rfl rfl (by kernel_rfl) (by kernel_rfl) (by kernel_rfl) fun a hF => ?_
        refine e_x (v := (.int .i64 e_13)) 6 hF hS rfl (ex_loadE1 0 Try.underlying3 rfl rfl (at14.at 0 rfl) rfl rfl) rfl rfl (by kernel_rfl) (by kernel_rfl) (by kernel_rfl) (by kernel_rfl) fun a hF => ?_
        refine e_one 2 (by kernel_rfl) ?_
        obtain ⟨t_16, ht_16, hb2⟩ := bindS hb2
        refine e_call (vs := [(.agg #[s1.v]), (.int .i64 e_8)]) hF hS rfl Try.func150 (by kernel_rfl) rfl rfl rfl (c_impl_depthOf p_g e_8 t_16 ht_16 _ m hS.vis s1 h1) ?_
        rintro a w _ rfl hF hS
        refine e_one 7 (by kernel_rfl) ?_
        obtain ⟨t_17, ht_17, hb2⟩ := bindS hb2
        refine e_call (vs := [(.agg #[s1.v]), (.int .i64 e_13)]) hF hS rfl Try.func150 (by kernel_rfl) rfl rfl rfl (c_impl_depthOf p_g e_13 t_17 ht_17 _ m hS.vis s1 h1) ?_
        rintro a w _ rfl hF hS
        refine e_p (v := (.bool (t_16 != t_17))) 8 hF rfl (ex_ibin rfl rfl rfl) rfl rfl (by kernel_rfl) (by kernel_rfl) (by kernel_rfl) fun a hF => ?_
        refine e_end (by kernel_rfl) (n_sq ?_) _
        rcases bcase (t_16 != t_17) with hc4 | hc4
        · have hb2 := cond_f hc4 hb2
          refine q_cond_f hF rfl hc4 ?_
          refine q_skipc (n_ib (n_sq ?_))
          refine q_region ?_
          refine q_x (v := (.int .i64 (w64 (t_7 + 1)))) hF hS (ex_ibin rfl rfl rfl) rfl rfl fun a hF => ?_
          refine q_x (v := (.int .i64 (w64 (t_7 + 1)))) hF hS (ex_move rfl) rfl rfl fun a hF => ?_
          refine q_end ?_
          obtain rfl := someI hb2
          exact ⟨rfl, hF.sub ⟨rfl, rfl, rfl, rfl, rfl, trivial⟩, hS⟩
        · have hb2 := cond_t hc4 hb2
          refine q_cond_t hF rfl hc4 ?_
          refine q_seq ?_
          refine q_region ?_
          refine q_x (v := (.bool false)) hF hS (ex_assign rfl) rfl rfl fun a hF => ?_
          refine q_x (v := (.bool true)) hF hS (ex_assign rfl) rfl rfl fun a hF => ?_
          refine q_end (n_sq (q_ret (r_ib (r_sq ?_))))
          obtain rfl := someI hb2
          refine ⟨nofun, .inr fun ho => ?_⟩
          subst ho
          refine r_ib (r_sq ?_)
          obtain rfl := someI hr
          exact ret_of hF hS rfl (.tmp rfl (.tmp rfl .nil)) rfl
    · rintro e a w ⟨rfl, rfl, hF, hS⟩
      refine x_ib (n_sq ?_)
      refine q_seq ?_
      refine q_region ?_
      refine q_x (v := (.bool true)) hF hS (ex_assign rfl) rfl rfl fun a hF => ?_
      refine q_x (v := (.bool true)) hF hS (ex_assign rfl) rfl rfl fun a hF => ?_
      refine q_end (n_sq (q_ret ?_))
      obtain rfl := someI hr
      exact ret_of hF hS rfl (.tmp rfl (.tmp rfl .nil)) rfl
  · have hr := cond_t hc1 hr
    refine q_cond_t hF rfl hc1 ?_
    refine q_seq ?_
    refine q_region ?_
    refine q_x (v := (.bool false)) hF hS (ex_assign rfl) rfl rfl fun a hF => ?_
    refine q_x (v := (.bool false)) hF hS (ex_assign rfl) rfl rfl fun a hF => ?_
    refine q_end (n_sq (q_ret (r_sq ?_)))
    obtain rfl := someI hr
    exact ret_of hF hS rfl (.tmp rfl (.tmp rfl .nil)) rfl

theorem c_spec_gChildren (p_g : impl_Geo) (p_i : Int) (r : (List Int)) (hr : spec_gChildren p_g p_i = some r) (w0 : World) (m : Mem) (hv : Vis m w0) (s1 : Sl) (h1 : Rd m s1 p_g.Parents) :
    Ret Try.prog 178 [(.agg #[s1.v]), (.int .i64 p_i)] w0 (fun v w => ∃ (q0' : Piece) (s0' : Sl), v = s0'.v ∧ St [] w0 w m [q0'] ∧ OwnL m 3 q0' s0' r) := by
  unfold spec_gChildren at hr
  refine ret_start Try.func178 rfl 25 rfl rfl m hv fun a hF hS => ?_
  refine q_seq ?_
  refine q_region ?_
  refine q_box (cs := [s1.v]) hF hS rfl rfl rfl fun a w b2 hF hS => ?_
  refine q_x (v := nilS.v) hF hS (ex_assign rfl) rfl rfl fun a hF => ?_
  refine q_end (n_sq ?_)
  refine q_seq ?_
  refine q_region ?_
  refine q_x (v := nilS.v) hF hS (ex_assign rfl) rfl rfl fun a hF => ?_
  refine q_end (n_sq ?_)
  refine q_seq ?_
  refine q_seq ?_
  refine q_region ?_
  refine q_x (v := (.pointer (some ⟨b2, 0, none⟩))) hF hS (ex_fieldAddr Try.underlying89 rfl sz42 rfl rfl) rfl rfl fun a hF => ?_
  refine q_x (v := s1.v) hF hS (ex_load1 0 0 Try.underlying42 rfl rfl rfl rfl) rfl rfl fun a hF => ?_
  refine q_x (v := (.int .i64 (goLen p_g.Parents))) hF hS (ex_len Try.underlying42 rfl h1.len) rfl rfl fun a hF => ?_
  refine q_x (v := (.int .i64 0)) hF hS (ex_move rfl) rfl rfl fun a hF => ?_
  refine q_end (n_sq ?_)
  refine q_block ?_
  obtain ⟨out_13, hl1, hr⟩ := bindS hr
  refine q_loop (fun (s : (List Int) × Int) a w => ∃ (q4 : Piece), ∃ (s4 : Sl), ∃ out_3, ∃ t_5, s = (out_3, t_5) ∧ Fr a 25 [(1, (.int .i64 p_i)), (5, s4.v), (9, s1.v), (10, (.int .i64 (goLen p_g.Parents))), (11, (.int .i64 t_5))] ∧ St [] w0 w m [q4] ∧ OwnL m 3 q4 s4 out_3) (fun (out_13 : (List Int)) e a w => ∃ (q14 : Piece), ∃ (s14 : Sl), e = .exit 0 ∧ Fr a 25 [(5, s14.v)] ∧ St [] w0 w m [q14] ∧ OwnL m 3 q14 s14 out_13) hl1 ⟨[], nilS, _, _, rfl, hF.sub ⟨rfl, rfl, rfl, rfl, rfl, trivial⟩, hS.sel [1] (by decide), (OwnL.nil (α := Int) m 3)⟩ ?_ ?_
  · clear hF hS
    rintro s a w st ⟨q4, s4, out_3, t_5, rfl, hF, hS, h4⟩ hb1
    unfold spec_gChildren_l1 at hb1
    refine q_seq ?_
    refine q_region ?_
    refine q_x (v := (.bool (decide (t_5 < (goLen p_g.Parents))))) hF hS (ex_ibin rfl rfl rfl) rfl rfl fun a hF => ?_
    refine q_end (n_sq ?_)
    refine q_seq ?_
    rcases bcase (decide (t_5 < (goLen p_g.Parents))) with hc2 | hc2
    · have hb1 := cond_f hc2 hb1
      refine q_cond_f hF rfl hc2 ?_
      refine q_exit (x_sq ?_)
      obtain rfl := someI hb1
      exact ⟨nofun, .inl ⟨q4, s4, rfl, hF.sub ⟨rfl, trivial⟩, hS, h4⟩⟩
    · have hb1 := cond_t hc2 hb1
      refine q_cond_t hF rfl hc2 ?_
      refine q_skipc (n_sq ?_)
      refine q_seq ?_
      refine q_block ?_
      refine q_seq ?_
      refine q_region ?_
      refine q_x (v := (.int .i64 t_5)) hF hS (ex_move rfl) rfl rfl fun a hF => ?_
      obtain ⟨e_6, he_6, hb1⟩ := bindS hb1
      obtain ⟨vs7, at7, d7⟩ := h1.at he_6 1 rfl
      obtain rfl : vs7 = [(.int .i64 e_6)] := d7
      refine q_x (v := (elP s1 (t_5.toNat * 1))) hF hS (ex_indexAddr Try.underlying42 sz3 rfl rfl (h1.idx he_6)) rfl rfl fun a hF => ?_
      refine q_x (v := (.int .i64 e_6)) hF hS (ex_loadE1 0 Try.underlying3 rfl rfl ((at7).at) rfl rfl) rfl rfl fun a hF => ?_
      refine q_x (v := (.int .i64 t_5)) hF hS (ex_assign rfl) rfl rfl fun a hF => ?_
      refine q_x (v := (.int .i64 e_6)) hF hS (ex_assign rfl) rfl rfl fun a hF => ?_
      refine q_end (n_sq ?_)
      refine q_seq ?_
      refine q_region ?_
      refine q_x (v := (.int .i64 e_6)) hF hS (ex_move rfl) rfl rfl fun a hF => ?_
      refine q_x (v := (.int .i64 p_i)) hF hS (ex_move rfl) rfl rfl fun a hF => ?_
      refine q_x (v := (.bool (e_6 == p_i))) hF hS (ex_ibin rfl rfl rfl) rfl rfl fun a hF => ?_
      refine q_end (n_sq ?_)
      obtain ⟨out_11, hj3, hb1⟩ := bindS hb1
      refine q_join (fun a w => ∃ (q12 : Piece), ∃ (s12 : Sl), Fr a 25 [(1, (.int .i64 p_i)), (5, s12.v), (9, s1.v), (10, (.int .i64 (goLen p_g.Parents))), (11, (.int .i64 t_5))] ∧ St [] w0 w m [q12] ∧ OwnL m 3 q12 s12 out_11) ?_ ?_
      · rcases bcase (e_6 == p_i) with hc4 | hc4
        · have hj3 := cond_f hc4 hj3
          refine q_cond_f hF rfl hc4 ?_
          refine q_skipc (n_jn ?_)
          obtain rfl := someI hj3
          exact ⟨q4, s4, hF.sub ⟨rfl, rfl, rfl, rfl, rfl, trivial⟩, hS, h4⟩
        · have hj3 := cond_t hc4 hj3
          refine q_cond_t hF rfl hc4 ?_
          refine q_region ?_
          refine q_x (v := s4.v) hF hS (ex_move rfl) rfl rfl fun a hF => ?_
          refine q_x (v := (.int .i64 t_5)) hF hS (ex_move rfl) rfl rfl fun a hF => ?_
          refine q_do rfl fun _ hK => wp_buildSlice' (l := ([t_5] : List Int)) (cells := [(.int .i64 t_5)]) hF hS Try.underlying42 inf3 rfl rfl (by kernel_rfl) rfl rfl rfl ⟨rfl, rfl⟩ rfl rfl fun a w q8 s8 hF hS h8 _ => hK _ _ ?_
          have hS : St _ _ _ _ [q4, q8] := hS.sel [1, 0] (by decide)
          obtain ⟨l_9, hl_9, hj3⟩ := bindS hj3
          refine q_do rfl fun _ hK => wp_append hF hS h4 Try.underlying42 inf3 rfl rfl rfl rfl (h8.vw hS (j := 1) rfl) rfl (by decide) hl_9 rfl fun a w q10 s10 hF hS h10 => hK _ _ ?_
          refine q_x (v := s10.v) hF hS (ex_assign rfl) rfl rfl fun a hF => ?_
          refine q_end (n_jn ?_)
          obtain rfl := someI hj3
          exact ⟨q10, s10, hF.sub ⟨rfl, rfl, rfl, rfl, rfl, trivial⟩, hS.mask [true, false], h10⟩
      · rintro a w ⟨q12, s12, hF, hS, h12⟩
        refine n_ib (n_sq ?_)
        refine q_region ?_
        refine q_x (v := (.int .i64 (w64 (t_5 + 1)))) hF hS (ex_ibin rfl rfl rfl) rfl rfl fun a hF => ?_
        refine q_x (v := (.int .i64 (w64 (t_5 + 1)))) hF hS (ex_move rfl) rfl rfl fun a hF => ?_
        refine q_end ?_
        obtain rfl := someI hb1
        exact ⟨rfl, q12, s12, _, _, rfl, hF.sub ⟨rfl, rfl, rfl, rfl, rfl, trivial⟩, hS, h12⟩
  · rintro e a w ⟨q14, s14, rfl, hF, hS, h14⟩
    refine x_ib (n_sq ?_)
    refine q_seq ?_
    refine q_region ?_
    refine q_x (v := s14.v) hF hS (ex_move rfl) rfl rfl fun a hF => ?_
    refine q_x (v := s14.v) hF hS (ex_assign rfl) rfl rfl fun a hF => ?_
    refine q_end (n_sq (q_ret ?_))
    obtain rfl := someI hr
    exact ret_of hF hS rfl (.tmp rfl .nil) ⟨q14, s14, rfl, hS.sel [0] (by decide), h14⟩

theorem c_spec_gLeaves (p_g : impl_Geo) (r : (List Int)) (hr : spec_gLeaves p_g = some r) (w0 : World) (m : Mem) (hv : Vis m w0) (s1 : Sl) (h1 : Rd m s1 p_g.Parents) :
    Ret Try.prog 174 [(.agg #[s1.v])] w0 (fun v w => ∃ (q0' : Piece) (s0' : Sl), v = s0'.v ∧ St [] w0 w m [q0'] ∧ OwnL m 3 q0' s0' r) := by
  unfold spec_gLeaves at hr
  refine ret_start Try.func174 rfl 22 rfl rfl m hv fun a hF hS => ?_
  refine q_seq ?_
  refine q_region ?_
  refine q_box (cs := [s1.v]) hF hS rfl rfl rfl fun a w b2 hF hS => ?_
  refine q_x (v := nilS.v) hF hS (ex_assign rfl) rfl rfl fun a hF => ?_
  refine q_end (n_sq ?_)
  refine q_seq ?_
  refine q_region ?_
  refine q_x (v := nilS.v) hF hS (ex_assign rfl) rfl rfl fun a hF => ?_
  refine q_end (n_sq ?_)
  refine q_seq ?_
  refine q_seq ?_
  refine q_region ?_
  refine q_x (v := (.pointer (some ⟨b2, 0, none⟩))) hF hS (ex_fieldAddr Try.underlying89 rfl sz42 rfl rfl) rfl rfl fun a hF => ?_
  refine q_x (v := s1.v) hF hS (ex_load1 0 0 Try.underlying42 rfl rfl rfl rfl) rfl rfl fun a hF => ?_
  refine q_x (v := (.int .i64 (goLen p_g.Parents))) hF hS (ex_len Try.underlying42 rfl h1.len) rfl rfl fun a hF => ?_
  refine q_x (v := (.int .i64 0)) hF hS (ex_move rfl) rfl rfl fun a hF => ?_
  refine q_end (n_sq ?_)
  refine q_block ?_
  obtain ⟨out_14, hl1, hr⟩ := bindS hr
  refine q_loop (fun (s : (List Int) × Int) a w => ∃ (q4 : Piece), ∃ (s4 : Sl), ∃ out_3, ∃ t_5, s = (out_3, t_5) ∧ Fr a 22 [(1, (.pointer (some ⟨b2, 0, none⟩))), (3, s4.v), (7, (.int .i64 (goLen p_g.Parents))), (8, (.int .i64 t_5))] ∧ St [] w0 w m [q4, [⟨b2, [s1.v], 89⟩]] ∧ OwnL m 3 q4 s4 out_3) (fun (out_14 : (List Int)) e a w => ∃ (q15 : Piece), ∃ (s15 : Sl), e = .exit 0 ∧ Fr a 22 [(3, s15.v)] ∧ St [] w0 w m [q15] ∧ OwnL m 3 q15 s15 out_14) hl1 ⟨[], nilS, _, _, rfl, hF.sub ⟨rfl, rfl, rfl, rfl, trivial⟩, hS.sel [1, 0] (by decide), (OwnL.nil (α := Int) m 3)⟩ ?_ ?_
  · clear hF hS
    rintro s a w st ⟨q4, s4, out_3, t_5, rfl, hF, hS, h4⟩ hb1
    unfold spec_gLeaves_l1 at hb1
    refine q_seq ?_
    refine q_region ?_
    refine q_x (v := (.bool (decide (t_5 < (goLen p_g.Parents))))) hF hS (ex_ibin rfl rfl rfl) rfl rfl fun a hF => ?_
    refine q_end (n_sq ?_)
    refine q_seq ?_
    rcases bcase (decide (t_5 < (goLen p_g.Parents))) with hc2 | hc2
    · have hb1 := cond_f hc2 hb1
      refine q_cond_f hF rfl hc2 ?_
      refine q_exit (x_sq ?_)
      obtain rfl := someI hb1
      exact ⟨nofun, .inl ⟨q4, s4, rfl, hF.sub ⟨rfl, trivial⟩, hS.mask [true, false], h4⟩⟩
    · have hb1 := cond_t hc2 hb1
      refine q_cond_t hF rfl hc2 ?_
      refine q_skipc (n_sq ?_)
      refine q_seq ?_
      refine q_block ?_
      refine q_seq ?_
      refine q_region ?_
      refine q_x (v := (.int .i64 t_5)) hF hS (ex_move rfl) rfl rfl fun a hF => ?_
      refine q_x (v := (.int .i64 t_5)) hF hS (ex_assign rfl) rfl rfl fun a hF => ?_
      refine q_end (n_sq ?_)
      refine q_seq ?_
      refine q_region ?_
      refine q_x (v := (.agg #[s1.v])) hF hS (ex_loadA (vs := [s1.v]) 1 0 Try.underlying89 rfl sz89 rfl rfl rfl rfl) rfl rfl fun a hF => ?_
      refine q_x (v := (.int .i64 t_5)) hF hS (ex_move rfl) rfl rfl fun a hF => ?_
      obtain ⟨t_6, ht_6, hb1⟩ := bindS hb1
      refine q_call (vs := [(.agg #[s1.v]), (.int .i64 t_5)]) hF hS Try.func178 (by kernel_rfl) rfl rfl rfl (c_spec_gChildren p_g t_5 t_6 ht_6 _ m hS.vis s1 h1) ?_
      rintro a w _ ⟨q8, s8, rfl, hR7, h8⟩ hF hS2
      have hS : St _ _ _ _ [q8, q4, [⟨b2, [s1.v], 89⟩]] := hS.joinF hR7
      refine q_x (v := (.int .i64 (goLen t_6))) hF hS (ex_len Try.underlying42 rfl h8.len) rfl rfl fun a hF => ?_
      refine q_x (v := (.bool ((goLen t_6) == 0))) hF hS (ex_ibin rfl rfl rfl) rfl rfl fun a hF => ?_
      refine q_end (n_sq ?_)
      obtain ⟨out_12, hj3, hb1⟩ := bindS hb1
      refine q_join (fun a w => ∃ (q13 : Piece), ∃ (s13 : Sl), Fr a 22 [(1, (.pointer (some ⟨b2, 0, none⟩))), (3, s13.v), (7, (.int .i64 (goLen p_g.Parents))), (8, (.int .i64 t_5))] ∧ St [] w0 w m [q13, [⟨b2, [s1.v], 89⟩]] ∧ OwnL m 3 q13 s13 out_12) ?_ ?_
      · rcases bcase ((goLen t_6) == 0) with hc4 | hc4
        · have hj3 := cond_f hc4 hj3
          refine q_cond_f hF rfl hc4 ?_
          refine q_skipc (n_jn ?_)
          obtain rfl := someI hj3
          exact ⟨q4, s4, hF.sub ⟨rfl, rfl, rfl, rfl, trivial⟩, hS.mask [false, true, true], h4⟩
        · have hj3 := cond_t hc4 hj3
          refine q_cond_t hF rfl hc4 ?_
          refine q_region ?_
          refine q_x (v := s4.v) hF hS (ex_move rfl) rfl rfl fun a hF => ?_
          refine q_x (v := (.int .i64 t_5)) hF hS (ex_move rfl) rfl rfl fun a hF => ?_
          refine q_do rfl fun _ hK => wp_buildSlice' (l := ([t_5] : List Int)) (cells := [(.int .i64 t_5)]) hF hS Try.underlying42 inf3 rfl rfl (by kernel_rfl) rfl rfl rfl ⟨rfl, rfl⟩ rfl rfl fun a w q9 s9 hF hS h9 _ => hK _ _ ?_
          have hS : St _ _ _ _ [q4, q9, q8, [⟨b2, [s1.v], 89⟩]] := hS.sel [2, 0, 1, 3] (by decide)
          obtain ⟨l_10, hl_10, hj3⟩ := bindS hj3
          refine q_do rfl fun _ hK => wp_append hF hS h4 Try.underlying42 inf3 rfl rfl rfl rfl (h9.vw hS (j := 1) rfl) rfl (by decide) hl_10 rfl fun a w q11 s11 hF hS h11 => hK _ _ ?_
          refine q_x (v := s11.v) hF hS (ex_assign rfl) rfl rfl fun a hF => ?_
          refine q_end (n_jn ?_)
          obtain rfl := someI hj3
          exact ⟨q11, s11, hF.sub ⟨rfl, rfl, rfl, rfl, trivial⟩, hS.mask [true, false, false, true], h11⟩
      · rintro a w ⟨q13, s13, hF, hS, h13⟩
        refine n_ib (n_sq ?_)
        refine q_region ?_
        refine q_x (v := (.int .i64 (w64 (t_5 + 1)))) hF hS (ex_ibin rfl rfl rfl) rfl rfl fun a hF => ?_
        refine q_x (v := (.int .i64 (w64 (t_5 + 1)))) hF hS (ex_move rfl) rfl rfl fun a hF => ?_
        refine q_end ?_
        obtain rfl := someI hb1
        exact ⟨rfl, q13, s13, _, _, rfl, hF.sub ⟨rfl, rfl, rfl, rfl, trivial⟩, hS, h13⟩
  · rintro e a w ⟨q15, s15, rfl, hF, hS, h15⟩
    refine x_ib (n_sq ?_)
    refine q_seq ?_
    refine q_region ?_
    refine q_x (v := s15.v) hF hS (ex_move rfl) rfl rfl fun a hF => ?_
    refine q_x (v := s15.v) hF hS (ex_assign rfl) rfl rfl fun a hF => ?_
    refine q_end (n_sq (q_ret ?_))
    obtain rfl := someI hr
    exact ret_of hF hS rfl (.tmp rfl .nil) ⟨q15, s15, rfl, hS.sel [0] (by decide), h15⟩

theorem c_spec_gDepth (p_g : impl_Geo) (p_i : Int) (r : Int) (hr : spec_gDepth p_g p_i = some r) (w0 : World) (m : Mem) (hv : Vis m w0) (s1 : Sl) (h1 : Rd m s1 p_g.Parents) :
    Ret Try.prog 175 [(.agg #[s1.v]), (.int .i64 p_i)] w0 (fun v _ => v = (.int .i64 r)) := by
  unfold spec_gDepth at hr
  refine ret_start Try.func175 rfl 20 rfl rfl m hv fun a hF hS => ?_
  refine q_seq ?_
  refine q_region ?_
  refine q_box (cs := [s1.v]) hF hS rfl rfl rfl fun a w b2 hF hS => ?_
  refine q_x (v := (.int .i64 0)) hF hS (ex_assign rfl) rfl rfl fun a hF => ?_
  refine q_end (n_sq ?_)
  refine q_seq ?_
  refine q_region ?_
  refine q_x (v := (.int .i64 0)) hF hS (ex_assign rfl) rfl rfl fun a hF => ?_
  refine q_end (n_sq ?_)
  refine q_seq ?_
  refine q_block ?_
  obtain ⟨n_9, hl1, hr⟩ := bindS hr
  refine q_loop (fun (s : Int × Int) a w => ∃ i_3, ∃ n_4, s = (i_3, n_4) ∧ Fr a 20 [(1, (.int .i64 i_3)), (2, (.pointer (some ⟨b2, 0, none⟩))), (5, (.int .i64 n_4))] ∧ St [] w0 w m [[⟨b2, [s1.v], 89⟩]]) (fun (n_9 : Int) e a w => e = .exit 0 ∧ Fr a 20 [(5, (.int .i64 n_9))] ∧ St [] w0 w m []) hl1 ⟨_, _, rfl, hF.sub ⟨rfl, rfl, rfl, trivial⟩, hS⟩ ?_ ?_
  · clear hF hS
    rintro s a w st ⟨i_3, n_4, rfl, hF, hS⟩ hb1
    unfold spec_gDepth_l1 at hb1
    refine q_seq ?_
    refine q_seq ?_
    refine q_region ?_
    refine q_x (v := (.pointer (some ⟨b2, 0, none⟩))) hF hS (ex_fieldAddr Try.underlying89 rfl sz42 rfl rfl) rfl rfl fun a hF => ?_
    refine q_x (v := s1.v) hF hS (ex_load1 0 0 Try.underlying42 rfl rfl rfl rfl) rfl rfl fun a hF => ?_
    refine q_x (v := (.int .i64 i_3)) hF hS (ex_move rfl) rfl rfl fun a hF => ?_
    obtain ⟨e_5, he_5, hb1⟩ := bindS hb1
    obtain ⟨vs6, at6, d6⟩ := h1.at he_5 1 rfl
    obtain rfl : vs6 = [(.int .i64 e_5)] := d6
    refine q_x (v := (elP s1 (i_3.toNat * 1))) hF hS (ex_indexAddr Try.underlying42 sz3 rfl rfl (h1.idx he_5)) rfl rfl fun a hF => ?_
    refine q_x (v := (.int .i64 e_5)) hF hS (ex_loadE1 0 Try.underlying3 rfl rfl ((at6).at) rfl rfl) rfl rfl fun a hF => ?_
    refine q_x (v := (.bool (decide (0 ≤ e_5)))) hF hS (ex_ibin rfl rfl rfl) rfl rfl fun a hF => ?_
    refine q_end (n_sq ?_)
    rcases bcase (decide (0 ≤ e_5)) with hc2 | hc2
    · have hb1 := cond_f hc2 hb1
      refine q_cond_f hF rfl hc2 ?_
      refine q_exit (x_sq ?_)
      obtain rfl := someI hb1
      exact ⟨nofun, .inl ⟨rfl, hF.sub ⟨rfl, trivial⟩, hS.mask [false]⟩⟩
    · have hb1 := cond_t hc2 hb1
      refine q_cond_t hF rfl hc2 ?_
      refine q_skipc (n_sq ?_)
      refine q_block ?_
      refine q_seq ?_
      refine q_region ?_
      refine q_x (v := (.pointer (some ⟨b2, 0, none⟩))) hF hS (ex_fieldAddr Try.underlying89 rfl sz42 rfl rfl) rfl rfl fun a hF => ?_
      refine q_x (v := s1.v) hF hS (ex_load1 0 0 Try.underlying42 rfl rfl rfl rfl) rfl rfl fun a hF => ?_
      refine q_x (v := (.int .i64 i_3)) hF hS (ex_move rfl) rfl rfl fun a hF => ?_
      obtain ⟨e_7, he_7, hb1⟩ := bindS hb1
      obtain ⟨vs8, at8, d8⟩ := h1.at he_7 1 rfl
      obtain rfl : vs8 = [(.int .i64 e_7)] := d8
      refine q_x (v := (elP s1 (i_3.toNat * 1))) hF hS (ex_indexAddr Try.underlying42 sz3 rfl rfl (h1.idx he_7)) rfl rfl fun a hF => ?_
      refine q_x (v := (.int .i64 e_7)) hF hS (ex_loadE1 0 Try.underlying3 rfl rfl ((at8).at) rfl rfl) rfl rfl fun a hF => ?_
      refine q_x (v := (.int .i64 e_7)) hF hS (ex_assign rfl) rfl rfl fun a hF => ?_
      refine q_end (n_sq ?_)
      refine q_region ?_
      refine q_x (v := (.int .i64 n_4)) hF hS (ex_move rfl) rfl rfl fun a hF => ?_
      refine q_x (v := (.int .i64 (w64 (n_4 + 1)))) hF hS (ex_ibin rfl rfl rfl) rfl rfl fun a hF => ?_
      refine q_x (v := (.int .i64 (w64 (n_4 + 1)))) hF hS (ex_assign rfl) rfl rfl fun a hF => ?_
      refine q_end (n_ib ?_)
      obtain rfl := someI hb1
      exact ⟨rfl, _, _, rfl, hF.sub ⟨rfl, rfl, rfl, trivial⟩, hS⟩
  · rintro e a w ⟨rfl, hF, hS⟩
    refine x_ib (n_sq ?_)
    refine q_seq ?_
    refine q_region ?_
    refine q_x (v := (.int .i64 n_9)) hF hS (ex_move rfl) rfl rfl fun a hF => ?_
    refine q_x (v := (.int .i64 n_9)) hF hS (ex_assign rfl) rfl rfl fun a hF => ?_
    refine q_end (n_sq (q_ret ?_))
    obtain rfl := someI hr
    exact ret_of hF hS rfl (.tmp rfl .nil) rfl

theorem c_spec_gUniform (p_g : impl_Geo) (r : Bool) (hr : spec_gUniform p_g = some r) (w0 : World) (m : Mem) (hv : Vis m w0) (s1 : Sl) (h1 : Rd m s1 p_g.Parents) :
    Ret Try.prog 155 [(.agg #[s1.v])] w0 (fun v _ => v = (.bool r)) := by
  unfold spec_gUniform at hr
  refine ret_start Try.func155 rfl 24 rfl rfl m hv fun a hF hS => ?_
  refine q_seq ?_
  refine q_region ?_
  refine q_box (cs := [s1.v]) hF hS rfl rfl rfl fun a w b2 hF hS => ?_
  refine q_x (v := (.bool false)) hF hS (ex_assign rfl) rfl rfl fun a hF => ?_
  refine q_end (n_sq ?_)
  refine q_seq ?_
  refine q_region ?_
  refine q_x (v := (.agg #[s1.v])) hF hS (ex_loadA (vs := [s1.v]) 0 0 Try.underlying89 rfl sz89 rfl rfl rfl rfl) rfl rfl fun a hF => ?_
  obtain ⟨t_3, ht_3, hr⟩ := bindS hr
  refine q_call (vs := [(.agg #[s1.v])]) hF hS Try.func174 (by kernel_rfl) rfl rfl rfl (c_spec_gLeaves p_g t_3 ht_3 _ m hS.vis s1 h1) ?_
  rintro a w _ ⟨q5, s5, rfl, hR4, h5⟩ hF hS2
  have hS : St _ _ _ _ [q5, [⟨b2, [s1.v], 89⟩]] := hS.joinF hR4
  refine q_x (v := s5.v) hF hS (ex_assign rfl) rfl rfl fun a hF => ?_
  refine q_end (n_sq ?_)
  refine q_seq ?_
  refine q_seq ?_
  refine q_region ?_
  refine q_x (v := s5.v) hF hS (ex_move rfl) rfl rfl fun a hF => ?_
  refine q_x (v := (.int .i64 (goLen t_3))) hF hS (ex_len Try.underlying42 rfl h5.len) rfl rfl fun a hF => ?_
  refine q_x (v := (.int .i64 0)) hF hS (ex_move rfl) rfl rfl fun a hF => ?_
  refine q_end (n_sq ?_)
  refine q_block ?_
  obtain ⟨o1, hl1, hr⟩ := bindS hr
  refine q_loop (fun (t_6 : Int) a w => Fr a 24 [(1, (.pointer (some ⟨b2, 0, none⟩))), (3, s5.v), (8, s5.v), (9, (.int .i64 (goLen t_3))), (10, (.int .i64 t_6))] ∧ St [] w0 w m [q5, [⟨b2, [s1.v], 89⟩]]) (fun (o : (Unit) ⊕ (Bool)) e a w => o = .inl () ∧ e = .exit 0 ∧ Fr a 24 [] ∧ St [] w0 w m []) hl1 ⟨hF.sub ⟨rfl, rfl, rfl, rfl, rfl, trivial⟩, hS⟩ ?_ ?_
  · clear hF hS
    rintro t_6 a w st ⟨hF, hS⟩ hb1
    unfold spec_gUniform_l1 at hb1
    refine q_seq ?_
    refine q_region ?_
    refine q_x (v := (.bool (decide (t_6 < (goLen t_3))))) hF hS (ex_ibin rfl rfl rfl) rfl rfl fun a hF => ?_
    refine q_end (n_sq ?_)
    refine q_seq ?_
    rcases bcase (decide (t_6 < (goLen t_3))) with hc2 | hc2
    · have hb1 := cond_f hc2 hb1
      refine q_cond_f hF rfl hc2 ?_
      refine q_exit (x_sq ?_)
      obtain rfl := someI hb1
      exact ⟨nofun, .inl ⟨rfl, rfl, hF.sub trivial, hS.mask [false, false]⟩⟩
    · have hb1 := cond_t hc2 hb1
      refine q_cond_t hF rfl hc2 ?_
      refine q_skipc (n_sq ?_)
      refine q_seq ?_
      refine q_block ?_
      refine q_seq ?_
      refine q_region ?_
      obtain ⟨e_7, he_7, hb1⟩ := bindS hb1
      obtain ⟨vs8, at8, d8⟩ := h5.at he_7 1 rfl
      obtain rfl : vs8 = [(.int .i64 e_7)] := d8
      refine q_x (v := (elP s5 (t_6.toNat * 1))) hF hS (ex_indexAddr Try.underlying42 sz3 rfl rfl (h5.idx he_7)) rfl rfl fun a hF => ?_
      refine q_x (v := (.int .i64 e_7)) hF hS (ex_loadE1 0 Try.underlying3 rfl rfl (at8.at 0 rfl) rfl rfl) rfl rfl fun a hF => ?_
      refine q_x (v := (.int .i64 e_7)) hF hS (ex_assign rfl) rfl rfl fun a hF => ?_
      refine q_end (n_sq ?_)
      refine q_seq ?_
      refine e_region [] mixed fun w' hw' => ?_
      have hS := hS.below hw'
      refine e_x (v := (.agg #[s1.v])) 0 hF hS rfl (ex_loadA (vs := [s1.v]) 1 0 Try.underlying89 rfl sz89 rfl rfl rfl rfl) rfl rfl (by kernel_rfl) (by kernel_rfl) (by kernel_rfl) (by kernel_rfl) fun a hF => ?_
      refine e_p (v := (.int .i64 e_7)) 1 hF rfl (ex_move rfl) rfl rfl (by kernel_rfl) (by kernel_rfl) (by kernel_rfl) fun a hF => ?_
      refine e_x (v := (.agg #[s1.v])) 3 hF hS rfl (ex_loadA (vs := [s1.v]) 1 0 Try.underlying89 rfl sz89 rfl rfl rfl rfl) rfl rfl (by kernel_rfl) (by kernel_rfl) (by kernel_rfl) (by kernel_rfl) fun a hF => ?_
      refine e_p (v := s5.v) 4 hF rfl (ex_move rfl) rfl rfl (by kernel_rfl) (by kernel_rfl) (by kernel_rfl) fun a hF => ?_
      obtain ⟨e_12, he_12, hb1⟩ := bindS hb1
      obtain ⟨vs13, at13, d13⟩ := h5.at he_12 1 rfl
      obtain rfl : vs13 = [(.int .i64 e_12)] := d13
      refine e_p (v := (elP s5 ((0 : Int).toNat * 1))) 5 hF rfl (ex_indexAddr Try.underlying42 sz3 rfl rfl (h5.idx he_12)) rfl rfl (by kernel_rfl) (by kernel_rfl) (by kernel_rfl) fun a hF => ?_
      refine e_x (v := (.int .i64 e_12)) 6 hF hS rfl (ex_loadE1 0 Try.underlying3 rfl rfl (at13.at 0 rfl) rfl rfl) rfl rfl (by kernel_rfl) (by kernel_rfl) (by kernel_rfl) (by kernel_rfl) fun a hF => ?_
      refine e_one 2 (by kernel_rfl) ?_
      obtain ⟨t_15, ht_15, hb1⟩ := bindS hb1
      refine e_call (vs := [(.agg #[s1.v]), (.int .i64 e_7)]) hF hS rfl Try.func175 (by kernel_rfl) rfl rfl rfl (c_spec_gDepth p_g e_7 t_15 ht_15 _ m hS.vis s1 h1) ?_
      rintro a w _ rfl hF hS
      refine e_one 7 (by kernel_rfl) ?_
      obtain ⟨t_16, ht_16, hb1⟩ := bindS hb1
      refine e_call (vs := [(.agg #[s1.v]), (.int .i64 e_12)]) hF hS rfl Try.func175 (by kernel_rfl) rfl rfl rfl (c_spec_gDepth p_g e_12 t_16 ht_16 _ m hS.vis s1 h1) ?_
      rintro a w _ rfl hF hS
      refine e_p (v := (.bool (t_15 != t_16))) 8 hF rfl (ex_ibin rfl rfl rfl) rfl rfl (by kernel_rfl) (by kernel_rfl) (by kernel_rfl) fun a hF => ?_
      refine e_end (by kernel_rfl) (n_sq ?_) _
      rcases bcase (t_15 != t_16) with hc3 | hc3
      · have hb1 := cond_f hc3 hb1
        refine q_cond_f hF rfl hc3 ?_
        refine q_skipc (n_ib (n_sq ?_))
        refine q_region ?_
        refine q_x (v := (.int .i64 (w64 (t_6 + 1)))) hF hS (ex_ibin rfl rfl rfl) rfl rfl fun a hF => ?_
        refine q_x (v := (.int .i64 (w64 (t_6 + 1)))) hF hS (ex_move rfl) rfl rfl fun a hF => ?_
        refine q_end ?_
        obtain rfl := someI hb1
        exact ⟨rfl, hF.sub ⟨rfl, rfl, rfl, rfl, rfl, trivial⟩, hS⟩
      · have hb1 := cond_t hc3 hb1
        refine q_cond_t hF rfl hc3 ?_
        refine q_seq ?_
        refine q_region ?_
        refine q_x (v := (.bool false)) hF hS (ex_assign rfl) rfl rfl fun a hF => ?_
        refine q_end (n_sq (q_ret (r_ib (r_sq ?_))))
        obtain rfl := someI hb1
        refine ⟨nofun, .inr fun ho => ?_⟩
        subst ho
        refine r_ib (r_sq ?_)
        obtain rfl := someI hr
        exact ret_of hF hS rfl (.tmp rfl .nil) rfl
  · rintro e a w ⟨rfl, rfl, hF, hS⟩
    refine x_ib (n_sq ?_)
    refine q_seq ?_
    refine q_region ?_
    refine q_x (v := (.bool true)) hF hS (ex_assign rfl) rfl rfl fun a hF => ?_
    refine q_end (n_sq (q_ret ?_))
    obtain rfl := someI hr
    exact ret_of hF hS rfl (.tmp rfl .nil) rfl

theorem c_spec_IsUniform (p_g : impl_Geo) (r : Bool × Bool) (hr : spec_IsUniform p_g = some r) (w0 : World) (m : Mem) (hv : Vis m w0) (s1 : Sl) (h1 : Rd m s1 p_g.Parents) :
    Ret Try.prog 77 [(.agg #[s1.v])] w0 (fun v _ => v = (.tuple #[(.bool r.1), (.bool r.2)])) := by
  unfold spec_IsUniform at hr
  refine ret_start Try.func77 rfl 9 rfl rfl m hv fun a hF hS => ?_
  refine q_seq ?_
  refine q_region ?_
  refine q_box (cs := [s1.v]) hF hS rfl rfl rfl fun a w b2 hF hS => ?_
  refine q_x (v := (.bool false)) hF hS (ex_assign rfl) rfl rfl fun a hF => ?_
  refine q_x (v := (.bool false)) hF hS (ex_assign rfl) rfl rfl fun a hF => ?_
  refine q_end (n_sq ?_)
  refine q_seq ?_
  refine q_seq ?_
  refine q_region ?_
  refine q_x (v := (.agg #[s1.v])) hF hS (ex_loadA (vs := [s1.v]) 0 0 Try.underlying89 rfl sz89 rfl rfl rfl rfl) rfl rfl fun a hF => ?_
  obtain ⟨t_3, ht_3, hr⟩ := bindS hr
  refine q_call (vs := [(.agg #[s1.v])]) hF hS Try.func154 (by kernel_rfl) rfl rfl rfl (c_spec_gGood p_g t_3 ht_3 _ m hS.vis s1 h1) ?_
  rintro a w _ rfl hF hS
  refine q_x (v := (.bool (!t_3))) hF hS (ex_not rfl) rfl rfl fun a hF => ?_
  refine q_end (n_sq ?_)
  rcases bcase (!t_3) with hc1 | hc1
  · have hr := cond_f hc1 hr
    refine q_cond_f hF rfl hc1 ?_
    refine q_skipc (n_sq ?_)
    refine q_seq ?_
    refine q_region ?_
    refine q_x (v := (.agg #[s1.v])) hF hS (ex_loadA (vs := [s1.v]) 0 0 Try.underlying89 rfl sz89 rfl rfl rfl rfl) rfl rfl fun a hF => ?_
    obtain ⟨t_4, ht_4, hr⟩ := bindS hr
    refine q_call (vs := [(.agg #[s1.v])]) hF hS Try.func155 (by kernel_rfl) rfl rfl rfl (c_spec_gUniform p_g t_4 ht_4 _ m hS.vis s1 h1) ?_
    rintro a w _ rfl hF hS
    refine q_x (v := (.bool t_4)) hF hS (ex_assign rfl) rfl rfl fun a hF => ?_
    refine q_x (v := (.bool true)) hF hS (ex_assign rfl) rfl rfl fun a hF => ?_
    refine q_end (n_sq (q_ret ?_))
    obtain rfl := someI hr
    exact ret_of hF hS rfl (.tmp rfl (.tmp rfl .nil)) rfl
  · have hr := cond_t hc1 hr
    refine q_cond_t hF rfl hc1 ?_
    refine q_seq ?_
    refine q_region ?_
    refine q_x (v := (.bool false)) hF hS (ex_assign rfl) rfl rfl fun a hF => ?_
    refine q_x (v := (.bool false)) hF hS (ex_assign rfl) rfl rfl fun a hF => ?_
    refine q_end (n_sq (q_ret (r_sq ?_)))
    obtain rfl := someI hr
    exact ret_of hF hS rfl (.tmp rfl (.tmp rfl .nil)) rfl

theorem c_laws_FnPaths (p_code : List (K .u8)) (p_more : List (K .u8)) (r : Bool) (hr : laws_FnPaths p_code p_more = some r) (w0 : World) (m : Mem) (hv : Vis m w0) (s1 : Sl) (h1 : Rd m s1 p_code) (s2 : Sl) (h2 : Rd m s2 p_more) :
    Ret Try.prog 8 [s1.v, s2.v] w0 (fun v _ => v = (.bool r)) := by
  unfold laws_FnPaths at hr
  refine ret_start Try.func8 rfl 159 rfl rfl m hv fun a hF hS => ?_
  refine q_seq ?_
  refine q_region ?_
  refine q_x (v := (.bool false)) hF hS (ex_assign rfl) rfl rfl fun a hF => ?_
  refine q_end (n_sq ?_)
  refine q_seq ?_
  refine q_seq ?_
  refine q_region ?_
  refine q_x (v := s1.v) hF hS (ex_move rfl) rfl rfl fun a hF => ?_
  refine q_x (v := s2.v) hF hS (ex_move rfl) rfl rfl fun a hF => ?_
  obtain ⟨t_3, ht_3, hr⟩ := bindS hr
  refine q_call (vs := [s1.v, s2.v]) hF hS Try.func37 (by kernel_rfl) rfl rfl rfl (c_laws_big p_code p_more t_3 ht_3 _ m hS.vis s1 h1 s2 h2) ?_
  rintro a w _ rfl hF hS
  refine q_end (n_sq ?_)
  rcases bcase (t_3) with hc1 | hc1
  · have hr := cond_f hc1 hr
    refine q_cond_f hF rfl hc1 ?_
    refine q_skipc (n_sq ?_)
    refine q_seq ?_
    refine q_region ?_
    refine q_x (v := s1.v) hF hS (ex_move rfl) rfl rfl fun a hF => ?_
    obtain ⟨t_4, ht_4, hr⟩ := bindS hr
    refine q_call (vs := [s1.v]) hF hS Try.func67 (by kernel_rfl) rfl rfl rfl (c_spec_DrawPathTo p_code t_4 ht_4 _ m hS.vis s1 h1) ?_
    have hT := hS
    rintro a w _ ⟨m5, q6, s6, rfl, hm5, hR5, h6⟩ hF hS2
    have hS : St _ _ _ _ [q6] := hS.join hR5 hm5
    have hm5 := MLe.weakX (O0 := []) hT hm5
    refine q_x (v := (.tuple #[(.agg #[s6.v]), (.int .i64 t_4.2)])) hF hS (ex_move rfl) rfl rfl fun a hF => ?_
    refine q_x (v := (.agg #[s6.v])) hF hS (ex_extract rfl rfl) rfl rfl fun a hF => ?_
    refine q_x (v := (.int .i64 t_4.2)) hF hS (ex_extract rfl rfl) rfl rfl fun a hF => ?_
    refine q_alloc (cs := [nilS.v]) hF hS rfl rfl rfl fun a w b7 hF hS => ?_
    refine q_store (vs := [s6.v]) (cs' := [s6.v]) 0 0 hF hS sz89 rfl rfl rfl rfl rfl rfl rfl rfl fun a w hF hS => ?_
    refine q_x (v := (.int .i64 t_4.2)) hF hS (ex_assign rfl) rfl rfl fun a hF => ?_
    refine q_end (n_sq ?_)
    refine q_seq ?_
    refine q_region ?_
    refine q_x (v := (.agg #[s6.v])) hF hS (ex_loadA (vs := [s6.v]) 0 0 Try.underlying89 rfl sz89 rfl rfl rfl rfl) rfl rfl fun a hF => ?_
    refine q_x (v := (.int .i64 t_4.2)) hF hS (ex_move rfl) rfl rfl fun a hF => ?_
    obtain ⟨m9, hl9, hv9, hz9⟩ := hS.lend
    obtain ⟨t_8, ht_8, hr⟩ := bindS hr
    refine q_call (vs := [(.agg #[s6.v]), (.int .i64 t_4.2)]) hF hS Try.func68 (by kernel_rfl) rfl rfl rfl (c_impl_PathTo t_4.1 t_4.2 t_8 ht_8 _ m9 hv9 s6 (h6.froz hl9 (hz9 1 _ rfl))) ?_
    rintro a w _ ⟨q11, s11, rfl, hR10, h11⟩ hF hS2
    have hS : St _ _ _ _ [q11, [⟨b7, [s6.v], 89⟩], q6] := hS.joinF hR10
    have h11 := h11.any m5
    refine q_x (v := (.tuple #[s11.v, (.bool t_8.2)])) hF hS (ex_move rfl) rfl rfl fun a hF => ?_
    refine q_x (v := s11.v) hF hS (ex_extract rfl rfl) rfl rfl fun a hF => ?_
    refine q_x (v := (.bool t_8.2)) hF hS (ex_extract rfl rfl) rfl rfl fun a hF => ?_
    refine q_x (v := s11.v) hF hS (ex_assign rfl) rfl rfl fun a hF => ?_
    refine q_x (v := (.bool t_8.2)) hF hS (ex_assign rfl) rfl rfl fun a hF => ?_
    refine q_end (n_sq ?_)
    refine q_seq ?_
    refine q_region ?_
    refine q_x (v := (.agg #[s6.v])) hF hS (ex_loadA (vs := [s6.v]) 1 0 Try.underlying89 rfl sz89 rfl rfl rfl rfl) rfl rfl fun a hF => ?_
    refine q_x (v := (.int .i64 t_4.2)) hF hS (ex_move rfl) rfl rfl fun a hF => ?_
    obtain ⟨m13, hl13, hv13, hz13⟩ := hS.lend
    obtain ⟨t_12, ht_12, hr⟩ := bindS hr
    refine q_call (vs := [(.agg #[s6.v]), (.int .i64 t_4.2)]) hF hS Try.func69 (by kernel_rfl) rfl rfl rfl (c_spec_PathTo t_4.1 t_4.2 t_12 ht_12 _ m13 hv13 s6 (h6.froz hl13 (hz13 2 _ rfl))) ?_
    rintro a w _ ⟨q15, s15, rfl, hR14, h15⟩ hF hS2
    have hS : St _ _ _ _ [q15, q11, [⟨b7, [s6.v], 89⟩], q6] := hS.joinF hR14
    have h15 := h15.any m5
    refine q_x (v := (.tuple #[s15.v, (.bool t_12.2)])) hF hS (ex_move rfl) rfl rfl fun a hF => ?_
    refine q_x (v := s15.v) hF hS (ex_extract rfl rfl) rfl rfl fun a hF => ?_
    refine q_x (v := (.bool t_12.2)) hF hS (ex_extract rfl rfl) rfl rfl fun a hF => ?_
    refine q_x (v := s15.v) hF hS (ex_assign rfl) rfl rfl fun a hF => ?_
    refine q_x (v := (.bool t_12.2)) hF hS (ex_assign rfl) rfl rfl fun a hF => ?_
    refine q_end (n_sq ?_)
    refine q_seq ?_
    refine q_seq ?_
    obtain ⟨t_18, hj2, hr⟩ := bindS hr
    refine q_join (fun a w => Fr a 159 [(1, s2.v), (5, (.pointer (some ⟨b7, 0, none⟩))), (6, (.int .i64 t_4.2)), (9, s15.v), (58, (.bool t_18))] ∧ St [] w0 w m5 [q15, q6, [⟨b7, [s6.v], 89⟩]]) ?_ ?_
    · refine q_region ?_
      refine q_x (v := (.bool t_8.2)) hF hS (ex_move rfl) rfl rfl fun a hF => ?_
      refine q_x (v := (.bool t_12.2)) hF hS (ex_move rfl) rfl rfl fun a hF => ?_
      refine q_x (v := (.bool (t_8.2 != t_12.2))) hF hS (ex_bne Try.underlying4 rfl rfl) rfl rfl fun a hF => ?_
      refine q_x (v := (.bool (t_8.2 != t_12.2))) hF hS (ex_move rfl) rfl rfl fun a hF => ?_
      rcases bcase (t_8.2 != t_12.2) with hc3 | hc3
      · have hj2 := cond_f hc3 hj2
        refine q_xg (v := s11.v) hF hS (ex_move rfl) (wanted_t hF rfl rfl rfl hc3) rfl fun a hF => ?_
        refine q_xg (v := s15.v) hF hS (ex_move rfl) (wanted_t hF rfl rfl rfl hc3) rfl fun a hF => ?_
        obtain ⟨m17, hl17, hv17, hz17⟩ := hS.lend
        obtain ⟨t_16, ht_16, hj2⟩ := bindS hj2
        refine q_callg (vs := [s11.v, s15.v]) hF hS (wanted_t hF rfl rfl rfl hc3) Try.func70 (by kernel_rfl) rfl rfl rfl (c_laws_sameInts t_8.1 t_12.1 t_16 ht_16 _ m17 hv17 s11 (h11.froz hl17 (hz17 1 _ rfl)) s15 (h15.froz hl17 (hz17 0 _ rfl))) ?_
        rintro a w _ rfl hF hS
        refine q_xg (v := (.bool (!t_16))) hF hS (ex_not rfl) (wanted_t hF rfl rfl rfl hc3) rfl fun a hF => ?_
        refine q_x (v := (.bool (!t_16))) hF hS (ex_pick_f rfl rfl hc3) rfl rfl fun a hF => ?_
        refine q_end (n_jn ?_)
        obtain rfl := someI hj2
        exact ⟨hF.sub ⟨rfl, rfl, rfl, rfl, rfl, trivial⟩, hS.sel [0, 3, 2] (by decide)⟩
      · have hj2 := cond_t hc3 hj2
        refine q_skip hF (wanted_f hF rfl rfl rfl hc3 rfl) rfl fun a hF => ?_
        refine q_skip hF (wanted_f hF rfl rfl rfl hc3 rfl) rfl fun a hF => ?_
        refine q_skip hF (wanted_f hF rfl rfl rfl hc3 rfl) rfl fun a hF => ?_
        refine q_skip hF (wanted_f hF rfl rfl rfl hc3 rfl) rfl fun a hF => ?_
        refine q_x (v := (.bool true)) hF hS (ex_pick_t rfl rfl hc3) rfl rfl fun a hF => ?_
        refine q_end (n_jn ?_)
        obtain rfl := someI hj2
        exact ⟨hF.sub ⟨rfl, rfl, rfl, rfl, rfl, trivial⟩, hS.sel [0, 3, 2] (by decide)⟩
    · rintro a w ⟨hF, hS⟩
      refine n_sq ?_
      rcases bcase (t_18) with hc4 | hc4
      · have hr := cond_f hc4 hr
        refine q_cond_f hF rfl hc4 ?_
        refine q_skipc (n_sq ?_)
        refine q_seq ?_
        refine q_seq ?_
        refine q_region ?_
        refine q_x (v := s15.v) hF hS (ex_move rfl) rfl rfl fun a hF => ?_
        refine q_x (v := (.int .i64 (goLen t_12.1))) hF hS (ex_len Try.underlying42 rfl h15.len) rfl rfl fun a hF => ?_
        refine q_x (v := (.int .i64 0)) hF hS (ex_move rfl) rfl rfl fun a hF => ?_
        refine q_end (n_sq ?_)
        refine q_block ?_
        obtain ⟨o5, hl5, hr⟩ := bindS hr
        refine q_loop (fun (t_19 : Int) a w => Fr a 159 [(1, s2.v), (5, (.pointer (some ⟨b7, 0, none⟩))), (6, (.int .i64 t_4.2)), (59, s15.v), (60, (.int .i64 (goLen t_12.1))), (61, (.int .i64 t_19))] ∧ St [] w0 w m5 [q15, q6, [⟨b7, [s6.v], 89⟩]]) (fun (o : (Unit) ⊕ (Bool)) e a w => o = .inl () ∧ e = .exit 0 ∧ Fr a 159 [(1, s2.v)] ∧ St [] w0 w m5 []) hl5 ⟨hF.sub ⟨rfl, rfl, rfl, rfl, rfl, rfl, trivial⟩, hS⟩ ?_ ?_
        · clear hF hS
          rintro t_19 a w st ⟨hF, hS⟩ hb5
          unfold laws_FnPaths_l1 at hb5
          refine q_seq ?_
          refine q_region ?_
          refine q_x (v := (.bool (decide (t_19 < (goLen t_12.1))))) hF hS (ex_ibin rfl rfl rfl) rfl rfl fun a hF => ?_
          refine q_end (n_sq ?_)
          refine q_seq ?_
          rcases bcase (decide (t_19 < (goLen t_12.1))) with hc6 | hc6
          · have hb5 := cond_f hc6 hb5
            refine q_cond_f hF rfl hc6 ?_
            refine q_exit (x_sq ?_)
            obtain rfl := someI hb5
            exact ⟨nofun, .inl ⟨rfl, rfl, hF.sub ⟨rfl, trivial⟩, hS.mask [false, false, false]⟩⟩
          · have hb5 := cond_t hc6 hb5
            refine q_cond_t hF rfl hc6 ?_
            refine q_skipc (n_sq ?_)
            refine q_seq ?_
            refine q_block ?_
            refine q_seq ?_
            refine q_region ?_
            refine q_x (v := (.int .i64 t_19)) hF hS (ex_move rfl) rfl rfl fun a hF => ?_
            obtain ⟨e_20, he_20, hb5⟩ := bindS hb5
            obtain ⟨vs21, at21, d21⟩ := h15.at he_20 1 rfl
            obtain rfl : vs21 = [(.int .i64 e_20)] := d21
            refine q_x (v := (elP s15 (t_19.toNat * 1))) hF hS (ex_indexAddr Try.underlying42 sz3 rfl rfl (h15.idx he_20)) rfl rfl fun a hF => ?_
            refine q_x (v := (.int .i64 e_20)) hF hS (ex_loadE1 0 Try.underlying3 rfl rfl (at21.at 0 rfl) rfl rfl) rfl rfl fun a hF => ?_
            refine q_x (v := (.int .i64 t_19)) hF hS (ex_assign rfl) rfl rfl fun a hF => ?_
            refine q_x (v := (.int .i64 e_20)) hF hS (ex_assign rfl) rfl rfl fun a hF => ?_
            refine q_end (n_sq ?_)
            refine q_seq ?_
            refine q_region ?_
            refine q_x (v := (.agg #[s6.v])) hF hS (ex_loadA (vs := [s6.v]) 2 0 Try.underlying89 rfl sz89 rfl rfl rfl rfl) rfl rfl fun a hF => ?_
            refine q_x (v := (.int .i64 t_4.2)) hF hS (ex_move rfl) rfl rfl fun a hF => ?_
            refine q_x (v := (.int .i64 t_19)) hF hS (ex_move rfl) rfl rfl fun a hF => ?_
            obtain ⟨m23, hl23, hv23, hz23⟩ := hS.lend
            obtain ⟨t_22, ht_22, hb5⟩ := bindS hb5
            refine q_call (vs := [(.agg #[s6.v]), (.int .i64 t_4.2), (.int .i64 t_19)]) hF hS Try.func71 (by kernel_rfl) rfl rfl rfl (c_impl_AncestorAt t_4.1 t_4.2 t_19 t_22 ht_22 _ m23 hv23 s6 (h6.froz hl23 (hz23 1 _ rfl))) ?_
            rintro a w _ rfl hF hS
            refine q_x (v := (.tuple #[(.int .i64 t_22.1), (.bool t_22.2)])) hF hS (ex_move rfl) rfl rfl fun a hF => ?_
            refine q_x (v := (.int .i64 t_22.1)) hF hS (ex_extract rfl rfl) rfl rfl fun a hF => ?_
            refine q_x (v := (.bool t_22.2)) hF hS (ex_extract rfl rfl) rfl rfl fun a hF => ?_
            refine q_x (v := (.int .i64 t_22.1)) hF hS (ex_assign rfl) rfl rfl fun a hF => ?_
            refine q_x (v := (.bool t_22.2)) hF hS (ex_assign rfl) rfl rfl fun a hF => ?_
            refine q_end (n_sq ?_)
            refine q_seq ?_
            refine q_region ?_
            refine q_x (v := (.agg #[s6.v])) hF hS (ex_loadA (vs := [s6.v]) 2 0 Try.underlying89 rfl sz89 rfl rfl rfl rfl) rfl rfl fun a hF => ?_
            refine q_x (v := (.int .i64 e_20)) hF hS (ex_move rfl) rfl rfl fun a hF => ?_
            obtain ⟨m25, hl25, hv25, hz25⟩ := hS.lend
            obtain ⟨t_24, ht_24, hb5⟩ := bindS hb5
            refine q_call (vs := [(.agg #[s6.v]), (.int .i64 e_20)]) hF hS Try.func72 (by kernel_rfl) rfl rfl rfl (c_impl_DepthOf t_4.1 e_20 t_24 ht_24 _ m25 hv25 s6 (h6.froz hl25 (hz25 1 _ rfl))) ?_
            rintro a w _ rfl hF hS
            refine q_x (v := (.tuple #[(.int .i64 t_24.1), (.bool t_24.2)])) hF hS (ex_move rfl) rfl rfl fun a hF => ?_
            refine q_x (v := (.int .i64 t_24.1)) hF hS (ex_extract rfl rfl) rfl rfl fun a hF => ?_
            refine q_x (v := (.bool t_24.2)) hF hS (ex_extract rfl rfl) rfl rfl fun a hF => ?_
            refine q_x (v := (.int .i64 t_24.1)) hF hS (ex_assign rfl) rfl rfl fun a hF => ?_
            refine q_x (v := (.bool t_24.2)) hF hS (ex_assign rfl) rfl rfl fun a hF => ?_
            refine q_end (n_sq ?_)
            refine q_seq ?_
            obtain ⟨t_26, hj7, hb5⟩ := bindS hb5
            refine q_join (fun a w => Fr a 159 [(1, s2.v), (5, (.pointer (some ⟨b7, 0, none⟩))), (6, (.int .i64 t_4.2)), (59, s15.v), (60, (.int .i64 (goLen t_12.1))), (61, (.int .i64 t_19)), (94, (.bool t_26))] ∧ St [] w0 w m5 [q15, q6, [⟨b7, [s6.v], 89⟩]]) ?_ ?_
            · refine q_region ?_
              refine q_x (v := (.bool t_22.2)) hF hS (ex_move rfl) rfl rfl fun a hF => ?_
              refine q_x (v := (.bool (!t_22.2))) hF hS (ex_not rfl) rfl rfl fun a hF => ?_
              refine q_x (v := (.bool (!t_22.2))) hF hS (ex_move rfl) rfl rfl fun a hF => ?_
              rcases bcase (!t_22.2) with hc8 | hc8
              · have hj7 := cond_f hc8 hj7
                refine q_xg (v := (.bool t_24.2)) hF hS (ex_move rfl) (wanted_t hF rfl rfl rfl hc8) rfl fun a hF => ?_
                refine q_xg (v := (.bool (!t_24.2))) hF hS (ex_not rfl) (wanted_t hF rfl rfl rfl hc8) rfl fun a hF => ?_
                refine q_x (v := (.bool (!t_24.2))) hF hS (ex_pick_f rfl rfl hc8) rfl rfl fun a hF => ?_
                refine q_x (v := (.bool (!t_24.2))) hF hS (ex_move rfl) rfl rfl fun a hF => ?_
                rcases bcase (!t_24.2) with hc9 | hc9
                · have hj7 := cond_f hc9 hj7
                  refine q_xg (v := (.int .i64 t_22.1)) hF hS (ex_move rfl) (wanted_t hF rfl rfl rfl hc9) rfl fun a hF => ?_
                  refine q_xg (v := (.int .i64 e_20)) hF hS (ex_move rfl) (wanted_t hF rfl rfl rfl hc9) rfl fun a hF => ?_
                  refine q_xg (v := (.bool (t_22.1 != e_20))) hF hS (ex_ibin rfl rfl rfl) (wanted_t hF rfl rfl rfl hc9) rfl fun a hF => ?_
                  refine q_x (v := (.bool (t_22.1 != e_20))) hF hS (ex_pick_f rfl rfl hc9) rfl rfl fun a hF => ?_
                  refine q_x (v := (.bool (t_22.1 != e_20))) hF hS (ex_move rfl) rfl rfl fun a hF => ?_
                  rcases bcase (t_22.1 != e_20) with hc10 | hc10
                  · have hj7 := cond_f hc10 hj7
                    refine q_xg (v := (.int .i64 t_24.1)) hF hS (ex_move rfl) (wanted_t hF rfl rfl rfl hc10) rfl fun a hF => ?_
                    refine q_xg (v := (.int .i64 t_19)) hF hS (ex_move rfl) (wanted_t hF rfl rfl rfl hc10) rfl fun a hF => ?_
                    refine q_xg (v := (.bool (t_24.1 != t_19))) hF hS (ex_ibin rfl rfl rfl) (wanted_t hF rfl rfl rfl hc10) rfl fun a hF => ?_
                    refine q_x (v := (.bool (t_24.1 != t_19))) hF hS (ex_pick_f rfl rfl hc10) rfl rfl fun a hF => ?_
                    refine q_end (n_jn ?_)
                    obtain rfl := someI hj7
                    exact ⟨hF.sub ⟨rfl, rfl, rfl, rfl, rfl, rfl, rfl, trivial⟩, hS⟩
                  · have hj7 := cond_t hc10 hj7
                    refine q_skip hF (wanted_f hF rfl rfl rfl hc10 rfl) rfl fun a hF => ?_
                    refine q_skip hF (wanted_f hF rfl rfl rfl hc10 rfl) rfl fun a hF => ?_
                    refine q_skip hF (wanted_f hF rfl rfl rfl hc10 rfl) rfl fun a hF => ?_
                    refine q_x (v := (.bool true)) hF hS (ex_pick_t rfl rfl hc10) rfl rfl fun a hF => ?_
                    refine q_end (n_jn ?_)
                    obtain rfl := someI hj7
                    exact ⟨hF.sub ⟨rfl, rfl, rfl, rfl, rfl, rfl, rfl, trivial⟩, hS⟩
                · have hj7 := cond_t hc9 hj7
                  refine q_skip hF (wanted_f hF rfl rfl rfl hc9 rfl) rfl fun a hF => ?_
                  refine q_skip hF (wanted_f hF rfl rfl rfl hc9 rfl) rfl fun a hF => ?_
                  refine q_skip hF (wanted_f hF rfl rfl rfl hc9 rfl) rfl fun a hF => ?_
                  refine q_x (v := (.bool true)) hF hS (ex_pick_t rfl rfl hc9) rfl rfl fun a hF => ?_
                  refine q_x (v := (.bool true)) hF hS (ex_move rfl) rfl rfl fun a hF => ?_
                  refine q_skip hF (wanted_f hF rfl rfl rfl rfl rfl) rfl fun a hF => ?_
                  refine q_skip hF (wanted_f hF rfl rfl rfl rfl rfl) rfl fun a hF => ?_
                  refine q_skip hF (wanted_f hF rfl rfl rfl rfl rfl) rfl fun a hF => ?_
                  refine q_x (v := (.bool true)) hF hS (ex_pick_t rfl rfl rfl) rfl rfl fun a hF => ?_
                  refine q_end (n_jn ?_)
                  obtain rfl := someI hj7
                  exact ⟨hF.sub ⟨rfl, rfl, rfl, rfl, rfl, rfl, rfl, trivial⟩, hS⟩
              · have hj7 := cond_t hc8 hj7
                refine q_skip hF (wanted_f hF rfl rfl rfl hc8 rfl) rfl fun a hF => ?_
                refine q_skip hF (wanted_f hF rfl rfl rfl hc8 rfl) rfl fun a hF => ?_
                refine q_x (v := (.bool true)) hF hS (ex_pick_t rfl rfl hc8) rfl rfl fun a hF => ?_
                refine q_x (v := (.bool true)) hF hS (ex_move rfl) rfl rfl fun a hF => ?_
                refine q_skip hF (wanted_f hF rfl rfl rfl rfl rfl) rfl fun a hF => ?_
                refine q_skip hF (wanted_f hF rfl rfl rfl rfl rfl) rfl fun a hF => ?_
                refine q_skip hF (wanted_f hF rfl rfl rfl rfl rfl) rfl fun a hF => ?_
                refine q_x (v := (.bool true)) hF hS (ex_pick_t rfl rfl rfl) rfl rfl fun a hF => ?_
                refine q_x (v := (.bool true)) hF hS (ex_move rfl) rfl rfl fun a hF => ?_
                refine q_skip hF (wanted_f hF rfl rfl rfl rfl rfl) rfl fun a hF => ?_
                refine q_skip hF (wanted_f hF rfl rfl rfl rfl rfl) rfl fun a hF => ?_
                refine q_skip hF (wanted_f hF rfl rfl rfl rfl rfl) rfl fun a hF => ?_
                refine q_x (v := (.bool true)) hF hS (ex_pick_t rfl rfl rfl) rfl rfl fun a hF => ?_
                refine q_end (n_jn ?_)
                obtain rfl := someI hj7
                exact ⟨hF.sub ⟨rfl, rfl, rfl, rfl, rfl, rfl, rfl, trivial⟩, hS⟩
            · rintro a w ⟨hF, hS⟩
              refine n_sq ?_
              rcases bcase (t_26) with hc11 | hc11
              · have hb5 := cond_f hc11 hb5
                refine q_cond_f hF rfl hc11 ?_
                refine q_skipc (n_ib (n_sq ?_))
                refine q_region ?_
                refine q_x (v := (.int .i64 (w64 (t_19 + 1)))) hF hS (ex_ibin rfl rfl rfl) rfl rfl fun a hF => ?_
                refine q_x (v := (.int .i64 (w64 (t_19 + 1)))) hF hS (ex_move rfl) rfl rfl fun a hF => ?_
                refine q_end ?_
                obtain rfl := someI hb5
                exact ⟨rfl, hF.sub ⟨rfl, rfl, rfl, rfl, rfl, rfl, trivial⟩, hS⟩
              · have hb5 := cond_t hc11 hb5
                refine q_cond_t hF rfl hc11 ?_
                refine q_seq ?_
                refine q_region ?_
                refine q_x (v := (.bool false)) hF hS (ex_assign rfl) rfl rfl fun a hF => ?_
                refine q_end (n_sq (q_ret (r_ib (r_sq ?_))))
                obtain rfl := someI hb5
                refine ⟨nofun, .inr fun ho => ?_⟩
                subst ho
                refine r_ib (r_sq ?_)
                obtain rfl := someI hr
                exact ret_of hF hS rfl (.tmp rfl .nil) rfl
        · rintro e a w ⟨rfl, rfl, hF, hS⟩
          refine x_ib (n_sq ?_)
          refine q_seq ?_
          refine q_region ?_
          refine q_x (v := s2.v) hF hS (ex_move rfl) rfl rfl fun a hF => ?_
          obtain ⟨t_27, ht_27, hr⟩ := bindS hr
          refine q_call (vs := [s2.v]) hF hS Try.func73 (by kernel_rfl) rfl rfl rfl (c_spec_DrawMeetOf p_more t_27 ht_27 _ m5 hS.vis s2 (h2.mono hm5.le)) ?_
          have hT := hS
          rintro a w _ ⟨m28, q29, s29, rfl, hm28, hR28, h29⟩ hF hS2
          have hS : St _ _ _ _ [q29] := hS.join hR28 hm28
          have hm28 := MLe.weakX (O0 := []) hT hm28
          refine q_x (v := (.tuple #[(.agg #[s29.v]), (.int .i64 t_27.2.1), (.int .i64 t_27.2.2)])) hF hS (ex_move rfl) rfl rfl fun a hF => ?_
          refine q_x (v := (.agg #[s29.v])) hF hS (ex_extract rfl rfl) rfl rfl fun a hF => ?_
          refine q_x (v := (.int .i64 t_27.2.1)) hF hS (ex_extract rfl rfl) rfl rfl fun a hF => ?_
          refine q_x (v := (.int .i64 t_27.2.2)) hF hS (ex_extract rfl rfl) rfl rfl fun a hF => ?_
          refine q_alloc (cs := [nilS.v]) hF hS rfl rfl rfl fun a w b30 hF hS => ?_
          refine q_store (vs := [s29.v]) (cs' := [s29.v]) 0 0 hF hS sz89 rfl rfl rfl rfl rfl rfl rfl rfl fun a w hF hS => ?_
          refine q_x (v := (.int .i64 t_27.2.1)) hF hS (ex_assign rfl) rfl rfl fun a hF => ?_
          refine q_x (v := (.int .i64 t_27.2.2)) hF hS (ex_assign rfl) rfl rfl fun a hF => ?_
          refine q_end (n_sq ?_)
          refine q_seq ?_
          refine q_region ?_
          refine q_x (v := (.agg #[s29.v])) hF hS (ex_loadA (vs := [s29.v]) 0 0 Try.underlying89 rfl sz89 rfl rfl rfl rfl) rfl rfl fun a hF => ?_
          refine q_x (v := (.int .i64 t_27.2.1)) hF hS (ex_move rfl) rfl rfl fun a hF => ?_
          refine q_x (v := (.int .i64 t_27.2.2)) hF hS (ex_move rfl) rfl rfl fun a hF => ?_
          obtain ⟨m32, hl32, hv32, hz32⟩ := hS.lend
          obtain ⟨t_31, ht_31, hr⟩ := bindS hr
          refine q_call (vs := [(.agg #[s29.v]), (.int .i64 t_27.2.1), (.int .i64 t_27.2.2)]) hF hS Try.func74 (by kernel_rfl) rfl rfl rfl (c_impl_MeetOf t_27.1 t_27.2.1 t_27.2.2 t_31 ht_31 _ m32 hv32 s29 (h29.froz hl32 (hz32 1 _ rfl))) ?_
          rintro a w _ rfl hF hS
          refine q_x (v := (.tuple #[(.int .i64 t_31.1), (.bool t_31.2)])) hF hS (ex_move rfl) rfl rfl fun a hF => ?_
          refine q_x (v := (.int .i64 t_31.1)) hF hS (ex_extract rfl rfl) rfl rfl fun a hF => ?_
          refine q_x (v := (.bool t_31.2)) hF hS (ex_extract rfl rfl) rfl rfl fun a hF => ?_
          refine q_x (v := (.int .i64 t_31.1)) hF hS (ex_assign rfl) rfl rfl fun a hF => ?_
          refine q_x (v := (.bool t_31.2)) hF hS (ex_assign rfl) rfl rfl fun a hF => ?_
          refine q_end (n_sq ?_)
          refine q_seq ?_
          refine q_region ?_
          refine q_x (v := (.agg #[s29.v])) hF hS (ex_loadA (vs := [s29.v]) 0 0 Try.underlying89 rfl sz89 rfl rfl rfl rfl) rfl rfl fun a hF => ?_
          refine q_x (v := (.int .i64 t_27.2.1)) hF hS (ex_move rfl) rfl rfl fun a hF => ?_
          refine q_x (v := (.int .i64 t_27.2.2)) hF hS (ex_move rfl) rfl rfl fun a hF => ?_
          obtain ⟨m34, hl34, hv34, hz34⟩ := hS.lend
          obtain ⟨t_33, ht_33, hr⟩ := bindS hr
          refine q_call (vs := [(.agg #[s29.v]), (.int .i64 t_27.2.1), (.int .i64 t_27.2.2)]) hF hS Try.func75 (by kernel_rfl) rfl rfl rfl (c_spec_MeetOf t_27.1 t_27.2.1 t_27.2.2 t_33 ht_33 _ m34 hv34 s29 (h29.froz hl34 (hz34 1 _ rfl))) ?_
          rintro a w _ rfl hF hS
          refine q_x (v := (.tuple #[(.int .i64 t_33.1), (.bool t_33.2)])) hF hS (ex_move rfl) rfl rfl fun a hF => ?_
          refine q_x (v := (.int .i64 t_33.1)) hF hS (ex_extract rfl rfl) rfl rfl fun a hF => ?_
          refine q_x (v := (.bool t_33.2)) hF hS (ex_extract rfl rfl) rfl rfl fun a hF => ?_
          refine q_x (v := (.int .i64 t_33.1)) hF hS (ex_assign rfl) rfl rfl fun a hF => ?_
          refine q_x (v := (.bool t_33.2)) hF hS (ex_assign rfl) rfl rfl fun a hF => ?_
          refine q_end (n_sq ?_)
          refine q_seq ?_
          refine q_region ?_
          refine q_x (v := (.agg #[s29.v])) hF hS (ex_loadA (vs := [s29.v]) 0 0 Try.underlying89 rfl sz89 rfl rfl rfl rfl) rfl rfl fun a hF => ?_
          refine q_x (v := (.int .i64 t_27.2.2)) hF hS (ex_move rfl) rfl rfl fun a hF => ?_
          refine q_x (v := (.int .i64 t_27.2.1)) hF hS (ex_move rfl) rfl rfl fun a hF => ?_
          obtain ⟨m36, hl36, hv36, hz36⟩ := hS.lend
          obtain ⟨t_35, ht_35, hr⟩ := bindS hr
          refine q_call (vs := [(.agg #[s29.v]), (.int .i64 t_27.2.2), (.int .i64 t_27.2.1)]) hF hS Try.func74 (by kernel_rfl) rfl rfl rfl (c_impl_MeetOf t_27.1 t_27.2.2 t_27.2.1 t_35 ht_35 _ m36 hv36 s29 (h29.froz hl36 (hz36 1 _ rfl))) ?_
          rintro a w _ rfl hF hS
          refine q_x (v := (.tuple #[(.int .i64 t_35.1), (.bool t_35.2)])) hF hS (ex_move rfl) rfl rfl fun a hF => ?_
          refine q_x (v := (.int .i64 t_35.1)) hF hS (ex_extract rfl rfl) rfl rfl fun a hF => ?_
          refine q_x (v := (.bool t_35.2)) hF hS (ex_extract rfl rfl) rfl rfl fun a hF => ?_
          refine q_x (v := (.int .i64 t_35.1)) hF hS (ex_assign rfl) rfl rfl fun a hF => ?_
          refine q_x (v := (.bool t_35.2)) hF hS (ex_assign rfl) rfl rfl fun a hF => ?_
          refine q_end (n_sq ?_)
          refine q_seq ?_
          refine q_seq ?_
          obtain ⟨t_37, hj12, hr⟩ := bindS hr
          refine q_join (fun a w => Fr a 159 [(17, (.pointer (some ⟨b30, 0, none⟩))), (140, (.bool t_37))] ∧ St [] w0 w m28 [q29, [⟨b30, [s29.v], 89⟩]]) ?_ ?_
          · refine q_region ?_
            refine q_x (v := (.bool t_31.2)) hF hS (ex_move rfl) rfl rfl fun a hF => ?_
            refine q_x (v := (.bool t_33.2)) hF hS (ex_move rfl) rfl rfl fun a hF => ?_
            refine q_x (v := (.bool (t_31.2 != t_33.2))) hF hS (ex_bne Try.underlying4 rfl rfl) rfl rfl fun a hF => ?_
            refine q_x (v := (.bool (t_31.2 != t_33.2))) hF hS (ex_move rfl) rfl rfl fun a hF => ?_
            rcases bcase (t_31.2 != t_33.2) with hc13 | hc13
            · have hj12 := cond_f hc13 hj12
              refine q_xg (v := (.int .i64 t_31.1)) hF hS (ex_move rfl) (wanted_t hF rfl rfl rfl hc13) rfl fun a hF => ?_
              refine q_xg (v := (.int .i64 t_33.1)) hF hS (ex_move rfl) (wanted_t hF rfl rfl rfl hc13) rfl fun a hF => ?_
              refine q_xg (v := (.bool (t_31.1 != t_33.1))) hF hS (ex_ibin rfl rfl rfl) (wanted_t hF rfl rfl rfl hc13) rfl fun a hF => ?_
              refine q_x (v := (.bool (t_31.1 != t_33.1))) hF hS (ex_pick_f rfl rfl hc13) rfl rfl fun a hF => ?_
              refine q_x (v := (.bool (t_31.1 != t_33.1))) hF hS (ex_move rfl) rfl rfl fun a hF => ?_
              rcases bcase (t_31.1 != t_33.1) with hc14 | hc14
              · have hj12 := cond_f hc14 hj12
                refine q_xg (v := (.bool t_35.2)) hF hS (ex_move rfl) (wanted_t hF rfl rfl rfl hc14) rfl fun a hF => ?_
                refine q_xg (v := (.bool t_31.2)) hF hS (ex_move rfl) (wanted_t hF rfl rfl rfl hc14) rfl fun a hF => ?_
                refine q_xg (v := (.bool (t_35.2 != t_31.2))) hF hS (ex_bne Try.underlying4 rfl rfl) (wanted_t hF rfl rfl rfl hc14) rfl fun a hF => ?_
                refine q_x (v := (.bool (t_35.2 != t_31.2))) hF hS (ex_pick_f rfl rfl hc14) rfl rfl fun a hF => ?_
                refine q_x (v := (.bool (t_35.2 != t_31.2))) hF hS (ex_move rfl) rfl rfl fun a hF => ?_
                rcases bcase (t_35.2 != t_31.2) with hc15 | hc15
                · have hj12 := cond_f hc15 hj12
                  refine q_xg (v := (.int .i64 t_35.1)) hF hS (ex_move rfl) (wanted_t hF rfl rfl rfl hc15) rfl fun a hF => ?_
                  refine q_xg (v := (.int .i64 t_31.1)) hF hS (ex_move rfl) (wanted_t hF rfl rfl rfl hc15) rfl fun a hF => ?_
                  refine q_xg (v := (.bool (t_35.1 != t_31.1))) hF hS (ex_ibin rfl rfl rfl) (wanted_t hF rfl rfl rfl hc15) rfl fun a hF => ?_
                  refine q_x (v := (.bool (t_35.1 != t_31.1))) hF hS (ex_pick_f rfl rfl hc15) rfl rfl fun a hF => ?_
                  refine q_end (n_jn ?_)
                  obtain rfl := someI hj12
                  exact ⟨hF.sub ⟨rfl, rfl, trivial⟩, hS.sel [1, 0] (by decide)⟩
                · have hj12 := cond_t hc15 hj12
                  refine q_skip hF (wanted_f hF rfl rfl rfl hc15 rfl) rfl fun a hF => ?_
                  refine q_skip hF (wanted_f hF rfl rfl rfl hc15 rfl) rfl fun a hF => ?_
                  refine q_skip hF (wanted_f hF rfl rfl rfl hc15 rfl) rfl fun a hF => ?_
                  refine q_x (v := (.bool true)) hF hS (ex_pick_t rfl rfl hc15) rfl rfl fun a hF => ?_
                  refine q_end (n_jn ?_)
                  obtain rfl := someI hj12
                  exact ⟨hF.sub ⟨rfl, rfl, trivial⟩, hS.sel [1, 0] (by decide)⟩
              · have hj12 := cond_t hc14 hj12
                refine q_skip hF (wanted_f hF rfl rfl rfl hc14 rfl) rfl fun a hF => ?_
                refine q_skip hF (wanted_f hF rfl rfl rfl hc14 rfl) rfl fun a hF => ?_
                refine q_skip hF (wanted_f hF rfl rfl rfl hc14 rfl) rfl fun a hF => ?_
                refine q_x (v := (.bool true)) hF hS (ex_pick_t rfl rfl hc14) rfl rfl fun a hF => ?_
                refine q_x (v := (.bool true)) hF hS (ex_move rfl) rfl rfl fun a hF => ?_
                refine q_skip hF (wanted_f hF rfl rfl rfl rfl rfl) rfl fun a hF => ?_
                refine q_skip hF (wanted_f hF rfl rfl rfl rfl rfl) rfl fun a hF => ?_
                refine q_skip hF (wanted_f hF rfl rfl rfl rfl rfl) rfl fun a hF => ?_
                refine q_x (v := (.bool true)) hF hS (ex_pick_t rfl rfl rfl) rfl rfl fun a hF => ?_
                refine q_end (n_jn ?_)
                obtain rfl := someI hj12
                exact ⟨hF.sub ⟨rfl, rfl, trivial⟩, hS.sel [1, 0] (by decide)⟩
            · have hj12 := cond_t hc13 hj12
              refine q_skip hF (wanted_f hF rfl rfl rfl hc13 rfl) rfl fun a hF => ?_
              refine q_skip hF (wanted_f hF rfl rfl rfl hc13 rfl) rfl fun a hF => ?_
              refine q_skip hF (wanted_f hF rfl rfl rfl hc13 rfl) rfl fun a hF => ?_
              refine q_x (v := (.bool true)) hF hS (ex_pick_t rfl rfl hc13) rfl rfl fun a hF => ?_
              refine q_x (v := (.bool true)) hF hS (ex_move rfl) rfl rfl fun a hF => ?_
              refine q_skip hF (wanted_f hF rfl rfl rfl rfl rfl) rfl fun a hF => ?_
              refine q_skip hF (wanted_f hF rfl rfl rfl rfl rfl) rfl fun a hF => ?_
              refine q_skip hF (wanted_f hF rfl rfl rfl rfl rfl) rfl fun a hF => ?_
              refine q_x (v := (.bool true)) hF hS (ex_pick_t rfl rfl rfl) rfl rfl fun a hF => ?_
              refine q_x (v := (.bool true)) hF hS (ex_move rfl) rfl rfl fun a hF => ?_
              refine q_skip hF (wanted_f hF rfl rfl rfl rfl rfl) rfl fun a hF => ?_
              refine q_skip hF (wanted_f hF rfl rfl rfl rfl rfl) rfl fun a hF => ?_
              refine q_skip hF (wanted_f hF rfl rfl rfl rfl rfl) rfl fun a hF => ?_
              refine q_x (v := (.bool true)) hF hS (ex_pick_t rfl rfl rfl) rfl rfl fun a hF => ?_
              refine q_end (n_jn ?_)
              obtain rfl := someI hj12
              exact ⟨hF.sub ⟨rfl, rfl, trivial⟩, hS.sel [1, 0] (by decide)⟩
          · rintro a w ⟨hF, hS⟩
            refine n_sq ?_
            rcases bcase (t_37) with hc16 | hc16
            · have hr := cond_f hc16 hr
              refine q_cond_f hF rfl hc16 ?_
              refine q_skipc (n_sq ?_)
              refine q_seq ?_
              refine q_region ?_
              refine q_x (v := (.agg #[s29.v])) hF hS (ex_loadA (vs := [s29.v]) 1 0 Try.underlying89 rfl sz89 rfl rfl rfl rfl) rfl rfl fun a hF => ?_
              obtain ⟨m39, hl39, hv39, hz39⟩ := hS.lend
              obtain ⟨t_38, ht_38, hr⟩ := bindS hr
              refine q_call (vs := [(.agg #[s29.v])]) hF hS Try.func76 (by kernel_rfl) rfl rfl rfl (c_impl_IsUniform t_27.1 t_38 ht_38 _ m39 hv39 s29 (h29.froz hl39 (hz39 0 _ rfl))) ?_
              rintro a w _ rfl hF hS
              refine q_x (v := (.tuple #[(.bool t_38.1), (.bool t_38.2)])) hF hS (ex_move rfl) rfl rfl fun a hF => ?_
              refine q_x (v := (.bool t_38.1)) hF hS (ex_extract rfl rfl) rfl rfl fun a hF => ?_
              refine q_x (v := (.bool t_38.2)) hF hS (ex_extract rfl rfl) rfl rfl fun a hF => ?_
              refine q_x (v := (.bool t_38.1)) hF hS (ex_assign rfl) rfl rfl fun a hF => ?_
              refine q_x (v := (.bool t_38.2)) hF hS (ex_assign rfl) rfl rfl fun a hF => ?_
              refine q_end (n_sq ?_)
              refine q_seq ?_
              refine q_region ?_
              refine q_x (v := (.agg #[s29.v])) hF hS (ex_loadA (vs := [s29.v]) 1 0 Try.underlying89 rfl sz89 rfl rfl rfl rfl) rfl rfl fun a hF => ?_
              obtain ⟨m41, hl41, hv41, hz41⟩ := hS.lend
              obtain ⟨t_40, ht_40, hr⟩ := bindS hr
              refine q_call (vs := [(.agg #[s29.v])]) hF hS Try.func77 (by kernel_rfl) rfl rfl rfl (c_spec_IsUniform t_27.1 t_40 ht_40 _ m41 hv41 s29 (h29.froz hl41 (hz41 0 _ rfl))) ?_
              rintro a w _ rfl hF hS
              refine q_x (v := (.tuple #[(.bool t_40.1), (.bool t_40.2)])) hF hS (ex_move rfl) rfl rfl fun a hF => ?_
              refine q_x (v := (.bool t_40.1)) hF hS (ex_extract rfl rfl) rfl rfl fun a hF => ?_
              refine q_x (v := (.bool t_40.2)) hF hS (ex_extract rfl rfl) rfl rfl fun a hF => ?_
              refine q_x (v := (.bool t_40.1)) hF hS (ex_assign rfl) rfl rfl fun a hF => ?_
              refine q_x (v := (.bool t_40.2)) hF hS (ex_assign rfl) rfl rfl fun a hF => ?_
              refine q_end (n_sq ?_)
              refine q_seq ?_
              obtain ⟨t_42, hj17, hr⟩ := bindS hr
              refine q_join (fun a w => Fr a 159 [(4, (.bool t_42))] ∧ St [] w0 w m28 []) ?_ ?_
              · refine q_region ?_
                refine q_x (v := (.bool t_38.2)) hF hS (ex_move rfl) rfl rfl fun a hF => ?_
                refine q_x (v := (.bool t_40.2)) hF hS (ex_move rfl) rfl rfl fun a hF => ?_
                refine q_x (v := (.bool (t_38.2 == t_40.2))) hF hS (ex_beq Try.underlying4 rfl rfl) rfl rfl fun a hF => ?_
                refine q_x (v := (.bool (t_38.2 == t_40.2))) hF hS (ex_move rfl) rfl rfl fun a hF => ?_
                rcases bcase (t_38.2 == t_40.2) with hc18 | hc18
                · have hj17 := cond_f hc18 hj17
                  refine q_skip hF (wanted_f hF rfl rfl rfl hc18 rfl) rfl fun a hF => ?_
                  refine q_skip hF (wanted_f hF rfl rfl rfl hc18 rfl) rfl fun a hF => ?_
                  refine q_skip hF (wanted_f hF rfl rfl rfl hc18 rfl) rfl fun a hF => ?_
                  refine q_x (v := (.bool false)) hF hS (ex_pick_f rfl rfl hc18) rfl rfl fun a hF => ?_
                  refine q_x (v := (.bool false)) hF hS (ex_assign rfl) rfl rfl fun a hF => ?_
                  refine q_end (n_jn ?_)
                  obtain rfl := someI hj17
                  exact ⟨hF.sub ⟨rfl, trivial⟩, hS.mask [false, false]⟩
                · have hj17 := cond_t hc18 hj17
                  refine q_xg (v := (.bool t_38.1)) hF hS (ex_move rfl) (wanted_t hF rfl rfl rfl hc18) rfl fun a hF => ?_
                  refine q_xg (v := (.bool t_40.1)) hF hS (ex_move rfl) (wanted_t hF rfl rfl rfl hc18) rfl fun a hF => ?_
                  refine q_xg (v := (.bool (t_38.1 == t_40.1))) hF hS (ex_beq Try.underlying4 rfl rfl) (wanted_t hF rfl rfl rfl hc18) rfl fun a hF => ?_
                  refine q_x (v := (.bool (t_38.1 == t_40.1))) hF hS (ex_pick_t rfl rfl hc18) rfl rfl fun a hF => ?_
                  refine q_x (v := (.bool (t_38.1 == t_40.1))) hF hS (ex_assign rfl) rfl rfl fun a hF => ?_
                  refine q_end (n_jn ?_)
                  obtain rfl := someI hj17
                  exact ⟨hF.sub ⟨rfl, trivial⟩, hS.mask [false, false]⟩
              · rintro a w ⟨hF, hS⟩
                refine n_sq (q_ret ?_)
                obtain rfl := someI hr
                exact ret_of hF hS rfl (.tmp rfl .nil) rfl
            · have hr := cond_t hc16 hr
              refine q_cond_t hF rfl hc16 ?_
              refine q_seq ?_
              refine q_region ?_
              refine q_x (v := (.bool false)) hF hS (ex_assign rfl) rfl rfl fun a hF => ?_
              refine q_end (n_sq (q_ret (r_sq ?_)))
              obtain rfl := someI hr
              exact ret_of hF hS rfl (.tmp rfl .nil) rfl
      · have hr := cond_t hc4 hr
        refine q_cond_t hF rfl hc4 ?_
        refine q_seq ?_
        refine q_region ?_
        refine q_x (v := (.bool false)) hF hS (ex_assign rfl) rfl rfl fun a hF => ?_
        refine q_end (n_sq (q_ret (r_sq ?_)))
        obtain rfl := someI hr
        exact ret_of hF hS rfl (.tmp rfl .nil) rfl
  · have hr := cond_t hc1 hr
    refine q_cond_t hF rfl hc1 ?_
    refine q_seq ?_
    refine q_region ?_
    refine q_x (v := (.bool true)) hF hS (ex_assign rfl) rfl rfl fun a hF => ?_
    refine q_end (n_sq (q_ret (r_sq ?_)))
    obtain rfl := someI hr
    exact ret_of hF hS rfl (.tmp rfl .nil) rfl

end Go.Proofs.Ytdbgmkfniichdaa
