/- The walks of the functions: each returns what its plain function says. -/
import Derived.Test.YtkgmphgbmjbfhaaDWalks1
namespace Go.Proofs.Ytkgmphgbmjbfhaa
open Go.Gx Go.Gx.F Go.RowKit
set_option linter.all false
set_option maxRecDepth 10000


theorem c_impl_ledgerLoss (p_l : List impl_Entry) (r : impl_Loss × Bool) (hr : impl_ledgerLoss p_l = some r) (w0 : World) (m : Mem) (hv : Vis m w0) (s1 : Sl) (h1 : Rd m s1 p_l) :
    Ret Try.prog 131 [s1.v] w0 (fun v _ => v = (.tuple #[(.agg #[(.int .i64 r.1.Ratio.Num), (.int .i64 r.1.Ratio.Den), (.int .i64 r.1.Rho.Num), (.int .i64 r.1.Rho.Den)]), (.bool r.2)])) := by
  unfold impl_ledgerLoss at hr
  refine ret_start Try.func131 rfl 82 rfl rfl m hv fun a hF hS => ?_
  refine q_seq ?_
  refine q_region ?_
  refine q_alloc (cs := [(.int .i64 0), (.int .i64 0), (.int .i64 0), (.int .i64 0)]) hF hS rfl rfl rfl fun a w b2 hF hS => ?_
  refine q_x (v := (.bool false)) hF hS (ex_assign rfl) rfl rfl fun a hF => ?_
  refine q_end (n_sq ?_)
  refine q_seq ?_
  refine q_region ?_
  obtain ⟨t_3, ht_3, hr⟩ := bindS hr
  refine q_call (vs := []) hF hS Try.func80 (by kernel_rfl) rfl rfl rfl (c_impl_NoLoss  t_3 ht_3 _ m hS.vis) ?_
  rintro a w _ rfl hF hS
  refine q_alloc (cs := [(.int .i64 0), (.int .i64 0), (.int .i64 0), (.int .i64 0)]) hF hS rfl rfl rfl fun a w b4 hF hS => ?_
  refine q_store (vs := [(.int .i64 t_3.Ratio.Num), (.int .i64 t_3.Ratio.Den), (.int .i64 t_3.Rho.Num), (.int .i64 t_3.Rho.Den)]) (cs' := [(.int .i64 t_3.Ratio.Num), (.int .i64 t_3.Ratio.Den), (.int .i64 t_3.Rho.Num), (.int .i64 t_3.Rho.Den)]) 0 0 hF hS sz28 rfl rfl rfl rfl rfl rfl rfl rfl fun a w hF hS => ?_
  refine q_x (v := (.bool true)) hF hS (ex_assign rfl) rfl rfl fun a hF => ?_
  refine q_end (n_sq ?_)
  refine q_seq ?_
  refine q_seq ?_
  refine q_region ?_
  refine q_x (v := s1.v) hF hS (ex_move rfl) rfl rfl fun a hF => ?_
  refine q_x (v := (.int .i64 (goLen p_l))) hF hS (ex_len Try.underlying81 rfl h1.len) rfl rfl fun a hF => ?_
  refine q_x (v := (.int .i64 0)) hF hS (ex_move rfl) rfl rfl fun a hF => ?_
  refine q_end (n_sq ?_)
  refine q_block ?_
  obtain ⟨o1, hl1, hr⟩ := bindS hr
  refine q_loop (fun (s : Int × impl_Loss) a w => ∃ t_5, ∃ first_6, s = (t_5, first_6) ∧ Fr a 82 [(0, s1.v), (2, (.pointer (some ⟨b2, 0, none⟩))), (4, (.pointer (some ⟨b4, 0, none⟩))), (15, s1.v), (16, (.int .i64 (goLen p_l))), (17, (.int .i64 t_5))] ∧ St [] w0 w m [[⟨b4, [(.int .i64 first_6.Ratio.Num), (.int .i64 first_6.Ratio.Den), (.int .i64 first_6.Rho.Num), (.int .i64 first_6.Rho.Den)], 28⟩], [⟨b2, [(.int .i64 0), (.int .i64 0), (.int .i64 0), (.int .i64 0)], 28⟩]]) (fun (o : (impl_Loss) ⊕ (impl_Loss × Bool)) e a w => ∃ first_12, o = .inl first_12 ∧ e = .exit 0 ∧ Fr a 82 [(0, s1.v), (2, (.pointer (some ⟨b2, 0, none⟩))), (4, (.pointer (some ⟨b4, 0, none⟩)))] ∧ St [] w0 w m [[⟨b4, [(.int .i64 first_12.Ratio.Num), (.int .i64 first_12.Ratio.Den), (.int .i64 first_12.Rho.Num), (.int .i64 first_12.Rho.Den)], 28⟩], [⟨b2, [(.int .i64 0), (.int .i64 0), (.int .i64 0), (.int .i64 0)], 28⟩]]) hl1 ⟨_, _, rfl, hF.sub ⟨rfl, rfl, rfl, rfl, rfl, rfl, trivial⟩, hS⟩ ?_ ?_
  · clear hF hS
    rintro s a w st ⟨t_5, first_6, rfl, hF, hS⟩ hb1
    unfold impl_ledgerLoss_l1 at hb1
    refine q_seq ?_
    refine q_region ?_
    refine q_x (v := (.bool (decide (t_5 < (goLen p_l))))) hF hS (ex_ibin rfl rfl rfl) rfl rfl fun a hF => ?_
    refine q_end (n_sq ?_)
    refine q_seq ?_
    rcases hc2 : (decide (t_5 < (goLen p_l))) with _ | _
    · have hb1 := cond_f hc2 hb1
      refine q_cond_f hF rfl hc2 ?_
      refine q_exit (x_sq ?_)
      obtain rfl := someI hb1
      exact ⟨nofun, .inl ⟨_, rfl, rfl, hF.sub ⟨rfl, rfl, rfl, trivial⟩, hS⟩⟩
    · have hb1 := cond_t hc2 hb1
      refine q_cond_t hF rfl hc2 ?_
      refine q_skipc (n_sq ?_)
      refine q_seq ?_
      refine q_block ?_
      refine q_seq ?_
      refine q_region ?_
      obtain ⟨e_7, he_7, hb1⟩ := bindS hb1
      obtain ⟨vs8, at8, d8⟩ := h1.at he_7 5 rfl
      obtain rfl : vs8 = [(.int .i64 e_7.Scope), (.int .i64 e_7.Loss.Ratio.Num), (.int .i64 e_7.Loss.Ratio.Den), (.int .i64 e_7.Loss.Rho.Num), (.int .i64 e_7.Loss.Rho.Den)] := d8
      refine q_x (v := (elP s1 (t_5.toNat * 5))) hF hS (ex_indexAddr Try.underlying81 sz116 rfl rfl (h1.idx he_7)) rfl rfl fun a hF => ?_
      refine q_x (v := (.agg #[(.int .i64 e_7.Scope), (.int .i64 e_7.Loss.Ratio.Num), (.int .i64 e_7.Loss.Ratio.Den), (.int .i64 e_7.Loss.Rho.Num), (.int .i64 e_7.Loss.Rho.Den)])) hF hS (ex_loadEA (us := [(.int .i64 e_7.Scope), (.int .i64 e_7.Loss.Ratio.Num), (.int .i64 e_7.Loss.Ratio.Den), (.int .i64 e_7.Loss.Rho.Num), (.int .i64 e_7.Loss.Rho.Den)]) 0 Try.underlying116 rfl sz116 rfl ((at8).at) rfl rfl rfl) rfl rfl fun a hF => ?_
      refine q_alloc (cs := [(.int .i64 0), (.int .i64 0), (.int .i64 0), (.int .i64 0), (.int .i64 0)]) hF hS rfl rfl rfl fun a w b9 hF hS => ?_
      refine q_store (vs := [(.int .i64 e_7.Scope), (.int .i64 e_7.Loss.Ratio.Num), (.int .i64 e_7.Loss.Ratio.Den), (.int .i64 e_7.Loss.Rho.Num), (.int .i64 e_7.Loss.Rho.Den)]) (cs' := [(.int .i64 e_7.Scope), (.int .i64 e_7.Loss.Ratio.Num), (.int .i64 e_7.Loss.Ratio.Den), (.int .i64 e_7.Loss.Rho.Num), (.int .i64 e_7.Loss.Rho.Den)]) 0 0 hF hS sz116 rfl rfl rfl rfl rfl rfl rfl rfl fun a w hF hS => ?_
      refine q_end (n_sq ?_)
      refine q_seq ?_
      refine q_region ?_
      refine q_x (v := (.pointer (some ⟨b9, 0, none⟩))) hF hS (ex_fieldAddr Try.underlying116 rfl sz3 rfl rfl) rfl rfl fun a hF => ?_
      refine q_x (v := (.int .i64 e_7.Scope)) hF hS (ex_load1 0 0 Try.underlying3 rfl rfl rfl rfl) rfl rfl fun a hF => ?_
      refine q_x (v := (.bool (e_7.Scope == (-1)))) hF hS (ex_ibin rfl rfl rfl) rfl rfl fun a hF => ?_
      refine q_end (n_sq ?_)
      obtain ⟨j3, hj3, hb1⟩ := bindS hb1
      refine q_join (fun a w => ∃ first_11, j3 = .inl first_11 ∧ Fr a 82 [(0, s1.v), (2, (.pointer (some ⟨b2, 0, none⟩))), (4, (.pointer (some ⟨b4, 0, none⟩))), (15, s1.v), (16, (.int .i64 (goLen p_l))), (17, (.int .i64 t_5))] ∧ St [] w0 w m [[⟨b4, [(.int .i64 first_11.Ratio.Num), (.int .i64 first_11.Ratio.Den), (.int .i64 first_11.Rho.Num), (.int .i64 first_11.Rho.Den)], 28⟩], [⟨b2, [(.int .i64 0), (.int .i64 0), (.int .i64 0), (.int .i64 0)], 28⟩]]) ?_ ?_
      · rcases hc4 : (e_7.Scope == (-1)) with _ | _
        · have hj3 := cond_f hc4 hj3
          refine q_cond_f hF rfl hc4 ?_
          refine q_skipc (n_jn ?_)
          obtain rfl := someI hj3
          exact ⟨_, rfl, hF.sub ⟨rfl, rfl, rfl, rfl, rfl, rfl, trivial⟩, hS.mask [false, true, true]⟩
        · have hj3 := cond_t hc4 hj3
          refine q_cond_t hF rfl hc4 ?_
          refine q_seq ?_
          refine q_region ?_
          refine q_x (v := (.agg #[(.int .i64 first_6.Ratio.Num), (.int .i64 first_6.Ratio.Den), (.int .i64 first_6.Rho.Num), (.int .i64 first_6.Rho.Den)])) hF hS (ex_loadA (vs := [(.int .i64 first_6.Ratio.Num), (.int .i64 first_6.Ratio.Den), (.int .i64 first_6.Rho.Num), (.int .i64 first_6.Rho.Den)]) 1 0 Try.underlying28 rfl sz28 rfl rfl rfl rfl) rfl rfl fun a hF => ?_
          refine q_x (v := (.pointer (some ⟨b9, 1, none⟩))) hF hS (ex_fieldAddr Try.underlying116 rfl sz28 rfl rfl) rfl rfl fun a hF => ?_
          refine q_x (v := (.agg #[(.int .i64 e_7.Loss.Ratio.Num), (.int .i64 e_7.Loss.Ratio.Den), (.int .i64 e_7.Loss.Rho.Num), (.int .i64 e_7.Loss.Rho.Den)])) hF hS (ex_loadA (vs := [(.int .i64 e_7.Loss.Ratio.Num), (.int .i64 e_7.Loss.Ratio.Den), (.int .i64 e_7.Loss.Rho.Num), (.int .i64 e_7.Loss.Rho.Den)]) 0 0 Try.underlying28 rfl sz28 rfl rfl rfl rfl) rfl rfl fun a hF => ?_
          obtain ⟨t_10, ht_10, hj3⟩ := bindS hj3
          refine q_call (vs := [(.agg #[(.int .i64 first_6.Ratio.Num), (.int .i64 first_6.Ratio.Den), (.int .i64 first_6.Rho.Num), (.int .i64 first_6.Rho.Den)]), (.agg #[(.int .i64 e_7.Loss.Ratio.Num), (.int .i64 e_7.Loss.Ratio.Den), (.int .i64 e_7.Loss.Rho.Num), (.int .i64 e_7.Loss.Rho.Den)])]) hF hS Try.func108 (by kernel_rfl) rfl rfl rfl (c_impl_composed first_6 e_7.Loss t_10 ht_10 _ m hS.vis) ?_
          rintro a w _ rfl hF hS
          refine q_x (v := (.tuple #[(.agg #[(.int .i64 t_10.1.Ratio.Num), (.int .i64 t_10.1.Ratio.Den), (.int .i64 t_10.1.Rho.Num), (.int .i64 t_10.1.Rho.Den)]), (.bool t_10.2)])) hF hS (ex_move rfl) rfl rfl fun a hF => ?_
          refine q_x (v := (.agg #[(.int .i64 t_10.1.Ratio.Num), (.int .i64 t_10.1.Ratio.Den), (.int .i64 t_10.1.Rho.Num), (.int .i64 t_10.1.Rho.Den)])) hF hS (ex_extract rfl rfl) rfl rfl fun a hF => ?_
          refine q_x (v := (.bool t_10.2)) hF hS (ex_extract rfl rfl) rfl rfl fun a hF => ?_
          refine q_store (vs := [(.int .i64 t_10.1.Ratio.Num), (.int .i64 t_10.1.Ratio.Den), (.int .i64 t_10.1.Rho.Num), (.int .i64 t_10.1.Rho.Den)]) (cs' := [(.int .i64 t_10.1.Ratio.Num), (.int .i64 t_10.1.Ratio.Den), (.int .i64 t_10.1.Rho.Num), (.int .i64 t_10.1.Rho.Den)]) 1 0 hF hS sz28 rfl rfl rfl rfl rfl rfl rfl rfl fun a w hF hS => ?_
          refine q_x (v := (.bool t_10.2)) hF hS (ex_assign rfl) rfl rfl fun a hF => ?_
          refine q_end (n_sq ?_)
          refine q_seq ?_
          refine q_region ?_
          refine q_x (v := (.bool t_10.2)) hF hS (ex_move rfl) rfl rfl fun a hF => ?_
          refine q_x (v := (.bool (!t_10.2))) hF hS (ex_not rfl) rfl rfl fun a hF => ?_
          refine q_end (n_sq ?_)
          rcases hc5 : (!t_10.2) with _ | _
          · have hj3 := cond_f hc5 hj3
            refine q_cond_f hF rfl hc5 ?_
            refine q_skipc (n_jn ?_)
            obtain rfl := someI hj3
            exact ⟨_, rfl, hF.sub ⟨rfl, rfl, rfl, rfl, rfl, rfl, trivial⟩, hS.mask [false, true, true]⟩
          · have hj3 := cond_t hc5 hj3
            refine q_cond_t hF rfl hc5 ?_
            refine q_seq ?_
            refine q_region ?_
            refine q_x (v := (.agg #[(.int .i64 0), (.int .i64 0), (.int .i64 0), (.int .i64 0)])) hF hS (ex_build (cells := [(.int .i64 0), (.int .i64 0), (.int .i64 0), (.int .i64 0)]) rfl (by kernel_rfl)) rfl rfl fun a hF => ?_
            refine q_store (vs := [(.int .i64 0), (.int .i64 0), (.int .i64 0), (.int .i64 0)]) (cs' := [(.int .i64 0), (.int .i64 0), (.int .i64 0), (.int .i64 0)]) 2 0 hF hS sz28 rfl rfl rfl rfl rfl rfl rfl rfl fun a w hF hS => ?_
            refine q_x (v := (.bool false)) hF hS (ex_assign rfl) rfl rfl fun a hF => ?_
            refine q_end (n_sq (q_ret (r_jn ?_)))
            obtain rfl := someI hj3
            refine r_ib (r_sq ?_)
            obtain rfl := someI hb1
            refine ⟨nofun, .inr fun ho => ?_⟩
            subst ho
            refine r_ib (r_sq ?_)
            obtain rfl := someI hr
            exact ret_of hF hS rfl (.cellA (us := [(.int .i64 0), (.int .i64 0), (.int .i64 0), (.int .i64 0)]) 2 0 Try.underlying28 rfl sz28 rfl rfl rfl rfl (.tmp rfl .nil)) rfl
      · rintro a w ⟨first_11, rfl, hF, hS⟩
        refine n_ib (n_sq ?_)
        refine q_region ?_
        refine q_x (v := (.int .i64 (w64 (t_5 + 1)))) hF hS (ex_ibin rfl rfl rfl) rfl rfl fun a hF => ?_
        refine q_x (v := (.int .i64 (w64 (t_5 + 1)))) hF hS (ex_move rfl) rfl rfl fun a hF => ?_
        refine q_end ?_
        obtain rfl := someI hb1
        exact ⟨rfl, _, _, rfl, hF.sub ⟨rfl, rfl, rfl, rfl, rfl, rfl, trivial⟩, hS⟩
  · rintro e a w ⟨first_12, rfl, rfl, hF, hS⟩
    refine x_ib (n_sq ?_)
    refine q_seq ?_
    refine q_region ?_
    refine q_x (v := (.agg #[(.int .i64 first_12.Ratio.Num), (.int .i64 first_12.Ratio.Den), (.int .i64 first_12.Rho.Num), (.int .i64 first_12.Rho.Den)])) hF hS (ex_loadA (vs := [(.int .i64 first_12.Ratio.Num), (.int .i64 first_12.Ratio.Den), (.int .i64 first_12.Rho.Num), (.int .i64 first_12.Rho.Den)]) 0 0 Try.underlying28 rfl sz28 rfl rfl rfl rfl) rfl rfl fun a hF => ?_
    refine q_alloc (cs := [(.int .i64 0), (.int .i64 0), (.int .i64 0), (.int .i64 0)]) hF hS rfl rfl rfl fun a w b13 hF hS => ?_
    refine q_store (vs := [(.int .i64 first_12.Ratio.Num), (.int .i64 first_12.Ratio.Den), (.int .i64 first_12.Rho.Num), (.int .i64 first_12.Rho.Den)]) (cs' := [(.int .i64 first_12.Ratio.Num), (.int .i64 first_12.Ratio.Den), (.int .i64 first_12.Rho.Num), (.int .i64 first_12.Rho.Den)]) 0 0 hF hS sz28 rfl rfl rfl rfl rfl rfl rfl rfl fun a w hF hS => ?_
    refine q_end (n_sq ?_)
    refine q_seq ?_
    refine q_seq ?_
    refine q_region ?_
    refine q_x (v := s1.v) hF hS (ex_move rfl) rfl rfl fun a hF => ?_
    refine q_x (v := (.int .i64 (goLen p_l))) hF hS (ex_len Try.underlying81 rfl h1.len) rfl rfl fun a hF => ?_
    refine q_x (v := (.int .i64 0)) hF hS (ex_move rfl) rfl rfl fun a hF => ?_
    refine q_end (n_sq ?_)
    refine q_block ?_
    obtain ⟨o6, hl6, hr⟩ := bindS hr
    refine q_loop (fun (s : Int × impl_Loss) a w => ∃ t_14, ∃ out_15, s = (t_14, out_15) ∧ Fr a 82 [(0, s1.v), (2, (.pointer (some ⟨b2, 0, none⟩))), (4, (.pointer (some ⟨b4, 0, none⟩))), (8, (.pointer (some ⟨b13, 0, none⟩))), (36, s1.v), (37, (.int .i64 (goLen p_l))), (38, (.int .i64 t_14))] ∧ St [] w0 w m [[⟨b13, [(.int .i64 out_15.Ratio.Num), (.int .i64 out_15.Ratio.Den), (.int .i64 out_15.Rho.Num), (.int .i64 out_15.Rho.Den)], 28⟩], [⟨b4, [(.int .i64 first_12.Ratio.Num), (.int .i64 first_12.Ratio.Den), (.int .i64 first_12.Rho.Num), (.int .i64 first_12.Rho.Den)], 28⟩], [⟨b2, [(.int .i64 0), (.int .i64 0), (.int .i64 0), (.int .i64 0)], 28⟩]]) (fun (o : (impl_Loss) ⊕ (impl_Loss × Bool)) e a w => ∃ out_34, o = .inl out_34 ∧ e = .exit 2 ∧ Fr a 82 [(2, (.pointer (some ⟨b2, 0, none⟩))), (8, (.pointer (some ⟨b13, 0, none⟩)))] ∧ St [] w0 w m [[⟨b13, [(.int .i64 out_34.Ratio.Num), (.int .i64 out_34.Ratio.Den), (.int .i64 out_34.Rho.Num), (.int .i64 out_34.Rho.Den)], 28⟩], [⟨b2, [(.int .i64 0), (.int .i64 0), (.int .i64 0), (.int .i64 0)], 28⟩]]) hl6 ⟨_, _, rfl, hF.sub ⟨rfl, rfl, rfl, rfl, rfl, rfl, rfl, trivial⟩, hS⟩ ?_ ?_
    · clear hF hS
      rintro s a w st ⟨t_14, out_15, rfl, hF, hS⟩ hb6
      unfold impl_ledgerLoss_l2 at hb6
      refine q_seq ?_
      refine q_region ?_
      refine q_x (v := (.bool (decide (t_14 < (goLen p_l))))) hF hS (ex_ibin rfl rfl rfl) rfl rfl fun a hF => ?_
      refine q_end (n_sq ?_)
      refine q_seq ?_
      rcases hc7 : (decide (t_14 < (goLen p_l))) with _ | _
      · have hb6 := cond_f hc7 hb6
        refine q_cond_f hF rfl hc7 ?_
        refine q_exit (x_sq ?_)
        obtain rfl := someI hb6
        exact ⟨nofun, .inl ⟨_, rfl, rfl, hF.sub ⟨rfl, rfl, trivial⟩, hS.mask [true, false, true]⟩⟩
      · have hb6 := cond_t hc7 hb6
        refine q_cond_t hF rfl hc7 ?_
        refine q_skipc (n_sq ?_)
        refine q_seq ?_
        obtain ⟨j8, hj8, hb6⟩ := bindS hb6
        refine q_join (fun a w => ∃ out_33, j8 = .inl out_33 ∧ Fr a 82 [(0, s1.v), (2, (.pointer (some ⟨b2, 0, none⟩))), (4, (.pointer (some ⟨b4, 0, none⟩))), (8, (.pointer (some ⟨b13, 0, none⟩))), (36, s1.v), (37, (.int .i64 (goLen p_l))), (38, (.int .i64 t_14))] ∧ St [] w0 w m [[⟨b13, [(.int .i64 out_33.Ratio.Num), (.int .i64 out_33.Ratio.Den), (.int .i64 out_33.Rho.Num), (.int .i64 out_33.Rho.Den)], 28⟩], [⟨b4, [(.int .i64 first_12.Ratio.Num), (.int .i64 first_12.Ratio.Den), (.int .i64 first_12.Rho.Num), (.int .i64 first_12.Rho.Den)], 28⟩], [⟨b2, [(.int .i64 0), (.int .i64 0), (.int .i64 0), (.int .i64 0)], 28⟩]]) ?_ ?_
        · refine q_block ?_
          refine q_seq ?_
          refine q_region ?_
          refine q_x (v := (.int .i64 t_14)) hF hS (ex_move rfl) rfl rfl fun a hF => ?_
          obtain ⟨e_16, he_16, hj8⟩ := bindS hj8
          obtain ⟨vs17, at17, d17⟩ := h1.at he_16 5 rfl
          obtain rfl : vs17 = [(.int .i64 e_16.Scope), (.int .i64 e_16.Loss.Ratio.Num), (.int .i64 e_16.Loss.Ratio.Den), (.int .i64 e_16.Loss.Rho.Num), (.int .i64 e_16.Loss.Rho.Den)] := d17
          refine q_x (v := (elP s1 (t_14.toNat * 5))) hF hS (ex_indexAddr Try.underlying81 sz116 rfl rfl (h1.idx he_16)) rfl rfl fun a hF => ?_
          refine q_x (v := (.agg #[(.int .i64 e_16.Scope), (.int .i64 e_16.Loss.Ratio.Num), (.int .i64 e_16.Loss.Ratio.Den), (.int .i64 e_16.Loss.Rho.Num), (.int .i64 e_16.Loss.Rho.Den)])) hF hS (ex_loadEA (us := [(.int .i64 e_16.Scope), (.int .i64 e_16.Loss.Ratio.Num), (.int .i64 e_16.Loss.Ratio.Den), (.int .i64 e_16.Loss.Rho.Num), (.int .i64 e_16.Loss.Rho.Den)]) 0 Try.underlying116 rfl sz116 rfl ((at17).at) rfl rfl rfl) rfl rfl fun a hF => ?_
          refine q_alloc (cs := [(.int .i64 0), (.int .i64 0), (.int .i64 0), (.int .i64 0), (.int .i64 0)]) hF hS rfl rfl rfl fun a w b18 hF hS => ?_
          refine q_x (v := (.int .i64 t_14)) hF hS (ex_assign rfl) rfl rfl fun a hF => ?_
          refine q_store (vs := [(.int .i64 e_16.Scope), (.int .i64 e_16.Loss.Ratio.Num), (.int .i64 e_16.Loss.Ratio.Den), (.int .i64 e_16.Loss.Rho.Num), (.int .i64 e_16.Loss.Rho.Den)]) (cs' := [(.int .i64 e_16.Scope), (.int .i64 e_16.Loss.Ratio.Num), (.int .i64 e_16.Loss.Ratio.Den), (.int .i64 e_16.Loss.Rho.Num), (.int .i64 e_16.Loss.Rho.Den)]) 0 0 hF hS sz116 rfl rfl rfl rfl rfl rfl rfl rfl fun a w hF hS => ?_
          refine q_end (n_sq ?_)
          refine q_seq ?_
          refine q_seq ?_
          obtain ⟨t_22, hj9, hj8⟩ := bindS hj8
          refine q_join (fun a w => Fr a 82 [(0, s1.v), (2, (.pointer (some ⟨b2, 0, none⟩))), (4, (.pointer (some ⟨b4, 0, none⟩))), (8, (.pointer (some ⟨b13, 0, none⟩))), (10, (.pointer (some ⟨b18, 0, none⟩))), (36, s1.v), (37, (.int .i64 (goLen p_l))), (38, (.int .i64 t_14)), (53, (.bool t_22))] ∧ St [] w0 w m [[⟨b18, [(.int .i64 e_16.Scope), (.int .i64 e_16.Loss.Ratio.Num), (.int .i64 e_16.Loss.Ratio.Den), (.int .i64 e_16.Loss.Rho.Num), (.int .i64 e_16.Loss.Rho.Den)], 116⟩], [⟨b13, [(.int .i64 out_15.Ratio.Num), (.int .i64 out_15.Ratio.Den), (.int .i64 out_15.Rho.Num), (.int .i64 out_15.Rho.Den)], 28⟩], [⟨b4, [(.int .i64 first_12.Ratio.Num), (.int .i64 first_12.Ratio.Den), (.int .i64 first_12.Rho.Num), (.int .i64 first_12.Rho.Den)], 28⟩], [⟨b2, [(.int .i64 0), (.int .i64 0), (.int .i64 0), (.int .i64 0)], 28⟩]]) ?_ ?_
          · refine e_region [] mixed fun w' hw' => ?_
            have hS := hS.below hw'
            refine e_p (v := (.pointer (some ⟨b18, 0, none⟩))) 0 hF rfl (ex_fieldAddr Try.underlying116 rfl sz3 rfl rfl) rfl rfl (by kernel_rfl) (by kernel_rfl) (by kernel_rfl) fun a hF => ?_
            refine e_x (v := (.int .i64 e_16.Scope)) 1 hF hS rfl (ex_load1 0 0 Try.underlying3 rfl rfl rfl rfl) rfl rfl (by kernel_rfl) (by kernel_rfl) (by kernel_rfl) (by kernel_rfl) fun a hF => ?_
            refine e_p (v := (.bool (e_16.Scope == (-1)))) 2 hF rfl (ex_ibin rfl rfl rfl) rfl rfl (by kernel_rfl) (by kernel_rfl) (by kernel_rfl) fun a hF => ?_
            refine e_p (v := (.bool (e_16.Scope == (-1)))) 3 hF rfl (ex_move rfl) rfl rfl (by kernel_rfl) (by kernel_rfl) (by kernel_rfl) fun a hF => ?_
            rcases hc10 : (e_16.Scope == (-1)) with _ | _
            · have hj9 := cond_f hc10 hj9
              refine e_pg (v := s1.v) 4 hF rfl (ex_move rfl) (wanted_t hF rfl rfl rfl hc10) rfl (by kernel_rfl) (by kernel_rfl) (by kernel_rfl) fun a hF => ?_
              refine e_pg (v := (.int .i64 t_14)) 5 hF rfl (ex_move rfl) (wanted_t hF rfl rfl rfl hc10) rfl (by kernel_rfl) (by kernel_rfl) (by kernel_rfl) fun a hF => ?_
              obtain ⟨l_19, hl_19, hj9⟩ := bindS hj9
              have h20 : Rd m (subS s1 5 (0 : Int).toNat t_14.toNat s1.cap) l_19 := h1.sub' hl_19 5 rfl
              refine e_pg (v := (subS s1 5 (0 : Int).toNat t_14.toNat s1.cap).v) 6 hF rfl (ex_slice Try.underlying81 sz116 rfl rfl rfl (.inl ⟨rfl, rfl⟩) (.inr ⟨_, rfl⟩) (h1.subok hl_19)) (wanted_t hF rfl rfl rfl hc10) rfl (by kernel_rfl) (by kernel_rfl) (by kernel_rfl) fun a hF => ?_
              refine e_pg (v := (.pointer (some ⟨b18, 0, none⟩))) 7 hF rfl (ex_fieldAddr Try.underlying116 rfl sz3 rfl rfl) (wanted_t hF rfl rfl rfl hc10) rfl (by kernel_rfl) (by kernel_rfl) (by kernel_rfl) fun a hF => ?_
              refine e_xg (v := (.int .i64 e_16.Scope)) 8 hF hS rfl (ex_load1 0 0 Try.underlying3 rfl rfl rfl rfl) (wanted_t hF rfl rfl rfl hc10) rfl (by kernel_rfl) (by kernel_rfl) (by kernel_rfl) (by kernel_rfl) fun a hF => ?_
              refine e_one 9 (by kernel_rfl) ?_
              obtain ⟨t_21, ht_21, hj9⟩ := bindS hj9
              refine e_callg (vs := [(subS s1 5 (0 : Int).toNat t_14.toNat s1.cap).v, (.int .i64 e_16.Scope)]) hF hS rfl (wanted_t hF rfl rfl rfl hc10) Try.func148 (by kernel_rfl) rfl rfl rfl (c_impl_scopeBefore l_19 e_16.Scope t_21 ht_21 _ m hS.vis (subS s1 5 (0 : Int).toNat t_14.toNat s1.cap) h20) ?_
              rintro a w _ rfl hF hS
              refine e_p (v := (.bool t_21)) 10 hF rfl (ex_pick_f rfl rfl hc10) rfl rfl (by kernel_rfl) (by kernel_rfl) (by kernel_rfl) fun a hF => ?_
              refine e_end (by kernel_rfl) (n_jn ?_) _
              obtain rfl := someI hj9
              exact ⟨hF.sub ⟨rfl, rfl, rfl, rfl, rfl, rfl, rfl, rfl, rfl, trivial⟩, hS⟩
            · have hj9 := cond_t hc10 hj9
              refine e_skipP 4 hF rfl (wanted_f hF rfl rfl rfl hc10 rfl) rfl (by kernel_rfl) (by kernel_rfl) (by kernel_rfl) fun a hF => ?_
              refine e_skipP 5 hF rfl (wanted_f hF rfl rfl rfl hc10 rfl) rfl (by kernel_rfl) (by kernel_rfl) (by kernel_rfl) fun a hF => ?_
              refine e_skipP 6 hF rfl (wanted_f hF rfl rfl rfl hc10 rfl) rfl (by kernel_rfl) (by kernel_rfl) (by kernel_rfl) fun a hF => ?_
              refine e_skipP 7 hF rfl (wanted_f hF rfl rfl rfl hc10 rfl) rfl (by kernel_rfl) (by kernel_rfl) (by kernel_rfl) fun a hF => ?_
              refine e_skipP 8 hF rfl (wanted_f hF rfl rfl rfl hc10 rfl) rfl (by kernel_rfl) (by kernel_rfl) (by kernel_rfl) fun a hF => ?_
              refine e_skipP 9 hF rfl (wanted_f hF rfl rfl rfl hc10 rfl) rfl (by kernel_rfl) (by kernel_rfl) (by kernel_rfl) fun a hF => ?_
              refine e_p (v := (.bool true)) 10 hF rfl (ex_pick_t rfl rfl hc10) rfl rfl (by kernel_rfl) (by kernel_rfl) (by kernel_rfl) fun a hF => ?_
              refine e_end (by kernel_rfl) (n_jn ?_) _
              obtain rfl := someI hj9
              exact ⟨hF.sub ⟨rfl, rfl, rfl, rfl, rfl, rfl, rfl, rfl, rfl, trivial⟩, hS⟩
          · rintro a w ⟨hF, hS⟩
            refine n_sq ?_
            rcases hc11 : (t_22) with _ | _
            · have hj8 := cond_f hc11 hj8
              refine q_cond_f hF rfl hc11 ?_
              refine q_skipc (n_sq ?_)
              refine q_seq ?_
              refine q_region ?_
              refine q_x (v := (.agg #[(.int .i64 first_12.Ratio.Num), (.int .i64 first_12.Ratio.Den), (.int .i64 first_12.Rho.Num), (.int .i64 first_12.Rho.Den)])) hF hS (ex_loadA (vs := [(.int .i64 first_12.Ratio.Num), (.int .i64 first_12.Ratio.Den), (.int .i64 first_12.Rho.Num), (.int .i64 first_12.Rho.Den)]) 2 0 Try.underlying28 rfl sz28 rfl rfl rfl rfl) rfl rfl fun a hF => ?_
              refine q_alloc (cs := [(.int .i64 0), (.int .i64 0), (.int .i64 0), (.int .i64 0)]) hF hS rfl rfl rfl fun a w b23 hF hS => ?_
              refine q_store (vs := [(.int .i64 first_12.Ratio.Num), (.int .i64 first_12.Ratio.Den), (.int .i64 first_12.Rho.Num), (.int .i64 first_12.Rho.Den)]) (cs' := [(.int .i64 first_12.Ratio.Num), (.int .i64 first_12.Ratio.Den), (.int .i64 first_12.Rho.Num), (.int .i64 first_12.Rho.Den)]) 0 0 hF hS sz28 rfl rfl rfl rfl rfl rfl rfl rfl fun a w hF hS => ?_
              refine q_end (n_sq ?_)
              refine q_seq ?_
              refine q_seq ?_
              refine q_region ?_
              refine q_x (v := s1.v) hF hS (ex_move rfl) rfl rfl fun a hF => ?_
              refine q_x (v := (.int .i64 (goLen p_l))) hF hS (ex_len Try.underlying81 rfl h1.len) rfl rfl fun a hF => ?_
              refine q_x (v := (.int .i64 0)) hF hS (ex_move rfl) rfl rfl fun a hF => ?_
              refine q_end (n_sq ?_)
              refine q_block ?_
              obtain ⟨o12, hl12, hj8⟩ := bindS hj8
              refine q_loop (fun (s : Int × impl_Loss) a w => ∃ t_24, ∃ own_25, s = (t_24, own_25) ∧ Fr a 82 [(0, s1.v), (2, (.pointer (some ⟨b2, 0, none⟩))), (4, (.pointer (some ⟨b4, 0, none⟩))), (8, (.pointer (some ⟨b13, 0, none⟩))), (10, (.pointer (some ⟨b18, 0, none⟩))), (11, (.pointer (some ⟨b23, 0, none⟩))), (36, s1.v), (37, (.int .i64 (goLen p_l))), (38, (.int .i64 t_14)), (55, s1.v), (56, (.int .i64 (goLen p_l))), (57, (.int .i64 t_24))] ∧ St [] w0 w m [[⟨b23, [(.int .i64 own_25.Ratio.Num), (.int .i64 own_25.Ratio.Den), (.int .i64 own_25.Rho.Num), (.int .i64 own_25.Rho.Den)], 28⟩], [⟨b18, [(.int .i64 e_16.Scope), (.int .i64 e_16.Loss.Ratio.Num), (.int .i64 e_16.Loss.Ratio.Den), (.int .i64 e_16.Loss.Rho.Num), (.int .i64 e_16.Loss.Rho.Den)], 116⟩], [⟨b13, [(.int .i64 out_15.Ratio.Num), (.int .i64 out_15.Ratio.Den), (.int .i64 out_15.Rho.Num), (.int .i64 out_15.Rho.Den)], 28⟩], [⟨b4, [(.int .i64 first_12.Ratio.Num), (.int .i64 first_12.Ratio.Den), (.int .i64 first_12.Rho.Num), (.int .i64 first_12.Rho.Den)], 28⟩], [⟨b2, [(.int .i64 0), (.int .i64 0), (.int .i64 0), (.int .i64 0)], 28⟩]]) (fun (o : (impl_Loss) ⊕ ((impl_Loss) ⊕ (Stp (Int × impl_Loss) ((impl_Loss) ⊕ (impl_Loss × Bool))))) e a w => ∃ own_31, o = .inl own_31 ∧ e = .exit 4 ∧ Fr a 82 [(0, s1.v), (2, (.pointer (some ⟨b2, 0, none⟩))), (4, (.pointer (some ⟨b4, 0, none⟩))), (8, (.pointer (some ⟨b13, 0, none⟩))), (11, (.pointer (some ⟨b23, 0, none⟩))), (36, s1.v), (37, (.int .i64 (goLen p_l))), (38, (.int .i64 t_14))] ∧ St [] w0 w m [[⟨b23, [(.int .i64 own_31.Ratio.Num), (.int .i64 own_31.Ratio.Den), (.int .i64 own_31.Rho.Num), (.int .i64 own_31.Rho.Den)], 28⟩], [⟨b13, [(.int .i64 out_15.Ratio.Num), (.int .i64 out_15.Ratio.Den), (.int .i64 out_15.Rho.Num), (.int .i64 out_15.Rho.Den)], 28⟩], [⟨b4, [(.int .i64 first_12.Ratio.Num), (.int .i64 first_12.Ratio.Den), (.int .i64 first_12.Rho.Num), (.int .i64 first_12.Rho.Den)], 28⟩], [⟨b2, [(.int .i64 0), (.int .i64 0), (.int .i64 0), (.int .i64 0)], 28⟩]]) hl12 ⟨_, _, rfl, hF.sub ⟨rfl, rfl, rfl, rfl, rfl, rfl, rfl, rfl, rfl, rfl, rfl, rfl, trivial⟩, hS⟩ ?_ ?_
              · clear hF hS
                rintro s a w st ⟨t_24, own_25, rfl, hF, hS⟩ hb12
                unfold impl_ledgerLoss_l3 at hb12
                refine q_seq ?_
                refine q_region ?_
                refine q_x (v := (.bool (decide (t_24 < (goLen p_l))))) hF hS (ex_ibin rfl rfl rfl) rfl rfl fun a hF => ?_
                refine q_end (n_sq ?_)
                refine q_seq ?_
                rcases hc13 : (decide (t_24 < (goLen p_l))) with _ | _
                · have hb12 := cond_f hc13 hb12
                  refine q_cond_f hF rfl hc13 ?_
                  refine q_exit (x_sq ?_)
                  obtain rfl := someI hb12
                  exact ⟨nofun, .inl ⟨_, rfl, rfl, hF.sub ⟨rfl, rfl, rfl, rfl, rfl, rfl, rfl, rfl, trivial⟩, hS.mask [true, false, true, true, true]⟩⟩
                · have hb12 := cond_t hc13 hb12
                  refine q_cond_t hF rfl hc13 ?_
                  refine q_skipc (n_sq ?_)
                  refine q_seq ?_
                  refine q_block ?_
                  refine q_seq ?_
                  refine q_region ?_
                  obtain ⟨e_26, he_26, hb12⟩ := bindS hb12
                  obtain ⟨vs27, at27, d27⟩ := h1.at he_26 5 rfl
                  obtain rfl : vs27 = [(.int .i64 e_26.Scope), (.int .i64 e_26.Loss.Ratio.Num), (.int .i64 e_26.Loss.Ratio.Den), (.int .i64 e_26.Loss.Rho.Num), (.int .i64 e_26.Loss.Rho.Den)] := d27
                  refine q_x (v := (elP s1 (t_24.toNat * 5))) hF hS (ex_indexAddr Try.underlying81 sz116 rfl rfl (h1.idx he_26)) rfl rfl fun a hF => ?_
                  refine q_x (v := (.agg #[(.int .i64 e_26.Scope), (.int .i64 e_26.Loss.Ratio.Num), (.int .i64 e_26.Loss.Ratio.Den), (.int .i64 e_26.Loss.Rho.Num), (.int .i64 e_26.Loss.Rho.Den)])) hF hS (ex_loadEA (us := [(.int .i64 e_26.Scope), (.int .i64 e_26.Loss.Ratio.Num), (.int .i64 e_26.Loss.Ratio.Den), (.int .i64 e_26.Loss.Rho.Num), (.int .i64 e_26.Loss.Rho.Den)]) 0 Try.underlying116 rfl sz116 rfl ((at27).at) rfl rfl rfl) rfl rfl fun a hF => ?_
                  refine q_alloc (cs := [(.int .i64 0), (.int .i64 0), (.int .i64 0), (.int .i64 0), (.int .i64 0)]) hF hS rfl rfl rfl fun a w b28 hF hS => ?_
                  refine q_store (vs := [(.int .i64 e_26.Scope), (.int .i64 e_26.Loss.Ratio.Num), (.int .i64 e_26.Loss.Ratio.Den), (.int .i64 e_26.Loss.Rho.Num), (.int .i64 e_26.Loss.Rho.Den)]) (cs' := [(.int .i64 e_26.Scope), (.int .i64 e_26.Loss.Ratio.Num), (.int .i64 e_26.Loss.Ratio.Den), (.int .i64 e_26.Loss.Rho.Num), (.int .i64 e_26.Loss.Rho.Den)]) 0 0 hF hS sz116 rfl rfl rfl rfl rfl rfl rfl rfl fun a w hF hS => ?_
                  refine q_end (n_sq ?_)
                  refine q_seq ?_
                  refine q_region ?_
                  refine q_x (v := (.pointer (some ⟨b28, 0, none⟩))) hF hS (ex_fieldAddr Try.underlying116 rfl sz3 rfl rfl) rfl rfl fun a hF => ?_
                  refine q_x (v := (.int .i64 e_26.Scope)) hF hS (ex_load1 0 0 Try.underlying3 rfl rfl rfl rfl) rfl rfl fun a hF => ?_
                  refine q_x (v := (.pointer (some ⟨b18, 0, none⟩))) hF hS (ex_fieldAddr Try.underlying116 rfl sz3 rfl rfl) rfl rfl fun a hF => ?_
                  refine q_x (v := (.int .i64 e_16.Scope)) hF hS (ex_load1 2 0 Try.underlying3 rfl rfl rfl rfl) rfl rfl fun a hF => ?_
                  refine q_x (v := (.bool (e_26.Scope == e_16.Scope))) hF hS (ex_ibin rfl rfl rfl) rfl rfl fun a hF => ?_
                  refine q_end (n_sq ?_)
                  obtain ⟨j14, hj14, hb12⟩ := bindS hb12
                  refine q_join (fun a w => ∃ own_30, j14 = .inl own_30 ∧ Fr a 82 [(0, s1.v), (2, (.pointer (some ⟨b2, 0, none⟩))), (4, (.pointer (some ⟨b4, 0, none⟩))), (8, (.pointer (some ⟨b13, 0, none⟩))), (10, (.pointer (some ⟨b18, 0, none⟩))), (11, (.pointer (some ⟨b23, 0, none⟩))), (36, s1.v), (37, (.int .i64 (goLen p_l))), (38, (.int .i64 t_14)), (55, s1.v), (56, (.int .i64 (goLen p_l))), (57, (.int .i64 t_24))] ∧ St [] w0 w m [[⟨b23, [(.int .i64 own_30.Ratio.Num), (.int .i64 own_30.Ratio.Den), (.int .i64 own_30.Rho.Num), (.int .i64 own_30.Rho.Den)], 28⟩], [⟨b18, [(.int .i64 e_16.Scope), (.int .i64 e_16.Loss.Ratio.Num), (.int .i64 e_16.Loss.Ratio.Den), (.int .i64 e_16.Loss.Rho.Num), (.int .i64 e_16.Loss.Rho.Den)], 116⟩], [⟨b13, [(.int .i64 out_15.Ratio.Num), (.int .i64 out_15.Ratio.Den), (.int .i64 out_15.Rho.Num), (.int .i64 out_15.Rho.Den)], 28⟩], [⟨b4, [(.int .i64 first_12.Ratio.Num), (.int .i64 first_12.Ratio.Den), (.int .i64 first_12.Rho.Num), (.int .i64 first_12.Rho.Den)], 28⟩], [⟨b2, [(.int .i64 0), (.int .i64 0), (.int .i64 0), (.int .i64 0)], 28⟩]]) ?_ ?_
                  · rcases hc15 : (e_26.Scope == e_16.Scope) with _ | _
                    · have hj14 := cond_f hc15 hj14
                      refine q_cond_f hF rfl hc15 ?_
                      refine q_skipc (n_jn ?_)
                      obtain rfl := someI hj14
                      exact ⟨_, rfl, hF.sub ⟨rfl, rfl, rfl, rfl, rfl, rfl, rfl, rfl, rfl, rfl, rfl, rfl, trivial⟩, hS.mask [false, true, true, true, true, true]⟩
                    · have hj14 := cond_t hc15 hj14
                      refine q_cond_t hF rfl hc15 ?_
                      refine q_seq ?_
                      refine q_region ?_
                      refine q_x (v := (.agg #[(.int .i64 own_25.Ratio.Num), (.int .i64 own_25.Ratio.Den), (.int .i64 own_25.Rho.Num), (.int .i64 own_25.Rho.Den)])) hF hS (ex_loadA (vs := [(.int .i64 own_25.Ratio.Num), (.int .i64 own_25.Ratio.Den), (.int .i64 own_25.Rho.Num), (.int .i64 own_25.Rho.Den)]) 1 0 Try.underlying28 rfl sz28 rfl rfl rfl rfl) rfl rfl fun a hF => ?_
                      refine q_x (v := (.pointer (some ⟨b28, 1, none⟩))) hF hS (ex_fieldAddr Try.underlying116 rfl sz28 rfl rfl) rfl rfl fun a hF => ?_
                      refine q_x (v := (.agg #[(.int .i64 e_26.Loss.Ratio.Num), (.int .i64 e_26.Loss.Ratio.Den), (.int .i64 e_26.Loss.Rho.Num), (.int .i64 e_26.Loss.Rho.Den)])) hF hS (ex_loadA (vs := [(.int .i64 e_26.Loss.Ratio.Num), (.int .i64 e_26.Loss.Ratio.Den), (.int .i64 e_26.Loss.Rho.Num), (.int .i64 e_26.Loss.Rho.Den)]) 0 0 Try.underlying28 rfl sz28 rfl rfl rfl rfl) rfl rfl fun a hF => ?_
                      obtain ⟨t_29, ht_29, hj14⟩ := bindS hj14
                      refine q_call (vs := [(.agg #[(.int .i64 own_25.Ratio.Num), (.int .i64 own_25.Ratio.Den), (.int .i64 own_25.Rho.Num), (.int .i64 own_25.Rho.Den)]), (.agg #[(.int .i64 e_26.Loss.Ratio.Num), (.int .i64 e_26.Loss.Ratio.Den), (.int .i64 e_26.Loss.Rho.Num), (.int .i64 e_26.Loss.Rho.Den)])]) hF hS Try.func108 (by kernel_rfl) rfl rfl rfl (c_impl_composed own_25 e_26.Loss t_29 ht_29 _ m hS.vis) ?_
                      rintro a w _ rfl hF hS
                      refine q_x (v := (.tuple #[(.agg #[(.int .i64 t_29.1.Ratio.Num), (.int .i64 t_29.1.Ratio.Den), (.int .i64 t_29.1.Rho.Num), (.int .i64 t_29.1.Rho.Den)]), (.bool t_29.2)])) hF hS (ex_move rfl) rfl rfl fun a hF => ?_
                      refine q_x (v := (.agg #[(.int .i64 t_29.1.Ratio.Num), (.int .i64 t_29.1.Ratio.Den), (.int .i64 t_29.1.Rho.Num), (.int .i64 t_29.1.Rho.Den)])) hF hS (ex_extract rfl rfl) rfl rfl fun a hF => ?_
                      refine q_x (v := (.bool t_29.2)) hF hS (ex_extract rfl rfl) rfl rfl fun a hF => ?_
                      refine q_store (vs := [(.int .i64 t_29.1.Ratio.Num), (.int .i64 t_29.1.Ratio.Den), (.int .i64 t_29.1.Rho.Num), (.int .i64 t_29.1.Rho.Den)]) (cs' := [(.int .i64 t_29.1.Ratio.Num), (.int .i64 t_29.1.Ratio.Den), (.int .i64 t_29.1.Rho.Num), (.int .i64 t_29.1.Rho.Den)]) 1 0 hF hS sz28 rfl rfl rfl rfl rfl rfl rfl rfl fun a w hF hS => ?_
                      refine q_x (v := (.bool t_29.2)) hF hS (ex_assign rfl) rfl rfl fun a hF => ?_
                      refine q_end (n_sq ?_)
                      refine q_seq ?_
                      refine q_region ?_
                      refine q_x (v := (.bool t_29.2)) hF hS (ex_move rfl) rfl rfl fun a hF => ?_
                      refine q_x (v := (.bool (!t_29.2))) hF hS (ex_not rfl) rfl rfl fun a hF => ?_
                      refine q_end (n_sq ?_)
                      rcases hc16 : (!t_29.2) with _ | _
                      · have hj14 := cond_f hc16 hj14
                        refine q_cond_f hF rfl hc16 ?_
                        refine q_skipc (n_jn ?_)
                        obtain rfl := someI hj14
                        exact ⟨_, rfl, hF.sub ⟨rfl, rfl, rfl, rfl, rfl, rfl, rfl, rfl, rfl, rfl, rfl, rfl, trivial⟩, hS.mask [false, true, true, true, true, true]⟩
                      · have hj14 := cond_t hc16 hj14
                        refine q_cond_t hF rfl hc16 ?_
                        refine q_seq ?_
                        refine q_region ?_
                        refine q_x (v := (.agg #[(.int .i64 0), (.int .i64 0), (.int .i64 0), (.int .i64 0)])) hF hS (ex_build (cells := [(.int .i64 0), (.int .i64 0), (.int .i64 0), (.int .i64 0)]) rfl (by kernel_rfl)) rfl rfl fun a hF => ?_
                        refine q_store (vs := [(.int .i64 0), (.int .i64 0), (.int .i64 0), (.int .i64 0)]) (cs' := [(.int .i64 0), (.int .i64 0), (.int .i64 0), (.int .i64 0)]) 5 0 hF hS sz28 rfl rfl rfl rfl rfl rfl rfl rfl fun a w hF hS => ?_
                        refine q_x (v := (.bool false)) hF hS (ex_assign rfl) rfl rfl fun a hF => ?_
                        refine q_end (n_sq (q_ret (r_jn ?_)))
                        obtain rfl := someI hj14
                        refine r_ib (r_sq ?_)
                        obtain rfl := someI hb12
                        refine ⟨nofun, .inr fun ho => ?_⟩
                        subst ho
                        refine r_ib (r_sq (r_ib (r_jn ?_)))
                        obtain rfl := someI hj8
                        refine r_sq ?_
                        obtain rfl := someI hb6
                        refine ⟨nofun, .inr fun ho => ?_⟩
                        subst ho
                        refine r_ib (r_sq ?_)
                        obtain rfl := someI hr
                        exact ret_of hF hS rfl (.cellA (us := [(.int .i64 0), (.int .i64 0), (.int .i64 0), (.int .i64 0)]) 5 0 Try.underlying28 rfl sz28 rfl rfl rfl rfl (.tmp rfl .nil)) rfl
                  · rintro a w ⟨own_30, rfl, hF, hS⟩
                    refine n_ib (n_sq ?_)
                    refine q_region ?_
                    refine q_x (v := (.int .i64 (w64 (t_24 + 1)))) hF hS (ex_ibin rfl rfl rfl) rfl rfl fun a hF => ?_
                    refine q_x (v := (.int .i64 (w64 (t_24 + 1)))) hF hS (ex_move rfl) rfl rfl fun a hF => ?_
                    refine q_end ?_
                    obtain rfl := someI hb12
                    exact ⟨rfl, _, _, rfl, hF.sub ⟨rfl, rfl, rfl, rfl, rfl, rfl, rfl, rfl, rfl, rfl, rfl, rfl, trivial⟩, hS⟩
              · rintro e a w ⟨own_31, rfl, rfl, hF, hS⟩
                refine x_ib (n_sq ?_)
                refine q_region ?_
                refine q_x (v := (.agg #[(.int .i64 out_15.Ratio.Num), (.int .i64 out_15.Ratio.Den), (.int .i64 out_15.Rho.Num), (.int .i64 out_15.Rho.Den)])) hF hS (ex_loadA (vs := [(.int .i64 out_15.Ratio.Num), (.int .i64 out_15.Ratio.Den), (.int .i64 out_15.Rho.Num), (.int .i64 out_15.Rho.Den)]) 1 0 Try.underlying28 rfl sz28 rfl rfl rfl rfl) rfl rfl fun a hF => ?_
                refine q_x (v := (.agg #[(.int .i64 own_31.Ratio.Num), (.int .i64 own_31.Ratio.Den), (.int .i64 own_31.Rho.Num), (.int .i64 own_31.Rho.Den)])) hF hS (ex_loadA (vs := [(.int .i64 own_31.Ratio.Num), (.int .i64 own_31.Ratio.Den), (.int .i64 own_31.Rho.Num), (.int .i64 own_31.Rho.Den)]) 0 0 Try.underlying28 rfl sz28 rfl rfl rfl rfl) rfl rfl fun a hF => ?_
                obtain ⟨t_32, ht_32, hj8⟩ := bindS hj8
                refine q_call (vs := [(.agg #[(.int .i64 out_15.Ratio.Num), (.int .i64 out_15.Ratio.Den), (.int .i64 out_15.Rho.Num), (.int .i64 out_15.Rho.Den)]), (.agg #[(.int .i64 own_31.Ratio.Num), (.int .i64 own_31.Ratio.Den), (.int .i64 own_31.Rho.Num), (.int .i64 own_31.Rho.Den)])]) hF hS Try.func84 (by kernel_rfl) rfl rfl rfl (c_impl_greatest out_15 own_31 t_32 ht_32 _ m hS.vis) ?_
                rintro a w _ rfl hF hS
                refine q_store (vs := [(.int .i64 t_32.Ratio.Num), (.int .i64 t_32.Ratio.Den), (.int .i64 t_32.Rho.Num), (.int .i64 t_32.Rho.Den)]) (cs' := [(.int .i64 t_32.Ratio.Num), (.int .i64 t_32.Ratio.Den), (.int .i64 t_32.Rho.Num), (.int .i64 t_32.Rho.Den)]) 1 0 hF hS sz28 rfl rfl rfl rfl rfl rfl rfl rfl fun a w hF hS => ?_
                refine q_end (n_ib (n_jn ?_))
                obtain rfl := someI hj8
                exact ⟨_, rfl, hF.sub ⟨rfl, rfl, rfl, rfl, rfl, rfl, rfl, trivial⟩, hS.mask [false, true, true, true]⟩
            · have hj8 := cond_t hc11 hj8
              refine q_cond_t hF rfl hc11 ?_
              refine q_exit (x_sq (x_ib (n_jn ?_)))
              obtain rfl := someI hj8
              exact ⟨_, rfl, hF.sub ⟨rfl, rfl, rfl, rfl, rfl, rfl, rfl, trivial⟩, hS.mask [false, true, true, true]⟩
        · rintro a w ⟨out_33, rfl, hF, hS⟩
          refine n_sq ?_
          refine q_region ?_
          refine q_x (v := (.int .i64 (w64 (t_14 + 1)))) hF hS (ex_ibin rfl rfl rfl) rfl rfl fun a hF => ?_
          refine q_x (v := (.int .i64 (w64 (t_14 + 1)))) hF hS (ex_move rfl) rfl rfl fun a hF => ?_
          refine q_end ?_
          obtain rfl := someI hb6
          exact ⟨rfl, _, _, rfl, hF.sub ⟨rfl, rfl, rfl, rfl, rfl, rfl, rfl, trivial⟩, hS⟩
    · rintro e a w ⟨out_34, rfl, rfl, hF, hS⟩
      refine x_ib (n_sq ?_)
      refine q_seq ?_
      refine q_region ?_
      refine q_x (v := (.agg #[(.int .i64 out_34.Ratio.Num), (.int .i64 out_34.Ratio.Den), (.int .i64 out_34.Rho.Num), (.int .i64 out_34.Rho.Den)])) hF hS (ex_loadA (vs := [(.int .i64 out_34.Ratio.Num), (.int .i64 out_34.Ratio.Den), (.int .i64 out_34.Rho.Num), (.int .i64 out_34.Rho.Den)]) 0 0 Try.underlying28 rfl sz28 rfl rfl rfl rfl) rfl rfl fun a hF => ?_
      refine q_store (vs := [(.int .i64 out_34.Ratio.Num), (.int .i64 out_34.Ratio.Den), (.int .i64 out_34.Rho.Num), (.int .i64 out_34.Rho.Den)]) (cs' := [(.int .i64 out_34.Ratio.Num), (.int .i64 out_34.Ratio.Den), (.int .i64 out_34.Rho.Num), (.int .i64 out_34.Rho.Den)]) 1 0 hF hS sz28 rfl rfl rfl rfl rfl rfl rfl rfl fun a w hF hS => ?_
      refine q_x (v := (.bool true)) hF hS (ex_assign rfl) rfl rfl fun a hF => ?_
      refine q_end (n_sq (q_ret ?_))
      obtain rfl := someI hr
      exact ret_of hF hS rfl (.cellA (us := [(.int .i64 out_34.Ratio.Num), (.int .i64 out_34.Ratio.Den), (.int .i64 out_34.Rho.Num), (.int .i64 out_34.Rho.Den)]) 1 0 Try.underlying28 rfl sz28 rfl rfl rfl rfl (.tmp rfl .nil)) rfl

theorem c_impl_LedgerLoss (p_l : List impl_Entry) (r : impl_Loss × Bool) (hr : impl_LedgerLoss p_l = some r) (w0 : World) (m : Mem) (hv : Vis m w0) (s1 : Sl) (h1 : Rd m s1 p_l) :
    Ret Try.prog 63 [s1.v] w0 (fun v _ => v = (.tuple #[(.agg #[(.int .i64 r.1.Ratio.Num), (.int .i64 r.1.Ratio.Den), (.int .i64 r.1.Rho.Num), (.int .i64 r.1.Rho.Den)]), (.bool r.2)])) := by
  unfold impl_LedgerLoss at hr
  refine ret_start Try.func63 rfl 12 rfl rfl m hv fun a hF hS => ?_
  refine q_seq ?_
  refine q_region ?_
  refine q_alloc (cs := [(.int .i64 0), (.int .i64 0), (.int .i64 0), (.int .i64 0)]) hF hS rfl rfl rfl fun a w b2 hF hS => ?_
  refine q_x (v := (.bool false)) hF hS (ex_assign rfl) rfl rfl fun a hF => ?_
  refine q_end (n_sq ?_)
  refine q_seq ?_
  refine q_seq ?_
  refine q_region ?_
  refine q_x (v := s1.v) hF hS (ex_move rfl) rfl rfl fun a hF => ?_
  obtain ⟨t_3, ht_3, hr⟩ := bindS hr
  refine q_call (vs := [s1.v]) hF hS Try.func130 (by kernel_rfl) rfl rfl rfl (c_impl_areEntries p_l t_3 ht_3 _ m hS.vis s1 h1) ?_
  rintro a w _ rfl hF hS
  refine q_x (v := (.bool (!t_3))) hF hS (ex_not rfl) rfl rfl fun a hF => ?_
  refine q_end (n_sq ?_)
  rcases hc1 : (!t_3) with _ | _
  · have hr := cond_f hc1 hr
    refine q_cond_f hF rfl hc1 ?_
    refine q_skipc (n_sq ?_)
    refine q_seq ?_
    refine q_region ?_
    refine q_x (v := s1.v) hF hS (ex_move rfl) rfl rfl fun a hF => ?_
    obtain ⟨t_4, ht_4, hr⟩ := bindS hr
    refine q_call (vs := [s1.v]) hF hS Try.func131 (by kernel_rfl) rfl rfl rfl (c_impl_ledgerLoss p_l t_4 ht_4 _ m hS.vis s1 h1) ?_
    rintro a w _ rfl hF hS
    refine q_x (v := (.agg #[(.int .i64 t_4.1.Ratio.Num), (.int .i64 t_4.1.Ratio.Den), (.int .i64 t_4.1.Rho.Num), (.int .i64 t_4.1.Rho.Den)])) hF hS (ex_extract rfl rfl) rfl rfl fun a hF => ?_
    refine q_x (v := (.bool t_4.2)) hF hS (ex_extract rfl rfl) rfl rfl fun a hF => ?_
    refine q_store (vs := [(.int .i64 t_4.1.Ratio.Num), (.int .i64 t_4.1.Ratio.Den), (.int .i64 t_4.1.Rho.Num), (.int .i64 t_4.1.Rho.Den)]) (cs' := [(.int .i64 t_4.1.Ratio.Num), (.int .i64 t_4.1.Ratio.Den), (.int .i64 t_4.1.Rho.Num), (.int .i64 t_4.1.Rho.Den)]) 0 0 hF hS sz28 rfl rfl rfl rfl rfl rfl rfl rfl fun a w hF hS => ?_
    refine q_x (v := (.bool t_4.2)) hF hS (ex_assign rfl) rfl rfl fun a hF => ?_
    refine q_end (n_sq (q_ret ?_))
    obtain rfl := someI hr
    exact ret_of hF hS rfl (.cellA (us := [(.int .i64 t_4.1.Ratio.Num), (.int .i64 t_4.1.Ratio.Den), (.int .i64 t_4.1.Rho.Num), (.int .i64 t_4.1.Rho.Den)]) 0 0 Try.underlying28 rfl sz28 rfl rfl rfl rfl (.tmp rfl .nil)) rfl
  · have hr := cond_t hc1 hr
    refine q_cond_t hF rfl hc1 ?_
    refine q_seq ?_
    refine q_region ?_
    refine q_x (v := (.agg #[(.int .i64 0), (.int .i64 0), (.int .i64 0), (.int .i64 0)])) hF hS (ex_build (cells := [(.int .i64 0), (.int .i64 0), (.int .i64 0), (.int .i64 0)]) rfl (by kernel_rfl)) rfl rfl fun a hF => ?_
    refine q_store (vs := [(.int .i64 0), (.int .i64 0), (.int .i64 0), (.int .i64 0)]) (cs' := [(.int .i64 0), (.int .i64 0), (.int .i64 0), (.int .i64 0)]) 0 0 hF hS sz28 rfl rfl rfl rfl rfl rfl rfl rfl fun a w hF hS => ?_
    refine q_x (v := (.bool false)) hF hS (ex_assign rfl) rfl rfl fun a hF => ?_
    refine q_end (n_sq (q_ret (r_sq ?_)))
    obtain rfl := someI hr
    exact ret_of hF hS rfl (.cellA (us := [(.int .i64 0), (.int .i64 0), (.int .i64 0), (.int .i64 0)]) 0 0 Try.underlying28 rfl sz28 rfl rfl rfl rfl (.tmp rfl .nil)) rfl

theorem c_laws_eqFrac (p_a : impl_Frac) (p_b : impl_Frac) (r : Bool) (hr : laws_eqFrac p_a p_b = some r) (w0 : World) (m : Mem) (hv : Vis m w0) :
    Ret Try.prog 32 [(.agg #[(.int .i64 p_a.Num), (.int .i64 p_a.Den)]), (.agg #[(.int .i64 p_b.Num), (.int .i64 p_b.Den)])] w0 (fun v _ => v = (.bool r)) := by
  unfold laws_eqFrac at hr
  refine ret_start Try.func32 rfl 15 rfl rfl m hv fun a hF hS => ?_
  refine q_seq ?_
  refine q_region ?_
  refine q_box (cs := [(.int .i64 p_a.Num), (.int .i64 p_a.Den)]) hF hS rfl rfl rfl fun a w b1 hF hS => ?_
  refine q_box (cs := [(.int .i64 p_b.Num), (.int .i64 p_b.Den)]) hF hS rfl rfl rfl fun a w b2 hF hS => ?_
  refine q_x (v := (.bool false)) hF hS (ex_assign rfl) rfl rfl fun a hF => ?_
  refine q_end (n_sq ?_)
  refine q_seq ?_
  refine q_seq ?_
  refine q_region ?_
  refine q_x (v := (.pointer (some ⟨b1, 0, none⟩))) hF hS (ex_fieldAddr Try.underlying26 rfl sz3 rfl rfl) rfl rfl fun a hF => ?_
  refine q_x (v := (.int .i64 p_a.Num)) hF hS (ex_load1 1 0 Try.underlying3 rfl rfl rfl rfl) rfl rfl fun a hF => ?_
  refine q_x (v := (.pointer (some ⟨b2, 0, none⟩))) hF hS (ex_fieldAddr Try.underlying26 rfl sz3 rfl rfl) rfl rfl fun a hF => ?_
  refine q_x (v := (.int .i64 p_b.Num)) hF hS (ex_load1 0 0 Try.underlying3 rfl rfl rfl rfl) rfl rfl fun a hF => ?_
  refine q_x (v := (.bool (p_a.Num != p_b.Num))) hF hS (ex_ibin rfl rfl rfl) rfl rfl fun a hF => ?_
  refine q_end (n_sq ?_)
  rcases hc1 : (p_a.Num != p_b.Num) with _ | _
  · have hr := cond_f hc1 hr
    refine q_cond_f hF rfl hc1 ?_
    refine q_skipc (n_sq ?_)
    refine q_seq ?_
    refine q_seq ?_
    refine q_region ?_
    refine q_x (v := (.pointer (some ⟨b1, 1, none⟩))) hF hS (ex_fieldAddr Try.underlying26 rfl sz3 rfl rfl) rfl rfl fun a hF => ?_
    refine q_x (v := (.int .i64 p_a.Den)) hF hS (ex_load1 1 0 Try.underlying3 rfl rfl rfl rfl) rfl rfl fun a hF => ?_
    refine q_x (v := (.pointer (some ⟨b2, 1, none⟩))) hF hS (ex_fieldAddr Try.underlying26 rfl sz3 rfl rfl) rfl rfl fun a hF => ?_
    refine q_x (v := (.int .i64 p_b.Den)) hF hS (ex_load1 0 0 Try.underlying3 rfl rfl rfl rfl) rfl rfl fun a hF => ?_
    refine q_x (v := (.bool (p_a.Den != p_b.Den))) hF hS (ex_ibin rfl rfl rfl) rfl rfl fun a hF => ?_
    refine q_end (n_sq ?_)
    rcases hc2 : (p_a.Den != p_b.Den) with _ | _
    · have hr := cond_f hc2 hr
      refine q_cond_f hF rfl hc2 ?_
      refine q_skipc (n_sq ?_)
      refine q_seq ?_
      refine q_region ?_
      refine q_x (v := (.bool true)) hF hS (ex_assign rfl) rfl rfl fun a hF => ?_
      refine q_end (n_sq (q_ret ?_))
      obtain rfl := someI hr
      exact ret_of hF hS rfl (.tmp rfl .nil) rfl
    · have hr := cond_t hc2 hr
      refine q_cond_t hF rfl hc2 ?_
      refine q_seq ?_
      refine q_region ?_
      refine q_x (v := (.bool false)) hF hS (ex_assign rfl) rfl rfl fun a hF => ?_
      refine q_end (n_sq (q_ret (r_sq ?_)))
      obtain rfl := someI hr
      exact ret_of hF hS rfl (.tmp rfl .nil) rfl
  · have hr := cond_t hc1 hr
    refine q_cond_t hF rfl hc1 ?_
    refine q_seq ?_
    refine q_region ?_
    refine q_x (v := (.bool false)) hF hS (ex_assign rfl) rfl rfl fun a hF => ?_
    refine q_end (n_sq (q_ret (r_sq ?_)))
    obtain rfl := someI hr
    exact ret_of hF hS rfl (.tmp rfl .nil) rfl

theorem c_laws_eqLoss (p_a : impl_Loss) (p_b : impl_Loss) (r : Bool) (hr : laws_eqLoss p_a p_b = some r) (w0 : World) (m : Mem) (hv : Vis m w0) :
    Ret Try.prog 21 [(.agg #[(.int .i64 p_a.Ratio.Num), (.int .i64 p_a.Ratio.Den), (.int .i64 p_a.Rho.Num), (.int .i64 p_a.Rho.Den)]), (.agg #[(.int .i64 p_b.Ratio.Num), (.int .i64 p_b.Ratio.Den), (.int .i64 p_b.Rho.Num), (.int .i64 p_b.Rho.Den)])] w0 (fun v _ => v = (.bool r)) := by
  unfold laws_eqLoss at hr
  refine ret_start Try.func21 rfl 17 rfl rfl m hv fun a hF hS => ?_
  refine q_seq ?_
  refine q_region ?_
  refine q_box (cs := [(.int .i64 p_a.Ratio.Num), (.int .i64 p_a.Ratio.Den), (.int .i64 p_a.Rho.Num), (.int .i64 p_a.Rho.Den)]) hF hS rfl rfl rfl fun a w b1 hF hS => ?_
  refine q_box (cs := [(.int .i64 p_b.Ratio.Num), (.int .i64 p_b.Ratio.Den), (.int .i64 p_b.Rho.Num), (.int .i64 p_b.Rho.Den)]) hF hS rfl rfl rfl fun a w b2 hF hS => ?_
  refine q_x (v := (.bool false)) hF hS (ex_assign rfl) rfl rfl fun a hF => ?_
  refine q_end (n_sq ?_)
  refine q_seq ?_
  refine q_seq ?_
  refine q_region ?_
  refine q_x (v := (.pointer (some ⟨b1, 0, none⟩))) hF hS (ex_fieldAddr Try.underlying28 rfl sz26 rfl rfl) rfl rfl fun a hF => ?_
  refine q_x (v := (.agg #[(.int .i64 p_a.Ratio.Num), (.int .i64 p_a.Ratio.Den)])) hF hS (ex_loadA (vs := [(.int .i64 p_a.Ratio.Num), (.int .i64 p_a.Ratio.Den)]) 1 0 Try.underlying26 rfl sz26 rfl rfl rfl rfl) rfl rfl fun a hF => ?_
  refine q_x (v := (.pointer (some ⟨b2, 0, none⟩))) hF hS (ex_fieldAddr Try.underlying28 rfl sz26 rfl rfl) rfl rfl fun a hF => ?_
  refine q_x (v := (.agg #[(.int .i64 p_b.Ratio.Num), (.int .i64 p_b.Ratio.Den)])) hF hS (ex_loadA (vs := [(.int .i64 p_b.Ratio.Num), (.int .i64 p_b.Ratio.Den)]) 0 0 Try.underlying26 rfl sz26 rfl rfl rfl rfl) rfl rfl fun a hF => ?_
  obtain ⟨t_3, ht_3, hr⟩ := bindS hr
  refine q_call (vs := [(.agg #[(.int .i64 p_a.Ratio.Num), (.int .i64 p_a.Ratio.Den)]), (.agg #[(.int .i64 p_b.Ratio.Num), (.int .i64 p_b.Ratio.Den)])]) hF hS Try.func32 (by kernel_rfl) rfl rfl rfl (c_laws_eqFrac p_a.Ratio p_b.Ratio t_3 ht_3 _ m hS.vis) ?_
  rintro a w _ rfl hF hS
  refine q_x (v := (.bool (!t_3))) hF hS (ex_not rfl) rfl rfl fun a hF => ?_
  refine q_end (n_sq ?_)
  rcases hc1 : (!t_3) with _ | _
  · have hr := cond_f hc1 hr
    refine q_cond_f hF rfl hc1 ?_
    refine q_skipc (n_sq ?_)
    refine q_seq ?_
    refine q_seq ?_
    refine q_region ?_
    refine q_x (v := (.pointer (some ⟨b1, 2, none⟩))) hF hS (ex_fieldAddr Try.underlying28 rfl sz26 rfl rfl) rfl rfl fun a hF => ?_
    refine q_x (v := (.agg #[(.int .i64 p_a.Rho.Num), (.int .i64 p_a.Rho.Den)])) hF hS (ex_loadA (vs := [(.int .i64 p_a.Rho.Num), (.int .i64 p_a.Rho.Den)]) 1 0 Try.underlying26 rfl sz26 rfl rfl rfl rfl) rfl rfl fun a hF => ?_
    refine q_x (v := (.pointer (some ⟨b2, 2, none⟩))) hF hS (ex_fieldAddr Try.underlying28 rfl sz26 rfl rfl) rfl rfl fun a hF => ?_
    refine q_x (v := (.agg #[(.int .i64 p_b.Rho.Num), (.int .i64 p_b.Rho.Den)])) hF hS (ex_loadA (vs := [(.int .i64 p_b.Rho.Num), (.int .i64 p_b.Rho.Den)]) 0 0 Try.underlying26 rfl sz26 rfl rfl rfl rfl) rfl rfl fun a hF => ?_
    obtain ⟨t_4, ht_4, hr⟩ := bindS hr
    refine q_call (vs := [(.agg #[(.int .i64 p_a.Rho.Num), (.int .i64 p_a.Rho.Den)]), (.agg #[(.int .i64 p_b.Rho.Num), (.int .i64 p_b.Rho.Den)])]) hF hS Try.func32 (by kernel_rfl) rfl rfl rfl (c_laws_eqFrac p_a.Rho p_b.Rho t_4 ht_4 _ m hS.vis) ?_
    rintro a w _ rfl hF hS
    refine q_x (v := (.bool (!t_4))) hF hS (ex_not rfl) rfl rfl fun a hF => ?_
    refine q_end (n_sq ?_)
    rcases hc2 : (!t_4) with _ | _
    · have hr := cond_f hc2 hr
      refine q_cond_f hF rfl hc2 ?_
      refine q_skipc (n_sq ?_)
      refine q_seq ?_
      refine q_region ?_
      refine q_x (v := (.bool true)) hF hS (ex_assign rfl) rfl rfl fun a hF => ?_
      refine q_end (n_sq (q_ret ?_))
      obtain rfl := someI hr
      exact ret_of hF hS rfl (.tmp rfl .nil) rfl
    · have hr := cond_t hc2 hr
      refine q_cond_t hF rfl hc2 ?_
      refine q_seq ?_
      refine q_region ?_
      refine q_x (v := (.bool false)) hF hS (ex_assign rfl) rfl rfl fun a hF => ?_
      refine q_end (n_sq (q_ret (r_sq ?_)))
      obtain rfl := someI hr
      exact ret_of hF hS rfl (.tmp rfl .nil) rfl
  · have hr := cond_t hc1 hr
    refine q_cond_t hF rfl hc1 ?_
    refine q_seq ?_
    refine q_region ?_
    refine q_x (v := (.bool false)) hF hS (ex_assign rfl) rfl rfl fun a hF => ?_
    refine q_end (n_sq (q_ret (r_sq ?_)))
    obtain rfl := someI hr
    exact ret_of hF hS rfl (.tmp rfl .nil) rfl

theorem c_laws_eqEntry (p_a : impl_Entry) (p_b : impl_Entry) (r : Bool) (hr : laws_eqEntry p_a p_b = some r) (w0 : World) (m : Mem) (hv : Vis m w0) :
    Ret Try.prog 132 [(.agg #[(.int .i64 p_a.Scope), (.int .i64 p_a.Loss.Ratio.Num), (.int .i64 p_a.Loss.Ratio.Den), (.int .i64 p_a.Loss.Rho.Num), (.int .i64 p_a.Loss.Rho.Den)]), (.agg #[(.int .i64 p_b.Scope), (.int .i64 p_b.Loss.Ratio.Num), (.int .i64 p_b.Loss.Ratio.Den), (.int .i64 p_b.Loss.Rho.Num), (.int .i64 p_b.Loss.Rho.Den)])] w0 (fun v _ => v = (.bool r)) := by
  unfold laws_eqEntry at hr
  refine ret_start Try.func132 rfl 16 rfl rfl m hv fun a hF hS => ?_
  refine q_seq ?_
  refine q_region ?_
  refine q_box (cs := [(.int .i64 p_a.Scope), (.int .i64 p_a.Loss.Ratio.Num), (.int .i64 p_a.Loss.Ratio.Den), (.int .i64 p_a.Loss.Rho.Num), (.int .i64 p_a.Loss.Rho.Den)]) hF hS rfl rfl rfl fun a w b1 hF hS => ?_
  refine q_box (cs := [(.int .i64 p_b.Scope), (.int .i64 p_b.Loss.Ratio.Num), (.int .i64 p_b.Loss.Ratio.Den), (.int .i64 p_b.Loss.Rho.Num), (.int .i64 p_b.Loss.Rho.Den)]) hF hS rfl rfl rfl fun a w b2 hF hS => ?_
  refine q_x (v := (.bool false)) hF hS (ex_assign rfl) rfl rfl fun a hF => ?_
  refine q_end (n_sq ?_)
  refine q_seq ?_
  refine q_seq ?_
  refine q_region ?_
  refine q_x (v := (.pointer (some ⟨b1, 0, none⟩))) hF hS (ex_fieldAddr Try.underlying116 rfl sz3 rfl rfl) rfl rfl fun a hF => ?_
  refine q_x (v := (.int .i64 p_a.Scope)) hF hS (ex_load1 1 0 Try.underlying3 rfl rfl rfl rfl) rfl rfl fun a hF => ?_
  refine q_x (v := (.pointer (some ⟨b2, 0, none⟩))) hF hS (ex_fieldAddr Try.underlying116 rfl sz3 rfl rfl) rfl rfl fun a hF => ?_
  refine q_x (v := (.int .i64 p_b.Scope)) hF hS (ex_load1 0 0 Try.underlying3 rfl rfl rfl rfl) rfl rfl fun a hF => ?_
  refine q_x (v := (.bool (p_a.Scope != p_b.Scope))) hF hS (ex_ibin rfl rfl rfl) rfl rfl fun a hF => ?_
  refine q_end (n_sq ?_)
  rcases hc1 : (p_a.Scope != p_b.Scope) with _ | _
  · have hr := cond_f hc1 hr
    refine q_cond_f hF rfl hc1 ?_
    refine q_skipc (n_sq ?_)
    refine q_seq ?_
    refine q_seq ?_
    refine q_region ?_
    refine q_x (v := (.pointer (some ⟨b1, 1, none⟩))) hF hS (ex_fieldAddr Try.underlying116 rfl sz28 rfl rfl) rfl rfl fun a hF => ?_
    refine q_x (v := (.agg #[(.int .i64 p_a.Loss.Ratio.Num), (.int .i64 p_a.Loss.Ratio.Den), (.int .i64 p_a.Loss.Rho.Num), (.int .i64 p_a.Loss.Rho.Den)])) hF hS (ex_loadA (vs := [(.int .i64 p_a.Loss.Ratio.Num), (.int .i64 p_a.Loss.Ratio.Den), (.int .i64 p_a.Loss.Rho.Num), (.int .i64 p_a.Loss.Rho.Den)]) 1 0 Try.underlying28 rfl sz28 rfl rfl rfl rfl) rfl rfl fun a hF => ?_
    refine q_x (v := (.pointer (some ⟨b2, 1, none⟩))) hF hS (ex_fieldAddr Try.underlying116 rfl sz28 rfl rfl) rfl rfl fun a hF => ?_
    refine q_x (v := (.agg #[(.int .i64 p_b.Loss.Ratio.Num), (.int .i64 p_b.Loss.Ratio.Den), (.int .i64 p_b.Loss.Rho.Num), (.int .i64 p_b.Loss.Rho.Den)])) hF hS (ex_loadA (vs := [(.int .i64 p_b.Loss.Ratio.Num), (.int .i64 p_b.Loss.Ratio.Den), (.int .i64 p_b.Loss.Rho.Num), (.int .i64 p_b.Loss.Rho.Den)]) 0 0 Try.underlying28 rfl sz28 rfl rfl rfl rfl) rfl rfl fun a hF => ?_
    obtain ⟨t_3, ht_3, hr⟩ := bindS hr
    refine q_call (vs := [(.agg #[(.int .i64 p_a.Loss.Ratio.Num), (.int .i64 p_a.Loss.Ratio.Den), (.int .i64 p_a.Loss.Rho.Num), (.int .i64 p_a.Loss.Rho.Den)]), (.agg #[(.int .i64 p_b.Loss.Ratio.Num), (.int .i64 p_b.Loss.Ratio.Den), (.int .i64 p_b.Loss.Rho.Num), (.int .i64 p_b.Loss.Rho.Den)])]) hF hS Try.func21 (by kernel_rfl) rfl rfl rfl (c_laws_eqLoss p_a.Loss p_b.Loss t_3 ht_3 _ m hS.vis) ?_
    rintro a w _ rfl hF hS
    refine q_x (v := (.bool (!t_3))) hF hS (ex_not rfl) rfl rfl fun a hF => ?_
    refine q_end (n_sq ?_)
    rcases hc2 : (!t_3) with _ | _
    · have hr := cond_f hc2 hr
      refine q_cond_f hF rfl hc2 ?_
      refine q_skipc (n_sq ?_)
      refine q_seq ?_
      refine q_region ?_
      refine q_x (v := (.bool true)) hF hS (ex_assign rfl) rfl rfl fun a hF => ?_
      refine q_end (n_sq (q_ret ?_))
      obtain rfl := someI hr
      exact ret_of hF hS rfl (.tmp rfl .nil) rfl
    · have hr := cond_t hc2 hr
      refine q_cond_t hF rfl hc2 ?_
      refine q_seq ?_
      refine q_region ?_
      refine q_x (v := (.bool false)) hF hS (ex_assign rfl) rfl rfl fun a hF => ?_
      refine q_end (n_sq (q_ret (r_sq ?_)))
      obtain rfl := someI hr
      exact ret_of hF hS rfl (.tmp rfl .nil) rfl
  · have hr := cond_t hc1 hr
    refine q_cond_t hF rfl hc1 ?_
    refine q_seq ?_
    refine q_region ?_
    refine q_x (v := (.bool false)) hF hS (ex_assign rfl) rfl rfl fun a hF => ?_
    refine q_end (n_sq (q_ret (r_sq ?_)))
    obtain rfl := someI hr
    exact ret_of hF hS rfl (.tmp rfl .nil) rfl

theorem c_laws_eqEntryS (p_a : List impl_Entry) (p_b : List impl_Entry) (r : Bool) (hr : laws_eqEntryS p_a p_b = some r) (w0 : World) (m : Mem) (hv : Vis m w0) (s1 : Sl) (h1 : Rd m s1 p_a) (s2 : Sl) (h2 : Rd m s2 p_b) :
    Ret Try.prog 64 [s1.v, s2.v] w0 (fun v _ => v = (.bool r)) := by
  unfold laws_eqEntryS at hr
  refine ret_start Try.func64 rfl 27 rfl rfl m hv fun a hF hS => ?_
  refine q_seq ?_
  refine q_region ?_
  refine q_x (v := (.bool false)) hF hS (ex_assign rfl) rfl rfl fun a hF => ?_
  refine q_end (n_sq ?_)
  refine q_seq ?_
  refine q_seq ?_
  refine q_region ?_
  refine q_x (v := s1.v) hF hS (ex_move rfl) rfl rfl fun a hF => ?_
  refine q_x (v := (.int .i64 (goLen p_a))) hF hS (ex_len Try.underlying81 rfl h1.len) rfl rfl fun a hF => ?_
  refine q_x (v := s2.v) hF hS (ex_move rfl) rfl rfl fun a hF => ?_
  refine q_x (v := (.int .i64 (goLen p_b))) hF hS (ex_len Try.underlying81 rfl h2.len) rfl rfl fun a hF => ?_
  refine q_x (v := (.bool ((goLen p_a) != (goLen p_b)))) hF hS (ex_ibin rfl rfl rfl) rfl rfl fun a hF => ?_
  refine q_end (n_sq ?_)
  rcases hc1 : ((goLen p_a) != (goLen p_b)) with _ | _
  · have hr := cond_f hc1 hr
    refine q_cond_f hF rfl hc1 ?_
    refine q_skipc (n_sq ?_)
    refine q_seq ?_
    refine q_seq ?_
    refine q_region ?_
    refine q_x (v := (.int .i64 0)) hF hS (ex_assign rfl) rfl rfl fun a hF => ?_
    refine q_end (n_sq ?_)
    refine q_block ?_
    obtain ⟨o2, hl2, hr⟩ := bindS hr
    refine q_loop (fun (i_3 : Int) a w => Fr a 27 [(0, s1.v), (1, s2.v), (5, (.int .i64 i_3))] ∧ St [] w0 w m []) (fun (o : (Unit) ⊕ (Bool)) e a w => o = .inl () ∧ e = .exit 0 ∧ Fr a 27 [] ∧ St [] w0 w m []) hl2 ⟨hF.sub ⟨rfl, rfl, rfl, trivial⟩, hS⟩ ?_ ?_
    · clear hF hS
      rintro i_3 a w st ⟨hF, hS⟩ hb2
      unfold laws_eqEntryS_l1 at hb2
      refine q_seq ?_
      refine q_seq ?_
      refine q_region ?_
      refine q_x (v := (.int .i64 i_3)) hF hS (ex_move rfl) rfl rfl fun a hF => ?_
      refine q_x (v := s1.v) hF hS (ex_move rfl) rfl rfl fun a hF => ?_
      refine q_x (v := (.int .i64 (goLen p_a))) hF hS (ex_len Try.underlying81 rfl h1.len) rfl rfl fun a hF => ?_
      refine q_x (v := (.bool (decide (i_3 < (goLen p_a))))) hF hS (ex_ibin rfl rfl rfl) rfl rfl fun a hF => ?_
      refine q_end (n_sq ?_)
      rcases hc3 : (decide (i_3 < (goLen p_a))) with _ | _
      · have hb2 := cond_f hc3 hb2
        refine q_cond_f hF rfl hc3 ?_
        refine q_exit (x_sq ?_)
        obtain rfl := someI hb2
        exact ⟨nofun, .inl ⟨rfl, rfl, hF.sub trivial, hS⟩⟩
      · have hb2 := cond_t hc3 hb2
        refine q_cond_t hF rfl hc3 ?_
        refine q_skipc (n_sq ?_)
        refine q_seq ?_
        refine q_block ?_
        refine q_seq ?_
        refine e_region [] mixed fun w' hw' => ?_
        have hS := hS.below hw'
        refine e_p (v := s1.v) 0 hF rfl (ex_move rfl) rfl rfl (by kernel_rfl) (by kernel_rfl) (by kernel_rfl) fun a hF => ?_
        refine e_p (v := (.int .i64 i_3)) 1 hF rfl (ex_move rfl) rfl rfl (by kernel_rfl) (by kernel_rfl) (by kernel_rfl) fun a hF => ?_
        obtain ⟨e_4, he_4, hb2⟩ := bindS hb2
        obtain ⟨vs5, at5, d5⟩ := h1.at he_4 5 rfl
        obtain rfl : vs5 = [(.int .i64 e_4.Scope), (.int .i64 e_4.Loss.Ratio.Num), (.int .i64 e_4.Loss.Ratio.Den), (.int .i64 e_4.Loss.Rho.Num), (.int .i64 e_4.Loss.Rho.Den)] := d5
        refine e_p (v := (elP s1 (i_3.toNat * 5))) 2 hF rfl (ex_indexAddr Try.underlying81 sz116 rfl rfl (h1.idx he_4)) rfl rfl (by kernel_rfl) (by kernel_rfl) (by kernel_rfl) fun a hF => ?_
        refine e_x (v := (.agg #[(.int .i64 e_4.Scope), (.int .i64 e_4.Loss.Ratio.Num), (.int .i64 e_4.Loss.Ratio.Den), (.int .i64 e_4.Loss.Rho.Num), (.int .i64 e_4.Loss.Rho.Den)])) 3 hF hS rfl (ex_loadEA (us := [(.int .i64 e_4.Scope), (.int .i64 e_4.Loss.Ratio.Num), (.int .i64 e_4.Loss.Ratio.Den), (.int .i64 e_4.Loss.Rho.Num), (.int .i64 e_4.Loss.Rho.Den)]) 0 Try.underlying116 rfl sz116 rfl ((at5).at) rfl rfl rfl) rfl rfl (by kernel_rfl) (by kernel_rfl) (by kernel_rfl) (by kernel_rfl) fun a hF => ?_
        refine e_p (v := s2.v) 4 hF rfl (ex_move rfl) rfl rfl (by kernel_rfl) (by kernel_rfl) (by kernel_rfl) fun a hF => ?_
        refine e_p (v := (.int .i64 i_3)) 5 hF rfl (ex_move rfl) rfl rfl (by kernel_rfl) (by kernel_rfl) (by kernel_rfl) fun a hF => ?_
        obtain ⟨e_6, he_6, hb2⟩ := bindS hb2
        obtain ⟨vs7, at7, d7⟩ := h2.at he_6 5 rfl
        obtain rfl : vs7 = [(.int .i64 e_6.Scope), (.int .i64 e_6.Loss.Ratio.Num), (.int .i64 e_6.Loss.Ratio.Den), (.int .i64 e_6.Loss.Rho.Num), (.int .i64 e_6.Loss.Rho.Den)] := d7
        refine e_p (v := (elP s2 (i_3.toNat * 5))) 6 hF rfl (ex_indexAddr Try.underlying81 sz116 rfl rfl (h2.idx he_6)) rfl rfl (by kernel_rfl) (by kernel_rfl) (by kernel_rfl) fun a hF => ?_
        refine e_x (v := (.agg #[(.int .i64 e_6.Scope), (.int .i64 e_6.Loss.Ratio.Num), (.int .i64 e_6.Loss.Ratio.Den), (.int .i64 e_6.Loss.Rho.Num), (.int .i64 e_6.Loss.Rho.Den)])) 7 hF hS rfl (ex_loadEA (us := [(.int .i64 e_6.Scope), (.int .i64 e_6.Loss.Ratio.Num), (.int .i64 e_6.Loss.Ratio.Den), (.int .i64 e_6.Loss.Rho.Num), (.int .i64 e_6.Loss.Rho.Den)]) 0 Try.underlying116 rfl sz116 rfl ((at7).at) rfl rfl rfl) rfl rfl (by kernel_rfl) (by kernel_rfl) (by kernel_rfl) (by kernel_rfl) fun a hF => ?_
        refine e_one 8 (by kernel_rfl) ?_
        obtain ⟨t_8, ht_8, hb2⟩ := bindS hb2
        refine e_call (vs := [(.agg #[(.int .i64 e_4.Scope), (.int .i64 e_4.Loss.Ratio.Num), (.int .i64 e_4.Loss.Ratio.Den), (.int .i64 e_4.Loss.Rho.Num), (.int .i64 e_4.Loss.Rho.Den)]), (.agg #[(.int .i64 e_6.Scope), (.int .i64 e_6.Loss.Ratio.Num), (.int .i64 e_6.Loss.Ratio.Den), (.int .i64 e_6.Loss.Rho.Num), (.int .i64 e_6.Loss.Rho.Den)])]) hF hS rfl Try.func132 (by kernel_rfl) rfl rfl rfl (c_laws_eqEntry e_4 e_6 t_8 ht_8 _ m hS.vis) ?_
        rintro a w _ rfl hF hS
        refine e_p (v := (.bool (!t_8))) 9 hF rfl (ex_not rfl) rfl rfl (by kernel_rfl) (by kernel_rfl) (by kernel_rfl) fun a hF => ?_
        refine e_end (by kernel_rfl) (n_sq ?_) _
        rcases hc4 : (!t_8) with _ | _
        · have hb2 := cond_f hc4 hb2
          refine q_cond_f hF rfl hc4 ?_
          refine q_skipc (n_ib (n_sq ?_))
          refine q_region ?_
          refine q_x (v := (.int .i64 i_3)) hF hS (ex_move rfl) rfl rfl fun a hF => ?_
          refine q_x (v := (.int .i64 (w64 (i_3 + 1)))) hF hS (ex_ibin rfl rfl rfl) rfl rfl fun a hF => ?_
          refine q_x (v := (.int .i64 (w64 (i_3 + 1)))) hF hS (ex_assign rfl) rfl rfl fun a hF => ?_
          refine q_end ?_
          obtain rfl := someI hb2
          exact ⟨rfl, hF.sub ⟨rfl, rfl, rfl, trivial⟩, hS⟩
        · have hb2 := cond_t hc4 hb2
          refine q_cond_t hF rfl hc4 ?_
          refine q_seq ?_
          refine q_region ?_
          refine q_x (v := (.bool false)) hF hS (ex_assign rfl) rfl rfl fun a hF => ?_
          refine q_end (n_sq (q_ret (r_ib (r_sq ?_))))
          obtain rfl := someI hb2
          refine ⟨nofun, .inr fun ho => ?_⟩
          subst ho
          refine r_ib (r_sq ?_)
          obtain rfl := someI hr
          exact ret_of hF hS rfl (.tmp rfl .nil) rfl
    · rintro e a w ⟨rfl, rfl, hF, hS⟩
      refine x_ib (n_sq ?_)
      refine q_seq ?_
      refine q_region ?_
      refine q_x (v := (.bool true)) hF hS (ex_assign rfl) rfl rfl fun a hF => ?_
      refine q_end (n_sq (q_ret ?_))
      obtain rfl := someI hr
      exact ret_of hF hS rfl (.tmp rfl .nil) rfl
  · have hr := cond_t hc1 hr
    refine q_cond_t hF rfl hc1 ?_
    refine q_seq ?_
    refine q_region ?_
    refine q_x (v := (.bool false)) hF hS (ex_assign rfl) rfl rfl fun a hF => ?_
    refine q_end (n_sq (q_ret (r_sq ?_)))
    obtain rfl := someI hr
    exact ret_of hF hS rfl (.tmp rfl .nil) rfl

theorem c_laws_FnExactLedgerLoss (p_aL : List laws_Entry) (r : Bool) (hr : laws_FnExactLedgerLoss p_aL = some r) (w0 : World) (m : Mem) (hv : Vis m w0) (s1 : Sl) (h1 : Rd m s1 p_aL) :
    Ret Try.prog 16 [s1.v] w0 (fun v _ => v = (.bool r)) := by
  unfold laws_FnExactLedgerLoss at hr
  refine ret_start Try.func16 rfl 41 rfl rfl m hv fun a hF hS => ?_
  refine q_seq ?_
  refine q_region ?_
  refine q_x (v := (.bool false)) hF hS (ex_assign rfl) rfl rfl fun a hF => ?_
  refine q_end (n_sq ?_)
  refine q_seq ?_
  refine q_region ?_
  refine q_x (v := (.int .i64 1048576)) hF hS (ex_assign rfl) rfl rfl fun a hF => ?_
  refine q_end (n_sq ?_)
  refine q_seq ?_
  refine q_region ?_
  refine q_x (v := s1.v) hF hS (ex_move rfl) rfl rfl fun a hF => ?_
  refine q_x (v := (.int .i64 1048576)) hF hS (ex_move rfl) rfl rfl fun a hF => ?_
  obtain ⟨t_2, ht_2, hr⟩ := bindS hr
  refine q_call (vs := [s1.v, (.int .i64 1048576)]) hF hS Try.func60 (by kernel_rfl) rfl rfl rfl (c_laws_szEntryS p_aL 1048576 t_2 ht_2 _ m hS.vis s1 h1) ?_
  rintro a w _ rfl hF hS
  refine q_x (v := (.int .i64 t_2)) hF hS (ex_assign rfl) rfl rfl fun a hF => ?_
  refine q_end (n_sq ?_)
  refine q_seq ?_
  refine q_seq ?_
  refine q_region ?_
  refine q_x (v := (.int .i64 t_2)) hF hS (ex_move rfl) rfl rfl fun a hF => ?_
  refine q_x (v := (.bool (decide (t_2 < 0)))) hF hS (ex_ibin rfl rfl rfl) rfl rfl fun a hF => ?_
  refine q_end (n_sq ?_)
  rcases hc1 : (decide (t_2 < 0)) with _ | _
  · have hr := cond_f hc1 hr
    refine q_cond_f hF rfl hc1 ?_
    refine q_skipc (n_sq ?_)
    refine q_seq ?_
    refine q_region ?_
    refine q_x (v := s1.v) hF hS (ex_move rfl) rfl rfl fun a hF => ?_
    obtain ⟨t_3, ht_3, hr⟩ := bindS hr
    refine q_call (vs := [s1.v]) hF hS Try.func62 (by kernel_rfl) rfl rfl rfl (c_laws_toEntryS p_aL t_3 ht_3 _ m hS.vis s1 h1) ?_
    rintro a w _ ⟨q5, s5, rfl, hR4, h5⟩ hF hS2
    have hS : St _ _ _ _ [q5] := hS.joinF hR4
    obtain ⟨m7, hl7, hv7, hz7⟩ := hS.lend
    obtain ⟨t_6, ht_6, hr⟩ := bindS hr
    refine q_call (vs := [s5.v]) hF hS Try.func61 (by kernel_rfl) rfl rfl rfl (c_spec_LedgerLoss t_3 t_6 ht_6 _ m7 hv7 s5 (h5.froz hl7 (hz7 0 _ rfl))) ?_
    rintro a w _ rfl hF hS
    refine q_x (v := (.tuple #[(.agg #[(.int .i64 t_6.1.Ratio.Num), (.int .i64 t_6.1.Ratio.Den), (.int .i64 t_6.1.Rho.Num), (.int .i64 t_6.1.Rho.Den)]), (.bool t_6.2)])) hF hS (ex_move rfl) rfl rfl fun a hF => ?_
    refine q_x (v := (.agg #[(.int .i64 t_6.1.Ratio.Num), (.int .i64 t_6.1.Ratio.Den), (.int .i64 t_6.1.Rho.Num), (.int .i64 t_6.1.Rho.Den)])) hF hS (ex_extract rfl rfl) rfl rfl fun a hF => ?_
    refine q_x (v := (.bool t_6.2)) hF hS (ex_extract rfl rfl) rfl rfl fun a hF => ?_
    refine q_alloc (cs := [(.int .i64 0), (.int .i64 0), (.int .i64 0), (.int .i64 0)]) hF hS rfl rfl rfl fun a w b8 hF hS => ?_
    refine q_store (vs := [(.int .i64 t_6.1.Ratio.Num), (.int .i64 t_6.1.Ratio.Den), (.int .i64 t_6.1.Rho.Num), (.int .i64 t_6.1.Rho.Den)]) (cs' := [(.int .i64 t_6.1.Ratio.Num), (.int .i64 t_6.1.Ratio.Den), (.int .i64 t_6.1.Rho.Num), (.int .i64 t_6.1.Rho.Den)]) 0 0 hF hS sz28 rfl rfl rfl rfl rfl rfl rfl rfl fun a w hF hS => ?_
    refine q_x (v := (.bool t_6.2)) hF hS (ex_assign rfl) rfl rfl fun a hF => ?_
    refine q_end (n_sq ?_)
    refine q_seq ?_
    refine q_region ?_
    refine q_x (v := s1.v) hF hS (ex_move rfl) rfl rfl fun a hF => ?_
    obtain ⟨t_9, ht_9, hr⟩ := bindS hr
    refine q_call (vs := [s1.v]) hF hS Try.func62 (by kernel_rfl) rfl rfl rfl (c_laws_toEntryS p_aL t_9 ht_9 _ m hS.vis s1 h1) ?_
    rintro a w _ ⟨q11, s11, rfl, hR10, h11⟩ hF hS2
    have hS : St _ _ _ _ [q11, [⟨b8, [(.int .i64 t_6.1.Ratio.Num), (.int .i64 t_6.1.Ratio.Den), (.int .i64 t_6.1.Rho.Num), (.int .i64 t_6.1.Rho.Den)], 28⟩], q5] := hS.joinF hR10
    refine q_x (v := s11.v) hF hS (ex_assign rfl) rfl rfl fun a hF => ?_
    refine q_end (n_sq ?_)
    refine q_seq ?_
    refine q_region ?_
    refine q_x (v := s11.v) hF hS (ex_move rfl) rfl rfl fun a hF => ?_
    obtain ⟨m13, hl13, hv13, hz13⟩ := hS.lend
    obtain ⟨t_12, ht_12, hr⟩ := bindS hr
    refine q_call (vs := [s11.v]) hF hS Try.func63 (by kernel_rfl) rfl rfl rfl (c_impl_LedgerLoss t_9 t_12 ht_12 _ m13 hv13 s11 (h11.froz hl13 (hz13 0 _ rfl))) ?_
    rintro a w _ rfl hF hS
    refine q_x (v := (.tuple #[(.agg #[(.int .i64 t_12.1.Ratio.Num), (.int .i64 t_12.1.Ratio.Den), (.int .i64 t_12.1.Rho.Num), (.int .i64 t_12.1.Rho.Den)]), (.bool t_12.2)])) hF hS (ex_move rfl) rfl rfl fun a hF => ?_
    refine q_x (v := (.agg #[(.int .i64 t_12.1.Ratio.Num), (.int .i64 t_12.1.Ratio.Den), (.int .i64 t_12.1.Rho.Num), (.int .i64 t_12.1.Rho.Den)])) hF hS (ex_extract rfl rfl) rfl rfl fun a hF => ?_
    refine q_x (v := (.bool t_12.2)) hF hS (ex_extract rfl rfl) rfl rfl fun a hF => ?_
    refine q_alloc (cs := [(.int .i64 0), (.int .i64 0), (.int .i64 0), (.int .i64 0)]) hF hS rfl rfl rfl fun a w b14 hF hS => ?_
    refine q_store (vs := [(.int .i64 t_12.1.Ratio.Num), (.int .i64 t_12.1.Ratio.Den), (.int .i64 t_12.1.Rho.Num), (.int .i64 t_12.1.Rho.Den)]) (cs' := [(.int .i64 t_12.1.Ratio.Num), (.int .i64 t_12.1.Ratio.Den), (.int .i64 t_12.1.Rho.Num), (.int .i64 t_12.1.Rho.Den)]) 0 0 hF hS sz28 rfl rfl rfl rfl rfl rfl rfl rfl fun a w hF hS => ?_
    refine q_x (v := (.bool t_12.2)) hF hS (ex_assign rfl) rfl rfl fun a hF => ?_
    refine q_end (n_sq ?_)
    refine q_seq ?_
    refine q_seq ?_
    obtain ⟨t_16, hj2, hr⟩ := bindS hr
    refine q_join (fun a w => Fr a 41 [(0, s1.v), (6, s11.v), (35, (.bool t_16))] ∧ St [] w0 w m [q11]) ?_ ?_
    · refine q_region ?_
      refine q_x (v := (.agg #[(.int .i64 t_12.1.Ratio.Num), (.int .i64 t_12.1.Ratio.Den), (.int .i64 t_12.1.Rho.Num), (.int .i64 t_12.1.Rho.Den)])) hF hS (ex_loadA (vs := [(.int .i64 t_12.1.Ratio.Num), (.int .i64 t_12.1.Ratio.Den), (.int .i64 t_12.1.Rho.Num), (.int .i64 t_12.1.Rho.Den)]) 0 0 Try.underlying28 rfl sz28 rfl rfl rfl rfl) rfl rfl fun a hF => ?_
      refine q_x (v := (.agg #[(.int .i64 t_6.1.Ratio.Num), (.int .i64 t_6.1.Ratio.Den), (.int .i64 t_6.1.Rho.Num), (.int .i64 t_6.1.Rho.Den)])) hF hS (ex_loadA (vs := [(.int .i64 t_6.1.Ratio.Num), (.int .i64 t_6.1.Ratio.Den), (.int .i64 t_6.1.Rho.Num), (.int .i64 t_6.1.Rho.Den)]) 2 0 Try.underlying28 rfl sz28 rfl rfl rfl rfl) rfl rfl fun a hF => ?_
      obtain ⟨t_15, ht_15, hj2⟩ := bindS hj2
      refine q_call (vs := [(.agg #[(.int .i64 t_12.1.Ratio.Num), (.int .i64 t_12.1.Ratio.Den), (.int .i64 t_12.1.Rho.Num), (.int .i64 t_12.1.Rho.Den)]), (.agg #[(.int .i64 t_6.1.Ratio.Num), (.int .i64 t_6.1.Ratio.Den), (.int .i64 t_6.1.Rho.Num), (.int .i64 t_6.1.Rho.Den)])]) hF hS Try.func21 (by kernel_rfl) rfl rfl rfl (c_laws_eqLoss t_12.1 t_6.1 t_15 ht_15 _ m hS.vis) ?_
      rintro a w _ rfl hF hS
      refine q_x (v := (.bool (!t_15))) hF hS (ex_not rfl) rfl rfl fun a hF => ?_
      refine q_x (v := (.bool (!t_15))) hF hS (ex_move rfl) rfl rfl fun a hF => ?_
      rcases hc3 : (!t_15) with _ | _
      · have hj2 := cond_f hc3 hj2
        refine q_xg (v := (.bool t_12.2)) hF hS (ex_move rfl) (wanted_t hF rfl rfl rfl hc3) rfl fun a hF => ?_
        refine q_xg (v := (.bool t_6.2)) hF hS (ex_move rfl) (wanted_t hF rfl rfl rfl hc3) rfl fun a hF => ?_
        refine q_xg (v := (.bool (t_12.2 != t_6.2))) hF hS (ex_bne Try.underlying4 rfl rfl) (wanted_t hF rfl rfl rfl hc3) rfl fun a hF => ?_
        refine q_x (v := (.bool (t_12.2 != t_6.2))) hF hS (ex_pick_f rfl rfl hc3) rfl rfl fun a hF => ?_
        refine q_end (n_jn ?_)
        obtain rfl := someI hj2
        exact ⟨hF.sub ⟨rfl, rfl, rfl, trivial⟩, hS.mask [false, true, false, false]⟩
      · have hj2 := cond_t hc3 hj2
        refine q_skip hF (wanted_f hF rfl rfl rfl hc3 rfl) rfl fun a hF => ?_
        refine q_skip hF (wanted_f hF rfl rfl rfl hc3 rfl) rfl fun a hF => ?_
        refine q_skip hF (wanted_f hF rfl rfl rfl hc3 rfl) rfl fun a hF => ?_
        refine q_x (v := (.bool true)) hF hS (ex_pick_t rfl rfl hc3) rfl rfl fun a hF => ?_
        refine q_end (n_jn ?_)
        obtain rfl := someI hj2
        exact ⟨hF.sub ⟨rfl, rfl, rfl, trivial⟩, hS.mask [false, true, false, false]⟩
    · rintro a w ⟨hF, hS⟩
      refine n_sq ?_
      rcases hc4 : (t_16) with _ | _
      · have hr := cond_f hc4 hr
        refine q_cond_f hF rfl hc4 ?_
        refine q_skipc (n_sq ?_)
        refine q_seq ?_
        refine q_seq ?_
        refine q_region ?_
        refine q_x (v := s11.v) hF hS (ex_move rfl) rfl rfl fun a hF => ?_
        refine q_x (v := s1.v) hF hS (ex_move rfl) rfl rfl fun a hF => ?_
        obtain ⟨t_17, ht_17, hr⟩ := bindS hr
        refine q_call (vs := [s1.v]) hF hS Try.func62 (by kernel_rfl) rfl rfl rfl (c_laws_toEntryS p_aL t_17 ht_17 _ m hS.vis s1 h1) ?_
        rintro a w _ ⟨q19, s19, rfl, hR18, h19⟩ hF hS2
        have hS : St _ _ _ _ [q19, q11] := hS.joinF hR18
        obtain ⟨m21, hl21, hv21, hz21⟩ := hS.lend
        obtain ⟨t_20, ht_20, hr⟩ := bindS hr
        refine q_call (vs := [s11.v, s19.v]) hF hS Try.func64 (by kernel_rfl) rfl rfl rfl (c_laws_eqEntryS t_9 t_17 t_20 ht_20 _ m21 hv21 s11 (h11.froz hl21 (hz21 1 _ rfl)) s19 (h19.froz hl21 (hz21 0 _ rfl))) ?_
        rintro a w _ rfl hF hS
        refine q_x (v := (.bool (!t_20))) hF hS (ex_not rfl) rfl rfl fun a hF => ?_
        refine q_end (n_sq ?_)
        rcases hc5 : (!t_20) with _ | _
        · have hr := cond_f hc5 hr
          refine q_cond_f hF rfl hc5 ?_
          refine q_skipc (n_sq ?_)
          refine q_seq ?_
          refine q_region ?_
          refine q_x (v := (.bool true)) hF hS (ex_assign rfl) rfl rfl fun a hF => ?_
          refine q_end (n_sq (q_ret ?_))
          obtain rfl := someI hr
          exact ret_of hF hS rfl (.tmp rfl .nil) rfl
        · have hr := cond_t hc5 hr
          refine q_cond_t hF rfl hc5 ?_
          refine q_seq ?_
          refine q_region ?_
          refine q_x (v := (.bool false)) hF hS (ex_assign rfl) rfl rfl fun a hF => ?_
          refine q_end (n_sq (q_ret (r_sq ?_)))
          obtain rfl := someI hr
          exact ret_of hF hS rfl (.tmp rfl .nil) rfl
      · have hr := cond_t hc4 hr
        refine q_cond_t hF rfl hc4 ?_
        refine q_seq ?_
        refine q_region ?_
        refine q_x (v := (.bool false)) hF hS (ex_assign rfl) rfl rfl fun a hF => ?_
        refine q_end (n_sq (q_ret (r_sq ?_)))
        obtain rfl := someI hr
        exact ret_of hF hS rfl (.tmp rfl .nil) rfl
  · have hr := cond_t hc1 hr
    refine q_cond_t hF rfl hc1 ?_
    refine q_seq ?_
    refine q_region ?_
    refine q_x (v := (.bool true)) hF hS (ex_assign rfl) rfl rfl fun a hF => ?_
    refine q_end (n_sq (q_ret (r_sq ?_)))
    obtain rfl := someI hr
    exact ret_of hF hS rfl (.tmp rfl .nil) rfl

end Go.Proofs.Ytkgmphgbmjbfhaa
