/- The walks of the functions: each returns what its plain function says. -/
import Derived.Test.YtdbgmkfniichdaaDWalks1
namespace Go.Proofs.Ytdbgmkfniichdaa
open Go.Gx Go.Gx.F Go.RowKit
set_option linter.all false
set_option maxRecDepth 10000


theorem c_impl_ledgerLoss (p_l : List impl_Entry) (r : impl_Loss × Bool) (hr : impl_ledgerLoss p_l = some r) (w0 : World) (m : Mem) (hv : Vis m w0) (s1 : Sl) (h1 : Rd m s1 p_l) :
    Ret Try.prog 96 [s1.v] w0 (fun v _ => v = (.tuple #[(.agg #[(.int .i64 r.1.Ratio.Num), (.int .i64 r.1.Ratio.Den), (.int .i64 r.1.Rho.Num), (.int .i64 r.1.Rho.Den)]), (.bool r.2)])) := by
  unfold impl_ledgerLoss at hr
  refine ret_start Try.func96 rfl 82 rfl rfl m hv fun a hF hS => ?_
  refine q_seq ?_
  refine q_region ?_
  refine q_alloc (cs := [(.int .i64 0), (.int .i64 0), (.int .i64 0), (.int .i64 0)]) hF hS rfl rfl rfl fun a w b2 hF hS => ?_
  refine q_x (v := (.bool false)) hF hS (ex_assign rfl) rfl rfl fun a hF => ?_
  refine q_end (n_sq ?_)
  refine q_seq ?_
  refine q_region ?_
  obtain ⟨t_3, ht_3, hr⟩ := bindS hr
  refine q_call (vs := []) hF hS Try.func36 (by kernel_rfl) rfl rfl rfl (c_impl_NoLoss  t_3 ht_3 _ m hS.vis) ?_
  rintro a w _ rfl hF hS
  refine q_alloc (cs := [(.int .i64 0), (.int .i64 0), (.int .i64 0), (.int .i64 0)]) hF hS rfl rfl rfl fun a w b4 hF hS => ?_
  refine q_store (vs := [(.int .i64 t_3.Ratio.Num), (.int .i64 t_3.Ratio.Den), (.int .i64 t_3.Rho.Num), (.int .i64 t_3.Rho.Den)]) (cs' := [(.int .i64 t_3.Ratio.Num), (.int .i64 t_3.Ratio.Den), (.int .i64 t_3.Rho.Num), (.int .i64 t_3.Rho.Den)]) 0 0 hF hS sz26 rfl rfl rfl rfl rfl rfl rfl rfl fun a w hF hS => ?_
  refine q_x (v := (.bool true)) hF hS (ex_assign rfl) rfl rfl fun a hF => ?_
  refine q_end (n_sq ?_)
  refine q_seq ?_
  refine q_seq ?_
  refine q_region ?_
  refine q_x (v := s1.v) hF hS (ex_move rfl) rfl rfl fun a hF => ?_
  refine q_x (v := (.int .i64 (goLen p_l))) hF hS (ex_len Try.underlying39 rfl h1.len) rfl rfl fun a hF => ?_
  refine q_x (v := (.int .i64 0)) hF hS (ex_move rfl) rfl rfl fun a hF => ?_
  refine q_end (n_sq ?_)
  refine q_block ?_
  obtain ⟨o1, hl1, hr⟩ := bindS hr
  refine q_loop (fun (s : Int × impl_Loss) a w => ∃ t_5, ∃ first_6, s = (t_5, first_6) ∧ Fr a 82 [(0, s1.v), (2, (.pointer (some ⟨b2, 0, none⟩))), (4, (.pointer (some ⟨b4, 0, none⟩))), (15, s1.v), (16, (.int .i64 (goLen p_l))), (17, (.int .i64 t_5))] ∧ St [] w0 w m [[⟨b4, [(.int .i64 first_6.Ratio.Num), (.int .i64 first_6.Ratio.Den), (.int .i64 first_6.Rho.Num), (.int .i64 first_6.Rho.Den)], 26⟩], [⟨b2, [(.int .i64 0), (.int .i64 0), (.int .i64 0), (.int .i64 0)], 26⟩]]) (fun (o : (impl_Loss) ⊕ (impl_Loss × Bool)) e a w => ∃ first_12, o = .inl first_12 ∧ e = .exit 0 ∧ Fr a 82 [(0, s1.v), (2, (.pointer (some ⟨b2, 0, none⟩))), (4, (.pointer (some ⟨b4, 0, none⟩)))] ∧ St [] w0 w m [[⟨b4, [(.int .i64 first_12.Ratio.Num), (.int .i64 first_12.Ratio.Den), (.int .i64 first_12.Rho.Num), (.int .i64 first_12.Rho.Den)], 26⟩], [⟨b2, [(.int .i64 0), (.int .i64 0), (.int .i64 0), (.int .i64 0)], 26⟩]]) hl1 ⟨_, _, rfl, hF.sub ⟨rfl, rfl, rfl, rfl, rfl, rfl, trivial⟩, hS⟩ ?_ ?_
  · clear hF hS
    rintro s a w st ⟨t_5, first_6, rfl, hF, hS⟩ hb1
    unfold impl_ledgerLoss_l1 at hb1
    refine q_seq ?_
    refine q_region ?_
    refine q_x (v := (.bool (decide (t_5 < (goLen p_l))))) hF hS (ex_ibin rfl rfl rfl) rfl rfl fun a hF => ?_
    refine q_end (n_sq ?_)
    refine q_seq ?_
    rcases bcase (decide (t_5 < (goLen p_l))) with hc2 | hc2
    · have hb1 := cond_f hc2 hb1
      refine q_cond_f hF rfl hc2 ?_
      refine q_exit (x_sq ?_)
      obtain rfl := someI hb1
      exact ⟨nofun, .inl ⟨_, rfl, rfl, hF.sub ⟨rfl, rfl, rfl, trivial⟩, hS⟩⟩
    · have hb1 := cond_t hc2 hb1
      refine q_cond_t hF rfl hc2 ?_
      refine q_skipc (n_sq ?_)
      refine q_seq ?_
      refine q_block ?_
      refine q_seq ?_
      refine q_region ?_
      obtain ⟨e_7, he_7, hb1⟩ := bindS hb1
      obtain ⟨vs8, at8, d8⟩ := h1.at he_7 5 rfl
      obtain rfl : vs8 = [(.int .i64 e_7.Scope), (.int .i64 e_7.Loss.Ratio.Num), (.int .i64 e_7.Loss.Ratio.Den), (.int .i64 e_7.Loss.Rho.Num), (.int .i64 e_7.Loss.Rho.Den)] := d8
      refine q_x (v := (elP s1 (t_5.toNat * 5))) hF hS (ex_indexAddr Try.underlying39 sz49 rfl rfl (h1.idx he_7)) rfl rfl fun a hF => ?_
      refine q_x (v := (.agg #[(.int .i64 e_7.Scope), (.int .i64 e_7.Loss.Ratio.Num), (.int .i64 e_7.Loss.Ratio.Den), (.int .i64 e_7.Loss.Rho.Num), (.int .i64 e_7.Loss.Rho.Den)])) hF hS (ex_loadEA (us := [(.int .i64 e_7.Scope), (.int .i64 e_7.Loss.Ratio.Num), (.int .i64 e_7.Loss.Ratio.Den), (.int .i64 e_7.Loss.Rho.Num), (.int .i64 e_7.Loss.Rho.Den)]) 0 Try.underlying49 rfl sz49 rfl ((at8).at) rfl rfl rfl) rfl rfl fun a hF => ?_
      refine q_alloc (cs := [(.int .i64 0), (.int .i64 0), (.int .i64 0), (.int .i64 0), (.int .i64 0)]) hF hS rfl rfl rfl fun a w b9 hF hS => ?_
      refine q_store (vs := [(.int .i64 e_7.Scope), (.int .i64 e_7.Loss.Ratio.Num), (.int .i64 e_7.Loss.Ratio.Den), (.int .i64 e_7.Loss.Rho.Num), (.int .i64 e_7.Loss.Rho.Den)]) (cs' := [(.int .i64 e_7.Scope), (.int .i64 e_7.Loss.Ratio.Num), (.int .i64 e_7.Loss.Ratio.Den), (.int .i64 e_7.Loss.Rho.Num), (.int .i64 e_7.Loss.Rho.Den)]) 0 0 hF hS sz49 rfl rfl rfl rfl rfl rfl rfl rfl fun a w hF hS => ?_
      refine q_end (n_sq ?_)
      refine q_seq ?_
      refine q_region ?_
      refine q_x (v := (.pointer (some ⟨b9, 0, none⟩))) hF hS (ex_fieldAddr Try.underlying49 rfl sz3 rfl rfl) rfl rfl fun a hF => ?_
      refine q_x (v := (.int .i64 e_7.Scope)) hF hS (ex_load1 0 0 Try.underlying3 rfl rfl rfl rfl) rfl rfl fun a hF => ?_
      refine q_x (v := (.bool (e_7.Scope == (-1)))) hF hS (ex_ibin rfl rfl rfl) rfl rfl fun a hF => ?_
      refine q_end (n_sq ?_)
      obtain ⟨j3, hj3, hb1⟩ := bindS hb1
      refine q_join (fun a w => ∃ first_11, j3 = .inl first_11 ∧ Fr a 82 [(0, s1.v), (2, (.pointer (some ⟨b2, 0, none⟩))), (4, (.pointer (some ⟨b4, 0, none⟩))), (15, s1.v), (16, (.int .i64 (goLen p_l))), (17, (.int .i64 t_5))] ∧ St [] w0 w m [[⟨b4, [(.int .i64 first_11.Ratio.Num), (.int .i64 first_11.Ratio.Den), (.int .i64 first_11.Rho.Num), (.int .i64 first_11.Rho.Den)], 26⟩], [⟨b2, [(.int .i64 0), (.int .i64 0), (.int .i64 0), (.int .i64 0)], 26⟩]]) ?_ ?_
      · rcases bcase (e_7.Scope == (-1)) with hc4 | hc4
        · have hj3 := cond_f hc4 hj3
          refine q_cond_f hF rfl hc4 ?_
          refine q_skipc (n_jn ?_)
          obtain rfl := someI hj3
          exact ⟨_, rfl, hF.sub ⟨rfl, rfl, rfl, rfl, rfl, rfl, trivial⟩, hS.mask [false, true, true]⟩
        · have hj3 := cond_t hc4 hj3
          refine q_cond_t hF rfl hc4 ?_
          refine q_seq ?_
          refine q_region ?_
          refine q_x (v := (.agg #[(.int .i64 first_6.Ratio.Num), (.int .i64 first_6.Ratio.Den), (.int .i64 first_6.Rho.Num), (.int .i64 first_6.Rho.Den)])) hF hS (ex_loadA (vs := [(.int .i64 first_6.Ratio.Num), (.int .i64 first_6.Ratio.Den), (.int .i64 first_6.Rho.Num), (.int .i64 first_6.Rho.Den)]) 1 0 Try.underlying26 rfl sz26 rfl rfl rfl rfl) rfl rfl fun a hF => ?_
          refine q_x (v := (.pointer (some ⟨b9, 1, none⟩))) hF hS (ex_fieldAddr Try.underlying49 rfl sz26 rfl rfl) rfl rfl fun a hF => ?_
          refine q_x (v := (.agg #[(.int .i64 e_7.Loss.Ratio.Num), (.int .i64 e_7.Loss.Ratio.Den), (.int .i64 e_7.Loss.Rho.Num), (.int .i64 e_7.Loss.Rho.Den)])) hF hS (ex_loadA (vs := [(.int .i64 e_7.Loss.Ratio.Num), (.int .i64 e_7.Loss.Ratio.Den), (.int .i64 e_7.Loss.Rho.Num), (.int .i64 e_7.Loss.Rho.Den)]) 0 0 Try.underlying26 rfl sz26 rfl rfl rfl rfl) rfl rfl fun a hF => ?_
          obtain ⟨t_10, ht_10, hj3⟩ := bindS hj3
          refine q_call (vs := [(.agg #[(.int .i64 first_6.Ratio.Num), (.int .i64 first_6.Ratio.Den), (.int .i64 first_6.Rho.Num), (.int .i64 first_6.Rho.Den)]), (.agg #[(.int .i64 e_7.Loss.Ratio.Num), (.int .i64 e_7.Loss.Ratio.Den), (.int .i64 e_7.Loss.Rho.Num), (.int .i64 e_7.Loss.Rho.Den)])]) hF hS Try.func93 (by kernel_rfl) rfl rfl rfl (c_impl_composed first_6 e_7.Loss t_10 ht_10 _ m hS.vis) ?_
          rintro a w _ rfl hF hS
          refine q_x (v := (.tuple #[(.agg #[(.int .i64 t_10.1.Ratio.Num), (.int .i64 t_10.1.Ratio.Den), (.int .i64 t_10.1.Rho.Num), (.int .i64 t_10.1.Rho.Den)]), (.bool t_10.2)])) hF hS (ex_move rfl) rfl rfl fun a hF => ?_
          refine q_x (v := (.agg #[(.int .i64 t_10.1.Ratio.Num), (.int .i64 t_10.1.Ratio.Den), (.int .i64 t_10.1.Rho.Num), (.int .i64 t_10.1.Rho.Den)])) hF hS (ex_extract rfl rfl) rfl rfl fun a hF => ?_
          refine q_x (v := (.bool t_10.2)) hF hS (ex_extract rfl rfl) rfl rfl fun a hF => ?_
          refine q_store (vs := [(.int .i64 t_10.1.Ratio.Num), (.int .i64 t_10.1.Ratio.Den), (.int .i64 t_10.1.Rho.Num), (.int .i64 t_10.1.Rho.Den)]) (cs' := [(.int .i64 t_10.1.Ratio.Num), (.int .i64 t_10.1.Ratio.Den), (.int .i64 t_10.1.Rho.Num), (.int .i64 t_10.1.Rho.Den)]) 1 0 hF hS sz26 rfl rfl rfl rfl rfl rfl rfl rfl fun a w hF hS => ?_
          refine q_x (v := (.bool t_10.2)) hF hS (ex_assign rfl) rfl rfl fun a hF => ?_
          refine q_end (n_sq ?_)
          refine q_seq ?_
          refine q_region ?_
          refine q_x (v := (.bool t_10.2)) hF hS (ex_move rfl) rfl rfl fun a hF => ?_
          refine q_x (v := (.bool (!t_10.2))) hF hS (ex_not rfl) rfl rfl fun a hF => ?_
          refine q_end (n_sq ?_)
          rcases bcase (!t_10.2) with hc5 | hc5
          · have hj3 := cond_f hc5 hj3
            refine q_cond_f hF rfl hc5 ?_
            refine q_skipc (n_jn ?_)
            obtain rfl := someI hj3
            exact ⟨_, rfl, hF.sub ⟨rfl, rfl, rfl, rfl, rfl, rfl, trivial⟩, hS.mask [false, true, true]⟩
          · have hj3 := cond_t hc5 hj3
            refine q_cond_t hF rfl hc5 ?_
            refine q_seq ?_
            refine q_region ?_
            refine q_x (v := (.agg #[(.int .i64 0), (.int .i64 0), (.int .i64 0), (.int .i64 0)])) hF hS (ex_build (cells := [(.int .i64 0), (.int .i64 0), (.int .i64 0), (.int .i64 0)]) rfl (by kernel_rfl)) rfl rfl fun a hF => ?_
            refine q_store (vs := [(.int .i64 0), (.int .i64 0), (.int .i64 0), (.int .i64 0)]) (cs' := [(.int .i64 0), (.int .i64 0), (.int .i64 0), (.int .i64 0)]) 2 0 hF hS sz26 rfl rfl rfl rfl rfl rfl rfl rfl fun a w hF hS => ?_
            refine q_x (v := (.bool false)) hF hS (ex_assign rfl) rfl rfl fun a hF => ?_
            refine q_end (n_sq (q_ret (r_jn ?_)))
            obtain rfl := someI hj3
            refine r_ib (r_sq ?_)
            obtain rfl := someI hb1
            refine ⟨nofun, .inr fun ho => ?_⟩
            subst ho
            refine r_ib (r_sq ?_)
            obtain rfl := someI hr
            exact ret_of hF hS rfl (.cellA (us := [(.int .i64 0), (.int .i64 0), (.int .i64 0), (.int .i64 0)]) 2 0 Try.underlying26 rfl sz26 rfl rfl rfl rfl (.tmp rfl .nil)) rfl
      · rintro a w ⟨first_11, rfl, hF, hS⟩
        refine n_ib (n_sq ?_)
        refine q_region ?_
        refine q_x (v := (.int .i64 (w64 (t_5 + 1)))) hF hS (ex_ibin rfl rfl rfl) rfl rfl fun a hF => ?_
        refine q_x (v := (.int .i64 (w64 (t_5 + 1)))) hF hS (ex_move rfl) rfl rfl fun a hF => ?_
        refine q_end ?_
        obtain rfl := someI hb1
        exact ⟨rfl, _, _, rfl, hF.sub ⟨rfl, rfl, rfl, rfl, rfl, rfl, trivial⟩, hS⟩
  · rintro e a w ⟨first_12, rfl, rfl, hF, hS⟩
    refine x_ib (n_sq ?_)
    refine q_seq ?_
    refine q_region ?_
    refine q_x (v := (.agg #[(.int .i64 first_12.Ratio.Num), (.int .i64 first_12.Ratio.Den), (.int .i64 first_12.Rho.Num), (.int .i64 first_12.Rho.Den)])) hF hS (ex_loadA (vs := [(.int .i64 first_12.Ratio.Num), (.int .i64 first_12.Ratio.Den), (.int .i64 first_12.Rho.Num), (.int .i64 first_12.Rho.Den)]) 0 0 Try.underlying26 rfl sz26 rfl rfl rfl rfl) rfl rfl fun a hF => ?_
    refine q_alloc (cs := [(.int .i64 0), (.int .i64 0), (.int .i64 0), (.int .i64 0)]) hF hS rfl rfl rfl fun a w b13 hF hS => ?_
    refine q_store (vs := [(.int .i64 first_12.Ratio.Num), (.int .i64 first_12.Ratio.Den), (.int .i64 first_12.Rho.Num), (.int .i64 first_12.Rho.Den)]) (cs' := [(.int .i64 first_12.Ratio.Num), (.int .i64 first_12.Ratio.Den), (.int .i64 first_12.Rho.Num), (.int .i64 first_12.Rho.Den)]) 0 0 hF hS sz26 rfl rfl rfl rfl rfl rfl rfl rfl fun a w hF hS => ?_
    refine q_end (n_sq ?_)
    refine q_seq ?_
    refine q_seq ?_
    refine q_region ?_
    refine q_x (v := s1.v) hF hS (ex_move rfl) rfl rfl fun a hF => ?_
    refine q_x (v := (.int .i64 (goLen p_l))) hF hS (ex_len Try.underlying39 rfl h1.len) rfl rfl fun a hF => ?_
    refine q_x (v := (.int .i64 0)) hF hS (ex_move rfl) rfl rfl fun a hF => ?_
    refine q_end (n_sq ?_)
    refine q_block ?_
    obtain ⟨o6, hl6, hr⟩ := bindS hr
    refine q_loop (fun (s : Int × impl_Loss) a w => ∃ t_14, ∃ out_15, s = (t_14, out_15) ∧ Fr a 82 [(0, s1.v), (2, (.pointer (some ⟨b2, 0, none⟩))), (4, (.pointer (some ⟨b4, 0, none⟩))), (8, (.pointer (some ⟨b13, 0, none⟩))), (36, s1.v), (37, (.int .i64 (goLen p_l))), (38, (.int .i64 t_14))] ∧ St [] w0 w m [[⟨b13, [(.int .i64 out_15.Ratio.Num), (.int .i64 out_15.Ratio.Den), (.int .i64 out_15.Rho.Num), (.int .i64 out_15.Rho.Den)], 26⟩], [⟨b4, [(.int .i64 first_12.Ratio.Num), (.int .i64 first_12.Ratio.Den), (.int .i64 first_12.Rho.Num), (.int .i64 first_12.Rho.Den)], 26⟩], [⟨b2, [(.int .i64 0), (.int .i64 0), (.int .i64 0), (.int .i64 0)], 26⟩]]) (fun (o : (impl_Loss) ⊕ (impl_Loss × Bool)) e a w => ∃ out_34, o = .inl out_34 ∧ e = .exit 2 ∧ Fr a 82 [(2, (.pointer (some ⟨b2, 0, none⟩))), (8, (.pointer (some ⟨b13, 0, none⟩)))] ∧ St [] w0 w m [[⟨b13, [(.int .i64 out_34.Ratio.Num), (.int .i64 out_34.Ratio.Den), (.int .i64 out_34.Rho.Num), (.int .i64 out_34.Rho.Den)], 26⟩], [⟨b2, [(.int .i64 0), (.int .i64 0), (.int .i64 0), (.int .i64 0)], 26⟩]]) hl6 ⟨_, _, rfl, hF.sub ⟨rfl, rfl, rfl, rfl, rfl, rfl, rfl, trivial⟩, hS⟩ ?_ ?_
    · clear hF hS
      rintro s a w st ⟨t_14, out_15, rfl, hF, hS⟩ hb6
      unfold impl_ledgerLoss_l2 at hb6
      refine q_seq ?_
      refine q_region ?_
      refine q_x (v := (.bool (decide (t_14 < (goLen p_l))))) hF hS (ex_ibin rfl rfl rfl) rfl rfl fun a hF => ?_
      refine q_end (n_sq ?_)
      refine q_seq ?_
      rcases bcase (decide (t_14 < (goLen p_l))) with hc7 | hc7
      · have hb6 := cond_f hc7 hb6
        refine q_cond_f hF rfl hc7 ?_
        refine q_exit (x_sq ?_)
        obtain rfl := someI hb6
        exact ⟨nofun, .inl ⟨_, rfl, rfl, hF.sub ⟨rfl, rfl, trivial⟩, hS.mask [true, false, true]⟩⟩
      · have hb6 := cond_t hc7 hb6
        refine q_cond_t hF rfl hc7 ?_
        refine q_skipc (n_sq ?_)
        refine q_seq ?_
        obtain ⟨j8, hj8, hb6⟩ := bindS hb6
        refine q_join (fun a w => ∃ out_33, j8 = .inl out_33 ∧ Fr a 82 [(0, s1.v), (2, (.pointer (some ⟨b2, 0, none⟩))), (4, (.pointer (some ⟨b4, 0, none⟩))), (8, (.pointer (some ⟨b13, 0, none⟩))), (36, s1.v), (37, (.int .i64 (goLen p_l))), (38, (.int .i64 t_14))] ∧ St [] w0 w m [[⟨b13, [(.int .i64 out_33.Ratio.Num), (.int .i64 out_33.Ratio.Den), (.int .i64 out_33.Rho.Num), (.int .i64 out_33.Rho.Den)], 26⟩], [⟨b4, [(.int .i64 first_12.Ratio.Num), (.int .i64 first_12.Ratio.Den), (.int .i64 first_12.Rho.Num), (.int .i64 first_12.Rho.Den)], 26⟩], [⟨b2, [(.int .i64 0), (.int .i64 0), (.int .i64 0), (.int .i64 0)], 26⟩]]) ?_ ?_
        · refine q_block ?_
          refine q_seq ?_
          refine q_region ?_
          refine q_x (v := (.int .i64 t_14)) hF hS (ex_move rfl) rfl rfl fun a hF => ?_
          obtain ⟨e_16, he_16, hj8⟩ := bindS hj8
          obtain ⟨vs17, at17, d17⟩ := h1.at he_16 5 rfl
          obtain rfl : vs17 = [(.int .i64 e_16.Scope), (.int .i64 e_16.Loss.Ratio.Num), (.int .i64 e_16.Loss.Ratio.Den), (.int .i64 e_16.Loss.Rho.Num), (.int .i64 e_16.Loss.Rho.Den)] := d17
          refine q_x (v := (elP s1 (t_14.toNat * 5))) hF hS (ex_indexAddr Try.underlying39 sz49 rfl rfl (h1.idx he_16)) rfl rfl fun a hF => ?_
          refine q_x (v := (.agg #[(.int .i64 e_16.Scope), (.int .i64 e_16.Loss.Ratio.Num), (.int .i64 e_16.Loss.Ratio.Den), (.int .i64 e_16.Loss.Rho.Num), (.int .i64 e_16.Loss.Rho.Den)])) hF hS (ex_loadEA (us := [(.int .i64 e_16.Scope), (.int .i64 e_16.Loss.Ratio.Num), (.int .i64 e_16.Loss.Ratio.Den), (.int .i64 e_16.Loss.Rho.Num), (.int .i64 e_16.Loss.Rho.Den)]) 0 Try.underlying49 rfl sz49 rfl ((at17).at) rfl rfl rfl) rfl rfl fun a hF => ?_
          refine q_alloc (cs := [(.int .i64 0), (.int .i64 0), (.int .i64 0), (.int .i64 0), (.int .i64 0)]) hF hS rfl rfl rfl fun a w b18 hF hS => ?_
          refine q_x (v := (.int .i64 t_14)) hF hS (ex_assign rfl) rfl rfl fun a hF => ?_
          refine q_store (vs := [(.int .i64 e_16.Scope), (.int .i64 e_16.Loss.Ratio.Num), (.int .i64 e_16.Loss.Ratio.Den), (.int .i64 e_16.Loss.Rho.Num), (.int .i64 e_16.Loss.Rho.Den)]) (cs' := [(.int .i64 e_16.Scope), (.int .i64 e_16.Loss.Ratio.Num), (.int .i64 e_16.Loss.Ratio.Den), (.int .i64 e_16.Loss.Rho.Num), (.int .i64 e_16.Loss.Rho.Den)]) 0 0 hF hS sz49 rfl rfl rfl rfl rfl rfl rfl rfl fun a w hF hS => ?_
          refine q_end (n_sq ?_)
          refine q_seq ?_
          refine q_seq ?_
          obtain ⟨t_22, hj9, hj8⟩ := bindS hj8
          refine q_join (fun a w => Fr a 82 [(0, s1.v), (2, (.pointer (some ⟨b2, 0, none⟩))), (4, (.pointer (some ⟨b4, 0, none⟩))), (8, (.pointer (some ⟨b13, 0, none⟩))), (10, (.pointer (some ⟨b18, 0, none⟩))), (36, s1.v), (37, (.int .i64 (goLen p_l))), (38, (.int .i64 t_14)), (53, (.bool t_22))] ∧ St [] w0 w m [[⟨b18, [(.int .i64 e_16.Scope), (.int .i64 e_16.Loss.Ratio.Num), (.int .i64 e_16.Loss.Ratio.Den), (.int .i64 e_16.Loss.Rho.Num), (.int .i64 e_16.Loss.Rho.Den)], 49⟩], [⟨b13, [(.int .i64 out_15.Ratio.Num), (.int .i64 out_15.Ratio.Den), (.int .i64 out_15.Rho.Num), (.int .i64 out_15.Rho.Den)], 26⟩], [⟨b4, [(.int .i64 first_12.Ratio.Num), (.int .i64 first_12.Ratio.Den), (.int .i64 first_12.Rho.Num), (.int .i64 first_12.Rho.Den)], 26⟩], [⟨b2, [(.int .i64 0), (.int .i64 0), (.int .i64 0), (.int .i64 0)], 26⟩]]) ?_ ?_
          · refine e_region [] mixed fun w' hw' => ?_
            have hS := hS.below hw'
            refine e_p (v := (.pointer (some ⟨b18, 0, none⟩))) 0 hF rfl (ex_fieldAddr Try.underlying49 rfl sz3 rfl rfl) rfl rfl (by kernel_rfl) (by kernel_rfl) (by kernel_rfl) fun a hF => ?_
            refine e_x (v := (.int .i64 e_16.Scope)) 1 hF hS rfl (ex_load1 0 0 Try.underlying3 rfl rfl rfl rfl) rfl rfl (by kernel_rfl) (by kernel_rfl) (by kernel_rfl) (by kernel_rfl) fun a hF => ?_
            refine e_p (v := (.bool (e_16.Scope == (-1)))) 2 hF rfl (ex_ibin rfl rfl rfl) rfl rfl (by kernel_rfl) (by kernel_rfl) (by kernel_rfl) fun a hF => ?_
            refine e_p (v := (.bool (e_16.Scope == (-1)))) 3 hF rfl (ex_move rfl) rfl rfl (by kernel_rfl) (by kernel_rfl) (by kernel_rfl) fun a hF => ?_
            rcases bcase (e_16.Scope == (-1)) with hc10 | hc10
            · have hj9 := cond_f hc10 hj9
              refine e_pg (v := s1.v) 4 hF rfl (ex_move rfl) (wanted_t hF rfl rfl rfl hc10) rfl (by kernel_rfl) (by kernel_rfl) (by kernel_rfl) fun a hF => ?_
              refine e_pg (v := (.int .i64 t_14)) 5 hF rfl (ex_move rfl) (wanted_t hF rfl rfl rfl hc10) rfl (by kernel_rfl) (by kernel_rfl) (by kernel_rfl) fun a hF => ?_
              obtain ⟨l_19, hl_19, hj9⟩ := bindS hj9
              have h20 : Rd m (subS s1 5 (0 : Int).toNat t_14.toNat s1.cap) l_19 := h1.sub' hl_19 5 rfl
              refine e_pg (v := (subS s1 5 (0 : Int).toNat t_14.toNat s1.cap).v) 6 hF rfl (ex_slice Try.underlying39 sz49 rfl rfl rfl (.inl ⟨rfl, rfl⟩) (.inr ⟨_, rfl⟩) (h1.subok hl_19)) (wanted_t hF rfl rfl rfl hc10) rfl (by kernel_rfl) (by kernel_rfl) (by kernel_rfl) fun a hF => ?_
              refine e_pg (v := (.pointer (some ⟨b18, 0, none⟩))) 7 hF rfl (ex_fieldAddr Try.underlying49 rfl sz3 rfl rfl) (wanted_t hF rfl rfl rfl hc10) rfl (by kernel_rfl) (by kernel_rfl) (by kernel_rfl) fun a hF => ?_
              refine e_xg (v := (.int .i64 e_16.Scope)) 8 hF hS rfl (ex_load1 0 0 Try.underlying3 rfl rfl rfl rfl) (wanted_t hF rfl rfl rfl hc10) rfl (by kernel_rfl) (by kernel_rfl) (by kernel_rfl) (by kernel_rfl) fun a hF => ?_
              refine e_one 9 (by kernel_rfl) ?_
              obtain ⟨t_21, ht_21, hj9⟩ := bindS hj9
              refine e_callg (vs := [(subS s1 5 (0 : Int).toNat t_14.toNat s1.cap).v, (.int .i64 e_16.Scope)]) hF hS rfl (wanted_t hF rfl rfl rfl hc10) Try.func158 (by kernel_rfl) rfl rfl rfl (c_impl_scopeBefore l_19 e_16.Scope t_21 ht_21 _ m hS.vis (subS s1 5 (0 : Int).toNat t_14.toNat s1.cap) h20) ?_
              rintro a w _ rfl hF hS
              refine e_p (v := (.bool t_21)) 10 hF rfl (ex_pick_f rfl rfl hc10) rfl rfl (by kernel_rfl) (by kernel_rfl) (by kernel_rfl) fun a hF => ?_
              refine e_end (by kernel_rfl) (n_jn ?_) _
              obtain rfl := someI hj9
              exact ⟨hF.sub ⟨rfl, rfl, rfl, rfl, rfl, rfl, rfl, rfl, rfl, trivial⟩, hS⟩
            · have hj9 := cond_t hc10 hj9
              refine e_skipP 4 hF rfl (wanted_f hF rfl rfl rfl hc10 rfl) rfl (by kernel_rfl) (by kernel_rfl) (by kernel_rfl) fun a hF => ?_
              refine e_skipP 5 hF rfl (wanted_f hF rfl rfl rfl hc10 rfl) rfl (by kernel_rfl) (by kernel_rfl) (by kernel_rfl) fun a hF => ?_
              refine e_skipP 6 hF rfl (wanted_f hF rfl rfl rfl hc10 rfl) rfl (by kernel_rfl) (by kernel_rfl) (by kernel_rfl) fun a hF => ?_
              refine e_skipP 7 hF rfl (wanted_f hF rfl rfl rfl hc10 rfl) rfl (by kernel_rfl) (by kernel_rfl) (by kernel_rfl) fun a hF => ?_
              refine e_skipP 8 hF rfl (wanted_f hF rfl rfl rfl hc10 rfl) rfl (by kernel_rfl) (by kernel_rfl) (by kernel_rfl) fun a hF => ?_
              refine e_skipP 9 hF rfl (wanted_f hF rfl rfl rfl hc10 rfl) rfl (by kernel_rfl) (by kernel_rfl) (by kernel_rfl) fun a hF => ?_
              refine e_p (v := (.bool true)) 10 hF rfl (ex_pick_t rfl rfl hc10) rfl rfl (by kernel_rfl) (by kernel_rfl) (by kernel_rfl) fun a hF => ?_
              refine e_end (by kernel_rfl) (n_jn ?_) _
              obtain rfl := someI hj9
              exact ⟨hF.sub ⟨rfl, rfl, rfl, rfl, rfl, rfl, rfl, rfl, rfl, trivial⟩, hS⟩
          · rintro a w ⟨hF, hS⟩
            refine n_sq ?_
            rcases bcase (t_22) with hc11 | hc11
            · have hj8 := cond_f hc11 hj8
              refine q_cond_f hF rfl hc11 ?_
              refine q_skipc (n_sq ?_)
              refine q_seq ?_
              refine q_region ?_
              refine q_x (v := (.agg #[(.int .i64 first_12.Ratio.Num), (.int .i64 first_12.Ratio.Den), (.int .i64 first_12.Rho.Num), (.int .i64 first_12.Rho.Den)])) hF hS (ex_loadA (vs := [(.int .i64 first_12.Ratio.Num), (.int .i64 first_12.Ratio.Den), (.int .i64 first_12.Rho.Num), (.int .i64 first_12.Rho.Den)]) 2 0 Try.underlying26 rfl sz26 rfl rfl rfl rfl) rfl rfl fun a hF => ?_
              refine q_alloc (cs := [(.int .i64 0), (.int .i64 0), (.int .i64 0), (.int .i64 0)]) hF hS rfl rfl rfl fun a w b23 hF hS => ?_
              refine q_store (vs := [(.int .i64 first_12.Ratio.Num), (.int .i64 first_12.Ratio.Den), (.int .i64 first_12.Rho.Num), (.int .i64 first_12.Rho.Den)]) (cs' := [(.int .i64 first_12.Ratio.Num), (.int .i64 first_12.Ratio.Den), (.int .i64 first_12.Rho.Num), (.int .i64 first_12.Rho.Den)]) 0 0 hF hS sz26 rfl rfl rfl rfl rfl rfl rfl rfl fun a w hF hS => ?_
              refine q_end (n_sq ?_)
              refine q_seq ?_
              refine q_seq ?_
              refine q_region ?_
              refine q_x (v := s1.v) hF hS (ex_move rfl) rfl rfl fun a hF => ?_
              refine q_x (v := (.int .i64 (goLen p_l))) hF hS (ex_len Try.underlying39 rfl h1.len) rfl rfl fun a hF => ?_
              refine q_x (v := (.int .i64 0)) hF hS (ex_move rfl) rfl rfl fun a hF => ?_
              refine q_end (n_sq ?_)
              refine q_block ?_
              obtain ⟨o12, hl12, hj8⟩ := bindS hj8
              refine q_loop (fun (s : Int × impl_Loss) a w => ∃ t_24, ∃ own_25, s = (t_24, own_25) ∧ Fr a 82 [(0, s1.v), (2, (.pointer (some ⟨b2, 0, none⟩))), (4, (.pointer (some ⟨b4, 0, none⟩))), (8, (.pointer (some ⟨b13, 0, none⟩))), (10, (.pointer (some ⟨b18, 0, none⟩))), (11, (.pointer (some ⟨b23, 0, none⟩))), (36, s1.v), (37, (.int .i64 (goLen p_l))), (38, (.int .i64 t_14)), (55, s1.v), (56, (.int .i64 (goLen p_l))), (57, (.int .i64 t_24))] ∧ St [] w0 w m [[⟨b23, [(.int .i64 own_25.Ratio.Num), (.int .i64 own_25.Ratio.Den), (.int .i64 own_25.Rho.Num), (.int .i64 own_25.Rho.Den)], 26⟩], [⟨b18, [(.int .i64 e_16.Scope), (.int .i64 e_16.Loss.Ratio.Num), (.int .i64 e_16.Loss.Ratio.Den), (.int .i64 e_16.Loss.Rho.Num), (.int .i64 e_16.Loss.Rho.Den)], 49⟩], [⟨b13, [(.int .i64 out_15.Ratio.Num), (.int .i64 out_15.Ratio.Den), (.int .i64 out_15.Rho.Num), (.int .i64 out_15.Rho.Den)], 26⟩], [⟨b4, [(.int .i64 first_12.Ratio.Num), (.int .i64 first_12.Ratio.Den), (.int .i64 first_12.Rho.Num), (.int .i64 first_12.Rho.Den)], 26⟩], [⟨b2, [(.int .i64 0), (.int .i64 0), (.int .i64 0), (.int .i64 0)], 26⟩]]) (fun (o : (impl_Loss) ⊕ ((impl_Loss) ⊕ (Stp (Int × impl_Loss) ((impl_Loss) ⊕ (impl_Loss × Bool))))) e a w => ∃ own_31, o = .inl own_31 ∧ e = .exit 4 ∧ Fr a 82 [(0, s1.v), (2, (.pointer (some ⟨b2, 0, none⟩))), (4, (.pointer (some ⟨b4, 0, none⟩))), (8, (.pointer (some ⟨b13, 0, none⟩))), (11, (.pointer (some ⟨b23, 0, none⟩))), (36, s1.v), (37, (.int .i64 (goLen p_l))), (38, (.int .i64 t_14))] ∧ St [] w0 w m [[⟨b23, [(.int .i64 own_31.Ratio.Num), (.int .i64 own_31.Ratio.Den), (.int .i64 own_31.Rho.Num), (.int .i64 own_31.Rho.Den)], 26⟩], [⟨b13, [(.int .i64 out_15.Ratio.Num), (.int .i64 out_15.Ratio.Den), (.int .i64 out_15.Rho.Num), (.int .i64 out_15.Rho.Den)], 26⟩], [⟨b4, [(.int .i64 first_12.Ratio.Num), (.int .i64 first_12.Ratio.Den), (.int .i64 first_12.Rho.Num), (.int .i64 first_12.Rho.Den)], 26⟩], [⟨b2, [(.int .i64 0), (.int .i64 0), (.int .i64 0), (.int .i64 0)], 26⟩]]) hl12 ⟨_, _, rfl, hF.sub ⟨rfl, rfl, rfl, rfl, rfl, rfl, rfl, rfl, rfl, rfl, rfl, rfl, trivial⟩, hS⟩ ?_ ?_
              · clear hF hS
                rintro s a w st ⟨t_24, own_25, rfl, hF, hS⟩ hb12
                unfold impl_ledgerLoss_l3 at hb12
                refine q_seq ?_
                refine q_region ?_
                refine q_x (v := (.bool (decide (t_24 < (goLen p_l))))) hF hS (ex_ibin rfl rfl rfl) rfl rfl fun a hF => ?_
                refine q_end (n_sq ?_)
                refine q_seq ?_
                rcases bcase (decide (t_24 < (goLen p_l))) with hc13 | hc13
                · have hb12 := cond_f hc13 hb12
                  refine q_cond_f hF rfl hc13 ?_
                  refine q_exit (x_sq ?_)
                  obtain rfl := someI hb12
                  exact ⟨nofun, .inl ⟨_, rfl, rfl, hF.sub ⟨rfl, rfl, rfl, rfl, rfl, rfl, rfl, rfl, trivial⟩, hS.mask [true, false, true, true, true]⟩⟩
                · have hb12 := cond_t hc13 hb12
                  refine q_cond_t hF rfl hc13 ?_
                  refine q_skipc (n_sq ?_)
                  refine q_seq ?_
                  refine q_block ?_
                  refine q_seq ?_
                  refine q_region ?_
                  obtain ⟨e_26, he_26, hb12⟩ := bindS hb12
                  obtain ⟨vs27, at27, d27⟩ := h1.at he_26 5 rfl
                  obtain rfl : vs27 = [(.int .i64 e_26.Scope), (.int .i64 e_26.Loss.Ratio.Num), (.int .i64 e_26.Loss.Ratio.Den), (.int .i64 e_26.Loss.Rho.Num), (.int .i64 e_26.Loss.Rho.Den)] := d27
                  refine q_x (v := (elP s1 (t_24.toNat * 5))) hF hS (ex_indexAddr Try.underlying39 sz49 rfl rfl (h1.idx he_26)) rfl rfl fun a hF => ?_
                  refine q_x (v := (.agg #[(.int .i64 e_26.Scope), (.int .i64 e_26.Loss.Ratio.Num), (.int .i64 e_26.Loss.Ratio.Den), (.int .i64 e_26.Loss.Rho.Num), (.int .i64 e_26.Loss.Rho.Den)])) hF hS (ex_loadEA (us := [(.int .i64 e_26.Scope), (.int .i64 e_26.Loss.Ratio.Num), (.int .i64 e_26.Loss.Ratio.Den), (.int .i64 e_26.Loss.Rho.Num), (.int .i64 e_26.Loss.Rho.Den)]) 0 Try.underlying49 rfl sz49 rfl ((at27).at) rfl rfl rfl) rfl rfl fun a hF => ?_
                  refine q_alloc (cs := [(.int .i64 0), (.int .i64 0), (.int .i64 0), (.int .i64 0), (.int .i64 0)]) hF hS rfl rfl rfl fun a w b28 hF hS => ?_
                  refine q_store (vs := [(.int .i64 e_26.Scope), (.int .i64 e_26.Loss.Ratio.Num), (.int .i64 e_26.Loss.Ratio.Den), (.int .i64 e_26.Loss.Rho.Num), (.int .i64 e_26.Loss.Rho.Den)]) (cs' := [(.int .i64 e_26.Scope), (.int .i64 e_26.Loss.Ratio.Num), (.int .i64 e_26.Loss.Ratio.Den), (.int .i64 e_26.Loss.Rho.Num), (.int .i64 e_26.Loss.Rho.Den)]) 0 0 hF hS sz49 rfl rfl rfl rfl rfl rfl rfl rfl fun a w hF hS => ?_
                  refine q_end (n_sq ?_)
                  refine q_seq ?_
                  refine q_region ?_
                  refine q_x (v := (.pointer (some ⟨b28, 0, none⟩))) hF hS (ex_fieldAddr Try.underlying49 rfl sz3 rfl rfl) rfl rfl fun a hF => ?_
                  refine q_x (v := (.int .i64 e_26.Scope)) hF hS (ex_load1 0 0 Try.underlying3 rfl rfl rfl rfl) rfl rfl fun a hF => ?_
                  refine q_x (v := (.pointer (some ⟨b18, 0, none⟩))) hF hS (ex_fieldAddr Try.underlying49 rfl sz3 rfl rfl) rfl rfl fun a hF => ?_
                  refine q_x (v := (.int .i64 e_16.Scope)) hF hS (ex_load1 2 0 Try.underlying3 rfl rfl rfl rfl) rfl rfl fun a hF => ?_
                  refine q_x (v := (.bool (e_26.Scope == e_16.Scope))) hF hS (ex_ibin rfl rfl rfl) rfl rfl fun a hF => ?_
                  refine q_end (n_sq ?_)
                  obtain ⟨j14, hj14, hb12⟩ := bindS hb12
                  refine q_join (fun a w => ∃ own_30, j14 = .inl own_30 ∧ Fr a 82 [(0, s1.v), (2, (.pointer (some ⟨b2, 0, none⟩))), (4, (.pointer (some ⟨b4, 0, none⟩))), (8, (.pointer (some ⟨b13, 0, none⟩))), (10, (.pointer (some ⟨b18, 0, none⟩))), (11, (.pointer (some ⟨b23, 0, none⟩))), (36, s1.v), (37, (.int .i64 (goLen p_l))), (38, (.int .i64 t_14)), (55, s1.v), (56, (.int .i64 (goLen p_l))), (57, (.int .i64 t_24))] ∧ St [] w0 w m [[⟨b23, [(.int .i64 own_30.Ratio.Num), (.int .i64 own_30.Ratio.Den), (.int .i64 own_30.Rho.Num), (.int .i64 own_30.Rho.Den)], 26⟩], [⟨b18, [(.int .i64 e_16.Scope), (.int .i64 e_16.Loss.Ratio.Num), (.int .i64 e_16.Loss.Ratio.Den), (.int .i64 e_16.Loss.Rho.Num), (.int .i64 e_16.Loss.Rho.Den)], 49⟩], [⟨b13, [(.int .i64 out_15.Ratio.Num), (.int .i64 out_15.Ratio.Den), (.int .i64 out_15.Rho.Num), (.int .i64 out_15.Rho.Den)], 26⟩], [⟨b4, [(.int .i64 first_12.Ratio.Num), (.int .i64 first_12.Ratio.Den), (.int .i64 first_12.Rho.Num), (.int .i64 first_12.Rho.Den)], 26⟩], [⟨b2, [(.int .i64 0), (.int .i64 0), (.int .i64 0), (.int .i64 0)], 26⟩]]) ?_ ?_
                  · rcases bcase (e_26.Scope == e_16.Scope) with hc15 | hc15
                    · have hj14 := cond_f hc15 hj14
                      refine q_cond_f hF rfl hc15 ?_
                      refine q_skipc (n_jn ?_)
                      obtain rfl := someI hj14
                      exact ⟨_, rfl, hF.sub ⟨rfl, rfl, rfl, rfl, rfl, rfl, rfl, rfl, rfl, rfl, rfl, rfl, trivial⟩, hS.mask [false, true, true, true, true, true]⟩
                    · have hj14 := cond_t hc15 hj14
                      refine q_cond_t hF rfl hc15 ?_
                      refine q_seq ?_
                      refine q_region ?_
                      refine q_x (v := (.agg #[(.int .i64 own_25.Ratio.Num), (.int .i64 own_25.Ratio.Den), (.int .i64 own_25.Rho.Num), (.int .i64 own_25.Rho.Den)])) hF hS (ex_loadA (vs := [(.int .i64 own_25.Ratio.Num), (.int .i64 own_25.Ratio.Den), (.int .i64 own_25.Rho.Num), (.int .i64 own_25.Rho.Den)]) 1 0 Try.underlying26 rfl sz26 rfl rfl rfl rfl) rfl rfl fun a hF => ?_
                      refine q_x (v := (.pointer (some ⟨b28, 1, none⟩))) hF hS (ex_fieldAddr Try.underlying49 rfl sz26 rfl rfl) rfl rfl fun a hF => ?_
                      refine q_x (v := (.agg #[(.int .i64 e_26.Loss.Ratio.Num), (.int .i64 e_26.Loss.Ratio.Den), (.int .i64 e_26.Loss.Rho.Num), (.int .i64 e_26.Loss.Rho.Den)])) hF hS (ex_loadA (vs := [(.int .i64 e_26.Loss.Ratio.Num), (.int .i64 e_26.Loss.Ratio.Den), (.int .i64 e_26.Loss.Rho.Num), (.int .i64 e_26.Loss.Rho.Den)]) 0 0 Try.underlying26 rfl sz26 rfl rfl rfl rfl) rfl rfl fun a hF => ?_
                      obtain ⟨t_29, ht_29, hj14⟩ := bindS hj14
                      refine q_call (vs := [(.agg #[(.int .i64 own_25.Ratio.Num), (.int .i64 own_25.Ratio.Den), (.int .i64 own_25.Rho.Num), (.int .i64 own_25.Rho.Den)]), (.agg #[(.int .i64 e_26.Loss.Ratio.Num), (.int .i64 e_26.Loss.Ratio.Den), (.int .i64 e_26.Loss.Rho.Num), (.int .i64 e_26.Loss.Rho.Den)])]) hF hS Try.func93 (by kernel_rfl) rfl rfl rfl (c_impl_composed own_25 e_26.Loss t_29 ht_29 _ m hS.vis) ?_
                      rintro a w _ rfl hF hS
                      refine q_x (v := (.tuple #[(.agg #[(.int .i64 t_29.1.Ratio.Num), (.int .i64 t_29.1.Ratio.Den), (.int .i64 t_29.1.Rho.Num), (.int .i64 t_29.1.Rho.Den)]), (.bool t_29.2)])) hF hS (ex_move rfl) rfl rfl fun a hF => ?_
                      refine q_x (v := (.agg #[(.int .i64 t_29.1.Ratio.Num), (.int .i64 t_29.1.Ratio.Den), (.int .i64 t_29.1.Rho.Num), (.int .i64 t_29.1.Rho.Den)])) hF hS (ex_extract rfl rfl) rfl rfl fun a hF => ?_
                      refine q_x (v := (.bool t_29.2)) hF hS (ex_extract rfl rfl) rfl rfl fun a hF => ?_
                      refine q_store (vs := [(.int .i64 t_29.1.Ratio.Num), (.int .i64 t_29.1.Ratio.Den), (.int .i64 t_29.1.Rho.Num), (.int .i64 t_29.1.Rho.Den)]) (cs' := [(.int .i64 t_29.1.Ratio.Num), (.int .i64 t_29.1.Ratio.Den), (.int .i64 t_29.1.Rho.Num), (.int .i64 t_29.1.Rho.Den)]) 1 0 hF hS sz26 rfl rfl rfl rfl rfl rfl rfl rfl fun a w hF hS => ?_
                      refine q_x (v := (.bool t_29.2)) hF hS (ex_assign rfl) rfl rfl fun a hF => ?_
                      refine q_end (n_sq ?_)
                      refine q_seq ?_
                      refine q_region ?_
                      refine q_x (v := (.bool t_29.2)) hF hS (ex_move rfl) rfl rfl fun a hF => ?_
                      refine q_x (v := (.bool (!t_29.2))) hF hS (ex_not rfl) rfl rfl fun a hF => ?_
                      refine q_end (n_sq ?_)
                      rcases bcase (!t_29.2) with hc16 | hc16
                      · have hj14 := cond_f hc16 hj14
                        refine q_cond_f hF rfl hc16 ?_
                        refine q_skipc (n_jn ?_)
                        obtain rfl := someI hj14
                        exact ⟨_, rfl, hF.sub ⟨rfl, rfl, rfl, rfl, rfl, rfl, rfl, rfl, rfl, rfl, rfl, rfl, trivial⟩, hS.mask [false, true, true, true, true, true]⟩
                      · have hj14 := cond_t hc16 hj14
                        refine q_cond_t hF rfl hc16 ?_
                        refine q_seq ?_
                        refine q_region ?_
                        refine q_x (v := (.agg #[(.int .i64 0), (.int .i64 0), (.int .i64 0), (.int .i64 0)])) hF hS (ex_build (cells := [(.int .i64 0), (.int .i64 0), (.int .i64 0), (.int .i64 0)]) rfl (by kernel_rfl)) rfl rfl fun a hF => ?_
                        refine q_store (vs := [(.int .i64 0), (.int .i64 0), (.int .i64 0), (.int .i64 0)]) (cs' := [(.int .i64 0), (.int .i64 0), (.int .i64 0), (.int .i64 0)]) 5 0 hF hS sz26 rfl rfl rfl rfl rfl rfl rfl rfl fun a w hF hS => ?_
                        refine q_x (v := (.bool false)) hF hS (ex_assign rfl) rfl rfl fun a hF => ?_
                        refine q_end (n_sq (q_ret (r_jn ?_)))
                        obtain rfl := someI hj14
                        refine r_ib (r_sq ?_)
                        obtain rfl := someI hb12
                        refine ⟨nofun, .inr fun ho => ?_⟩
                        subst ho
                        refine r_ib (r_sq (r_ib (r_jn ?_)))
                        obtain rfl := someI hj8
                        refine r_sq ?_
                        obtain rfl := someI hb6
                        refine ⟨nofun, .inr fun ho => ?_⟩
                        subst ho
                        refine r_ib (r_sq ?_)
                        obtain rfl := someI hr
                        exact ret_of hF hS rfl (.cellA (us := [(.int .i64 0), (.int .i64 0), (.int .i64 0), (.int .i64 0)]) 5 0 Try.underlying26 rfl sz26 rfl rfl rfl rfl (.tmp rfl .nil)) rfl
                  · rintro a w ⟨own_30, rfl, hF, hS⟩
                    refine n_ib (n_sq ?_)
                    refine q_region ?_
                    refine q_x (v := (.int .i64 (w64 (t_24 + 1)))) hF hS (ex_ibin rfl rfl rfl) rfl rfl fun a hF => ?_
                    refine q_x (v := (.int .i64 (w64 (t_24 + 1)))) hF hS (ex_move rfl) rfl rfl fun a hF => ?_
                    refine q_end ?_
                    obtain rfl := someI hb12
                    exact ⟨rfl, _, _, rfl, hF.sub ⟨rfl, rfl, rfl, rfl, rfl, rfl, rfl, rfl, rfl, rfl, rfl, rfl, trivial⟩, hS⟩
              · rintro e a w ⟨own_31, rfl, rfl, hF, hS⟩
                refine x_ib (n_sq ?_)
                refine q_region ?_
                refine q_x (v := (.agg #[(.int .i64 out_15.Ratio.Num), (.int .i64 out_15.Ratio.Den), (.int .i64 out_15.Rho.Num), (.int .i64 out_15.Rho.Den)])) hF hS (ex_loadA (vs := [(.int .i64 out_15.Ratio.Num), (.int .i64 out_15.Ratio.Den), (.int .i64 out_15.Rho.Num), (.int .i64 out_15.Rho.Den)]) 1 0 Try.underlying26 rfl sz26 rfl rfl rfl rfl) rfl rfl fun a hF => ?_
                refine q_x (v := (.agg #[(.int .i64 own_31.Ratio.Num), (.int .i64 own_31.Ratio.Den), (.int .i64 own_31.Rho.Num), (.int .i64 own_31.Rho.Den)])) hF hS (ex_loadA (vs := [(.int .i64 own_31.Ratio.Num), (.int .i64 own_31.Ratio.Den), (.int .i64 own_31.Rho.Num), (.int .i64 own_31.Rho.Den)]) 0 0 Try.underlying26 rfl sz26 rfl rfl rfl rfl) rfl rfl fun a hF => ?_
                obtain ⟨t_32, ht_32, hj8⟩ := bindS hj8
                refine q_call (vs := [(.agg #[(.int .i64 out_15.Ratio.Num), (.int .i64 out_15.Ratio.Den), (.int .i64 out_15.Rho.Num), (.int .i64 out_15.Rho.Den)]), (.agg #[(.int .i64 own_31.Ratio.Num), (.int .i64 own_31.Ratio.Den), (.int .i64 own_31.Rho.Num), (.int .i64 own_31.Rho.Den)])]) hF hS Try.func109 (by kernel_rfl) rfl rfl rfl (c_impl_greatest out_15 own_31 t_32 ht_32 _ m hS.vis) ?_
                rintro a w _ rfl hF hS
                refine q_store (vs := [(.int .i64 t_32.Ratio.Num), (.int .i64 t_32.Ratio.Den), (.int .i64 t_32.Rho.Num), (.int .i64 t_32.Rho.Den)]) (cs' := [(.int .i64 t_32.Ratio.Num), (.int .i64 t_32.Ratio.Den), (.int .i64 t_32.Rho.Num), (.int .i64 t_32.Rho.Den)]) 1 0 hF hS sz26 rfl rfl rfl rfl rfl rfl rfl rfl fun a w hF hS => ?_
                refine q_end (n_ib (n_jn ?_))
                obtain rfl := someI hj8
                exact ⟨_, rfl, hF.sub ⟨rfl, rfl, rfl, rfl, rfl, rfl, rfl, trivial⟩, hS.mask [false, true, true, true]⟩
            · have hj8 := cond_t hc11 hj8
              refine q_cond_t hF rfl hc11 ?_
              refine q_exit (x_sq (x_ib (n_jn ?_)))
              obtain rfl := someI hj8
              exact ⟨_, rfl, hF.sub ⟨rfl, rfl, rfl, rfl, rfl, rfl, rfl, trivial⟩, hS.mask [false, true, true, true]⟩
        · rintro a w ⟨out_33, rfl, hF, hS⟩
          refine n_sq ?_
          refine q_region ?_
          refine q_x (v := (.int .i64 (w64 (t_14 + 1)))) hF hS (ex_ibin rfl rfl rfl) rfl rfl fun a hF => ?_
          refine q_x (v := (.int .i64 (w64 (t_14 + 1)))) hF hS (ex_move rfl) rfl rfl fun a hF => ?_
          refine q_end ?_
          obtain rfl := someI hb6
          exact ⟨rfl, _, _, rfl, hF.sub ⟨rfl, rfl, rfl, rfl, rfl, rfl, rfl, trivial⟩, hS⟩
    · rintro e a w ⟨out_34, rfl, rfl, hF, hS⟩
      refine x_ib (n_sq ?_)
      refine q_seq ?_
      refine q_region ?_
      refine q_x (v := (.agg #[(.int .i64 out_34.Ratio.Num), (.int .i64 out_34.Ratio.Den), (.int .i64 out_34.Rho.Num), (.int .i64 out_34.Rho.Den)])) hF hS (ex_loadA (vs := [(.int .i64 out_34.Ratio.Num), (.int .i64 out_34.Ratio.Den), (.int .i64 out_34.Rho.Num), (.int .i64 out_34.Rho.Den)]) 0 0 Try.underlying26 rfl sz26 rfl rfl rfl rfl) rfl rfl fun a hF => ?_
      refine q_store (vs := [(.int .i64 out_34.Ratio.Num), (.int .i64 out_34.Ratio.Den), (.int .i64 out_34.Rho.Num), (.int .i64 out_34.Rho.Den)]) (cs' := [(.int .i64 out_34.Ratio.Num), (.int .i64 out_34.Ratio.Den), (.int .i64 out_34.Rho.Num), (.int .i64 out_34.Rho.Den)]) 1 0 hF hS sz26 rfl rfl rfl rfl rfl rfl rfl rfl fun a w hF hS => ?_
      refine q_x (v := (.bool true)) hF hS (ex_assign rfl) rfl rfl fun a hF => ?_
      refine q_end (n_sq (q_ret ?_))
      obtain rfl := someI hr
      exact ret_of hF hS rfl (.cellA (us := [(.int .i64 out_34.Ratio.Num), (.int .i64 out_34.Ratio.Den), (.int .i64 out_34.Rho.Num), (.int .i64 out_34.Rho.Den)]) 1 0 Try.underlying26 rfl sz26 rfl rfl rfl rfl (.tmp rfl .nil)) rfl

theorem c_impl_isWithin (p_budget : impl_Loss) (p_x : impl_Loss) (r : Bool) (hr : impl_isWithin p_budget p_x = some r) (w0 : World) (m : Mem) (hv : Vis m w0) :
    Ret Try.prog 79 [(.agg #[(.int .i64 p_budget.Ratio.Num), (.int .i64 p_budget.Ratio.Den), (.int .i64 p_budget.Rho.Num), (.int .i64 p_budget.Rho.Den)]), (.agg #[(.int .i64 p_x.Ratio.Num), (.int .i64 p_x.Ratio.Den), (.int .i64 p_x.Rho.Num), (.int .i64 p_x.Rho.Den)])] w0 (fun v _ => v = (.bool r)) := by
  unfold impl_isWithin at hr
  refine ret_start Try.func79 rfl 19 rfl rfl m hv fun a hF hS => ?_
  refine q_seq ?_
  refine q_region ?_
  refine q_box (cs := [(.int .i64 p_budget.Ratio.Num), (.int .i64 p_budget.Ratio.Den), (.int .i64 p_budget.Rho.Num), (.int .i64 p_budget.Rho.Den)]) hF hS rfl rfl rfl fun a w b1 hF hS => ?_
  refine q_box (cs := [(.int .i64 p_x.Ratio.Num), (.int .i64 p_x.Ratio.Den), (.int .i64 p_x.Rho.Num), (.int .i64 p_x.Rho.Den)]) hF hS rfl rfl rfl fun a w b2 hF hS => ?_
  refine q_x (v := (.bool false)) hF hS (ex_assign rfl) rfl rfl fun a hF => ?_
  refine q_end (n_sq ?_)
  refine q_seq ?_
  obtain ⟨t_5, hj1, hr⟩ := bindS hr
  refine q_join (fun a w => Fr a 19 [(4, (.bool t_5))] ∧ St [] w0 w m []) ?_ ?_
  · refine q_region ?_
    refine q_x (v := (.pointer (some ⟨b2, 0, none⟩))) hF hS (ex_fieldAddr Try.underlying26 rfl sz24 rfl rfl) rfl rfl fun a hF => ?_
    refine q_x (v := (.agg #[(.int .i64 p_x.Ratio.Num), (.int .i64 p_x.Ratio.Den)])) hF hS (ex_loadA (vs := [(.int .i64 p_x.Ratio.Num), (.int .i64 p_x.Ratio.Den)]) 0 0 Try.underlying24 rfl sz24 rfl rfl rfl rfl) rfl rfl fun a hF => ?_
    refine q_x (v := (.pointer (some ⟨b1, 0, none⟩))) hF hS (ex_fieldAddr Try.underlying26 rfl sz24 rfl rfl) rfl rfl fun a hF => ?_
    refine q_x (v := (.agg #[(.int .i64 p_budget.Ratio.Num), (.int .i64 p_budget.Ratio.Den)])) hF hS (ex_loadA (vs := [(.int .i64 p_budget.Ratio.Num), (.int .i64 p_budget.Ratio.Den)]) 1 0 Try.underlying24 rfl sz24 rfl rfl rfl rfl) rfl rfl fun a hF => ?_
    obtain ⟨t_3, ht_3, hj1⟩ := bindS hj1
    refine q_call (vs := [(.agg #[(.int .i64 p_x.Ratio.Num), (.int .i64 p_x.Ratio.Den)]), (.agg #[(.int .i64 p_budget.Ratio.Num), (.int .i64 p_budget.Ratio.Den)])]) hF hS Try.func126 (by kernel_rfl) rfl rfl rfl (c_impl_cmpFrac p_x.Ratio p_budget.Ratio t_3 ht_3 _ m hS.vis) ?_
    rintro a w _ rfl hF hS
    refine q_x (v := (.bool (decide (t_3 ≤ 0)))) hF hS (ex_ibin rfl rfl rfl) rfl rfl fun a hF => ?_
    refine q_x (v := (.bool (decide (t_3 ≤ 0)))) hF hS (ex_move rfl) rfl rfl fun a hF => ?_
    rcases bcase (decide (t_3 ≤ 0)) with hc2 | hc2
    · have hj1 := cond_f hc2 hj1
      refine q_skip hF (wanted_f hF rfl rfl rfl hc2 rfl) rfl fun a hF => ?_
      refine q_skip hF (wanted_f hF rfl rfl rfl hc2 rfl) rfl fun a hF => ?_
      refine q_skip hF (wanted_f hF rfl rfl rfl hc2 rfl) rfl fun a hF => ?_
      refine q_skip hF (wanted_f hF rfl rfl rfl hc2 rfl) rfl fun a hF => ?_
      refine q_skip hF (wanted_f hF rfl rfl rfl hc2 rfl) rfl fun a hF => ?_
      refine q_skip hF (wanted_f hF rfl rfl rfl hc2 rfl) rfl fun a hF => ?_
      refine q_x (v := (.bool false)) hF hS (ex_pick_f rfl rfl hc2) rfl rfl fun a hF => ?_
      refine q_x (v := (.bool false)) hF hS (ex_assign rfl) rfl rfl fun a hF => ?_
      refine q_end (n_jn ?_)
      obtain rfl := someI hj1
      exact ⟨hF.sub ⟨rfl, trivial⟩, hS.mask [false, false]⟩
    · have hj1 := cond_t hc2 hj1
      refine q_xg (v := (.pointer (some ⟨b2, 2, none⟩))) hF hS (ex_fieldAddr Try.underlying26 rfl sz24 rfl rfl) (wanted_t hF rfl rfl rfl hc2) rfl fun a hF => ?_
      refine q_xg (v := (.agg #[(.int .i64 p_x.Rho.Num), (.int .i64 p_x.Rho.Den)])) hF hS (ex_loadA (vs := [(.int .i64 p_x.Rho.Num), (.int .i64 p_x.Rho.Den)]) 0 0 Try.underlying24 rfl sz24 rfl rfl rfl rfl) (wanted_t hF rfl rfl rfl hc2) rfl fun a hF => ?_
      refine q_xg (v := (.pointer (some ⟨b1, 2, none⟩))) hF hS (ex_fieldAddr Try.underlying26 rfl sz24 rfl rfl) (wanted_t hF rfl rfl rfl hc2) rfl fun a hF => ?_
      refine q_xg (v := (.agg #[(.int .i64 p_budget.Rho.Num), (.int .i64 p_budget.Rho.Den)])) hF hS (ex_loadA (vs := [(.int .i64 p_budget.Rho.Num), (.int .i64 p_budget.Rho.Den)]) 1 0 Try.underlying24 rfl sz24 rfl rfl rfl rfl) (wanted_t hF rfl rfl rfl hc2) rfl fun a hF => ?_
      obtain ⟨t_4, ht_4, hj1⟩ := bindS hj1
      refine q_callg (vs := [(.agg #[(.int .i64 p_x.Rho.Num), (.int .i64 p_x.Rho.Den)]), (.agg #[(.int .i64 p_budget.Rho.Num), (.int .i64 p_budget.Rho.Den)])]) hF hS (wanted_t hF rfl rfl rfl hc2) Try.func126 (by kernel_rfl) rfl rfl rfl (c_impl_cmpFrac p_x.Rho p_budget.Rho t_4 ht_4 _ m hS.vis) ?_
      rintro a w _ rfl hF hS
      refine q_xg (v := (.bool (decide (t_4 ≤ 0)))) hF hS (ex_ibin rfl rfl rfl) (wanted_t hF rfl rfl rfl hc2) rfl fun a hF => ?_
      refine q_x (v := (.bool (decide (t_4 ≤ 0)))) hF hS (ex_pick_t rfl rfl hc2) rfl rfl fun a hF => ?_
      refine q_x (v := (.bool (decide (t_4 ≤ 0)))) hF hS (ex_assign rfl) rfl rfl fun a hF => ?_
      refine q_end (n_jn ?_)
      obtain rfl := someI hj1
      exact ⟨hF.sub ⟨rfl, trivial⟩, hS.mask [false, false]⟩
  · rintro a w ⟨hF, hS⟩
    refine n_sq (q_ret ?_)
    obtain rfl := someI hr
    exact ret_of hF hS rfl (.tmp rfl .nil) rfl

theorem c_impl_AcceptEntries (p_budget : impl_Loss) (p_l : List impl_Entry) (r : (List Int) × Bool) (hr : impl_AcceptEntries p_budget p_l = some r) (w0 : World) (m : Mem) (hv : Vis m w0) (s1 : Sl) (h1 : Rd m s1 p_l) :
    Ret Try.prog 19 [(.agg #[(.int .i64 p_budget.Ratio.Num), (.int .i64 p_budget.Ratio.Den), (.int .i64 p_budget.Rho.Num), (.int .i64 p_budget.Rho.Den)]), s1.v] w0 (fun v w => ∃ (q0' : Piece) (s0' : Sl), v = (.tuple #[s0'.v, (.bool r.2)]) ∧ St [] w0 w m [q0'] ∧ OwnL m 3 q0' s0' r.1) := by
  unfold impl_AcceptEntries at hr
  refine ret_start Try.func19 rfl 55 rfl rfl m hv fun a hF hS => ?_
  refine q_seq ?_
  refine q_region ?_
  refine q_box (cs := [(.int .i64 p_budget.Ratio.Num), (.int .i64 p_budget.Ratio.Den), (.int .i64 p_budget.Rho.Num), (.int .i64 p_budget.Rho.Den)]) hF hS rfl rfl rfl fun a w b2 hF hS => ?_
  refine q_x (v := nilS.v) hF hS (ex_assign rfl) rfl rfl fun a hF => ?_
  refine q_x (v := (.bool false)) hF hS (ex_assign rfl) rfl rfl fun a hF => ?_
  refine q_end (n_sq ?_)
  refine q_seq ?_
  refine q_seq ?_
  obtain ⟨t_5, hj1, hr⟩ := bindS hr
  refine q_join (fun a w => Fr a 55 [(1, s1.v), (2, (.pointer (some ⟨b2, 0, none⟩))), (20, (.bool t_5))] ∧ St [] w0 w m [[⟨b2, [(.int .i64 p_budget.Ratio.Num), (.int .i64 p_budget.Ratio.Den), (.int .i64 p_budget.Rho.Num), (.int .i64 p_budget.Rho.Den)], 26⟩]]) ?_ ?_
  · refine q_region ?_
    refine q_x (v := (.agg #[(.int .i64 p_budget.Ratio.Num), (.int .i64 p_budget.Ratio.Den), (.int .i64 p_budget.Rho.Num), (.int .i64 p_budget.Rho.Den)])) hF hS (ex_loadA (vs := [(.int .i64 p_budget.Ratio.Num), (.int .i64 p_budget.Ratio.Den), (.int .i64 p_budget.Rho.Num), (.int .i64 p_budget.Rho.Den)]) 0 0 Try.underlying26 rfl sz26 rfl rfl rfl rfl) rfl rfl fun a hF => ?_
    obtain ⟨t_3, ht_3, hj1⟩ := bindS hj1
    refine q_call (vs := [(.agg #[(.int .i64 p_budget.Ratio.Num), (.int .i64 p_budget.Ratio.Den), (.int .i64 p_budget.Rho.Num), (.int .i64 p_budget.Rho.Den)])]) hF hS Try.func17 (by kernel_rfl) rfl rfl rfl (c_impl_IsLoss p_budget t_3 ht_3 _ m hS.vis) ?_
    rintro a w _ rfl hF hS
    refine q_x (v := (.bool (!t_3))) hF hS (ex_not rfl) rfl rfl fun a hF => ?_
    refine q_x (v := (.bool (!t_3))) hF hS (ex_move rfl) rfl rfl fun a hF => ?_
    rcases bcase (!t_3) with hc2 | hc2
    · have hj1 := cond_f hc2 hj1
      refine q_xg (v := s1.v) hF hS (ex_move rfl) (wanted_t hF rfl rfl rfl hc2) rfl fun a hF => ?_
      obtain ⟨t_4, ht_4, hj1⟩ := bindS hj1
      refine q_callg (vs := [s1.v]) hF hS (wanted_t hF rfl rfl rfl hc2) Try.func95 (by kernel_rfl) rfl rfl rfl (c_impl_areEntries p_l t_4 ht_4 _ m hS.vis s1 h1) ?_
      rintro a w _ rfl hF hS
      refine q_xg (v := (.bool (!t_4))) hF hS (ex_not rfl) (wanted_t hF rfl rfl rfl hc2) rfl fun a hF => ?_
      refine q_x (v := (.bool (!t_4))) hF hS (ex_pick_f rfl rfl hc2) rfl rfl fun a hF => ?_
      refine q_end (n_jn ?_)
      obtain rfl := someI hj1
      exact ⟨hF.sub ⟨rfl, rfl, rfl, trivial⟩, hS⟩
    · have hj1 := cond_t hc2 hj1
      refine q_skip hF (wanted_f hF rfl rfl rfl hc2 rfl) rfl fun a hF => ?_
      refine q_skip hF (wanted_f hF rfl rfl rfl hc2 rfl) rfl fun a hF => ?_
      refine q_skip hF (wanted_f hF rfl rfl rfl hc2 rfl) rfl fun a hF => ?_
      refine q_x (v := (.bool true)) hF hS (ex_pick_t rfl rfl hc2) rfl rfl fun a hF => ?_
      refine q_end (n_jn ?_)
      obtain rfl := someI hj1
      exact ⟨hF.sub ⟨rfl, rfl, rfl, trivial⟩, hS⟩
  · rintro a w ⟨hF, hS⟩
    refine n_sq ?_
    rcases bcase (t_5) with hc3 | hc3
    · have hr := cond_f hc3 hr
      refine q_cond_f hF rfl hc3 ?_
      refine q_skipc (n_sq ?_)
      refine q_seq ?_
      refine q_region ?_
      refine q_x (v := nilS.v) hF hS (ex_assign rfl) rfl rfl fun a hF => ?_
      refine q_end (n_sq ?_)
      refine q_seq ?_
      refine q_region ?_
      refine q_x (v := nilS.v) hF hS (ex_assign rfl) rfl rfl fun a hF => ?_
      refine q_end (n_sq ?_)
      refine q_seq ?_
      refine q_seq ?_
      refine q_region ?_
      refine q_x (v := s1.v) hF hS (ex_move rfl) rfl rfl fun a hF => ?_
      refine q_x (v := (.int .i64 (goLen p_l))) hF hS (ex_len Try.underlying39 rfl h1.len) rfl rfl fun a hF => ?_
      refine q_x (v := (.int .i64 0)) hF hS (ex_move rfl) rfl rfl fun a hF => ?_
      refine q_end (n_sq ?_)
      refine q_block ?_
      obtain ⟨out_31, hl4, hr⟩ := bindS hr
      refine q_loop (fun (s : (List impl_Entry) × (List Int) × Int) a w => ∃ (q7 : Piece), ∃ (s7 : Sl), ∃ (q9 : Piece), ∃ (s9 : Sl), ∃ accepted_6, ∃ out_8, ∃ t_10, s = (accepted_6, out_8, t_10) ∧ Fr a 55 [(2, (.pointer (some ⟨b2, 0, none⟩))), (6, s7.v), (7, s9.v), (21, s1.v), (22, (.int .i64 (goLen p_l))), (23, (.int .i64 t_10))] ∧ St [] w0 w m [q7, q9, [⟨b2, [(.int .i64 p_budget.Ratio.Num), (.int .i64 p_budget.Ratio.Den), (.int .i64 p_budget.Rho.Num), (.int .i64 p_budget.Rho.Den)], 26⟩]] ∧ OwnL m 49 q7 s7 accepted_6 ∧ OwnL m 3 q9 s9 out_8) (fun (out_31 : (List Int)) e a w => ∃ (q32 : Piece), ∃ (s32 : Sl), e = .exit 0 ∧ Fr a 55 [(7, s32.v)] ∧ St [] w0 w m [q32] ∧ OwnL m 3 q32 s32 out_31) hl4 ⟨[], nilS, [], nilS, _, _, _, rfl, hF.sub ⟨rfl, rfl, rfl, rfl, rfl, rfl, trivial⟩, hS.sel [1, 2, 0] (by decide), (OwnL.nil (α := impl_Entry) m 49), (OwnL.nil (α := Int) m 3)⟩ ?_ ?_
      · clear hF hS
        rintro s a w st ⟨q7, s7, q9, s9, accepted_6, out_8, t_10, rfl, hF, hS, h7, h9⟩ hb4
        unfold impl_AcceptEntries_l1 at hb4
        refine q_seq ?_
        refine q_region ?_
        refine q_x (v := (.bool (decide (t_10 < (goLen p_l))))) hF hS (ex_ibin rfl rfl rfl) rfl rfl fun a hF => ?_
        refine q_end (n_sq ?_)
        refine q_seq ?_
        rcases bcase (decide (t_10 < (goLen p_l))) with hc5 | hc5
        · have hb4 := cond_f hc5 hb4
          refine q_cond_f hF rfl hc5 ?_
          refine q_exit (x_sq ?_)
          obtain rfl := someI hb4
          exact ⟨nofun, .inl ⟨q9, s9, rfl, hF.sub ⟨rfl, trivial⟩, hS.mask [false, true, false], h9⟩⟩
        · have hb4 := cond_t hc5 hb4
          refine q_cond_t hF rfl hc5 ?_
          refine q_skipc (n_sq ?_)
          refine q_seq ?_
          refine q_block ?_
          refine q_seq ?_
          refine q_region ?_
          refine q_x (v := (.int .i64 t_10)) hF hS (ex_move rfl) rfl rfl fun a hF => ?_
          obtain ⟨e_11, he_11, hb4⟩ := bindS hb4
          obtain ⟨vs12, at12, d12⟩ := h1.at he_11 5 rfl
          obtain rfl : vs12 = [(.int .i64 e_11.Scope), (.int .i64 e_11.Loss.Ratio.Num), (.int .i64 e_11.Loss.Ratio.Den), (.int .i64 e_11.Loss.Rho.Num), (.int .i64 e_11.Loss.Rho.Den)] := d12
          refine q_x (v := (elP s1 (t_10.toNat * 5))) hF hS (ex_indexAddr Try.underlying39 sz49 rfl rfl (h1.idx he_11)) rfl rfl fun a hF => ?_
          refine q_x (v := (.agg #[(.int .i64 e_11.Scope), (.int .i64 e_11.Loss.Ratio.Num), (.int .i64 e_11.Loss.Ratio.Den), (.int .i64 e_11.Loss.Rho.Num), (.int .i64 e_11.Loss.Rho.Den)])) hF hS (ex_loadEA (us := [(.int .i64 e_11.Scope), (.int .i64 e_11.Loss.Ratio.Num), (.int .i64 e_11.Loss.Ratio.Den), (.int .i64 e_11.Loss.Rho.Num), (.int .i64 e_11.Loss.Rho.Den)]) 0 Try.underlying49 rfl sz49 rfl ((at12).at) rfl rfl rfl) rfl rfl fun a hF => ?_
          refine q_alloc (cs := [(.int .i64 0), (.int .i64 0), (.int .i64 0), (.int .i64 0), (.int .i64 0)]) hF hS rfl rfl rfl fun a w b13 hF hS => ?_
          refine q_x (v := (.int .i64 t_10)) hF hS (ex_assign rfl) rfl rfl fun a hF => ?_
          refine q_store (vs := [(.int .i64 e_11.Scope), (.int .i64 e_11.Loss.Ratio.Num), (.int .i64 e_11.Loss.Ratio.Den), (.int .i64 e_11.Loss.Rho.Num), (.int .i64 e_11.Loss.Rho.Den)]) (cs' := [(.int .i64 e_11.Scope), (.int .i64 e_11.Loss.Ratio.Num), (.int .i64 e_11.Loss.Ratio.Den), (.int .i64 e_11.Loss.Rho.Num), (.int .i64 e_11.Loss.Rho.Den)]) 0 0 hF hS sz49 rfl rfl rfl rfl rfl rfl rfl rfl fun a w hF hS => ?_
          refine q_end (n_sq ?_)
          refine q_seq ?_
          refine e_region [] mixed fun w' hw' => ?_
          have hS := hS.below hw'
          refine e_p (v := s7.v) 0 hF rfl (ex_move rfl) rfl rfl (by kernel_rfl) (by kernel_rfl) (by kernel_rfl) fun a hF => ?_
          refine e_p (v := s7.v) 1 hF rfl (ex_move rfl) rfl rfl (by kernel_rfl) (by kernel_rfl) (by kernel_rfl) fun a hF => ?_
          refine e_p (v := (.int .i64 (goLen accepted_6))) 2 hF rfl (ex_len Try.underlying39 rfl h7.len) rfl rfl (by kernel_rfl) (by kernel_rfl) (by kernel_rfl) fun a hF => ?_
          refine e_p (v := s7.v) 3 hF rfl (ex_move rfl) rfl rfl (by kernel_rfl) (by kernel_rfl) (by kernel_rfl) fun a hF => ?_
          refine e_p (v := (.int .i64 (goLen accepted_6))) 4 hF rfl (ex_len Try.underlying39 rfl h7.len) rfl rfl (by kernel_rfl) (by kernel_rfl) (by kernel_rfl) fun a hF => ?_
          obtain ⟨l_14, hl_14, hb4⟩ := bindS hb4
          refine e_p (v := (subS s7 5 (0 : Int).toNat (goLen accepted_6).toNat (goLen accepted_6).toNat).v) 5 hF rfl (ex_slice3 Try.underlying39 sz49 rfl rfl rfl rfl (.inl ⟨rfl, rfl⟩) (h7.sub3ok hl_14)) rfl rfl (by kernel_rfl) (by kernel_rfl) (by kernel_rfl) fun a hF => ?_
          refine e_x (v := (.agg #[(.int .i64 e_11.Scope), (.int .i64 e_11.Loss.Ratio.Num), (.int .i64 e_11.Loss.Ratio.Den), (.int .i64 e_11.Loss.Rho.Num), (.int .i64 e_11.Loss.Rho.Den)])) 6 hF hS rfl (ex_loadA (vs := [(.int .i64 e_11.Scope), (.int .i64 e_11.Loss.Ratio.Num), (.int .i64 e_11.Loss.Ratio.Den), (.int .i64 e_11.Loss.Rho.Num), (.int .i64 e_11.Loss.Rho.Den)]) 0 0 Try.underlying49 rfl sz49 rfl rfl rfl rfl) rfl rfl (by kernel_rfl) (by kernel_rfl) (by kernel_rfl) (by kernel_rfl) fun a hF => ?_
          refine e_one 7 (by kernel_rfl) ?_
          refine e_op rfl rfl fun _ hK => wp_buildSlice' (l := ([e_11] : List impl_Entry)) (cells := [(.int .i64 e_11.Scope), (.int .i64 e_11.Loss.Ratio.Num), (.int .i64 e_11.Loss.Ratio.Den), (.int .i64 e_11.Loss.Rho.Num), (.int .i64 e_11.Loss.Rho.Den)]) hF hS Try.underlying39 inf49 rfl rfl (by kernel_rfl) rfl rfl rfl ⟨rfl, rfl⟩ rfl rfl fun a w q16 s16 hF hS h16 hb => hK _ _ hb ?_
          refine e_one 8 (by kernel_rfl) ?_
          obtain ⟨l_17, hl_17, hb4⟩ := bindS hb4
          refine e_op rfl rfl fun _ hK => wp_appendF hF hS ((h7.vw hS (j := 2) rfl).sub3 hl_14 rfl) rfl Try.underlying39 inf49 rfl rfl rfl rfl (h16.vw hS (j := 0) rfl) (Nat.succ_pos _) rfl (by decide) hl_17 rfl fun a w q18 s18 hF hS h18 hb => hK _ _ hb ?_
          refine e_p (v := s18.v) 9 hF rfl (ex_assign rfl) rfl rfl (by kernel_rfl) (by kernel_rfl) (by kernel_rfl) fun a hF => ?_
          refine e_end (by kernel_rfl) (n_sq ?_) _
          refine q_seq ?_
          refine q_region ?_
          refine q_x (v := s18.v) hF hS (ex_move rfl) rfl rfl fun a hF => ?_
          obtain ⟨m20, hl20, hv20, hz20⟩ := hS.lend
          obtain ⟨t_19, ht_19, hb4⟩ := bindS hb4
          refine q_call (vs := [s18.v]) hF hS Try.func96 (by kernel_rfl) rfl rfl rfl (c_impl_ledgerLoss l_17 t_19 ht_19 _ m20 hv20 s18 (h18.froz hl20 (hz20 0 _ rfl))) ?_
          rintro a w _ rfl hF hS
          refine q_x (v := (.tuple #[(.agg #[(.int .i64 t_19.1.Ratio.Num), (.int .i64 t_19.1.Ratio.Den), (.int .i64 t_19.1.Rho.Num), (.int .i64 t_19.1.Rho.Den)]), (.bool t_19.2)])) hF hS (ex_move rfl) rfl rfl fun a hF => ?_
          refine q_x (v := (.agg #[(.int .i64 t_19.1.Ratio.Num), (.int .i64 t_19.1.Ratio.Den), (.int .i64 t_19.1.Rho.Num), (.int .i64 t_19.1.Rho.Den)])) hF hS (ex_extract rfl rfl) rfl rfl fun a hF => ?_
          refine q_x (v := (.bool t_19.2)) hF hS (ex_extract rfl rfl) rfl rfl fun a hF => ?_
          refine q_alloc (cs := [(.int .i64 0), (.int .i64 0), (.int .i64 0), (.int .i64 0)]) hF hS rfl rfl rfl fun a w b21 hF hS => ?_
          refine q_store (vs := [(.int .i64 t_19.1.Ratio.Num), (.int .i64 t_19.1.Ratio.Den), (.int .i64 t_19.1.Rho.Num), (.int .i64 t_19.1.Rho.Den)]) (cs' := [(.int .i64 t_19.1.Ratio.Num), (.int .i64 t_19.1.Ratio.Den), (.int .i64 t_19.1.Rho.Num), (.int .i64 t_19.1.Rho.Den)]) 0 0 hF hS sz26 rfl rfl rfl rfl rfl rfl rfl rfl fun a w hF hS => ?_
          refine q_x (v := (.bool t_19.2)) hF hS (ex_assign rfl) rfl rfl fun a hF => ?_
          refine q_end (n_sq ?_)
          refine q_seq ?_
          obtain ⟨t_23, hj6, hb4⟩ := bindS hb4
          refine q_join (fun a w => Fr a 55 [(2, (.pointer (some ⟨b2, 0, none⟩))), (6, s7.v), (7, s9.v), (8, (.int .i64 t_10)), (10, s18.v), (21, s1.v), (22, (.int .i64 (goLen p_l))), (23, (.int .i64 t_10)), (47, (.bool t_23))] ∧ St [] w0 w m [q7, q9, q18, [⟨b2, [(.int .i64 p_budget.Ratio.Num), (.int .i64 p_budget.Ratio.Den), (.int .i64 p_budget.Rho.Num), (.int .i64 p_budget.Rho.Den)], 26⟩]]) ?_ ?_
          · refine q_region ?_
            refine q_x (v := (.bool t_19.2)) hF hS (ex_move rfl) rfl rfl fun a hF => ?_
            refine q_x (v := (.bool t_19.2)) hF hS (ex_move rfl) rfl rfl fun a hF => ?_
            rcases bcase (t_19.2) with hc7 | hc7
            · have hj6 := cond_f hc7 hj6
              refine q_skip hF (wanted_f hF rfl rfl rfl hc7 rfl) rfl fun a hF => ?_
              refine q_skip hF (wanted_f hF rfl rfl rfl hc7 rfl) rfl fun a hF => ?_
              refine q_skip hF (wanted_f hF rfl rfl rfl hc7 rfl) rfl fun a hF => ?_
              refine q_x (v := (.bool false)) hF hS (ex_pick_f rfl rfl hc7) rfl rfl fun a hF => ?_
              refine q_end (n_jn ?_)
              obtain rfl := someI hj6
              exact ⟨hF.sub ⟨rfl, rfl, rfl, rfl, rfl, rfl, rfl, rfl, rfl, trivial⟩, hS.sel [4, 5, 1, 6] (by decide)⟩
            · have hj6 := cond_t hc7 hj6
              refine q_xg (v := (.agg #[(.int .i64 p_budget.Ratio.Num), (.int .i64 p_budget.Ratio.Den), (.int .i64 p_budget.Rho.Num), (.int .i64 p_budget.Rho.Den)])) hF hS (ex_loadA (vs := [(.int .i64 p_budget.Ratio.Num), (.int .i64 p_budget.Ratio.Den), (.int .i64 p_budget.Rho.Num), (.int .i64 p_budget.Rho.Den)]) 6 0 Try.underlying26 rfl sz26 rfl rfl rfl rfl) (wanted_t hF rfl rfl rfl hc7) rfl fun a hF => ?_
              refine q_xg (v := (.agg #[(.int .i64 t_19.1.Ratio.Num), (.int .i64 t_19.1.Ratio.Den), (.int .i64 t_19.1.Rho.Num), (.int .i64 t_19.1.Rho.Den)])) hF hS (ex_loadA (vs := [(.int .i64 t_19.1.Ratio.Num), (.int .i64 t_19.1.Ratio.Den), (.int .i64 t_19.1.Rho.Num), (.int .i64 t_19.1.Rho.Den)]) 0 0 Try.underlying26 rfl sz26 rfl rfl rfl rfl) (wanted_t hF rfl rfl rfl hc7) rfl fun a hF => ?_
              obtain ⟨t_22, ht_22, hj6⟩ := bindS hj6
              refine q_callg (vs := [(.agg #[(.int .i64 p_budget.Ratio.Num), (.int .i64 p_budget.Ratio.Den), (.int .i64 p_budget.Rho.Num), (.int .i64 p_budget.Rho.Den)]), (.agg #[(.int .i64 t_19.1.Ratio.Num), (.int .i64 t_19.1.Ratio.Den), (.int .i64 t_19.1.Rho.Num), (.int .i64 t_19.1.Rho.Den)])]) hF hS (wanted_t hF rfl rfl rfl hc7) Try.func79 (by kernel_rfl) rfl rfl rfl (c_impl_isWithin p_budget t_19.1 t_22 ht_22 _ m hS.vis) ?_
              rintro a w _ rfl hF hS
              refine q_x (v := (.bool t_22)) hF hS (ex_pick_t rfl rfl hc7) rfl rfl fun a hF => ?_
              refine q_end (n_jn ?_)
              obtain rfl := someI hj6
              exact ⟨hF.sub ⟨rfl, rfl, rfl, rfl, rfl, rfl, rfl, rfl, rfl, trivial⟩, hS.sel [4, 5, 1, 6] (by decide)⟩
          · rintro a w ⟨hF, hS⟩
            refine n_sq ?_
            obtain ⟨j8, hj8, hb4⟩ := bindS hb4
            refine q_join (fun a w => ∃ (q28 : Piece), ∃ (s28 : Sl), ∃ (q30 : Piece), ∃ (s30 : Sl), ∃ accepted_27, ∃ out_29, j8 = (accepted_27, out_29) ∧ Fr a 55 [(2, (.pointer (some ⟨b2, 0, none⟩))), (6, s28.v), (7, s30.v), (21, s1.v), (22, (.int .i64 (goLen p_l))), (23, (.int .i64 t_10))] ∧ St [] w0 w m [q28, q30, [⟨b2, [(.int .i64 p_budget.Ratio.Num), (.int .i64 p_budget.Ratio.Den), (.int .i64 p_budget.Rho.Num), (.int .i64 p_budget.Rho.Den)], 26⟩]] ∧ OwnL m 49 q28 s28 accepted_27 ∧ OwnL m 3 q30 s30 out_29) ?_ ?_
            · rcases bcase (t_23) with hc9 | hc9
              · have hj8 := cond_f hc9 hj8
                refine q_cond_f hF rfl hc9 ?_
                refine q_skipc (n_jn ?_)
                obtain rfl := someI hj8
                exact ⟨q7, s7, q9, s9, _, _, rfl, hF.sub ⟨rfl, rfl, rfl, rfl, rfl, rfl, trivial⟩, hS.mask [true, true, false, true], h7, h9⟩
              · have hj8 := cond_t hc9 hj8
                refine q_cond_t hF rfl hc9 ?_
                refine q_seq ?_
                refine q_region ?_
                refine q_x (v := s18.v) hF hS (ex_move rfl) rfl rfl fun a hF => ?_
                refine q_x (v := s18.v) hF hS (ex_assign rfl) rfl rfl fun a hF => ?_
                refine q_end (n_sq ?_)
                refine q_region ?_
                refine q_x (v := s9.v) hF hS (ex_move rfl) rfl rfl fun a hF => ?_
                refine q_x (v := (.int .i64 t_10)) hF hS (ex_move rfl) rfl rfl fun a hF => ?_
                refine q_do rfl fun _ hK => wp_buildSlice' (l := ([t_10] : List Int)) (cells := [(.int .i64 t_10)]) hF hS Try.underlying42 inf3 rfl rfl (by kernel_rfl) rfl rfl rfl ⟨rfl, rfl⟩ rfl rfl fun a w q24 s24 hF hS h24 _ => hK _ _ ?_
                have hS : St _ _ _ _ [q9, q24, q7, q18, [⟨b2, [(.int .i64 p_budget.Ratio.Num), (.int .i64 p_budget.Ratio.Den), (.int .i64 p_budget.Rho.Num), (.int .i64 p_budget.Rho.Den)], 26⟩]] := hS.sel [2, 0, 1, 3, 4] (by decide)
                obtain ⟨l_25, hl_25, hj8⟩ := bindS hj8
                refine q_do rfl fun _ hK => wp_append hF hS h9 Try.underlying42 inf3 rfl rfl rfl rfl (h24.vw hS (j := 1) rfl) rfl (by decide) hl_25 rfl fun a w q26 s26 hF hS h26 => hK _ _ ?_
                refine q_x (v := s26.v) hF hS (ex_assign rfl) rfl rfl fun a hF => ?_
                refine q_end (n_jn ?_)
                obtain rfl := someI hj8
                exact ⟨q18, s18, q26, s26, _, _, rfl, hF.sub ⟨rfl, rfl, rfl, rfl, rfl, rfl, trivial⟩, hS.sel [3, 0, 4] (by decide), h18, h26⟩
            · rintro a w ⟨q28, s28, q30, s30, accepted_27, out_29, rfl, hF, hS, h28, h30⟩
              refine n_ib (n_sq ?_)
              refine q_region ?_
              refine q_x (v := (.int .i64 (w64 (t_10 + 1)))) hF hS (ex_ibin rfl rfl rfl) rfl rfl fun a hF => ?_
              refine q_x (v := (.int .i64 (w64 (t_10 + 1)))) hF hS (ex_move rfl) rfl rfl fun a hF => ?_
              refine q_end ?_
              obtain rfl := someI hb4
              exact ⟨rfl, q28, s28, q30, s30, _, _, _, rfl, hF.sub ⟨rfl, rfl, rfl, rfl, rfl, rfl, trivial⟩, hS, h28, h30⟩
      · rintro e a w ⟨q32, s32, rfl, hF, hS, h32⟩
        refine x_ib (n_sq ?_)
        refine q_seq ?_
        refine q_region ?_
        refine q_x (v := s32.v) hF hS (ex_move rfl) rfl rfl fun a hF => ?_
        refine q_x (v := s32.v) hF hS (ex_assign rfl) rfl rfl fun a hF => ?_
        refine q_x (v := (.bool true)) hF hS (ex_assign rfl) rfl rfl fun a hF => ?_
        refine q_end (n_sq (q_ret ?_))
        obtain rfl := someI hr
        exact ret_of hF hS rfl (.tmp rfl (.tmp rfl .nil)) ⟨q32, s32, rfl, hS.sel [0] (by decide), h32⟩
    · have hr := cond_t hc3 hr
      refine q_cond_t hF rfl hc3 ?_
      refine q_seq ?_
      refine q_region ?_
      refine q_x (v := nilS.v) hF hS (ex_assign rfl) rfl rfl fun a hF => ?_
      refine q_x (v := (.bool false)) hF hS (ex_assign rfl) rfl rfl fun a hF => ?_
      refine q_end (n_sq (q_ret (r_sq ?_)))
      obtain rfl := someI hr
      exact ret_of hF hS rfl (.tmp rfl (.tmp rfl .nil)) ⟨[], nilS, rfl, hS.sel [1] (by decide), (OwnL.nil (α := Int) m 3)⟩

theorem c_spec_pGood (p_x : impl_Loss) (r : Bool) (hr : spec_pGood p_x = some r) (w0 : World) (m : Mem) (hv : Vis m w0) :
    Ret Try.prog 82 [(.agg #[(.int .i64 p_x.Ratio.Num), (.int .i64 p_x.Ratio.Den), (.int .i64 p_x.Rho.Num), (.int .i64 p_x.Rho.Den)])] w0 (fun v _ => v = (.bool r)) := by
  unfold spec_pGood at hr
  refine ret_start Try.func82 rfl 26 rfl rfl m hv fun a hF hS => ?_
  refine q_seq ?_
  refine q_region ?_
  refine q_box (cs := [(.int .i64 p_x.Ratio.Num), (.int .i64 p_x.Ratio.Den), (.int .i64 p_x.Rho.Num), (.int .i64 p_x.Rho.Den)]) hF hS rfl rfl rfl fun a w b1 hF hS => ?_
  refine q_x (v := (.bool false)) hF hS (ex_assign rfl) rfl rfl fun a hF => ?_
  refine q_end (n_sq ?_)
  refine q_seq ?_
  obtain ⟨t_4, hj1, hr⟩ := bindS hr
  refine q_join (fun a w => Fr a 26 [(2, (.bool t_4))] ∧ St [] w0 w m []) ?_ ?_
  · refine q_region ?_
    refine q_x (v := (.pointer (some ⟨b1, 0, none⟩))) hF hS (ex_fieldAddr Try.underlying26 rfl sz24 rfl rfl) rfl rfl fun a hF => ?_
    refine q_x (v := (.agg #[(.int .i64 p_x.Ratio.Num), (.int .i64 p_x.Ratio.Den)])) hF hS (ex_loadA (vs := [(.int .i64 p_x.Ratio.Num), (.int .i64 p_x.Ratio.Den)]) 0 0 Try.underlying24 rfl sz24 rfl rfl rfl rfl) rfl rfl fun a hF => ?_
    obtain ⟨t_2, ht_2, hj1⟩ := bindS hj1
    refine q_call (vs := [(.agg #[(.int .i64 p_x.Ratio.Num), (.int .i64 p_x.Ratio.Den)])]) hF hS Try.func115 (by kernel_rfl) rfl rfl rfl (c_spec_fGood p_x.Ratio t_2 ht_2 _ m hS.vis) ?_
    rintro a w _ rfl hF hS
    refine q_x (v := (.bool t_2)) hF hS (ex_move rfl) rfl rfl fun a hF => ?_
    rcases bcase (t_2) with hc2 | hc2
    · have hj1 := cond_f hc2 hj1
      refine q_skip hF (wanted_f hF rfl rfl rfl hc2 rfl) rfl fun a hF => ?_
      refine q_skip hF (wanted_f hF rfl rfl rfl hc2 rfl) rfl fun a hF => ?_
      refine q_skip hF (wanted_f hF rfl rfl rfl hc2 rfl) rfl fun a hF => ?_
      refine q_x (v := (.bool false)) hF hS (ex_pick_f rfl rfl hc2) rfl rfl fun a hF => ?_
      refine q_x (v := (.bool false)) hF hS (ex_move rfl) rfl rfl fun a hF => ?_
      refine q_skip hF (wanted_f hF rfl rfl rfl rfl rfl) rfl fun a hF => ?_
      refine q_skip hF (wanted_f hF rfl rfl rfl rfl rfl) rfl fun a hF => ?_
      refine q_skip hF (wanted_f hF rfl rfl rfl rfl rfl) rfl fun a hF => ?_
      refine q_skip hF (wanted_f hF rfl rfl rfl rfl rfl) rfl fun a hF => ?_
      refine q_skip hF (wanted_f hF rfl rfl rfl rfl rfl) rfl fun a hF => ?_
      refine q_skip hF (wanted_f hF rfl rfl rfl rfl rfl) rfl fun a hF => ?_
      refine q_skip hF (wanted_f hF rfl rfl rfl rfl rfl) rfl fun a hF => ?_
      refine q_x (v := (.bool false)) hF hS (ex_pick_f rfl rfl rfl) rfl rfl fun a hF => ?_
      refine q_x (v := (.bool false)) hF hS (ex_move rfl) rfl rfl fun a hF => ?_
      refine q_skip hF (wanted_f hF rfl rfl rfl rfl rfl) rfl fun a hF => ?_
      refine q_skip hF (wanted_f hF rfl rfl rfl rfl rfl) rfl fun a hF => ?_
      refine q_skip hF (wanted_f hF rfl rfl rfl rfl rfl) rfl fun a hF => ?_
      refine q_skip hF (wanted_f hF rfl rfl rfl rfl rfl) rfl fun a hF => ?_
      refine q_x (v := (.bool false)) hF hS (ex_pick_f rfl rfl rfl) rfl rfl fun a hF => ?_
      refine q_x (v := (.bool false)) hF hS (ex_assign rfl) rfl rfl fun a hF => ?_
      refine q_end (n_jn ?_)
      obtain rfl := someI hj1
      exact ⟨hF.sub ⟨rfl, trivial⟩, hS.mask [false]⟩
    · have hj1 := cond_t hc2 hj1
      refine q_xg (v := (.pointer (some ⟨b1, 2, none⟩))) hF hS (ex_fieldAddr Try.underlying26 rfl sz24 rfl rfl) (wanted_t hF rfl rfl rfl hc2) rfl fun a hF => ?_
      refine q_xg (v := (.agg #[(.int .i64 p_x.Rho.Num), (.int .i64 p_x.Rho.Den)])) hF hS (ex_loadA (vs := [(.int .i64 p_x.Rho.Num), (.int .i64 p_x.Rho.Den)]) 0 0 Try.underlying24 rfl sz24 rfl rfl rfl rfl) (wanted_t hF rfl rfl rfl hc2) rfl fun a hF => ?_
      obtain ⟨t_3, ht_3, hj1⟩ := bindS hj1
      refine q_callg (vs := [(.agg #[(.int .i64 p_x.Rho.Num), (.int .i64 p_x.Rho.Den)])]) hF hS (wanted_t hF rfl rfl rfl hc2) Try.func115 (by kernel_rfl) rfl rfl rfl (c_spec_fGood p_x.Rho t_3 ht_3 _ m hS.vis) ?_
      rintro a w _ rfl hF hS
      refine q_x (v := (.bool t_3)) hF hS (ex_pick_t rfl rfl hc2) rfl rfl fun a hF => ?_
      refine q_x (v := (.bool t_3)) hF hS (ex_move rfl) rfl rfl fun a hF => ?_
      rcases bcase (t_3) with hc3 | hc3
      · have hj1 := cond_f hc3 hj1
        refine q_skip hF (wanted_f hF rfl rfl rfl hc3 rfl) rfl fun a hF => ?_
        refine q_skip hF (wanted_f hF rfl rfl rfl hc3 rfl) rfl fun a hF => ?_
        refine q_skip hF (wanted_f hF rfl rfl rfl hc3 rfl) rfl fun a hF => ?_
        refine q_skip hF (wanted_f hF rfl rfl rfl hc3 rfl) rfl fun a hF => ?_
        refine q_skip hF (wanted_f hF rfl rfl rfl hc3 rfl) rfl fun a hF => ?_
        refine q_skip hF (wanted_f hF rfl rfl rfl hc3 rfl) rfl fun a hF => ?_
        refine q_skip hF (wanted_f hF rfl rfl rfl hc3 rfl) rfl fun a hF => ?_
        refine q_x (v := (.bool false)) hF hS (ex_pick_f rfl rfl hc3) rfl rfl fun a hF => ?_
        refine q_x (v := (.bool false)) hF hS (ex_move rfl) rfl rfl fun a hF => ?_
        refine q_skip hF (wanted_f hF rfl rfl rfl rfl rfl) rfl fun a hF => ?_
        refine q_skip hF (wanted_f hF rfl rfl rfl rfl rfl) rfl fun a hF => ?_
        refine q_skip hF (wanted_f hF rfl rfl rfl rfl rfl) rfl fun a hF => ?_
        refine q_skip hF (wanted_f hF rfl rfl rfl rfl rfl) rfl fun a hF => ?_
        refine q_x (v := (.bool false)) hF hS (ex_pick_f rfl rfl rfl) rfl rfl fun a hF => ?_
        refine q_x (v := (.bool false)) hF hS (ex_assign rfl) rfl rfl fun a hF => ?_
        refine q_end (n_jn ?_)
        obtain rfl := someI hj1
        exact ⟨hF.sub ⟨rfl, trivial⟩, hS.mask [false]⟩
      · have hj1 := cond_t hc3 hj1
        refine q_xg (v := (.pointer (some ⟨b1, 0, none⟩))) hF hS (ex_fieldAddr Try.underlying26 rfl sz24 rfl rfl) (wanted_t hF rfl rfl rfl hc3) rfl fun a hF => ?_
        refine q_xg (v := (.pointer (some ⟨b1, 0, none⟩))) hF hS (ex_fieldAddr Try.underlying24 rfl sz3 rfl rfl) (wanted_t hF rfl rfl rfl hc3) rfl fun a hF => ?_
        refine q_xg (v := (.int .i64 p_x.Ratio.Num)) hF hS (ex_load1 0 0 Try.underlying3 rfl rfl rfl rfl) (wanted_t hF rfl rfl rfl hc3) rfl fun a hF => ?_
        refine q_xg (v := (.pointer (some ⟨b1, 0, none⟩))) hF hS (ex_fieldAddr Try.underlying26 rfl sz24 rfl rfl) (wanted_t hF rfl rfl rfl hc3) rfl fun a hF => ?_
        refine q_xg (v := (.pointer (some ⟨b1, 1, none⟩))) hF hS (ex_fieldAddr Try.underlying24 rfl sz3 rfl rfl) (wanted_t hF rfl rfl rfl hc3) rfl fun a hF => ?_
        refine q_xg (v := (.int .i64 p_x.Ratio.Den)) hF hS (ex_load1 0 0 Try.underlying3 rfl rfl rfl rfl) (wanted_t hF rfl rfl rfl hc3) rfl fun a hF => ?_
        refine q_xg (v := (.bool (decide (p_x.Ratio.Den ≤ p_x.Ratio.Num)))) hF hS (ex_ibin rfl rfl rfl) (wanted_t hF rfl rfl rfl hc3) rfl fun a hF => ?_
        refine q_x (v := (.bool (decide (p_x.Ratio.Den ≤ p_x.Ratio.Num)))) hF hS (ex_pick_t rfl rfl hc3) rfl rfl fun a hF => ?_
        refine q_x (v := (.bool (decide (p_x.Ratio.Den ≤ p_x.Ratio.Num)))) hF hS (ex_move rfl) rfl rfl fun a hF => ?_
        rcases bcase (decide (p_x.Ratio.Den ≤ p_x.Ratio.Num)) with hc4 | hc4
        · have hj1 := cond_f hc4 hj1
          refine q_skip hF (wanted_f hF rfl rfl rfl hc4 rfl) rfl fun a hF => ?_
          refine q_skip hF (wanted_f hF rfl rfl rfl hc4 rfl) rfl fun a hF => ?_
          refine q_skip hF (wanted_f hF rfl rfl rfl hc4 rfl) rfl fun a hF => ?_
          refine q_skip hF (wanted_f hF rfl rfl rfl hc4 rfl) rfl fun a hF => ?_
          refine q_x (v := (.bool false)) hF hS (ex_pick_f rfl rfl hc4) rfl rfl fun a hF => ?_
          refine q_x (v := (.bool false)) hF hS (ex_assign rfl) rfl rfl fun a hF => ?_
          refine q_end (n_jn ?_)
          obtain rfl := someI hj1
          exact ⟨hF.sub ⟨rfl, trivial⟩, hS.mask [false]⟩
        · have hj1 := cond_t hc4 hj1
          refine q_xg (v := (.pointer (some ⟨b1, 2, none⟩))) hF hS (ex_fieldAddr Try.underlying26 rfl sz24 rfl rfl) (wanted_t hF rfl rfl rfl hc4) rfl fun a hF => ?_
          refine q_xg (v := (.pointer (some ⟨b1, 2, none⟩))) hF hS (ex_fieldAddr Try.underlying24 rfl sz3 rfl rfl) (wanted_t hF rfl rfl rfl hc4) rfl fun a hF => ?_
          refine q_xg (v := (.int .i64 p_x.Rho.Num)) hF hS (ex_load1 0 0 Try.underlying3 rfl rfl rfl rfl) (wanted_t hF rfl rfl rfl hc4) rfl fun a hF => ?_
          refine q_xg (v := (.bool (decide (0 ≤ p_x.Rho.Num)))) hF hS (ex_ibin rfl rfl rfl) (wanted_t hF rfl rfl rfl hc4) rfl fun a hF => ?_
          refine q_x (v := (.bool (decide (0 ≤ p_x.Rho.Num)))) hF hS (ex_pick_t rfl rfl hc4) rfl rfl fun a hF => ?_
          refine q_x (v := (.bool (decide (0 ≤ p_x.Rho.Num)))) hF hS (ex_assign rfl) rfl rfl fun a hF => ?_
          refine q_end (n_jn ?_)
          obtain rfl := someI hj1
          exact ⟨hF.sub ⟨rfl, trivial⟩, hS.mask [false]⟩
  · rintro a w ⟨hF, hS⟩
    refine n_sq (q_ret ?_)
    obtain rfl := someI hr
    exact ret_of hF hS rfl (.tmp rfl .nil) rfl

theorem c_spec_pEntries (p_l : List impl_Entry) (r : Bool) (hr : spec_pEntries p_l = some r) (w0 : World) (m : Mem) (hv : Vis m w0) (s1 : Sl) (h1 : Rd m s1 p_l) :
    Ret Try.prog 97 [s1.v] w0 (fun v _ => v = (.bool r)) := by
  unfold spec_pEntries at hr
  refine ret_start Try.func97 rfl 25 rfl rfl m hv fun a hF hS => ?_
  refine q_seq ?_
  refine q_region ?_
  refine q_x (v := (.bool false)) hF hS (ex_assign rfl) rfl rfl fun a hF => ?_
  refine q_end (n_sq ?_)
  refine q_seq ?_
  refine q_seq ?_
  refine q_region ?_
  refine q_x (v := s1.v) hF hS (ex_move rfl) rfl rfl fun a hF => ?_
  refine q_x (v := (.int .i64 (goLen p_l))) hF hS (ex_len Try.underlying39 rfl h1.len) rfl rfl fun a hF => ?_
  refine q_x (v := (.int .i64 0)) hF hS (ex_move rfl) rfl rfl fun a hF => ?_
  refine q_end (n_sq ?_)
  refine q_block ?_
  obtain ⟨o1, hl1, hr⟩ := bindS hr
  refine q_loop (fun (t_2 : Int) a w => Fr a 25 [(0, s1.v), (5, s1.v), (6, (.int .i64 (goLen p_l))), (7, (.int .i64 t_2))] ∧ St [] w0 w m []) (fun (o : (Unit) ⊕ (Bool)) e a w => o = .inl () ∧ e = .exit 0 ∧ Fr a 25 [(0, s1.v)] ∧ St [] w0 w m []) hl1 ⟨hF.sub ⟨rfl, rfl, rfl, rfl, trivial⟩, hS⟩ ?_ ?_
  · clear hF hS
    rintro t_2 a w st ⟨hF, hS⟩ hb1
    unfold spec_pEntries_l1 at hb1
    refine q_seq ?_
    refine q_region ?_
    refine q_x (v := (.bool (decide (t_2 < (goLen p_l))))) hF hS (ex_ibin rfl rfl rfl) rfl rfl fun a hF => ?_
    refine q_end (n_sq ?_)
    refine q_seq ?_
    rcases bcase (decide (t_2 < (goLen p_l))) with hc2 | hc2
    · have hb1 := cond_f hc2 hb1
      refine q_cond_f hF rfl hc2 ?_
      refine q_exit (x_sq ?_)
      obtain rfl := someI hb1
      exact ⟨nofun, .inl ⟨rfl, rfl, hF.sub ⟨rfl, trivial⟩, hS⟩⟩
    · have hb1 := cond_t hc2 hb1
      refine q_cond_t hF rfl hc2 ?_
      refine q_skipc (n_sq ?_)
      refine q_seq ?_
      refine q_block ?_
      refine q_seq ?_
      refine q_region ?_
      obtain ⟨e_3, he_3, hb1⟩ := bindS hb1
      obtain ⟨vs4, at4, d4⟩ := h1.at he_3 5 rfl
      obtain rfl : vs4 = [(.int .i64 e_3.Scope), (.int .i64 e_3.Loss.Ratio.Num), (.int .i64 e_3.Loss.Ratio.Den), (.int .i64 e_3.Loss.Rho.Num), (.int .i64 e_3.Loss.Rho.Den)] := d4
      refine q_x (v := (elP s1 (t_2.toNat * 5))) hF hS (ex_indexAddr Try.underlying39 sz49 rfl rfl (h1.idx he_3)) rfl rfl fun a hF => ?_
      refine q_x (v := (.agg #[(.int .i64 e_3.Scope), (.int .i64 e_3.Loss.Ratio.Num), (.int .i64 e_3.Loss.Ratio.Den), (.int .i64 e_3.Loss.Rho.Num), (.int .i64 e_3.Loss.Rho.Den)])) hF hS (ex_loadEA (us := [(.int .i64 e_3.Scope), (.int .i64 e_3.Loss.Ratio.Num), (.int .i64 e_3.Loss.Ratio.Den), (.int .i64 e_3.Loss.Rho.Num), (.int .i64 e_3.Loss.Rho.Den)]) 0 Try.underlying49 rfl sz49 rfl ((at4).at) rfl rfl rfl) rfl rfl fun a hF => ?_
      refine q_alloc (cs := [(.int .i64 0), (.int .i64 0), (.int .i64 0), (.int .i64 0), (.int .i64 0)]) hF hS rfl rfl rfl fun a w b5 hF hS => ?_
      refine q_store (vs := [(.int .i64 e_3.Scope), (.int .i64 e_3.Loss.Ratio.Num), (.int .i64 e_3.Loss.Ratio.Den), (.int .i64 e_3.Loss.Rho.Num), (.int .i64 e_3.Loss.Rho.Den)]) (cs' := [(.int .i64 e_3.Scope), (.int .i64 e_3.Loss.Ratio.Num), (.int .i64 e_3.Loss.Ratio.Den), (.int .i64 e_3.Loss.Rho.Num), (.int .i64 e_3.Loss.Rho.Den)]) 0 0 hF hS sz49 rfl rfl rfl rfl rfl rfl rfl rfl fun a w hF hS => ?_
      refine q_end (n_sq ?_)
      refine q_seq ?_
      obtain ⟨t_8, hj3, hb1⟩ := bindS hb1
      refine q_join (fun a w => Fr a 25 [(0, s1.v), (5, s1.v), (6, (.int .i64 (goLen p_l))), (7, (.int .i64 t_2)), (20, (.bool t_8))] ∧ St [] w0 w m []) ?_ ?_
      · refine q_region ?_
        refine q_x (v := (.pointer (some ⟨b5, 0, none⟩))) hF hS (ex_fieldAddr Try.underlying49 rfl sz3 rfl rfl) rfl rfl fun a hF => ?_
        refine q_x (v := (.int .i64 e_3.Scope)) hF hS (ex_load1 0 0 Try.underlying3 rfl rfl rfl rfl) rfl rfl fun a hF => ?_
        obtain ⟨t_6, ht_6, hj3⟩ := bindS hj3
        refine q_call (vs := [(.int .i64 e_3.Scope), (.int .i64 (-1)), (.int .i64 29)]) hF hS Try.func104 (by kernel_rfl) rfl rfl rfl (c_spec_l1In e_3.Scope (-1) 29 t_6 ht_6 _ m hS.vis) ?_
        rintro a w _ rfl hF hS
        refine q_x (v := (.bool (!t_6))) hF hS (ex_not rfl) rfl rfl fun a hF => ?_
        refine q_x (v := (.bool (!t_6))) hF hS (ex_move rfl) rfl rfl fun a hF => ?_
        rcases bcase (!t_6) with hc4 | hc4
        · have hj3 := cond_f hc4 hj3
          refine q_xg (v := (.pointer (some ⟨b5, 1, none⟩))) hF hS (ex_fieldAddr Try.underlying49 rfl sz26 rfl rfl) (wanted_t hF rfl rfl rfl hc4) rfl fun a hF => ?_
          refine q_xg (v := (.agg #[(.int .i64 e_3.Loss.Ratio.Num), (.int .i64 e_3.Loss.Ratio.Den), (.int .i64 e_3.Loss.Rho.Num), (.int .i64 e_3.Loss.Rho.Den)])) hF hS (ex_loadA (vs := [(.int .i64 e_3.Loss.Ratio.Num), (.int .i64 e_3.Loss.Ratio.Den), (.int .i64 e_3.Loss.Rho.Num), (.int .i64 e_3.Loss.Rho.Den)]) 0 0 Try.underlying26 rfl sz26 rfl rfl rfl rfl) (wanted_t hF rfl rfl rfl hc4) rfl fun a hF => ?_
          obtain ⟨t_7, ht_7, hj3⟩ := bindS hj3
          refine q_callg (vs := [(.agg #[(.int .i64 e_3.Loss.Ratio.Num), (.int .i64 e_3.Loss.Ratio.Den), (.int .i64 e_3.Loss.Rho.Num), (.int .i64 e_3.Loss.Rho.Den)])]) hF hS (wanted_t hF rfl rfl rfl hc4) Try.func82 (by kernel_rfl) rfl rfl rfl (c_spec_pGood e_3.Loss t_7 ht_7 _ m hS.vis) ?_
          rintro a w _ rfl hF hS
          refine q_xg (v := (.bool (!t_7))) hF hS (ex_not rfl) (wanted_t hF rfl rfl rfl hc4) rfl fun a hF => ?_
          refine q_x (v := (.bool (!t_7))) hF hS (ex_pick_f rfl rfl hc4) rfl rfl fun a hF => ?_
          refine q_end (n_jn ?_)
          obtain rfl := someI hj3
          exact ⟨hF.sub ⟨rfl, rfl, rfl, rfl, rfl, trivial⟩, hS.mask [false]⟩
        · have hj3 := cond_t hc4 hj3
          refine q_skip hF (wanted_f hF rfl rfl rfl hc4 rfl) rfl fun a hF => ?_
          refine q_skip hF (wanted_f hF rfl rfl rfl hc4 rfl) rfl fun a hF => ?_
          refine q_skip hF (wanted_f hF rfl rfl rfl hc4 rfl) rfl fun a hF => ?_
          refine q_skip hF (wanted_f hF rfl rfl rfl hc4 rfl) rfl fun a hF => ?_
          refine q_x (v := (.bool true)) hF hS (ex_pick_t rfl rfl hc4) rfl rfl fun a hF => ?_
          refine q_end (n_jn ?_)
          obtain rfl := someI hj3
          exact ⟨hF.sub ⟨rfl, rfl, rfl, rfl, rfl, trivial⟩, hS.mask [false]⟩
      · rintro a w ⟨hF, hS⟩
        refine n_sq ?_
        rcases bcase (t_8) with hc5 | hc5
        · have hb1 := cond_f hc5 hb1
          refine q_cond_f hF rfl hc5 ?_
          refine q_skipc (n_ib (n_sq ?_))
          refine q_region ?_
          refine q_x (v := (.int .i64 (w64 (t_2 + 1)))) hF hS (ex_ibin rfl rfl rfl) rfl rfl fun a hF => ?_
          refine q_x (v := (.int .i64 (w64 (t_2 + 1)))) hF hS (ex_move rfl) rfl rfl fun a hF => ?_
          refine q_end ?_
          obtain rfl := someI hb1
          exact ⟨rfl, hF.sub ⟨rfl, rfl, rfl, rfl, trivial⟩, hS⟩
        · have hb1 := cond_t hc5 hb1
          refine q_cond_t hF rfl hc5 ?_
          refine q_seq ?_
          refine q_region ?_
          refine q_x (v := (.bool false)) hF hS (ex_assign rfl) rfl rfl fun a hF => ?_
          refine q_end (n_sq (q_ret (r_ib (r_sq ?_))))
          obtain rfl := someI hb1
          refine ⟨nofun, .inr fun ho => ?_⟩
          subst ho
          refine r_ib (r_sq ?_)
          obtain rfl := someI hr
          exact ret_of hF hS rfl (.tmp rfl .nil) rfl
  · rintro e a w ⟨rfl, rfl, hF, hS⟩
    refine x_ib (n_sq ?_)
    refine q_seq ?_
    refine q_region ?_
    refine q_x (v := s1.v) hF hS (ex_move rfl) rfl rfl fun a hF => ?_
    refine q_x (v := (.int .i64 (goLen p_l))) hF hS (ex_len Try.underlying39 rfl h1.len) rfl rfl fun a hF => ?_
    refine q_x (v := (.bool (decide ((goLen p_l) ≤ 30)))) hF hS (ex_ibin rfl rfl rfl) rfl rfl fun a hF => ?_
    refine q_x (v := (.bool (decide ((goLen p_l) ≤ 30)))) hF hS (ex_assign rfl) rfl rfl fun a hF => ?_
    refine q_end (n_sq (q_ret ?_))
    obtain rfl := someI hr
    exact ret_of hF hS rfl (.tmp rfl .nil) rfl

theorem c_spec_fMul (p_a : impl_Frac) (p_b : impl_Frac) (r : impl_Frac × Bool) (hr : spec_fMul p_a p_b = some r) (w0 : World) (m : Mem) (hv : Vis m w0) :
    Ret Try.prog 106 [(.agg #[(.int .i64 p_a.Num), (.int .i64 p_a.Den)]), (.agg #[(.int .i64 p_b.Num), (.int .i64 p_b.Den)])] w0 (fun v _ => v = (.tuple #[(.agg #[(.int .i64 r.1.Num), (.int .i64 r.1.Den)]), (.bool r.2)])) := by
  unfold spec_fMul at hr
  refine ret_start Try.func106 rfl 19 rfl rfl m hv fun a hF hS => ?_
  refine q_seq ?_
  refine q_region ?_
  refine q_box (cs := [(.int .i64 p_a.Num), (.int .i64 p_a.Den)]) hF hS rfl rfl rfl fun a w b1 hF hS => ?_
  refine q_box (cs := [(.int .i64 p_b.Num), (.int .i64 p_b.Den)]) hF hS rfl rfl rfl fun a w b2 hF hS => ?_
  refine q_alloc (cs := [(.int .i64 0), (.int .i64 0)]) hF hS rfl rfl rfl fun a w b3 hF hS => ?_
  refine q_x (v := (.bool false)) hF hS (ex_assign rfl) rfl rfl fun a hF => ?_
  refine q_end (n_sq ?_)
  refine q_seq ?_
  refine q_region ?_
  refine q_x (v := (.pointer (some ⟨b1, 0, none⟩))) hF hS (ex_fieldAddr Try.underlying24 rfl sz3 rfl rfl) rfl rfl fun a hF => ?_
  refine q_x (v := (.int .i64 p_a.Num)) hF hS (ex_load1 2 0 Try.underlying3 rfl rfl rfl rfl) rfl rfl fun a hF => ?_
  refine q_x (v := (.pointer (some ⟨b2, 0, none⟩))) hF hS (ex_fieldAddr Try.underlying24 rfl sz3 rfl rfl) rfl rfl fun a hF => ?_
  refine q_x (v := (.int .i64 p_b.Num)) hF hS (ex_load1 1 0 Try.underlying3 rfl rfl rfl rfl) rfl rfl fun a hF => ?_
  refine q_x (v := (.int .i64 (w64 (p_a.Num * p_b.Num)))) hF hS (ex_ibin rfl rfl rfl) rfl rfl fun a hF => ?_
  refine q_x (v := (.pointer (some ⟨b1, 1, none⟩))) hF hS (ex_fieldAddr Try.underlying24 rfl sz3 rfl rfl) rfl rfl fun a hF => ?_
  refine q_x (v := (.int .i64 p_a.Den)) hF hS (ex_load1 2 0 Try.underlying3 rfl rfl rfl rfl) rfl rfl fun a hF => ?_
  refine q_x (v := (.pointer (some ⟨b2, 1, none⟩))) hF hS (ex_fieldAddr Try.underlying24 rfl sz3 rfl rfl) rfl rfl fun a hF => ?_
  refine q_x (v := (.int .i64 p_b.Den)) hF hS (ex_load1 1 0 Try.underlying3 rfl rfl rfl rfl) rfl rfl fun a hF => ?_
  refine q_x (v := (.int .i64 (w64 (p_a.Den * p_b.Den)))) hF hS (ex_ibin rfl rfl rfl) rfl rfl fun a hF => ?_
  obtain ⟨t_4, ht_4, hr⟩ := bindS hr
  refine q_call (vs := [(.int .i64 (w64 (p_a.Num * p_b.Num))), (.int .i64 (w64 (p_a.Den * p_b.Den)))]) hF hS Try.func117 (by kernel_rfl) rfl rfl rfl (c_spec_fMake (w64 (p_a.Num * p_b.Num)) (w64 (p_a.Den * p_b.Den)) t_4 ht_4 _ m hS.vis) ?_
  rintro a w _ rfl hF hS
  refine q_x (v := (.agg #[(.int .i64 t_4.1.Num), (.int .i64 t_4.1.Den)])) hF hS (ex_extract rfl rfl) rfl rfl fun a hF => ?_
  refine q_x (v := (.bool t_4.2)) hF hS (ex_extract rfl rfl) rfl rfl fun a hF => ?_
  refine q_store (vs := [(.int .i64 t_4.1.Num), (.int .i64 t_4.1.Den)]) (cs' := [(.int .i64 t_4.1.Num), (.int .i64 t_4.1.Den)]) 0 0 hF hS sz24 rfl rfl rfl rfl rfl rfl rfl rfl fun a w hF hS => ?_
  refine q_x (v := (.bool t_4.2)) hF hS (ex_assign rfl) rfl rfl fun a hF => ?_
  refine q_end (n_sq (q_ret ?_))
  obtain rfl := someI hr
  exact ret_of hF hS rfl (.cellA (us := [(.int .i64 t_4.1.Num), (.int .i64 t_4.1.Den)]) 0 0 Try.underlying24 rfl sz24 rfl rfl rfl rfl (.tmp rfl .nil)) rfl

theorem c_spec_fAdd (p_a : impl_Frac) (p_b : impl_Frac) (r : impl_Frac × Bool) (hr : spec_fAdd p_a p_b = some r) (w0 : World) (m : Mem) (hv : Vis m w0) :
    Ret Try.prog 156 [(.agg #[(.int .i64 p_a.Num), (.int .i64 p_a.Den)]), (.agg #[(.int .i64 p_b.Num), (.int .i64 p_b.Den)])] w0 (fun v _ => v = (.tuple #[(.agg #[(.int .i64 r.1.Num), (.int .i64 r.1.Den)]), (.bool r.2)])) := by
  unfold spec_fAdd at hr
  refine ret_start Try.func156 rfl 25 rfl rfl m hv fun a hF hS => ?_
  refine q_seq ?_
  refine q_region ?_
  refine q_box (cs := [(.int .i64 p_a.Num), (.int .i64 p_a.Den)]) hF hS rfl rfl rfl fun a w b1 hF hS => ?_
  refine q_box (cs := [(.int .i64 p_b.Num), (.int .i64 p_b.Den)]) hF hS rfl rfl rfl fun a w b2 hF hS => ?_
  refine q_alloc (cs := [(.int .i64 0), (.int .i64 0)]) hF hS rfl rfl rfl fun a w b3 hF hS => ?_
  refine q_x (v := (.bool false)) hF hS (ex_assign rfl) rfl rfl fun a hF => ?_
  refine q_end (n_sq ?_)
  refine q_seq ?_
  refine q_region ?_
  refine q_x (v := (.pointer (some ⟨b1, 0, none⟩))) hF hS (ex_fieldAddr Try.underlying24 rfl sz3 rfl rfl) rfl rfl fun a hF => ?_
  refine q_x (v := (.int .i64 p_a.Num)) hF hS (ex_load1 2 0 Try.underlying3 rfl rfl rfl rfl) rfl rfl fun a hF => ?_
  refine q_x (v := (.pointer (some ⟨b2, 1, none⟩))) hF hS (ex_fieldAddr Try.underlying24 rfl sz3 rfl rfl) rfl rfl fun a hF => ?_
  refine q_x (v := (.int .i64 p_b.Den)) hF hS (ex_load1 1 0 Try.underlying3 rfl rfl rfl rfl) rfl rfl fun a hF => ?_
  refine q_x (v := (.int .i64 (w64 (p_a.Num * p_b.Den)))) hF hS (ex_ibin rfl rfl rfl) rfl rfl fun a hF => ?_
  refine q_x (v := (.pointer (some ⟨b2, 0, none⟩))) hF hS (ex_fieldAddr Try.underlying24 rfl sz3 rfl rfl) rfl rfl fun a hF => ?_
  refine q_x (v := (.int .i64 p_b.Num)) hF hS (ex_load1 1 0 Try.underlying3 rfl rfl rfl rfl) rfl rfl fun a hF => ?_
  refine q_x (v := (.pointer (some ⟨b1, 1, none⟩))) hF hS (ex_fieldAddr Try.underlying24 rfl sz3 rfl rfl) rfl rfl fun a hF => ?_
  refine q_x (v := (.int .i64 p_a.Den)) hF hS (ex_load1 2 0 Try.underlying3 rfl rfl rfl rfl) rfl rfl fun a hF => ?_
  refine q_x (v := (.int .i64 (w64 (p_b.Num * p_a.Den)))) hF hS (ex_ibin rfl rfl rfl) rfl rfl fun a hF => ?_
  refine q_x (v := (.int .i64 (w64 ((w64 (p_a.Num * p_b.Den)) + (w64 (p_b.Num * p_a.Den)))))) hF hS (ex_ibin rfl rfl rfl) rfl rfl fun a hF => ?_
  refine q_x (v := (.pointer (some ⟨b1, 1, none⟩))) hF hS (ex_fieldAddr Try.underlying24 rfl sz3 rfl rfl) rfl rfl fun a hF => ?_
  refine q_x (v := (.int .i64 p_a.Den)) hF hS (ex_load1 2 0 Try.underlying3 rfl rfl rfl rfl) rfl rfl fun a hF => ?_
  refine q_x (v := (.pointer (some ⟨b2, 1, none⟩))) hF hS (ex_fieldAddr Try.underlying24 rfl sz3 rfl rfl) rfl rfl fun a hF => ?_
  refine q_x (v := (.int .i64 p_b.Den)) hF hS (ex_load1 1 0 Try.underlying3 rfl rfl rfl rfl) rfl rfl fun a hF => ?_
  refine q_x (v := (.int .i64 (w64 (p_a.Den * p_b.Den)))) hF hS (ex_ibin rfl rfl rfl) rfl rfl fun a hF => ?_
  obtain ⟨t_4, ht_4, hr⟩ := bindS hr
  refine q_call (vs := [(.int .i64 (w64 ((w64 (p_a.Num * p_b.Den)) + (w64 (p_b.Num * p_a.Den))))), (.int .i64 (w64 (p_a.Den * p_b.Den)))]) hF hS Try.func117 (by kernel_rfl) rfl rfl rfl (c_spec_fMake (w64 ((w64 (p_a.Num * p_b.Den)) + (w64 (p_b.Num * p_a.Den)))) (w64 (p_a.Den * p_b.Den)) t_4 ht_4 _ m hS.vis) ?_
  rintro a w _ rfl hF hS
  refine q_x (v := (.agg #[(.int .i64 t_4.1.Num), (.int .i64 t_4.1.Den)])) hF hS (ex_extract rfl rfl) rfl rfl fun a hF => ?_
  refine q_x (v := (.bool t_4.2)) hF hS (ex_extract rfl rfl) rfl rfl fun a hF => ?_
  refine q_store (vs := [(.int .i64 t_4.1.Num), (.int .i64 t_4.1.Den)]) (cs' := [(.int .i64 t_4.1.Num), (.int .i64 t_4.1.Den)]) 0 0 hF hS sz24 rfl rfl rfl rfl rfl rfl rfl rfl fun a w hF hS => ?_
  refine q_x (v := (.bool t_4.2)) hF hS (ex_assign rfl) rfl rfl fun a hF => ?_
  refine q_end (n_sq (q_ret ?_))
  obtain rfl := someI hr
  exact ret_of hF hS rfl (.cellA (us := [(.int .i64 t_4.1.Num), (.int .i64 t_4.1.Den)]) 0 0 Try.underlying24 rfl sz24 rfl rfl rfl rfl (.tmp rfl .nil)) rfl

theorem c_spec_pTwo (p_a : impl_Loss) (p_b : impl_Loss) (r : impl_Loss × Bool) (hr : spec_pTwo p_a p_b = some r) (w0 : World) (m : Mem) (hv : Vis m w0) :
    Ret Try.prog 91 [(.agg #[(.int .i64 p_a.Ratio.Num), (.int .i64 p_a.Ratio.Den), (.int .i64 p_a.Rho.Num), (.int .i64 p_a.Rho.Den)]), (.agg #[(.int .i64 p_b.Ratio.Num), (.int .i64 p_b.Ratio.Den), (.int .i64 p_b.Rho.Num), (.int .i64 p_b.Rho.Den)])] w0 (fun v _ => v = (.tuple #[(.agg #[(.int .i64 r.1.Ratio.Num), (.int .i64 r.1.Ratio.Den), (.int .i64 r.1.Rho.Num), (.int .i64 r.1.Rho.Den)]), (.bool r.2)])) := by
  unfold spec_pTwo at hr
  refine ret_start Try.func91 rfl 36 rfl rfl m hv fun a hF hS => ?_
  refine q_seq ?_
  refine q_region ?_
  refine q_box (cs := [(.int .i64 p_a.Ratio.Num), (.int .i64 p_a.Ratio.Den), (.int .i64 p_a.Rho.Num), (.int .i64 p_a.Rho.Den)]) hF hS rfl rfl rfl fun a w b1 hF hS => ?_
  refine q_box (cs := [(.int .i64 p_b.Ratio.Num), (.int .i64 p_b.Ratio.Den), (.int .i64 p_b.Rho.Num), (.int .i64 p_b.Rho.Den)]) hF hS rfl rfl rfl fun a w b2 hF hS => ?_
  refine q_alloc (cs := [(.int .i64 0), (.int .i64 0), (.int .i64 0), (.int .i64 0)]) hF hS rfl rfl rfl fun a w b3 hF hS => ?_
  refine q_x (v := (.bool false)) hF hS (ex_assign rfl) rfl rfl fun a hF => ?_
  refine q_end (n_sq ?_)
  refine q_seq ?_
  refine q_region ?_
  refine q_x (v := (.pointer (some ⟨b1, 0, none⟩))) hF hS (ex_fieldAddr Try.underlying26 rfl sz24 rfl rfl) rfl rfl fun a hF => ?_
  refine q_x (v := (.agg #[(.int .i64 p_a.Ratio.Num), (.int .i64 p_a.Ratio.Den)])) hF hS (ex_loadA (vs := [(.int .i64 p_a.Ratio.Num), (.int .i64 p_a.Ratio.Den)]) 2 0 Try.underlying24 rfl sz24 rfl rfl rfl rfl) rfl rfl fun a hF => ?_
  refine q_x (v := (.pointer (some ⟨b2, 0, none⟩))) hF hS (ex_fieldAddr Try.underlying26 rfl sz24 rfl rfl) rfl rfl fun a hF => ?_
  refine q_x (v := (.agg #[(.int .i64 p_b.Ratio.Num), (.int .i64 p_b.Ratio.Den)])) hF hS (ex_loadA (vs := [(.int .i64 p_b.Ratio.Num), (.int .i64 p_b.Ratio.Den)]) 1 0 Try.underlying24 rfl sz24 rfl rfl rfl rfl) rfl rfl fun a hF => ?_
  obtain ⟨t_4, ht_4, hr⟩ := bindS hr
  refine q_call (vs := [(.agg #[(.int .i64 p_a.Ratio.Num), (.int .i64 p_a.Ratio.Den)]), (.agg #[(.int .i64 p_b.Ratio.Num), (.int .i64 p_b.Ratio.Den)])]) hF hS Try.func106 (by kernel_rfl) rfl rfl rfl (c_spec_fMul p_a.Ratio p_b.Ratio t_4 ht_4 _ m hS.vis) ?_
  rintro a w _ rfl hF hS
  refine q_x (v := (.tuple #[(.agg #[(.int .i64 t_4.1.Num), (.int .i64 t_4.1.Den)]), (.bool t_4.2)])) hF hS (ex_move rfl) rfl rfl fun a hF => ?_
  refine q_x (v := (.agg #[(.int .i64 t_4.1.Num), (.int .i64 t_4.1.Den)])) hF hS (ex_extract rfl rfl) rfl rfl fun a hF => ?_
  refine q_x (v := (.bool t_4.2)) hF hS (ex_extract rfl rfl) rfl rfl fun a hF => ?_
  refine q_alloc (cs := [(.int .i64 0), (.int .i64 0)]) hF hS rfl rfl rfl fun a w b5 hF hS => ?_
  refine q_store (vs := [(.int .i64 t_4.1.Num), (.int .i64 t_4.1.Den)]) (cs' := [(.int .i64 t_4.1.Num), (.int .i64 t_4.1.Den)]) 0 0 hF hS sz24 rfl rfl rfl rfl rfl rfl rfl rfl fun a w hF hS => ?_
  refine q_x (v := (.bool t_4.2)) hF hS (ex_assign rfl) rfl rfl fun a hF => ?_
  refine q_end (n_sq ?_)
  refine q_seq ?_
  refine q_region ?_
  refine q_x (v := (.pointer (some ⟨b1, 2, none⟩))) hF hS (ex_fieldAddr Try.underlying26 rfl sz24 rfl rfl) rfl rfl fun a hF => ?_
  refine q_x (v := (.agg #[(.int .i64 p_a.Rho.Num), (.int .i64 p_a.Rho.Den)])) hF hS (ex_loadA (vs := [(.int .i64 p_a.Rho.Num), (.int .i64 p_a.Rho.Den)]) 3 0 Try.underlying24 rfl sz24 rfl rfl rfl rfl) rfl rfl fun a hF => ?_
  refine q_x (v := (.pointer (some ⟨b2, 2, none⟩))) hF hS (ex_fieldAddr Try.underlying26 rfl sz24 rfl rfl) rfl rfl fun a hF => ?_
  refine q_x (v := (.agg #[(.int .i64 p_b.Rho.Num), (.int .i64 p_b.Rho.Den)])) hF hS (ex_loadA (vs := [(.int .i64 p_b.Rho.Num), (.int .i64 p_b.Rho.Den)]) 2 0 Try.underlying24 rfl sz24 rfl rfl rfl rfl) rfl rfl fun a hF => ?_
  obtain ⟨t_6, ht_6, hr⟩ := bindS hr
  refine q_call (vs := [(.agg #[(.int .i64 p_a.Rho.Num), (.int .i64 p_a.Rho.Den)]), (.agg #[(.int .i64 p_b.Rho.Num), (.int .i64 p_b.Rho.Den)])]) hF hS Try.func156 (by kernel_rfl) rfl rfl rfl (c_spec_fAdd p_a.Rho p_b.Rho t_6 ht_6 _ m hS.vis) ?_
  rintro a w _ rfl hF hS
  refine q_x (v := (.tuple #[(.agg #[(.int .i64 t_6.1.Num), (.int .i64 t_6.1.Den)]), (.bool t_6.2)])) hF hS (ex_move rfl) rfl rfl fun a hF => ?_
  refine q_x (v := (.agg #[(.int .i64 t_6.1.Num), (.int .i64 t_6.1.Den)])) hF hS (ex_extract rfl rfl) rfl rfl fun a hF => ?_
  refine q_x (v := (.bool t_6.2)) hF hS (ex_extract rfl rfl) rfl rfl fun a hF => ?_
  refine q_alloc (cs := [(.int .i64 0), (.int .i64 0)]) hF hS rfl rfl rfl fun a w b7 hF hS => ?_
  refine q_store (vs := [(.int .i64 t_6.1.Num), (.int .i64 t_6.1.Den)]) (cs' := [(.int .i64 t_6.1.Num), (.int .i64 t_6.1.Den)]) 0 0 hF hS sz24 rfl rfl rfl rfl rfl rfl rfl rfl fun a w hF hS => ?_
  refine q_x (v := (.bool t_6.2)) hF hS (ex_assign rfl) rfl rfl fun a hF => ?_
  refine q_end (n_sq ?_)
  refine q_seq ?_
  refine q_seq ?_
  obtain ⟨t_8, hj1, hr⟩ := bindS hr
  refine q_join (fun a w => Fr a 36 [(4, (.pointer (some ⟨b3, 0, none⟩))), (6, (.pointer (some ⟨b5, 0, none⟩))), (8, (.pointer (some ⟨b7, 0, none⟩))), (31, (.bool t_8))] ∧ St [] w0 w m [[⟨b7, [(.int .i64 t_6.1.Num), (.int .i64 t_6.1.Den)], 24⟩], [⟨b5, [(.int .i64 t_4.1.Num), (.int .i64 t_4.1.Den)], 24⟩], [⟨b3, [(.int .i64 0), (.int .i64 0), (.int .i64 0), (.int .i64 0)], 26⟩]]) ?_ ?_
  · refine q_region ?_
    refine q_x (v := (.bool t_4.2)) hF hS (ex_move rfl) rfl rfl fun a hF => ?_
    refine q_x (v := (.bool (!t_4.2))) hF hS (ex_not rfl) rfl rfl fun a hF => ?_
    refine q_x (v := (.bool (!t_4.2))) hF hS (ex_move rfl) rfl rfl fun a hF => ?_
    rcases bcase (!t_4.2) with hc2 | hc2
    · have hj1 := cond_f hc2 hj1
      refine q_xg (v := (.bool t_6.2)) hF hS (ex_move rfl) (wanted_t hF rfl rfl rfl hc2) rfl fun a hF => ?_
      refine q_xg (v := (.bool (!t_6.2))) hF hS (ex_not rfl) (wanted_t hF rfl rfl rfl hc2) rfl fun a hF => ?_
      refine q_x (v := (.bool (!t_6.2))) hF hS (ex_pick_f rfl rfl hc2) rfl rfl fun a hF => ?_
      refine q_end (n_jn ?_)
      obtain rfl := someI hj1
      exact ⟨hF.sub ⟨rfl, rfl, rfl, rfl, trivial⟩, hS.mask [true, true, true, false, false]⟩
    · have hj1 := cond_t hc2 hj1
      refine q_skip hF (wanted_f hF rfl rfl rfl hc2 rfl) rfl fun a hF => ?_
      refine q_skip hF (wanted_f hF rfl rfl rfl hc2 rfl) rfl fun a hF => ?_
      refine q_x (v := (.bool true)) hF hS (ex_pick_t rfl rfl hc2) rfl rfl fun a hF => ?_
      refine q_end (n_jn ?_)
      obtain rfl := someI hj1
      exact ⟨hF.sub ⟨rfl, rfl, rfl, rfl, trivial⟩, hS.mask [true, true, true, false, false]⟩
  · rintro a w ⟨hF, hS⟩
    refine n_sq ?_
    rcases bcase (t_8) with hc3 | hc3
    · have hr := cond_f hc3 hr
      refine q_cond_f hF rfl hc3 ?_
      refine q_skipc (n_sq ?_)
      refine q_seq ?_
      refine q_region ?_
      refine q_x (v := (.agg #[(.int .i64 t_4.1.Num), (.int .i64 t_4.1.Den)])) hF hS (ex_loadA (vs := [(.int .i64 t_4.1.Num), (.int .i64 t_4.1.Den)]) 1 0 Try.underlying24 rfl sz24 rfl rfl rfl rfl) rfl rfl fun a hF => ?_
      refine q_x (v := (.agg #[(.int .i64 t_6.1.Num), (.int .i64 t_6.1.Den)])) hF hS (ex_loadA (vs := [(.int .i64 t_6.1.Num), (.int .i64 t_6.1.Den)]) 0 0 Try.underlying24 rfl sz24 rfl rfl rfl rfl) rfl rfl fun a hF => ?_
      refine q_x (v := (.agg #[(.int .i64 t_4.1.Num), (.int .i64 t_4.1.Den), (.int .i64 t_6.1.Num), (.int .i64 t_6.1.Den)])) hF hS (ex_build (cells := [(.int .i64 t_4.1.Num), (.int .i64 t_4.1.Den), (.int .i64 t_6.1.Num), (.int .i64 t_6.1.Den)]) rfl (by kernel_rfl)) rfl rfl fun a hF => ?_
      refine q_store (vs := [(.int .i64 t_4.1.Num), (.int .i64 t_4.1.Den), (.int .i64 t_6.1.Num), (.int .i64 t_6.1.Den)]) (cs' := [(.int .i64 t_4.1.Num), (.int .i64 t_4.1.Den), (.int .i64 t_6.1.Num), (.int .i64 t_6.1.Den)]) 2 0 hF hS sz26 rfl rfl rfl rfl rfl rfl rfl rfl fun a w hF hS => ?_
      refine q_x (v := (.bool true)) hF hS (ex_assign rfl) rfl rfl fun a hF => ?_
      refine q_end (n_sq (q_ret ?_))
      obtain rfl := someI hr
      exact ret_of hF hS rfl (.cellA (us := [(.int .i64 t_4.1.Num), (.int .i64 t_4.1.Den), (.int .i64 t_6.1.Num), (.int .i64 t_6.1.Den)]) 2 0 Try.underlying26 rfl sz26 rfl rfl rfl rfl (.tmp rfl .nil)) rfl
    · have hr := cond_t hc3 hr
      refine q_cond_t hF rfl hc3 ?_
      refine q_seq ?_
      refine q_region ?_
      refine q_x (v := (.agg #[(.int .i64 0), (.int .i64 0), (.int .i64 0), (.int .i64 0)])) hF hS (ex_build (cells := [(.int .i64 0), (.int .i64 0), (.int .i64 0), (.int .i64 0)]) rfl (by kernel_rfl)) rfl rfl fun a hF => ?_
      refine q_store (vs := [(.int .i64 0), (.int .i64 0), (.int .i64 0), (.int .i64 0)]) (cs' := [(.int .i64 0), (.int .i64 0), (.int .i64 0), (.int .i64 0)]) 2 0 hF hS sz26 rfl rfl rfl rfl rfl rfl rfl rfl fun a w hF hS => ?_
      refine q_x (v := (.bool false)) hF hS (ex_assign rfl) rfl rfl fun a hF => ?_
      refine q_end (n_sq (q_ret (r_sq ?_)))
      obtain rfl := someI hr
      exact ret_of hF hS rfl (.cellA (us := [(.int .i64 0), (.int .i64 0), (.int .i64 0), (.int .i64 0)]) 2 0 Try.underlying26 rfl sz26 rfl rfl rfl rfl (.tmp rfl .nil)) rfl

theorem c_spec_pOf (p_l : List impl_Entry) (p_scope : Int) (p_first : impl_Loss) (r : impl_Loss × Bool) (hr : spec_pOf p_l p_scope p_first = some r) (w0 : World) (m : Mem) (hv : Vis m w0) (s1 : Sl) (h1 : Rd m s1 p_l) :
    Ret Try.prog 159 [s1.v, (.int .i64 p_scope), (.agg #[(.int .i64 p_first.Ratio.Num), (.int .i64 p_first.Ratio.Den), (.int .i64 p_first.Rho.Num), (.int .i64 p_first.Rho.Den)])] w0 (fun v _ => v = (.tuple #[(.agg #[(.int .i64 r.1.Ratio.Num), (.int .i64 r.1.Ratio.Den), (.int .i64 r.1.Rho.Num), (.int .i64 r.1.Rho.Den)]), (.bool r.2)])) := by
  unfold spec_pOf at hr
  refine ret_start Try.func159 rfl 37 rfl rfl m hv fun a hF hS => ?_
  refine q_seq ?_
  refine q_region ?_
  refine q_box (cs := [(.int .i64 p_first.Ratio.Num), (.int .i64 p_first.Ratio.Den), (.int .i64 p_first.Rho.Num), (.int .i64 p_first.Rho.Den)]) hF hS rfl rfl rfl fun a w b2 hF hS => ?_
  refine q_alloc (cs := [(.int .i64 0), (.int .i64 0), (.int .i64 0), (.int .i64 0)]) hF hS rfl rfl rfl fun a w b3 hF hS => ?_
  refine q_x (v := (.bool false)) hF hS (ex_assign rfl) rfl rfl fun a hF => ?_
  refine q_end (n_sq ?_)
  refine q_seq ?_
  refine q_region ?_
  refine q_x (v := (.agg #[(.int .i64 p_first.Ratio.Num), (.int .i64 p_first.Ratio.Den), (.int .i64 p_first.Rho.Num), (.int .i64 p_first.Rho.Den)])) hF hS (ex_loadA (vs := [(.int .i64 p_first.Ratio.Num), (.int .i64 p_first.Ratio.Den), (.int .i64 p_first.Rho.Num), (.int .i64 p_first.Rho.Den)]) 1 0 Try.underlying26 rfl sz26 rfl rfl rfl rfl) rfl rfl fun a hF => ?_
  refine q_alloc (cs := [(.int .i64 0), (.int .i64 0), (.int .i64 0), (.int .i64 0)]) hF hS rfl rfl rfl fun a w b4 hF hS => ?_
  refine q_store (vs := [(.int .i64 p_first.Ratio.Num), (.int .i64 p_first.Ratio.Den), (.int .i64 p_first.Rho.Num), (.int .i64 p_first.Rho.Den)]) (cs' := [(.int .i64 p_first.Ratio.Num), (.int .i64 p_first.Ratio.Den), (.int .i64 p_first.Rho.Num), (.int .i64 p_first.Rho.Den)]) 0 0 hF hS sz26 rfl rfl rfl rfl rfl rfl rfl rfl fun a w hF hS => ?_
  refine q_end (n_sq ?_)
  refine q_seq ?_
  refine q_seq ?_
  refine q_region ?_
  refine q_x (v := s1.v) hF hS (ex_move rfl) rfl rfl fun a hF => ?_
  refine q_x (v := (.int .i64 (goLen p_l))) hF hS (ex_len Try.underlying39 rfl h1.len) rfl rfl fun a hF => ?_
  refine q_x (v := (.int .i64 0)) hF hS (ex_move rfl) rfl rfl fun a hF => ?_
  refine q_end (n_sq ?_)
  refine q_block ?_
  obtain ⟨o1, hl1, hr⟩ := bindS hr
  refine q_loop (fun (s : Int × impl_Loss) a w => ∃ t_5, ∃ out_6, s = (t_5, out_6) ∧ Fr a 37 [(1, (.int .i64 p_scope)), (6, (.pointer (some ⟨b3, 0, none⟩))), (8, (.pointer (some ⟨b4, 0, none⟩))), (14, s1.v), (15, (.int .i64 (goLen p_l))), (16, (.int .i64 t_5))] ∧ St [] w0 w m [[⟨b4, [(.int .i64 out_6.Ratio.Num), (.int .i64 out_6.Ratio.Den), (.int .i64 out_6.Rho.Num), (.int .i64 out_6.Rho.Den)], 26⟩], [⟨b3, [(.int .i64 0), (.int .i64 0), (.int .i64 0), (.int .i64 0)], 26⟩]]) (fun (o : (impl_Loss) ⊕ (impl_Loss × Bool)) e a w => ∃ out_13, o = .inl out_13 ∧ e = .exit 0 ∧ Fr a 37 [(6, (.pointer (some ⟨b3, 0, none⟩))), (8, (.pointer (some ⟨b4, 0, none⟩)))] ∧ St [] w0 w m [[⟨b4, [(.int .i64 out_13.Ratio.Num), (.int .i64 out_13.Ratio.Den), (.int .i64 out_13.Rho.Num), (.int .i64 out_13.Rho.Den)], 26⟩], [⟨b3, [(.int .i64 0), (.int .i64 0), (.int .i64 0), (.int .i64 0)], 26⟩]]) hl1 ⟨_, _, rfl, hF.sub ⟨rfl, rfl, rfl, rfl, rfl, rfl, trivial⟩, hS.mask [true, true, false]⟩ ?_ ?_
  · clear hF hS
    rintro s a w st ⟨t_5, out_6, rfl, hF, hS⟩ hb1
    unfold spec_pOf_l1 at hb1
    refine q_seq ?_
    refine q_region ?_
    refine q_x (v := (.bool (decide (t_5 < (goLen p_l))))) hF hS (ex_ibin rfl rfl rfl) rfl rfl fun a hF => ?_
    refine q_end (n_sq ?_)
    refine q_seq ?_
    rcases bcase (decide (t_5 < (goLen p_l))) with hc2 | hc2
    · have hb1 := cond_f hc2 hb1
      refine q_cond_f hF rfl hc2 ?_
      refine q_exit (x_sq ?_)
      obtain rfl := someI hb1
      exact ⟨nofun, .inl ⟨_, rfl, rfl, hF.sub ⟨rfl, rfl, trivial⟩, hS⟩⟩
    · have hb1 := cond_t hc2 hb1
      refine q_cond_t hF rfl hc2 ?_
      refine q_skipc (n_sq ?_)
      refine q_seq ?_
      obtain ⟨j3, hj3, hb1⟩ := bindS hb1
      refine q_join (fun a w => ∃ out_12, j3 = .inl out_12 ∧ Fr a 37 [(1, (.int .i64 p_scope)), (6, (.pointer (some ⟨b3, 0, none⟩))), (8, (.pointer (some ⟨b4, 0, none⟩))), (14, s1.v), (15, (.int .i64 (goLen p_l))), (16, (.int .i64 t_5))] ∧ St [] w0 w m [[⟨b4, [(.int .i64 out_12.Ratio.Num), (.int .i64 out_12.Ratio.Den), (.int .i64 out_12.Rho.Num), (.int .i64 out_12.Rho.Den)], 26⟩], [⟨b3, [(.int .i64 0), (.int .i64 0), (.int .i64 0), (.int .i64 0)], 26⟩]]) ?_ ?_
      · refine q_block ?_
        refine q_seq ?_
        refine q_region ?_
        obtain ⟨e_7, he_7, hj3⟩ := bindS hj3
        obtain ⟨vs8, at8, d8⟩ := h1.at he_7 5 rfl
        obtain rfl : vs8 = [(.int .i64 e_7.Scope), (.int .i64 e_7.Loss.Ratio.Num), (.int .i64 e_7.Loss.Ratio.Den), (.int .i64 e_7.Loss.Rho.Num), (.int .i64 e_7.Loss.Rho.Den)] := d8
        refine q_x (v := (elP s1 (t_5.toNat * 5))) hF hS (ex_indexAddr Try.underlying39 sz49 rfl rfl (h1.idx he_7)) rfl rfl fun a hF => ?_
        refine q_x (v := (.agg #[(.int .i64 e_7.Scope), (.int .i64 e_7.Loss.Ratio.Num), (.int .i64 e_7.Loss.Ratio.Den), (.int .i64 e_7.Loss.Rho.Num), (.int .i64 e_7.Loss.Rho.Den)])) hF hS (ex_loadEA (us := [(.int .i64 e_7.Scope), (.int .i64 e_7.Loss.Ratio.Num), (.int .i64 e_7.Loss.Ratio.Den), (.int .i64 e_7.Loss.Rho.Num), (.int .i64 e_7.Loss.Rho.Den)]) 0 Try.underlying49 rfl sz49 rfl ((at8).at) rfl rfl rfl) rfl rfl fun a hF => ?_
        refine q_alloc (cs := [(.int .i64 0), (.int .i64 0), (.int .i64 0), (.int .i64 0), (.int .i64 0)]) hF hS rfl rfl rfl fun a w b9 hF hS => ?_
        refine q_store (vs := [(.int .i64 e_7.Scope), (.int .i64 e_7.Loss.Ratio.Num), (.int .i64 e_7.Loss.Ratio.Den), (.int .i64 e_7.Loss.Rho.Num), (.int .i64 e_7.Loss.Rho.Den)]) (cs' := [(.int .i64 e_7.Scope), (.int .i64 e_7.Loss.Ratio.Num), (.int .i64 e_7.Loss.Ratio.Den), (.int .i64 e_7.Loss.Rho.Num), (.int .i64 e_7.Loss.Rho.Den)]) 0 0 hF hS sz49 rfl rfl rfl rfl rfl rfl rfl rfl fun a w hF hS => ?_
        refine q_end (n_sq ?_)
        refine q_seq ?_
        refine q_seq ?_
        refine q_region ?_
        refine q_x (v := (.pointer (some ⟨b9, 0, none⟩))) hF hS (ex_fieldAddr Try.underlying49 rfl sz3 rfl rfl) rfl rfl fun a hF => ?_
        refine q_x (v := (.int .i64 e_7.Scope)) hF hS (ex_load1 0 0 Try.underlying3 rfl rfl rfl rfl) rfl rfl fun a hF => ?_
        refine q_x (v := (.int .i64 p_scope)) hF hS (ex_move rfl) rfl rfl fun a hF => ?_
        refine q_x (v := (.bool (e_7.Scope != p_scope))) hF hS (ex_ibin rfl rfl rfl) rfl rfl fun a hF => ?_
        refine q_end (n_sq ?_)
        rcases bcase (e_7.Scope != p_scope) with hc4 | hc4
        · have hj3 := cond_f hc4 hj3
          refine q_cond_f hF rfl hc4 ?_
          refine q_skipc (n_sq ?_)
          refine q_seq ?_
          refine q_region ?_
          refine q_x (v := (.agg #[(.int .i64 out_6.Ratio.Num), (.int .i64 out_6.Ratio.Den), (.int .i64 out_6.Rho.Num), (.int .i64 out_6.Rho.Den)])) hF hS (ex_loadA (vs := [(.int .i64 out_6.Ratio.Num), (.int .i64 out_6.Ratio.Den), (.int .i64 out_6.Rho.Num), (.int .i64 out_6.Rho.Den)]) 1 0 Try.underlying26 rfl sz26 rfl rfl rfl rfl) rfl rfl fun a hF => ?_
          refine q_x (v := (.pointer (some ⟨b9, 1, none⟩))) hF hS (ex_fieldAddr Try.underlying49 rfl sz26 rfl rfl) rfl rfl fun a hF => ?_
          refine q_x (v := (.agg #[(.int .i64 e_7.Loss.Ratio.Num), (.int .i64 e_7.Loss.Ratio.Den), (.int .i64 e_7.Loss.Rho.Num), (.int .i64 e_7.Loss.Rho.Den)])) hF hS (ex_loadA (vs := [(.int .i64 e_7.Loss.Ratio.Num), (.int .i64 e_7.Loss.Ratio.Den), (.int .i64 e_7.Loss.Rho.Num), (.int .i64 e_7.Loss.Rho.Den)]) 0 0 Try.underlying26 rfl sz26 rfl rfl rfl rfl) rfl rfl fun a hF => ?_
          obtain ⟨t_10, ht_10, hj3⟩ := bindS hj3
          refine q_call (vs := [(.agg #[(.int .i64 out_6.Ratio.Num), (.int .i64 out_6.Ratio.Den), (.int .i64 out_6.Rho.Num), (.int .i64 out_6.Rho.Den)]), (.agg #[(.int .i64 e_7.Loss.Ratio.Num), (.int .i64 e_7.Loss.Ratio.Den), (.int .i64 e_7.Loss.Rho.Num), (.int .i64 e_7.Loss.Rho.Den)])]) hF hS Try.func91 (by kernel_rfl) rfl rfl rfl (c_spec_pTwo out_6 e_7.Loss t_10 ht_10 _ m hS.vis) ?_
          rintro a w _ rfl hF hS
          refine q_x (v := (.tuple #[(.agg #[(.int .i64 t_10.1.Ratio.Num), (.int .i64 t_10.1.Ratio.Den), (.int .i64 t_10.1.Rho.Num), (.int .i64 t_10.1.Rho.Den)]), (.bool t_10.2)])) hF hS (ex_move rfl) rfl rfl fun a hF => ?_
          refine q_x (v := (.agg #[(.int .i64 t_10.1.Ratio.Num), (.int .i64 t_10.1.Ratio.Den), (.int .i64 t_10.1.Rho.Num), (.int .i64 t_10.1.Rho.Den)])) hF hS (ex_extract rfl rfl) rfl rfl fun a hF => ?_
          refine q_x (v := (.bool t_10.2)) hF hS (ex_extract rfl rfl) rfl rfl fun a hF => ?_
          refine q_alloc (cs := [(.int .i64 0), (.int .i64 0), (.int .i64 0), (.int .i64 0)]) hF hS rfl rfl rfl fun a w b11 hF hS => ?_
          refine q_store (vs := [(.int .i64 t_10.1.Ratio.Num), (.int .i64 t_10.1.Ratio.Den), (.int .i64 t_10.1.Rho.Num), (.int .i64 t_10.1.Rho.Den)]) (cs' := [(.int .i64 t_10.1.Ratio.Num), (.int .i64 t_10.1.Ratio.Den), (.int .i64 t_10.1.Rho.Num), (.int .i64 t_10.1.Rho.Den)]) 0 0 hF hS sz26 rfl rfl rfl rfl rfl rfl rfl rfl fun a w hF hS => ?_
          refine q_x (v := (.bool t_10.2)) hF hS (ex_assign rfl) rfl rfl fun a hF => ?_
          refine q_end (n_sq ?_)
          refine q_seq ?_
          refine q_seq ?_
          refine q_region ?_
          refine q_x (v := (.bool t_10.2)) hF hS (ex_move rfl) rfl rfl fun a hF => ?_
          refine q_x (v := (.bool (!t_10.2))) hF hS (ex_not rfl) rfl rfl fun a hF => ?_
          refine q_end (n_sq ?_)
          rcases bcase (!t_10.2) with hc5 | hc5
          · have hj3 := cond_f hc5 hj3
            refine q_cond_f hF rfl hc5 ?_
            refine q_skipc (n_sq ?_)
            refine q_region ?_
            refine q_x (v := (.agg #[(.int .i64 t_10.1.Ratio.Num), (.int .i64 t_10.1.Ratio.Den), (.int .i64 t_10.1.Rho.Num), (.int .i64 t_10.1.Rho.Den)])) hF hS (ex_loadA (vs := [(.int .i64 t_10.1.Ratio.Num), (.int .i64 t_10.1.Ratio.Den), (.int .i64 t_10.1.Rho.Num), (.int .i64 t_10.1.Rho.Den)]) 0 0 Try.underlying26 rfl sz26 rfl rfl rfl rfl) rfl rfl fun a hF => ?_
            refine q_store (vs := [(.int .i64 t_10.1.Ratio.Num), (.int .i64 t_10.1.Ratio.Den), (.int .i64 t_10.1.Rho.Num), (.int .i64 t_10.1.Rho.Den)]) (cs' := [(.int .i64 t_10.1.Ratio.Num), (.int .i64 t_10.1.Ratio.Den), (.int .i64 t_10.1.Rho.Num), (.int .i64 t_10.1.Rho.Den)]) 2 0 hF hS sz26 rfl rfl rfl rfl rfl rfl rfl rfl fun a w hF hS => ?_
            refine q_end (n_ib (n_jn ?_))
            obtain rfl := someI hj3
            exact ⟨_, rfl, hF.sub ⟨rfl, rfl, rfl, rfl, rfl, rfl, trivial⟩, hS.mask [false, false, true, true]⟩
          · have hj3 := cond_t hc5 hj3
            refine q_cond_t hF rfl hc5 ?_
            refine q_seq ?_
            refine q_region ?_
            refine q_x (v := (.agg #[(.int .i64 0), (.int .i64 0), (.int .i64 0), (.int .i64 0)])) hF hS (ex_build (cells := [(.int .i64 0), (.int .i64 0), (.int .i64 0), (.int .i64 0)]) rfl (by kernel_rfl)) rfl rfl fun a hF => ?_
            refine q_store (vs := [(.int .i64 0), (.int .i64 0), (.int .i64 0), (.int .i64 0)]) (cs' := [(.int .i64 0), (.int .i64 0), (.int .i64 0), (.int .i64 0)]) 3 0 hF hS sz26 rfl rfl rfl rfl rfl rfl rfl rfl fun a w hF hS => ?_
            refine q_x (v := (.bool false)) hF hS (ex_assign rfl) rfl rfl fun a hF => ?_
            refine q_end (n_sq (q_ret (r_sq (r_ib (r_jn ?_)))))
            obtain rfl := someI hj3
            refine r_sq ?_
            obtain rfl := someI hb1
            refine ⟨nofun, .inr fun ho => ?_⟩
            subst ho
            refine r_ib (r_sq ?_)
            obtain rfl := someI hr
            exact ret_of hF hS rfl (.cellA (us := [(.int .i64 0), (.int .i64 0), (.int .i64 0), (.int .i64 0)]) 3 0 Try.underlying26 rfl sz26 rfl rfl rfl rfl (.tmp rfl .nil)) rfl
        · have hj3 := cond_t hc4 hj3
          refine q_cond_t hF rfl hc4 ?_
          refine q_exit (x_sq (x_ib (n_jn ?_)))
          obtain rfl := someI hj3
          exact ⟨_, rfl, hF.sub ⟨rfl, rfl, rfl, rfl, rfl, rfl, trivial⟩, hS.mask [false, true, true]⟩
      · rintro a w ⟨out_12, rfl, hF, hS⟩
        refine n_sq ?_
        refine q_region ?_
        refine q_x (v := (.int .i64 (w64 (t_5 + 1)))) hF hS (ex_ibin rfl rfl rfl) rfl rfl fun a hF => ?_
        refine q_x (v := (.int .i64 (w64 (t_5 + 1)))) hF hS (ex_move rfl) rfl rfl fun a hF => ?_
        refine q_end ?_
        obtain rfl := someI hb1
        exact ⟨rfl, _, _, rfl, hF.sub ⟨rfl, rfl, rfl, rfl, rfl, rfl, trivial⟩, hS⟩
  · rintro e a w ⟨out_13, rfl, rfl, hF, hS⟩
    refine x_ib (n_sq ?_)
    refine q_seq ?_
    refine q_region ?_
    refine q_x (v := (.agg #[(.int .i64 out_13.Ratio.Num), (.int .i64 out_13.Ratio.Den), (.int .i64 out_13.Rho.Num), (.int .i64 out_13.Rho.Den)])) hF hS (ex_loadA (vs := [(.int .i64 out_13.Ratio.Num), (.int .i64 out_13.Ratio.Den), (.int .i64 out_13.Rho.Num), (.int .i64 out_13.Rho.Den)]) 0 0 Try.underlying26 rfl sz26 rfl rfl rfl rfl) rfl rfl fun a hF => ?_
    refine q_store (vs := [(.int .i64 out_13.Ratio.Num), (.int .i64 out_13.Ratio.Den), (.int .i64 out_13.Rho.Num), (.int .i64 out_13.Rho.Den)]) (cs' := [(.int .i64 out_13.Ratio.Num), (.int .i64 out_13.Ratio.Den), (.int .i64 out_13.Rho.Num), (.int .i64 out_13.Rho.Den)]) 1 0 hF hS sz26 rfl rfl rfl rfl rfl rfl rfl rfl fun a w hF hS => ?_
    refine q_x (v := (.bool true)) hF hS (ex_assign rfl) rfl rfl fun a hF => ?_
    refine q_end (n_sq (q_ret ?_))
    obtain rfl := someI hr
    exact ret_of hF hS rfl (.cellA (us := [(.int .i64 out_13.Ratio.Num), (.int .i64 out_13.Ratio.Den), (.int .i64 out_13.Rho.Num), (.int .i64 out_13.Rho.Den)]) 1 0 Try.underlying26 rfl sz26 rfl rfl rfl rfl (.tmp rfl .nil)) rfl

theorem c_spec_l1Sign (p_n : Int) (r : Int) (hr : spec_l1Sign p_n = some r) (w0 : World) (m : Mem) (hv : Vis m w0) :
    Ret Try.prog 168 [(.int .i64 p_n)] w0 (fun v _ => v = (.int .i64 r)) := by
  unfold spec_l1Sign at hr
  refine ret_start Try.func168 rfl 9 rfl rfl m hv fun a hF hS => ?_
  refine q_seq ?_
  refine q_region ?_
  refine q_x (v := (.int .i64 0)) hF hS (ex_assign rfl) rfl rfl fun a hF => ?_
  refine q_end (n_sq ?_)
  refine q_seq ?_
  refine q_block ?_
  refine q_seq ?_
  refine q_region ?_
  refine q_x (v := (.int .i64 p_n)) hF hS (ex_move rfl) rfl rfl fun a hF => ?_
  refine q_x (v := (.bool (decide (p_n < 0)))) hF hS (ex_ibin rfl rfl rfl) rfl rfl fun a hF => ?_
  refine q_x (v := (.bool (decide (p_n < 0)))) hF hS (ex_assign rfl) rfl rfl fun a hF => ?_
  refine q_end (n_sq ?_)
  rcases bcase (decide (p_n < 0)) with hc1 | hc1
  · have hr := cond_f hc1 hr
    refine q_cond_f hF rfl hc1 ?_
    refine q_seq ?_
    refine q_region ?_
    refine q_x (v := (.int .i64 p_n)) hF hS (ex_move rfl) rfl rfl fun a hF => ?_
    refine q_x (v := (.bool (decide (0 < p_n)))) hF hS (ex_ibin rfl rfl rfl) rfl rfl fun a hF => ?_
    refine q_x (v := (.bool (decide (0 < p_n)))) hF hS (ex_assign rfl) rfl rfl fun a hF => ?_
    refine q_end (n_sq ?_)
    rcases bcase (decide (0 < p_n)) with hc2 | hc2
    · have hr := cond_f hc2 hr
      refine q_cond_f hF rfl hc2 ?_
      refine q_skipc (n_ib (n_sq ?_))
      refine q_seq ?_
      refine q_region ?_
      refine q_x (v := (.int .i64 0)) hF hS (ex_assign rfl) rfl rfl fun a hF => ?_
      refine q_end (n_sq (q_ret ?_))
      obtain rfl := someI hr
      exact ret_of hF hS rfl (.tmp rfl .nil) rfl
    · have hr := cond_t hc2 hr
      refine q_cond_t hF rfl hc2 ?_
      refine q_seq ?_
      refine q_region ?_
      refine q_x (v := (.int .i64 1)) hF hS (ex_assign rfl) rfl rfl fun a hF => ?_
      refine q_end (n_sq (q_ret (r_ib (r_sq ?_))))
      obtain rfl := someI hr
      exact ret_of hF hS rfl (.tmp rfl .nil) rfl
  · have hr := cond_t hc1 hr
    refine q_cond_t hF rfl hc1 ?_
    refine q_seq ?_
    refine q_region ?_
    refine q_x (v := (.int .i64 (-1))) hF hS (ex_assign rfl) rfl rfl fun a hF => ?_
    refine q_end (n_sq (q_ret (r_ib (r_sq ?_))))
    obtain rfl := someI hr
    exact ret_of hF hS rfl (.tmp rfl .nil) rfl

theorem c_spec_fCmp (p_a : impl_Frac) (p_b : impl_Frac) (r : Int) (hr : spec_fCmp p_a p_b = some r) (w0 : World) (m : Mem) (hv : Vis m w0) :
    Ret Try.prog 131 [(.agg #[(.int .i64 p_a.Num), (.int .i64 p_a.Den)]), (.agg #[(.int .i64 p_b.Num), (.int .i64 p_b.Den)])] w0 (fun v _ => v = (.int .i64 r)) := by
  unfold spec_fCmp at hr
  refine ret_start Try.func131 rfl 17 rfl rfl m hv fun a hF hS => ?_
  refine q_seq ?_
  refine q_region ?_
  refine q_box (cs := [(.int .i64 p_a.Num), (.int .i64 p_a.Den)]) hF hS rfl rfl rfl fun a w b1 hF hS => ?_
  refine q_box (cs := [(.int .i64 p_b.Num), (.int .i64 p_b.Den)]) hF hS rfl rfl rfl fun a w b2 hF hS => ?_
  refine q_x (v := (.int .i64 0)) hF hS (ex_assign rfl) rfl rfl fun a hF => ?_
  refine q_end (n_sq ?_)
  refine q_seq ?_
  refine q_region ?_
  refine q_x (v := (.pointer (some ⟨b1, 0, none⟩))) hF hS (ex_fieldAddr Try.underlying24 rfl sz3 rfl rfl) rfl rfl fun a hF => ?_
  refine q_x (v := (.int .i64 p_a.Num)) hF hS (ex_load1 1 0 Try.underlying3 rfl rfl rfl rfl) rfl rfl fun a hF => ?_
  refine q_x (v := (.pointer (some ⟨b2, 1, none⟩))) hF hS (ex_fieldAddr Try.underlying24 rfl sz3 rfl rfl) rfl rfl fun a hF => ?_
  refine q_x (v := (.int .i64 p_b.Den)) hF hS (ex_load1 0 0 Try.underlying3 rfl rfl rfl rfl) rfl rfl fun a hF => ?_
  refine q_x (v := (.int .i64 (w64 (p_a.Num * p_b.Den)))) hF hS (ex_ibin rfl rfl rfl) rfl rfl fun a hF => ?_
  refine q_x (v := (.pointer (some ⟨b2, 0, none⟩))) hF hS (ex_fieldAddr Try.underlying24 rfl sz3 rfl rfl) rfl rfl fun a hF => ?_
  refine q_x (v := (.int .i64 p_b.Num)) hF hS (ex_load1 0 0 Try.underlying3 rfl rfl rfl rfl) rfl rfl fun a hF => ?_
  refine q_x (v := (.pointer (some ⟨b1, 1, none⟩))) hF hS (ex_fieldAddr Try.underlying24 rfl sz3 rfl rfl) rfl rfl fun a hF => ?_
  refine q_x (v := (.int .i64 p_a.Den)) hF hS (ex_load1 1 0 Try.underlying3 rfl rfl rfl rfl) rfl rfl fun a hF => ?_
  refine q_x (v := (.int .i64 (w64 (p_b.Num * p_a.Den)))) hF hS (ex_ibin rfl rfl rfl) rfl rfl fun a hF => ?_
  refine q_x (v := (.int .i64 (w64 ((w64 (p_a.Num * p_b.Den)) - (w64 (p_b.Num * p_a.Den)))))) hF hS (ex_ibin rfl rfl rfl) rfl rfl fun a hF => ?_
  obtain ⟨t_3, ht_3, hr⟩ := bindS hr
  refine q_call (vs := [(.int .i64 (w64 ((w64 (p_a.Num * p_b.Den)) - (w64 (p_b.Num * p_a.Den)))))]) hF hS Try.func168 (by kernel_rfl) rfl rfl rfl (c_spec_l1Sign (w64 ((w64 (p_a.Num * p_b.Den)) - (w64 (p_b.Num * p_a.Den)))) t_3 ht_3 _ m hS.vis) ?_
  rintro a w _ rfl hF hS
  refine q_x (v := (.int .i64 t_3)) hF hS (ex_assign rfl) rfl rfl fun a hF => ?_
  refine q_end (n_sq (q_ret ?_))
  obtain rfl := someI hr
  exact ret_of hF hS rfl (.tmp rfl .nil) rfl

theorem c_spec_fGreater (p_a : impl_Frac) (p_b : impl_Frac) (r : impl_Frac) (hr : spec_fGreater p_a p_b = some r) (w0 : World) (m : Mem) (hv : Vis m w0) :
    Ret Try.prog 161 [(.agg #[(.int .i64 p_a.Num), (.int .i64 p_a.Den)]), (.agg #[(.int .i64 p_b.Num), (.int .i64 p_b.Den)])] w0 (fun v _ => v = (.agg #[(.int .i64 r.Num), (.int .i64 r.Den)])) := by
  unfold spec_fGreater at hr
  refine ret_start Try.func161 rfl 11 rfl rfl m hv fun a hF hS => ?_
  refine q_seq ?_
  refine q_region ?_
  refine q_box (cs := [(.int .i64 p_a.Num), (.int .i64 p_a.Den)]) hF hS rfl rfl rfl fun a w b1 hF hS => ?_
  refine q_box (cs := [(.int .i64 p_b.Num), (.int .i64 p_b.Den)]) hF hS rfl rfl rfl fun a w b2 hF hS => ?_
  refine q_alloc (cs := [(.int .i64 0), (.int .i64 0)]) hF hS rfl rfl rfl fun a w b3 hF hS => ?_
  refine q_end (n_sq ?_)
  refine q_seq ?_
  refine q_seq ?_
  refine q_region ?_
  refine q_x (v := (.agg #[(.int .i64 p_a.Num), (.int .i64 p_a.Den)])) hF hS (ex_loadA (vs := [(.int .i64 p_a.Num), (.int .i64 p_a.Den)]) 2 0 Try.underlying24 rfl sz24 rfl rfl rfl rfl) rfl rfl fun a hF => ?_
  refine q_x (v := (.agg #[(.int .i64 p_b.Num), (.int .i64 p_b.Den)])) hF hS (ex_loadA (vs := [(.int .i64 p_b.Num), (.int .i64 p_b.Den)]) 1 0 Try.underlying24 rfl sz24 rfl rfl rfl rfl) rfl rfl fun a hF => ?_
  obtain ⟨t_4, ht_4, hr⟩ := bindS hr
  refine q_call (vs := [(.agg #[(.int .i64 p_a.Num), (.int .i64 p_a.Den)]), (.agg #[(.int .i64 p_b.Num), (.int .i64 p_b.Den)])]) hF hS Try.func131 (by kernel_rfl) rfl rfl rfl (c_spec_fCmp p_a p_b t_4 ht_4 _ m hS.vis) ?_
  rintro a w _ rfl hF hS
  refine q_x (v := (.bool (decide (t_4 < 0)))) hF hS (ex_ibin rfl rfl rfl) rfl rfl fun a hF => ?_
  refine q_end (n_sq ?_)
  rcases bcase (decide (t_4 < 0)) with hc1 | hc1
  · have hr := cond_f hc1 hr
    refine q_cond_f hF rfl hc1 ?_
    refine q_skipc (n_sq ?_)
    refine q_seq ?_
    refine q_region ?_
    refine q_x (v := (.agg #[(.int .i64 p_a.Num), (.int .i64 p_a.Den)])) hF hS (ex_loadA (vs := [(.int .i64 p_a.Num), (.int .i64 p_a.Den)]) 2 0 Try.underlying24 rfl sz24 rfl rfl rfl rfl) rfl rfl fun a hF => ?_
    refine q_store (vs := [(.int .i64 p_a.Num), (.int .i64 p_a.Den)]) (cs' := [(.int .i64 p_a.Num), (.int .i64 p_a.Den)]) 0 0 hF hS sz24 rfl rfl rfl rfl rfl rfl rfl rfl fun a w hF hS => ?_
    refine q_end (n_sq (q_ret ?_))
    obtain rfl := someI hr
    exact ret_of hF hS rfl (.cellA (us := [(.int .i64 p_a.Num), (.int .i64 p_a.Den)]) 0 0 Try.underlying24 rfl sz24 rfl rfl rfl rfl .nil) rfl
  · have hr := cond_t hc1 hr
    refine q_cond_t hF rfl hc1 ?_
    refine q_seq ?_
    refine q_region ?_
    refine q_x (v := (.agg #[(.int .i64 p_b.Num), (.int .i64 p_b.Den)])) hF hS (ex_loadA (vs := [(.int .i64 p_b.Num), (.int .i64 p_b.Den)]) 1 0 Try.underlying24 rfl sz24 rfl rfl rfl rfl) rfl rfl fun a hF => ?_
    refine q_store (vs := [(.int .i64 p_b.Num), (.int .i64 p_b.Den)]) (cs' := [(.int .i64 p_b.Num), (.int .i64 p_b.Den)]) 0 0 hF hS sz24 rfl rfl rfl rfl rfl rfl rfl rfl fun a w hF hS => ?_
    refine q_end (n_sq (q_ret (r_sq ?_)))
    obtain rfl := someI hr
    exact ret_of hF hS rfl (.cellA (us := [(.int .i64 p_b.Num), (.int .i64 p_b.Den)]) 0 0 Try.underlying24 rfl sz24 rfl rfl rfl rfl .nil) rfl

theorem c_spec_pParallel (p_l : List impl_Loss) (r : impl_Loss) (hr : spec_pParallel p_l = some r) (w0 : World) (m : Mem) (hv : Vis m w0) (s1 : Sl) (h1 : Rd m s1 p_l) :
    Ret Try.prog 111 [s1.v] w0 (fun v _ => v = (.agg #[(.int .i64 r.Ratio.Num), (.int .i64 r.Ratio.Den), (.int .i64 r.Rho.Num), (.int .i64 r.Rho.Den)])) := by
  unfold spec_pParallel at hr
  refine ret_start Try.func111 rfl 26 rfl rfl m hv fun a hF hS => ?_
  refine q_seq ?_
  refine q_region ?_
  refine q_alloc (cs := [(.int .i64 0), (.int .i64 0), (.int .i64 0), (.int .i64 0)]) hF hS rfl rfl rfl fun a w b2 hF hS => ?_
  refine q_end (n_sq ?_)
  refine q_seq ?_
  refine q_region ?_
  obtain ⟨t_3, ht_3, hr⟩ := bindS hr
  refine q_call (vs := []) hF hS Try.func88 (by kernel_rfl) rfl rfl rfl (c_spec_pNone  t_3 ht_3 _ m hS.vis) ?_
  rintro a w _ rfl hF hS
  refine q_alloc (cs := [(.int .i64 0), (.int .i64 0), (.int .i64 0), (.int .i64 0)]) hF hS rfl rfl rfl fun a w b4 hF hS => ?_
  refine q_store (vs := [(.int .i64 t_3.Ratio.Num), (.int .i64 t_3.Ratio.Den), (.int .i64 t_3.Rho.Num), (.int .i64 t_3.Rho.Den)]) (cs' := [(.int .i64 t_3.Ratio.Num), (.int .i64 t_3.Ratio.Den), (.int .i64 t_3.Rho.Num), (.int .i64 t_3.Rho.Den)]) 0 0 hF hS sz26 rfl rfl rfl rfl rfl rfl rfl rfl fun a w hF hS => ?_
  refine q_end (n_sq ?_)
  refine q_seq ?_
  refine q_seq ?_
  refine q_region ?_
  refine q_x (v := s1.v) hF hS (ex_move rfl) rfl rfl fun a hF => ?_
  refine q_x (v := (.int .i64 (goLen p_l))) hF hS (ex_len Try.underlying33 rfl h1.len) rfl rfl fun a hF => ?_
  refine q_x (v := (.int .i64 0)) hF hS (ex_move rfl) rfl rfl fun a hF => ?_
  refine q_end (n_sq ?_)
  refine q_block ?_
  obtain ⟨out_16, hl1, hr⟩ := bindS hr
  refine q_loop (fun (s : Int × impl_Loss) a w => ∃ t_5, ∃ out_6, s = (t_5, out_6) ∧ Fr a 26 [(2, (.pointer (some ⟨b2, 0, none⟩))), (3, (.pointer (some ⟨b4, 0, none⟩))), (7, s1.v), (8, (.int .i64 (goLen p_l))), (9, (.int .i64 t_5))] ∧ St [] w0 w m [[⟨b4, [(.int .i64 out_6.Ratio.Num), (.int .i64 out_6.Ratio.Den), (.int .i64 out_6.Rho.Num), (.int .i64 out_6.Rho.Den)], 26⟩], [⟨b2, [(.int .i64 0), (.int .i64 0), (.int .i64 0), (.int .i64 0)], 26⟩]]) (fun (out_16 : impl_Loss) e a w => e = .exit 0 ∧ Fr a 26 [(2, (.pointer (some ⟨b2, 0, none⟩))), (3, (.pointer (some ⟨b4, 0, none⟩)))] ∧ St [] w0 w m [[⟨b4, [(.int .i64 out_16.Ratio.Num), (.int .i64 out_16.Ratio.Den), (.int .i64 out_16.Rho.Num), (.int .i64 out_16.Rho.Den)], 26⟩], [⟨b2, [(.int .i64 0), (.int .i64 0), (.int .i64 0), (.int .i64 0)], 26⟩]]) hl1 ⟨_, _, rfl, hF.sub ⟨rfl, rfl, rfl, rfl, rfl, trivial⟩, hS⟩ ?_ ?_
  · clear hF hS
    rintro s a w st ⟨t_5, out_6, rfl, hF, hS⟩ hb1
    unfold spec_pParallel_l1 at hb1
    refine q_seq ?_
    refine q_region ?_
    refine q_x (v := (.bool (decide (t_5 < (goLen p_l))))) hF hS (ex_ibin rfl rfl rfl) rfl rfl fun a hF => ?_
    refine q_end (n_sq ?_)
    refine q_seq ?_
    rcases bcase (decide (t_5 < (goLen p_l))) with hc2 | hc2
    · have hb1 := cond_f hc2 hb1
      refine q_cond_f hF rfl hc2 ?_
      refine q_exit (x_sq ?_)
      obtain rfl := someI hb1
      exact ⟨nofun, .inl ⟨rfl, hF.sub ⟨rfl, rfl, trivial⟩, hS⟩⟩
    · have hb1 := cond_t hc2 hb1
      refine q_cond_t hF rfl hc2 ?_
      refine q_skipc (n_sq ?_)
      refine q_seq ?_
      refine q_block ?_
      refine q_seq ?_
      refine q_region ?_
      obtain ⟨e_7, he_7, hb1⟩ := bindS hb1
      obtain ⟨vs8, at8, d8⟩ := h1.at he_7 4 rfl
      obtain rfl : vs8 = [(.int .i64 e_7.Ratio.Num), (.int .i64 e_7.Ratio.Den), (.int .i64 e_7.Rho.Num), (.int .i64 e_7.Rho.Den)] := d8
      refine q_x (v := (elP s1 (t_5.toNat * 4))) hF hS (ex_indexAddr Try.underlying33 sz26 rfl rfl (h1.idx he_7)) rfl rfl fun a hF => ?_
      refine q_x (v := (.agg #[(.int .i64 e_7.Ratio.Num), (.int .i64 e_7.Ratio.Den), (.int .i64 e_7.Rho.Num), (.int .i64 e_7.Rho.Den)])) hF hS (ex_loadEA (us := [(.int .i64 e_7.Ratio.Num), (.int .i64 e_7.Ratio.Den), (.int .i64 e_7.Rho.Num), (.int .i64 e_7.Rho.Den)]) 0 Try.underlying26 rfl sz26 rfl ((at8).at) rfl rfl rfl) rfl rfl fun a hF => ?_
      refine q_alloc (cs := [(.int .i64 0), (.int .i64 0), (.int .i64 0), (.int .i64 0)]) hF hS rfl rfl rfl fun a w b9 hF hS => ?_
      refine q_store (vs := [(.int .i64 e_7.Ratio.Num), (.int .i64 e_7.Ratio.Den), (.int .i64 e_7.Rho.Num), (.int .i64 e_7.Rho.Den)]) (cs' := [(.int .i64 e_7.Ratio.Num), (.int .i64 e_7.Ratio.Den), (.int .i64 e_7.Rho.Num), (.int .i64 e_7.Rho.Den)]) 0 0 hF hS sz26 rfl rfl rfl rfl rfl rfl rfl rfl fun a w hF hS => ?_
      refine q_end (n_sq ?_)
      refine e_region [11] mixed fun w' hw' => ?_
      have hS := hS.below hw'
      refine e_p (v := (.pointer (some ⟨b4, 0, none⟩))) 0 hF rfl (ex_fieldAddr Try.underlying26 rfl sz24 rfl rfl) rfl rfl (by kernel_rfl) (by kernel_rfl) (by kernel_rfl) fun a hF => ?_
      refine e_x (v := (.agg #[(.int .i64 out_6.Ratio.Num), (.int .i64 out_6.Ratio.Den)])) 1 hF hS rfl (ex_loadA (vs := [(.int .i64 out_6.Ratio.Num), (.int .i64 out_6.Ratio.Den)]) 1 0 Try.underlying24 rfl sz24 rfl rfl rfl rfl) rfl rfl (by kernel_rfl) (by kernel_rfl) (by kernel_rfl) (by kernel_rfl) fun a hF => ?_
      refine e_p (v := (.pointer (some ⟨b9, 0, none⟩))) 2 hF rfl (ex_fieldAddr Try.underlying26 rfl sz24 rfl rfl) rfl rfl (by kernel_rfl) (by kernel_rfl) (by kernel_rfl) fun a hF => ?_
      refine e_x (v := (.agg #[(.int .i64 e_7.Ratio.Num), (.int .i64 e_7.Ratio.Den)])) 3 hF hS rfl (ex_loadA (vs := [(.int .i64 e_7.Ratio.Num), (.int .i64 e_7.Ratio.Den)]) 0 0 Try.underlying24 rfl sz24 rfl rfl rfl rfl) rfl rfl (by kernel_rfl) (by kernel_rfl) (by kernel_rfl) (by kernel_rfl) fun a hF => ?_
      refine e_p (v := (.pointer (some ⟨b4, 2, none⟩))) 5 hF rfl (ex_fieldAddr Try.underlying26 rfl sz24 rfl rfl) rfl rfl (by kernel_rfl) (by kernel_rfl) (by kernel_rfl) fun a hF => ?_
      refine e_x (v := (.agg #[(.int .i64 out_6.Rho.Num), (.int .i64 out_6.Rho.Den)])) 6 hF hS rfl (ex_loadA (vs := [(.int .i64 out_6.Rho.Num), (.int .i64 out_6.Rho.Den)]) 1 0 Try.underlying24 rfl sz24 rfl rfl rfl rfl) rfl rfl (by kernel_rfl) (by kernel_rfl) (by kernel_rfl) (by kernel_rfl) fun a hF => ?_
      refine e_p (v := (.pointer (some ⟨b9, 2, none⟩))) 7 hF rfl (ex_fieldAddr Try.underlying26 rfl sz24 rfl rfl) rfl rfl (by kernel_rfl) (by kernel_rfl) (by kernel_rfl) fun a hF => ?_
      refine e_x (v := (.agg #[(.int .i64 e_7.Rho.Num), (.int .i64 e_7.Rho.Den)])) 8 hF hS rfl (ex_loadA (vs := [(.int .i64 e_7.Rho.Num), (.int .i64 e_7.Rho.Den)]) 0 0 Try.underlying24 rfl sz24 rfl rfl rfl rfl) rfl rfl (by kernel_rfl) (by kernel_rfl) (by kernel_rfl) (by kernel_rfl) fun a hF => ?_
      refine e_one 4 (by kernel_rfl) ?_
      obtain ⟨t_14, ht_14, hb1⟩ := bindS hb1
      refine e_call (vs := [(.agg #[(.int .i64 out_6.Ratio.Num), (.int .i64 out_6.Ratio.Den)]), (.agg #[(.int .i64 e_7.Ratio.Num), (.int .i64 e_7.Ratio.Den)])]) hF hS rfl Try.func161 (by kernel_rfl) rfl rfl rfl (c_spec_fGreater out_6.Ratio e_7.Ratio t_14 ht_14 _ m hS.vis) ?_
      rintro a w _ rfl hF hS
      refine e_one 9 (by kernel_rfl) ?_
      obtain ⟨t_15, ht_15, hb1⟩ := bindS hb1
      refine e_call (vs := [(.agg #[(.int .i64 out_6.Rho.Num), (.int .i64 out_6.Rho.Den)]), (.agg #[(.int .i64 e_7.Rho.Num), (.int .i64 e_7.Rho.Den)])]) hF hS rfl Try.func161 (by kernel_rfl) rfl rfl rfl (c_spec_fGreater out_6.Rho e_7.Rho t_15 ht_15 _ m hS.vis) ?_
      rintro a w _ rfl hF hS
      refine e_p (v := (.agg #[(.int .i64 t_14.Num), (.int .i64 t_14.Den), (.int .i64 t_15.Num), (.int .i64 t_15.Den)])) 10 hF rfl (ex_build (cells := [(.int .i64 t_14.Num), (.int .i64 t_14.Den), (.int .i64 t_15.Num), (.int .i64 t_15.Den)]) rfl (by kernel_rfl)) rfl rfl (by kernel_rfl) (by kernel_rfl) (by kernel_rfl) fun a hF => ?_
      refine e_one 11 (by kernel_rfl) ?_
      refine e_store (vs := [(.int .i64 t_14.Num), (.int .i64 t_14.Den), (.int .i64 t_15.Num), (.int .i64 t_15.Den)]) (cs' := [(.int .i64 t_14.Num), (.int .i64 t_14.Den), (.int .i64 t_15.Num), (.int .i64 t_15.Den)]) 1 0 hF hS rfl rfl sz26 rfl rfl rfl rfl rfl rfl rfl rfl fun a w hF hS => ?_
      refine e_end (by kernel_rfl) (n_ib (n_sq ?_)) _
      refine q_region ?_
      refine q_x (v := (.int .i64 (w64 (t_5 + 1)))) hF hS (ex_ibin rfl rfl rfl) rfl rfl fun a hF => ?_
      refine q_x (v := (.int .i64 (w64 (t_5 + 1)))) hF hS (ex_move rfl) rfl rfl fun a hF => ?_
      refine q_end ?_
      obtain rfl := someI hb1
      exact ⟨rfl, _, _, rfl, hF.sub ⟨rfl, rfl, rfl, rfl, rfl, trivial⟩, hS.mask [false, true, true]⟩
  · rintro e a w ⟨rfl, hF, hS⟩
    refine x_ib (n_sq ?_)
    refine q_seq ?_
    refine q_region ?_
    refine q_x (v := (.agg #[(.int .i64 out_16.Ratio.Num), (.int .i64 out_16.Ratio.Den), (.int .i64 out_16.Rho.Num), (.int .i64 out_16.Rho.Den)])) hF hS (ex_loadA (vs := [(.int .i64 out_16.Ratio.Num), (.int .i64 out_16.Ratio.Den), (.int .i64 out_16.Rho.Num), (.int .i64 out_16.Rho.Den)]) 0 0 Try.underlying26 rfl sz26 rfl rfl rfl rfl) rfl rfl fun a hF => ?_
    refine q_store (vs := [(.int .i64 out_16.Ratio.Num), (.int .i64 out_16.Ratio.Den), (.int .i64 out_16.Rho.Num), (.int .i64 out_16.Rho.Den)]) (cs' := [(.int .i64 out_16.Ratio.Num), (.int .i64 out_16.Ratio.Den), (.int .i64 out_16.Rho.Num), (.int .i64 out_16.Rho.Den)]) 1 0 hF hS sz26 rfl rfl rfl rfl rfl rfl rfl rfl fun a w hF hS => ?_
    refine q_end (n_sq (q_ret ?_))
    obtain rfl := someI hr
    exact ret_of hF hS rfl (.cellA (us := [(.int .i64 out_16.Ratio.Num), (.int .i64 out_16.Ratio.Den), (.int .i64 out_16.Rho.Num), (.int .i64 out_16.Rho.Den)]) 1 0 Try.underlying26 rfl sz26 rfl rfl rfl rfl .nil) rfl

theorem c_spec_pLedger (p_l : List impl_Entry) (r : impl_Loss × Bool) (hr : spec_pLedger p_l = some r) (w0 : World) (m : Mem) (hv : Vis m w0) (s1 : Sl) (h1 : Rd m s1 p_l) :
    Ret Try.prog 98 [s1.v] w0 (fun v _ => v = (.tuple #[(.agg #[(.int .i64 r.1.Ratio.Num), (.int .i64 r.1.Ratio.Den), (.int .i64 r.1.Rho.Num), (.int .i64 r.1.Rho.Den)]), (.bool r.2)])) := by
  unfold spec_pLedger at hr
  refine ret_start Try.func98 rfl 39 rfl rfl m hv fun a hF hS => ?_
  refine q_seq ?_
  refine q_region ?_
  refine q_alloc (cs := [(.int .i64 0), (.int .i64 0), (.int .i64 0), (.int .i64 0)]) hF hS rfl rfl rfl fun a w b2 hF hS => ?_
  refine q_x (v := (.bool false)) hF hS (ex_assign rfl) rfl rfl fun a hF => ?_
  refine q_end (n_sq ?_)
  refine q_seq ?_
  refine q_region ?_
  refine q_x (v := s1.v) hF hS (ex_move rfl) rfl rfl fun a hF => ?_
  obtain ⟨t_3, ht_3, hr⟩ := bindS hr
  refine q_call (vs := []) hF hS Try.func88 (by kernel_rfl) rfl rfl rfl (c_spec_pNone  t_3 ht_3 _ m hS.vis) ?_
  rintro a w _ rfl hF hS
  obtain ⟨t_4, ht_4, hr⟩ := bindS hr
  refine q_call (vs := [s1.v, (.int .i64 (-1)), (.agg #[(.int .i64 t_3.Ratio.Num), (.int .i64 t_3.Ratio.Den), (.int .i64 t_3.Rho.Num), (.int .i64 t_3.Rho.Den)])]) hF hS Try.func159 (by kernel_rfl) rfl rfl rfl (c_spec_pOf p_l (-1) t_3 t_4 ht_4 _ m hS.vis s1 h1) ?_
  rintro a w _ rfl hF hS
  refine q_x (v := (.tuple #[(.agg #[(.int .i64 t_4.1.Ratio.Num), (.int .i64 t_4.1.Ratio.Den), (.int .i64 t_4.1.Rho.Num), (.int .i64 t_4.1.Rho.Den)]), (.bool t_4.2)])) hF hS (ex_move rfl) rfl rfl fun a hF => ?_
  refine q_x (v := (.agg #[(.int .i64 t_4.1.Ratio.Num), (.int .i64 t_4.1.Ratio.Den), (.int .i64 t_4.1.Rho.Num), (.int .i64 t_4.1.Rho.Den)])) hF hS (ex_extract rfl rfl) rfl rfl fun a hF => ?_
  refine q_x (v := (.bool t_4.2)) hF hS (ex_extract rfl rfl) rfl rfl fun a hF => ?_
  refine q_alloc (cs := [(.int .i64 0), (.int .i64 0), (.int .i64 0), (.int .i64 0)]) hF hS rfl rfl rfl fun a w b5 hF hS => ?_
  refine q_store (vs := [(.int .i64 t_4.1.Ratio.Num), (.int .i64 t_4.1.Ratio.Den), (.int .i64 t_4.1.Rho.Num), (.int .i64 t_4.1.Rho.Den)]) (cs' := [(.int .i64 t_4.1.Ratio.Num), (.int .i64 t_4.1.Ratio.Den), (.int .i64 t_4.1.Rho.Num), (.int .i64 t_4.1.Rho.Den)]) 0 0 hF hS sz26 rfl rfl rfl rfl rfl rfl rfl rfl fun a w hF hS => ?_
  refine q_x (v := (.bool t_4.2)) hF hS (ex_assign rfl) rfl rfl fun a hF => ?_
  refine q_end (n_sq ?_)
  refine q_seq ?_
  refine q_seq ?_
  refine q_region ?_
  refine q_x (v := (.bool t_4.2)) hF hS (ex_move rfl) rfl rfl fun a hF => ?_
  refine q_x (v := (.bool (!t_4.2))) hF hS (ex_not rfl) rfl rfl fun a hF => ?_
  refine q_end (n_sq ?_)
  rcases bcase (!t_4.2) with hc1 | hc1
  · have hr := cond_f hc1 hr
    refine q_cond_f hF rfl hc1 ?_
    refine q_skipc (n_sq ?_)
    refine q_seq ?_
    refine q_region ?_
    refine q_x (v := (.agg #[(.int .i64 t_4.1.Ratio.Num), (.int .i64 t_4.1.Ratio.Den), (.int .i64 t_4.1.Rho.Num), (.int .i64 t_4.1.Rho.Den)])) hF hS (ex_loadA (vs := [(.int .i64 t_4.1.Ratio.Num), (.int .i64 t_4.1.Ratio.Den), (.int .i64 t_4.1.Rho.Num), (.int .i64 t_4.1.Rho.Den)]) 0 0 Try.underlying26 rfl sz26 rfl rfl rfl rfl) rfl rfl fun a hF => ?_
    refine q_alloc (cs := [(.int .i64 0), (.int .i64 0), (.int .i64 0), (.int .i64 0)]) hF hS rfl rfl rfl fun a w b6 hF hS => ?_
    refine q_store (vs := [(.int .i64 t_4.1.Ratio.Num), (.int .i64 t_4.1.Ratio.Den), (.int .i64 t_4.1.Rho.Num), (.int .i64 t_4.1.Rho.Den)]) (cs' := [(.int .i64 t_4.1.Ratio.Num), (.int .i64 t_4.1.Ratio.Den), (.int .i64 t_4.1.Rho.Num), (.int .i64 t_4.1.Rho.Den)]) 0 0 hF hS sz26 rfl rfl rfl rfl rfl rfl rfl rfl fun a w hF hS => ?_
    refine q_end (n_sq ?_)
    refine q_seq ?_
    refine q_seq ?_
    refine q_region ?_
    refine q_x (v := (.int .i64 0)) hF hS (ex_assign rfl) rfl rfl fun a hF => ?_
    refine q_end (n_sq ?_)
    refine q_block ?_
    obtain ⟨o2, hl2, hr⟩ := bindS hr
    refine q_loop (fun (s : Int × impl_Loss) a w => ∃ scope_7, ∃ out_8, s = (scope_7, out_8) ∧ Fr a 39 [(0, s1.v), (2, (.pointer (some ⟨b2, 0, none⟩))), (4, (.pointer (some ⟨b5, 0, none⟩))), (6, (.pointer (some ⟨b6, 0, none⟩))), (7, (.int .i64 scope_7))] ∧ St [] w0 w m [[⟨b6, [(.int .i64 out_8.Ratio.Num), (.int .i64 out_8.Ratio.Den), (.int .i64 out_8.Rho.Num), (.int .i64 out_8.Rho.Den)], 26⟩], [⟨b5, [(.int .i64 t_4.1.Ratio.Num), (.int .i64 t_4.1.Ratio.Den), (.int .i64 t_4.1.Rho.Num), (.int .i64 t_4.1.Rho.Den)], 26⟩], [⟨b2, [(.int .i64 0), (.int .i64 0), (.int .i64 0), (.int .i64 0)], 26⟩]]) (fun (o : (impl_Loss) ⊕ (impl_Loss × Bool)) e a w => ∃ out_14, o = .inl out_14 ∧ e = .exit 0 ∧ Fr a 39 [(2, (.pointer (some ⟨b2, 0, none⟩))), (6, (.pointer (some ⟨b6, 0, none⟩)))] ∧ St [] w0 w m [[⟨b6, [(.int .i64 out_14.Ratio.Num), (.int .i64 out_14.Ratio.Den), (.int .i64 out_14.Rho.Num), (.int .i64 out_14.Rho.Den)], 26⟩], [⟨b2, [(.int .i64 0), (.int .i64 0), (.int .i64 0), (.int .i64 0)], 26⟩]]) hl2 ⟨_, _, rfl, hF.sub ⟨rfl, rfl, rfl, rfl, rfl, trivial⟩, hS⟩ ?_ ?_
    · clear hF hS
      rintro s a w st ⟨scope_7, out_8, rfl, hF, hS⟩ hb2
      unfold spec_pLedger_l1 at hb2
      refine q_seq ?_
      refine q_seq ?_
      refine q_region ?_
      refine q_x (v := (.int .i64 scope_7)) hF hS (ex_move rfl) rfl rfl fun a hF => ?_
      refine q_x (v := (.bool (decide (scope_7 ≤ 29)))) hF hS (ex_ibin rfl rfl rfl) rfl rfl fun a hF => ?_
      refine q_end (n_sq ?_)
      rcases bcase (decide (scope_7 ≤ 29)) with hc3 | hc3
      · have hb2 := cond_f hc3 hb2
        refine q_cond_f hF rfl hc3 ?_
        refine q_exit (x_sq ?_)
        obtain rfl := someI hb2
        exact ⟨nofun, .inl ⟨_, rfl, rfl, hF.sub ⟨rfl, rfl, trivial⟩, hS.mask [true, false, true]⟩⟩
      · have hb2 := cond_t hc3 hb2
        refine q_cond_t hF rfl hc3 ?_
        refine q_skipc (n_sq ?_)
        refine q_seq ?_
        refine q_block ?_
        refine q_seq ?_
        refine q_region ?_
        refine q_x (v := s1.v) hF hS (ex_move rfl) rfl rfl fun a hF => ?_
        refine q_x (v := (.int .i64 scope_7)) hF hS (ex_move rfl) rfl rfl fun a hF => ?_
        refine q_x (v := (.agg #[(.int .i64 t_4.1.Ratio.Num), (.int .i64 t_4.1.Ratio.Den), (.int .i64 t_4.1.Rho.Num), (.int .i64 t_4.1.Rho.Den)])) hF hS (ex_loadA (vs := [(.int .i64 t_4.1.Ratio.Num), (.int .i64 t_4.1.Ratio.Den), (.int .i64 t_4.1.Rho.Num), (.int .i64 t_4.1.Rho.Den)]) 1 0 Try.underlying26 rfl sz26 rfl rfl rfl rfl) rfl rfl fun a hF => ?_
        obtain ⟨t_9, ht_9, hb2⟩ := bindS hb2
        refine q_call (vs := [s1.v, (.int .i64 scope_7), (.agg #[(.int .i64 t_4.1.Ratio.Num), (.int .i64 t_4.1.Ratio.Den), (.int .i64 t_4.1.Rho.Num), (.int .i64 t_4.1.Rho.Den)])]) hF hS Try.func159 (by kernel_rfl) rfl rfl rfl (c_spec_pOf p_l scope_7 t_4.1 t_9 ht_9 _ m hS.vis s1 h1) ?_
        rintro a w _ rfl hF hS
        refine q_x (v := (.tuple #[(.agg #[(.int .i64 t_9.1.Ratio.Num), (.int .i64 t_9.1.Ratio.Den), (.int .i64 t_9.1.Rho.Num), (.int .i64 t_9.1.Rho.Den)]), (.bool t_9.2)])) hF hS (ex_move rfl) rfl rfl fun a hF => ?_
        refine q_x (v := (.agg #[(.int .i64 t_9.1.Ratio.Num), (.int .i64 t_9.1.Ratio.Den), (.int .i64 t_9.1.Rho.Num), (.int .i64 t_9.1.Rho.Den)])) hF hS (ex_extract rfl rfl) rfl rfl fun a hF => ?_
        refine q_x (v := (.bool t_9.2)) hF hS (ex_extract rfl rfl) rfl rfl fun a hF => ?_
        refine q_alloc (cs := [(.int .i64 0), (.int .i64 0), (.int .i64 0), (.int .i64 0)]) hF hS rfl rfl rfl fun a w b10 hF hS => ?_
        refine q_store (vs := [(.int .i64 t_9.1.Ratio.Num), (.int .i64 t_9.1.Ratio.Den), (.int .i64 t_9.1.Rho.Num), (.int .i64 t_9.1.Rho.Den)]) (cs' := [(.int .i64 t_9.1.Ratio.Num), (.int .i64 t_9.1.Ratio.Den), (.int .i64 t_9.1.Rho.Num), (.int .i64 t_9.1.Rho.Den)]) 0 0 hF hS sz26 rfl rfl rfl rfl rfl rfl rfl rfl fun a w hF hS => ?_
        refine q_x (v := (.bool t_9.2)) hF hS (ex_assign rfl) rfl rfl fun a hF => ?_
        refine q_end (n_sq ?_)
        refine q_seq ?_
        refine q_seq ?_
        refine q_region ?_
        refine q_x (v := (.bool t_9.2)) hF hS (ex_move rfl) rfl rfl fun a hF => ?_
        refine q_x (v := (.bool (!t_9.2))) hF hS (ex_not rfl) rfl rfl fun a hF => ?_
        refine q_end (n_sq ?_)
        rcases bcase (!t_9.2) with hc4 | hc4
        · have hb2 := cond_f hc4 hb2
          refine q_cond_f hF rfl hc4 ?_
          refine q_skipc (n_sq ?_)
          refine q_region ?_
          refine q_x (v := (.agg #[(.int .i64 out_8.Ratio.Num), (.int .i64 out_8.Ratio.Den), (.int .i64 out_8.Rho.Num), (.int .i64 out_8.Rho.Den)])) hF hS (ex_loadA (vs := [(.int .i64 out_8.Ratio.Num), (.int .i64 out_8.Ratio.Den), (.int .i64 out_8.Rho.Num), (.int .i64 out_8.Rho.Den)]) 1 0 Try.underlying26 rfl sz26 rfl rfl rfl rfl) rfl rfl fun a hF => ?_
          refine q_x (v := (.agg #[(.int .i64 t_9.1.Ratio.Num), (.int .i64 t_9.1.Ratio.Den), (.int .i64 t_9.1.Rho.Num), (.int .i64 t_9.1.Rho.Den)])) hF hS (ex_loadA (vs := [(.int .i64 t_9.1.Ratio.Num), (.int .i64 t_9.1.Ratio.Den), (.int .i64 t_9.1.Rho.Num), (.int .i64 t_9.1.Rho.Den)]) 0 0 Try.underlying26 rfl sz26 rfl rfl rfl rfl) rfl rfl fun a hF => ?_
          refine q_do rfl fun _ hK => wp_buildSlice' (l := ([out_8, t_9.1] : List impl_Loss)) (cells := [(.int .i64 out_8.Ratio.Num), (.int .i64 out_8.Ratio.Den), (.int .i64 out_8.Rho.Num), (.int .i64 out_8.Rho.Den), (.int .i64 t_9.1.Ratio.Num), (.int .i64 t_9.1.Ratio.Den), (.int .i64 t_9.1.Rho.Num), (.int .i64 t_9.1.Rho.Den)]) hF hS Try.underlying33 inf26 rfl rfl (by kernel_rfl) rfl rfl rfl ⟨rfl, rfl, rfl⟩ rfl rfl fun a w q11 s11 hF hS h11 _ => hK _ _ ?_
          obtain ⟨m13, hl13, hv13, hz13⟩ := hS.lend
          obtain ⟨t_12, ht_12, hb2⟩ := bindS hb2
          refine q_call (vs := [s11.v]) hF hS Try.func111 (by kernel_rfl) rfl rfl rfl (c_spec_pParallel ([out_8, t_9.1] : List impl_Loss) t_12 ht_12 _ m13 hv13 s11 (h11.froz hl13 (hz13 0 _ rfl))) ?_
          rintro a w _ rfl hF hS
          refine q_store (vs := [(.int .i64 t_12.Ratio.Num), (.int .i64 t_12.Ratio.Den), (.int .i64 t_12.Rho.Num), (.int .i64 t_12.Rho.Den)]) (cs' := [(.int .i64 t_12.Ratio.Num), (.int .i64 t_12.Ratio.Den), (.int .i64 t_12.Rho.Num), (.int .i64 t_12.Rho.Den)]) 2 0 hF hS sz26 rfl rfl rfl rfl rfl rfl rfl rfl fun a w hF hS => ?_
          refine q_end (n_ib (n_sq ?_))
          refine q_region ?_
          refine q_x (v := (.int .i64 scope_7)) hF hS (ex_move rfl) rfl rfl fun a hF => ?_
          refine q_x (v := (.int .i64 (w64 (scope_7 + 1)))) hF hS (ex_ibin rfl rfl rfl) rfl rfl fun a hF => ?_
          refine q_x (v := (.int .i64 (w64 (scope_7 + 1)))) hF hS (ex_assign rfl) rfl rfl fun a hF => ?_
          refine q_end ?_
          obtain rfl := someI hb2
          exact ⟨rfl, _, _, rfl, hF.sub ⟨rfl, rfl, rfl, rfl, rfl, trivial⟩, hS.mask [false, false, true, true, true]⟩
        · have hb2 := cond_t hc4 hb2
          refine q_cond_t hF rfl hc4 ?_
          refine q_seq ?_
          refine q_region ?_
          refine q_x (v := (.agg #[(.int .i64 0), (.int .i64 0), (.int .i64 0), (.int .i64 0)])) hF hS (ex_build (cells := [(.int .i64 0), (.int .i64 0), (.int .i64 0), (.int .i64 0)]) rfl (by kernel_rfl)) rfl rfl fun a hF => ?_
          refine q_store (vs := [(.int .i64 0), (.int .i64 0), (.int .i64 0), (.int .i64 0)]) (cs' := [(.int .i64 0), (.int .i64 0), (.int .i64 0), (.int .i64 0)]) 3 0 hF hS sz26 rfl rfl rfl rfl rfl rfl rfl rfl fun a w hF hS => ?_
          refine q_x (v := (.bool false)) hF hS (ex_assign rfl) rfl rfl fun a hF => ?_
          refine q_end (n_sq (q_ret (r_sq (r_ib (r_sq ?_)))))
          obtain rfl := someI hb2
          refine ⟨nofun, .inr fun ho => ?_⟩
          subst ho
          refine r_ib (r_sq ?_)
          obtain rfl := someI hr
          exact ret_of hF hS rfl (.cellA (us := [(.int .i64 0), (.int .i64 0), (.int .i64 0), (.int .i64 0)]) 3 0 Try.underlying26 rfl sz26 rfl rfl rfl rfl (.tmp rfl .nil)) rfl
    · rintro e a w ⟨out_14, rfl, rfl, hF, hS⟩
      refine x_ib (n_sq ?_)
      refine q_seq ?_
      refine q_region ?_
      refine q_x (v := (.agg #[(.int .i64 out_14.Ratio.Num), (.int .i64 out_14.Ratio.Den), (.int .i64 out_14.Rho.Num), (.int .i64 out_14.Rho.Den)])) hF hS (ex_loadA (vs := [(.int .i64 out_14.Ratio.Num), (.int .i64 out_14.Ratio.Den), (.int .i64 out_14.Rho.Num), (.int .i64 out_14.Rho.Den)]) 0 0 Try.underlying26 rfl sz26 rfl rfl rfl rfl) rfl rfl fun a hF => ?_
      refine q_store (vs := [(.int .i64 out_14.Ratio.Num), (.int .i64 out_14.Ratio.Den), (.int .i64 out_14.Rho.Num), (.int .i64 out_14.Rho.Den)]) (cs' := [(.int .i64 out_14.Ratio.Num), (.int .i64 out_14.Ratio.Den), (.int .i64 out_14.Rho.Num), (.int .i64 out_14.Rho.Den)]) 1 0 hF hS sz26 rfl rfl rfl rfl rfl rfl rfl rfl fun a w hF hS => ?_
      refine q_x (v := (.bool true)) hF hS (ex_assign rfl) rfl rfl fun a hF => ?_
      refine q_end (n_sq (q_ret ?_))
      obtain rfl := someI hr
      exact ret_of hF hS rfl (.cellA (us := [(.int .i64 out_14.Ratio.Num), (.int .i64 out_14.Ratio.Den), (.int .i64 out_14.Rho.Num), (.int .i64 out_14.Rho.Den)]) 1 0 Try.underlying26 rfl sz26 rfl rfl rfl rfl (.tmp rfl .nil)) rfl
  · have hr := cond_t hc1 hr
    refine q_cond_t hF rfl hc1 ?_
    refine q_seq ?_
    refine q_region ?_
    refine q_x (v := (.agg #[(.int .i64 0), (.int .i64 0), (.int .i64 0), (.int .i64 0)])) hF hS (ex_build (cells := [(.int .i64 0), (.int .i64 0), (.int .i64 0), (.int .i64 0)]) rfl (by kernel_rfl)) rfl rfl fun a hF => ?_
    refine q_store (vs := [(.int .i64 0), (.int .i64 0), (.int .i64 0), (.int .i64 0)]) (cs' := [(.int .i64 0), (.int .i64 0), (.int .i64 0), (.int .i64 0)]) 1 0 hF hS sz26 rfl rfl rfl rfl rfl rfl rfl rfl fun a w hF hS => ?_
    refine q_x (v := (.bool false)) hF hS (ex_assign rfl) rfl rfl fun a hF => ?_
    refine q_end (n_sq (q_ret (r_sq ?_)))
    obtain rfl := someI hr
    exact ret_of hF hS rfl (.cellA (us := [(.int .i64 0), (.int .i64 0), (.int .i64 0), (.int .i64 0)]) 1 0 Try.underlying26 rfl sz26 rfl rfl rfl rfl (.tmp rfl .nil)) rfl

theorem c_spec_pWithin (p_budget : impl_Loss) (p_x : impl_Loss) (r : Bool) (hr : spec_pWithin p_budget p_x = some r) (w0 : World) (m : Mem) (hv : Vis m w0) :
    Ret Try.prog 83 [(.agg #[(.int .i64 p_budget.Ratio.Num), (.int .i64 p_budget.Ratio.Den), (.int .i64 p_budget.Rho.Num), (.int .i64 p_budget.Rho.Den)]), (.agg #[(.int .i64 p_x.Ratio.Num), (.int .i64 p_x.Ratio.Den), (.int .i64 p_x.Rho.Num), (.int .i64 p_x.Rho.Den)])] w0 (fun v _ => v = (.bool r)) := by
  unfold spec_pWithin at hr
  refine ret_start Try.func83 rfl 19 rfl rfl m hv fun a hF hS => ?_
  refine q_seq ?_
  refine q_region ?_
  refine q_box (cs := [(.int .i64 p_budget.Ratio.Num), (.int .i64 p_budget.Ratio.Den), (.int .i64 p_budget.Rho.Num), (.int .i64 p_budget.Rho.Den)]) hF hS rfl rfl rfl fun a w b1 hF hS => ?_
  refine q_box (cs := [(.int .i64 p_x.Ratio.Num), (.int .i64 p_x.Ratio.Den), (.int .i64 p_x.Rho.Num), (.int .i64 p_x.Rho.Den)]) hF hS rfl rfl rfl fun a w b2 hF hS => ?_
  refine q_x (v := (.bool false)) hF hS (ex_assign rfl) rfl rfl fun a hF => ?_
  refine q_end (n_sq ?_)
  refine q_seq ?_
  obtain ⟨t_5, hj1, hr⟩ := bindS hr
  refine q_join (fun a w => Fr a 19 [(4, (.bool t_5))] ∧ St [] w0 w m []) ?_ ?_
  · refine q_region ?_
    refine q_x (v := (.pointer (some ⟨b2, 0, none⟩))) hF hS (ex_fieldAddr Try.underlying26 rfl sz24 rfl rfl) rfl rfl fun a hF => ?_
    refine q_x (v := (.agg #[(.int .i64 p_x.Ratio.Num), (.int .i64 p_x.Ratio.Den)])) hF hS (ex_loadA (vs := [(.int .i64 p_x.Ratio.Num), (.int .i64 p_x.Ratio.Den)]) 0 0 Try.underlying24 rfl sz24 rfl rfl rfl rfl) rfl rfl fun a hF => ?_
    refine q_x (v := (.pointer (some ⟨b1, 0, none⟩))) hF hS (ex_fieldAddr Try.underlying26 rfl sz24 rfl rfl) rfl rfl fun a hF => ?_
    refine q_x (v := (.agg #[(.int .i64 p_budget.Ratio.Num), (.int .i64 p_budget.Ratio.Den)])) hF hS (ex_loadA (vs := [(.int .i64 p_budget.Ratio.Num), (.int .i64 p_budget.Ratio.Den)]) 1 0 Try.underlying24 rfl sz24 rfl rfl rfl rfl) rfl rfl fun a hF => ?_
    obtain ⟨t_3, ht_3, hj1⟩ := bindS hj1
    refine q_call (vs := [(.agg #[(.int .i64 p_x.Ratio.Num), (.int .i64 p_x.Ratio.Den)]), (.agg #[(.int .i64 p_budget.Ratio.Num), (.int .i64 p_budget.Ratio.Den)])]) hF hS Try.func131 (by kernel_rfl) rfl rfl rfl (c_spec_fCmp p_x.Ratio p_budget.Ratio t_3 ht_3 _ m hS.vis) ?_
    rintro a w _ rfl hF hS
    refine q_x (v := (.bool (decide (t_3 ≤ 0)))) hF hS (ex_ibin rfl rfl rfl) rfl rfl fun a hF => ?_
    refine q_x (v := (.bool (decide (t_3 ≤ 0)))) hF hS (ex_move rfl) rfl rfl fun a hF => ?_
    rcases bcase (decide (t_3 ≤ 0)) with hc2 | hc2
    · have hj1 := cond_f hc2 hj1
      refine q_skip hF (wanted_f hF rfl rfl rfl hc2 rfl) rfl fun a hF => ?_
      refine q_skip hF (wanted_f hF rfl rfl rfl hc2 rfl) rfl fun a hF => ?_
      refine q_skip hF (wanted_f hF rfl rfl rfl hc2 rfl) rfl fun a hF => ?_
      refine q_skip hF (wanted_f hF rfl rfl rfl hc2 rfl) rfl fun a hF => ?_
      refine q_skip hF (wanted_f hF rfl rfl rfl hc2 rfl) rfl fun a hF => ?_
      refine q_skip hF (wanted_f hF rfl rfl rfl hc2 rfl) rfl fun a hF => ?_
      refine q_x (v := (.bool false)) hF hS (ex_pick_f rfl rfl hc2) rfl rfl fun a hF => ?_
      refine q_x (v := (.bool false)) hF hS (ex_assign rfl) rfl rfl fun a hF => ?_
      refine q_end (n_jn ?_)
      obtain rfl := someI hj1
      exact ⟨hF.sub ⟨rfl, trivial⟩, hS.mask [false, false]⟩
    · have hj1 := cond_t hc2 hj1
      refine q_xg (v := (.pointer (some ⟨b2, 2, none⟩))) hF hS (ex_fieldAddr Try.underlying26 rfl sz24 rfl rfl) (wanted_t hF rfl rfl rfl hc2) rfl fun a hF => ?_
      refine q_xg (v := (.agg #[(.int .i64 p_x.Rho.Num), (.int .i64 p_x.Rho.Den)])) hF hS (ex_loadA (vs := [(.int .i64 p_x.Rho.Num), (.int .i64 p_x.Rho.Den)]) 0 0 Try.underlying24 rfl sz24 rfl rfl rfl rfl) (wanted_t hF rfl rfl rfl hc2) rfl fun a hF => ?_
      refine q_xg (v := (.pointer (some ⟨b1, 2, none⟩))) hF hS (ex_fieldAddr Try.underlying26 rfl sz24 rfl rfl) (wanted_t hF rfl rfl rfl hc2) rfl fun a hF => ?_
      refine q_xg (v := (.agg #[(.int .i64 p_budget.Rho.Num), (.int .i64 p_budget.Rho.Den)])) hF hS (ex_loadA (vs := [(.int .i64 p_budget.Rho.Num), (.int .i64 p_budget.Rho.Den)]) 1 0 Try.underlying24 rfl sz24 rfl rfl rfl rfl) (wanted_t hF rfl rfl rfl hc2) rfl fun a hF => ?_
      obtain ⟨t_4, ht_4, hj1⟩ := bindS hj1
      refine q_callg (vs := [(.agg #[(.int .i64 p_x.Rho.Num), (.int .i64 p_x.Rho.Den)]), (.agg #[(.int .i64 p_budget.Rho.Num), (.int .i64 p_budget.Rho.Den)])]) hF hS (wanted_t hF rfl rfl rfl hc2) Try.func131 (by kernel_rfl) rfl rfl rfl (c_spec_fCmp p_x.Rho p_budget.Rho t_4 ht_4 _ m hS.vis) ?_
      rintro a w _ rfl hF hS
      refine q_xg (v := (.bool (decide (t_4 ≤ 0)))) hF hS (ex_ibin rfl rfl rfl) (wanted_t hF rfl rfl rfl hc2) rfl fun a hF => ?_
      refine q_x (v := (.bool (decide (t_4 ≤ 0)))) hF hS (ex_pick_t rfl rfl hc2) rfl rfl fun a hF => ?_
      refine q_x (v := (.bool (decide (t_4 ≤ 0)))) hF hS (ex_assign rfl) rfl rfl fun a hF => ?_
      refine q_end (n_jn ?_)
      obtain rfl := someI hj1
      exact ⟨hF.sub ⟨rfl, trivial⟩, hS.mask [false, false]⟩
  · rintro a w ⟨hF, hS⟩
    refine n_sq (q_ret ?_)
    obtain rfl := someI hr
    exact ret_of hF hS rfl (.tmp rfl .nil) rfl

theorem c_spec_AcceptEntries (p_budget : impl_Loss) (p_l : List impl_Entry) (r : (List Int) × Bool) (hr : spec_AcceptEntries p_budget p_l = some r) (w0 : World) (m : Mem) (hv : Vis m w0) (s1 : Sl) (h1 : Rd m s1 p_l) :
    Ret Try.prog 20 [(.agg #[(.int .i64 p_budget.Ratio.Num), (.int .i64 p_budget.Ratio.Den), (.int .i64 p_budget.Rho.Num), (.int .i64 p_budget.Rho.Den)]), s1.v] w0 (fun v w => ∃ (q0' : Piece) (s0' : Sl), v = (.tuple #[s0'.v, (.bool r.2)]) ∧ St [] w0 w m [q0'] ∧ OwnL m 3 q0' s0' r.1) := by
  unfold spec_AcceptEntries at hr
  refine ret_start Try.func20 rfl 52 rfl rfl m hv fun a hF hS => ?_
  refine q_seq ?_
  refine q_region ?_
  refine q_box (cs := [(.int .i64 p_budget.Ratio.Num), (.int .i64 p_budget.Ratio.Den), (.int .i64 p_budget.Rho.Num), (.int .i64 p_budget.Rho.Den)]) hF hS rfl rfl rfl fun a w b2 hF hS => ?_
  refine q_x (v := nilS.v) hF hS (ex_assign rfl) rfl rfl fun a hF => ?_
  refine q_x (v := (.bool false)) hF hS (ex_assign rfl) rfl rfl fun a hF => ?_
  refine q_end (n_sq ?_)
  refine q_seq ?_
  refine q_seq ?_
  obtain ⟨t_5, hj1, hr⟩ := bindS hr
  refine q_join (fun a w => Fr a 52 [(1, s1.v), (2, (.pointer (some ⟨b2, 0, none⟩))), (20, (.bool t_5))] ∧ St [] w0 w m [[⟨b2, [(.int .i64 p_budget.Ratio.Num), (.int .i64 p_budget.Ratio.Den), (.int .i64 p_budget.Rho.Num), (.int .i64 p_budget.Rho.Den)], 26⟩]]) ?_ ?_
  · refine q_region ?_
    refine q_x (v := (.agg #[(.int .i64 p_budget.Ratio.Num), (.int .i64 p_budget.Ratio.Den), (.int .i64 p_budget.Rho.Num), (.int .i64 p_budget.Rho.Den)])) hF hS (ex_loadA (vs := [(.int .i64 p_budget.Ratio.Num), (.int .i64 p_budget.Ratio.Den), (.int .i64 p_budget.Rho.Num), (.int .i64 p_budget.Rho.Den)]) 0 0 Try.underlying26 rfl sz26 rfl rfl rfl rfl) rfl rfl fun a hF => ?_
    obtain ⟨t_3, ht_3, hj1⟩ := bindS hj1
    refine q_call (vs := [(.agg #[(.int .i64 p_budget.Ratio.Num), (.int .i64 p_budget.Ratio.Den), (.int .i64 p_budget.Rho.Num), (.int .i64 p_budget.Rho.Den)])]) hF hS Try.func82 (by kernel_rfl) rfl rfl rfl (c_spec_pGood p_budget t_3 ht_3 _ m hS.vis) ?_
    rintro a w _ rfl hF hS
    refine q_x (v := (.bool (!t_3))) hF hS (ex_not rfl) rfl rfl fun a hF => ?_
    refine q_x (v := (.bool (!t_3))) hF hS (ex_move rfl) rfl rfl fun a hF => ?_
    rcases bcase (!t_3) with hc2 | hc2
    · have hj1 := cond_f hc2 hj1
      refine q_xg (v := s1.v) hF hS (ex_move rfl) (wanted_t hF rfl rfl rfl hc2) rfl fun a hF => ?_
      obtain ⟨t_4, ht_4, hj1⟩ := bindS hj1
      refine q_callg (vs := [s1.v]) hF hS (wanted_t hF rfl rfl rfl hc2) Try.func97 (by kernel_rfl) rfl rfl rfl (c_spec_pEntries p_l t_4 ht_4 _ m hS.vis s1 h1) ?_
      rintro a w _ rfl hF hS
      refine q_xg (v := (.bool (!t_4))) hF hS (ex_not rfl) (wanted_t hF rfl rfl rfl hc2) rfl fun a hF => ?_
      refine q_x (v := (.bool (!t_4))) hF hS (ex_pick_f rfl rfl hc2) rfl rfl fun a hF => ?_
      refine q_end (n_jn ?_)
      obtain rfl := someI hj1
      exact ⟨hF.sub ⟨rfl, rfl, rfl, trivial⟩, hS⟩
    · have hj1 := cond_t hc2 hj1
      refine q_skip hF (wanted_f hF rfl rfl rfl hc2 rfl) rfl fun a hF => ?_
      refine q_skip hF (wanted_f hF rfl rfl rfl hc2 rfl) rfl fun a hF => ?_
      refine q_skip hF (wanted_f hF rfl rfl rfl hc2 rfl) rfl fun a hF => ?_
      refine q_x (v := (.bool true)) hF hS (ex_pick_t rfl rfl hc2) rfl rfl fun a hF => ?_
      refine q_end (n_jn ?_)
      obtain rfl := someI hj1
      exact ⟨hF.sub ⟨rfl, rfl, rfl, trivial⟩, hS⟩
  · rintro a w ⟨hF, hS⟩
    refine n_sq ?_
    rcases bcase (t_5) with hc3 | hc3
    · have hr := cond_f hc3 hr
      refine q_cond_f hF rfl hc3 ?_
      refine q_skipc (n_sq ?_)
      refine q_seq ?_
      refine q_region ?_
      refine q_x (v := nilS.v) hF hS (ex_assign rfl) rfl rfl fun a hF => ?_
      refine q_end (n_sq ?_)
      refine q_seq ?_
      refine q_region ?_
      refine q_x (v := nilS.v) hF hS (ex_assign rfl) rfl rfl fun a hF => ?_
      refine q_end (n_sq ?_)
      refine q_seq ?_
      refine q_seq ?_
      refine q_region ?_
      refine q_x (v := s1.v) hF hS (ex_move rfl) rfl rfl fun a hF => ?_
      refine q_x (v := (.int .i64 (goLen p_l))) hF hS (ex_len Try.underlying39 rfl h1.len) rfl rfl fun a hF => ?_
      refine q_x (v := (.int .i64 0)) hF hS (ex_move rfl) rfl rfl fun a hF => ?_
      refine q_end (n_sq ?_)
      refine q_block ?_
      obtain ⟨out_36, hl4, hr⟩ := bindS hr
      refine q_loop (fun (s : (List Int) × (List impl_Entry) × Int) a w => ∃ (q7 : Piece), ∃ (s7 : Sl), ∃ (q9 : Piece), ∃ (s9 : Sl), ∃ out_6, ∃ kept_8, ∃ t_10, s = (out_6, kept_8, t_10) ∧ Fr a 52 [(2, (.pointer (some ⟨b2, 0, none⟩))), (6, s7.v), (7, s9.v), (21, s1.v), (22, (.int .i64 (goLen p_l))), (23, (.int .i64 t_10))] ∧ St [] w0 w m [q7, q9, [⟨b2, [(.int .i64 p_budget.Ratio.Num), (.int .i64 p_budget.Ratio.Den), (.int .i64 p_budget.Rho.Num), (.int .i64 p_budget.Rho.Den)], 26⟩]] ∧ OwnL m 3 q7 s7 out_6 ∧ OwnL m 49 q9 s9 kept_8) (fun (out_36 : (List Int)) e a w => ∃ (q37 : Piece), ∃ (s37 : Sl), e = .exit 0 ∧ Fr a 52 [(6, s37.v)] ∧ St [] w0 w m [q37] ∧ OwnL m 3 q37 s37 out_36) hl4 ⟨[], nilS, [], nilS, _, _, _, rfl, hF.sub ⟨rfl, rfl, rfl, rfl, rfl, rfl, trivial⟩, hS.sel [1, 2, 0] (by decide), (OwnL.nil (α := Int) m 3), (OwnL.nil (α := impl_Entry) m 49)⟩ ?_ ?_
      · clear hF hS
        rintro s a w st ⟨q7, s7, q9, s9, out_6, kept_8, t_10, rfl, hF, hS, h7, h9⟩ hb4
        unfold spec_AcceptEntries_l1 at hb4
        refine q_seq ?_
        refine q_region ?_
        refine q_x (v := (.bool (decide (t_10 < (goLen p_l))))) hF hS (ex_ibin rfl rfl rfl) rfl rfl fun a hF => ?_
        refine q_end (n_sq ?_)
        refine q_seq ?_
        rcases bcase (decide (t_10 < (goLen p_l))) with hc5 | hc5
        · have hb4 := cond_f hc5 hb4
          refine q_cond_f hF rfl hc5 ?_
          refine q_exit (x_sq ?_)
          obtain rfl := someI hb4
          exact ⟨nofun, .inl ⟨q7, s7, rfl, hF.sub ⟨rfl, trivial⟩, hS.mask [true, false, false], h7⟩⟩
        · have hb4 := cond_t hc5 hb4
          refine q_cond_t hF rfl hc5 ?_
          refine q_skipc (n_sq ?_)
          refine q_seq ?_
          refine q_block ?_
          refine q_seq ?_
          refine q_region ?_
          refine q_x (v := (.int .i64 t_10)) hF hS (ex_move rfl) rfl rfl fun a hF => ?_
          obtain ⟨e_11, he_11, hb4⟩ := bindS hb4
          obtain ⟨vs12, at12, d12⟩ := h1.at he_11 5 rfl
          obtain rfl : vs12 = [(.int .i64 e_11.Scope), (.int .i64 e_11.Loss.Ratio.Num), (.int .i64 e_11.Loss.Ratio.Den), (.int .i64 e_11.Loss.Rho.Num), (.int .i64 e_11.Loss.Rho.Den)] := d12
          refine q_x (v := (elP s1 (t_10.toNat * 5))) hF hS (ex_indexAddr Try.underlying39 sz49 rfl rfl (h1.idx he_11)) rfl rfl fun a hF => ?_
          refine q_x (v := (.agg #[(.int .i64 e_11.Scope), (.int .i64 e_11.Loss.Ratio.Num), (.int .i64 e_11.Loss.Ratio.Den), (.int .i64 e_11.Loss.Rho.Num), (.int .i64 e_11.Loss.Rho.Den)])) hF hS (ex_loadEA (us := [(.int .i64 e_11.Scope), (.int .i64 e_11.Loss.Ratio.Num), (.int .i64 e_11.Loss.Ratio.Den), (.int .i64 e_11.Loss.Rho.Num), (.int .i64 e_11.Loss.Rho.Den)]) 0 Try.underlying49 rfl sz49 rfl ((at12).at) rfl rfl rfl) rfl rfl fun a hF => ?_
          refine q_alloc (cs := [(.int .i64 0), (.int .i64 0), (.int .i64 0), (.int .i64 0), (.int .i64 0)]) hF hS rfl rfl rfl fun a w b13 hF hS => ?_
          refine q_x (v := (.int .i64 t_10)) hF hS (ex_assign rfl) rfl rfl fun a hF => ?_
          refine q_store (vs := [(.int .i64 e_11.Scope), (.int .i64 e_11.Loss.Ratio.Num), (.int .i64 e_11.Loss.Ratio.Den), (.int .i64 e_11.Loss.Rho.Num), (.int .i64 e_11.Loss.Rho.Den)]) (cs' := [(.int .i64 e_11.Scope), (.int .i64 e_11.Loss.Ratio.Num), (.int .i64 e_11.Loss.Ratio.Den), (.int .i64 e_11.Loss.Rho.Num), (.int .i64 e_11.Loss.Rho.Den)]) 0 0 hF hS sz49 rfl rfl rfl rfl rfl rfl rfl rfl fun a w hF hS => ?_
          refine q_end (n_sq ?_)
          refine q_seq ?_
          obtain ⟨next_22, hj6, hb4⟩ := bindS hb4
          refine q_join (fun a w => ∃ (q23 : Piece), ∃ (s23 : Sl), Fr a 52 [(2, (.pointer (some ⟨b2, 0, none⟩))), (6, s7.v), (7, s9.v), (8, (.int .i64 t_10)), (10, s23.v), (21, s1.v), (22, (.int .i64 (goLen p_l))), (23, (.int .i64 t_10))] ∧ St [] w0 w m [q7, q9, q23, [⟨b2, [(.int .i64 p_budget.Ratio.Num), (.int .i64 p_budget.Ratio.Den), (.int .i64 p_budget.Rho.Num), (.int .i64 p_budget.Rho.Den)], 26⟩]] ∧ OwnL m 49 q23 s23 next_22) ?_ ?_
          · refine e_region [2, 5] mixed fun w' hw' => ?_
            have hS := hS.below hw'
            refine e_p (v := s9.v) 1 hF rfl (ex_move rfl) rfl rfl (by kernel_rfl) (by kernel_rfl) (by kernel_rfl) fun a hF => ?_
            obtain ⟨l_17, hl_17, hj6⟩ := bindS hj6
            obtain ⟨l_20, hl_20, hj6⟩ := bindS hj6
            refine e_all [0, 3] (by kernel_rfl) rfl ⟨?_, ?_, trivial⟩
            · refine e_op rfl rfl fun _ hK => wp_build0 (α := impl_Entry) hF hS Try.underlying39 inf49 rfl fun a w q16 s16 hF hS h16 hb => hK _ _ hb ?_
              refine e_all [2, 3] (by kernel_rfl) rfl ⟨?_, ?_, trivial⟩
              · refine e_opl rfl rfl rfl fun _ hK => wp_append hF hS h16 Try.underlying39 inf49 rfl rfl rfl rfl (h9.vw hS (j := 3) rfl) rfl (by decide) hl_17 rfl fun a w q18 s18 hF hS h18 => hK _ _ ?_
                refine e_one 3 (by kernel_rfl) ?_
                refine e_lx (v := (.agg #[(.int .i64 e_11.Scope), (.int .i64 e_11.Loss.Ratio.Num), (.int .i64 e_11.Loss.Ratio.Den), (.int .i64 e_11.Loss.Rho.Num), (.int .i64 e_11.Loss.Rho.Den)])) hF hS rfl (ex_loadA (vs := [(.int .i64 e_11.Scope), (.int .i64 e_11.Loss.Ratio.Num), (.int .i64 e_11.Loss.Ratio.Den), (.int .i64 e_11.Loss.Rho.Num), (.int .i64 e_11.Loss.Rho.Den)]) 1 0 Try.underlying49 rfl sz49 rfl rfl rfl rfl) rfl rfl fun a hF => ?_
                refine e_one 4 (by kernel_rfl) ?_
                refine e_op rfl rfl fun _ hK => wp_buildSlice' (l := ([e_11] : List impl_Entry)) (cells := [(.int .i64 e_11.Scope), (.int .i64 e_11.Loss.Ratio.Num), (.int .i64 e_11.Loss.Ratio.Den), (.int .i64 e_11.Loss.Rho.Num), (.int .i64 e_11.Loss.Rho.Den)]) hF hS Try.underlying39 inf49 rfl rfl (by kernel_rfl) rfl rfl rfl ⟨rfl, rfl⟩ rfl rfl fun a w q19 s19 hF hS h19 hb => hK _ _ hb ?_
                refine e_one 5 (by kernel_rfl) ?_
                have hS : St _ _ _ _ [q18, q19, [⟨b13, [(.int .i64 e_11.Scope), (.int .i64 e_11.Loss.Ratio.Num), (.int .i64 e_11.Loss.Ratio.Den), (.int .i64 e_11.Loss.Rho.Num), (.int .i64 e_11.Loss.Rho.Den)], 49⟩], q7, q9, [⟨b2, [(.int .i64 p_budget.Ratio.Num), (.int .i64 p_budget.Ratio.Den), (.int .i64 p_budget.Rho.Num), (.int .i64 p_budget.Rho.Den)], 26⟩]] := hS.sel [1, 0, 2, 3, 4, 5] (by decide)
                refine e_opl rfl rfl rfl fun _ hK => wp_append hF hS h18 Try.underlying39 inf49 rfl rfl rfl rfl (h19.vw hS (j := 1) rfl) rfl (by decide) hl_20 rfl fun a w q21 s21 hF hS h21 => hK _ _ ?_
                refine e_p (v := s21.v) 6 hF rfl (ex_assign rfl) rfl rfl (by kernel_rfl) (by kernel_rfl) (by kernel_rfl) fun a hF => ?_
                refine e_end (by kernel_rfl) (n_jn ?_) _
                obtain rfl := someI hj6
                exact ⟨q21, s21, hF.sub ⟨rfl, rfl, rfl, rfl, rfl, rfl, rfl, rfl, trivial⟩, hS.sel [3, 4, 0, 5] (by decide), h21⟩
              · refine e_lx (v := (.agg #[(.int .i64 e_11.Scope), (.int .i64 e_11.Loss.Ratio.Num), (.int .i64 e_11.Loss.Ratio.Den), (.int .i64 e_11.Loss.Rho.Num), (.int .i64 e_11.Loss.Rho.Den)])) hF hS rfl (ex_loadA (vs := [(.int .i64 e_11.Scope), (.int .i64 e_11.Loss.Ratio.Num), (.int .i64 e_11.Loss.Ratio.Den), (.int .i64 e_11.Loss.Rho.Num), (.int .i64 e_11.Loss.Rho.Den)]) 1 0 Try.underlying49 rfl sz49 rfl rfl rfl rfl) rfl rfl fun a hF => ?_
                refine e_all [2, 4] (by kernel_rfl) rfl ⟨?_, ?_, trivial⟩
                · refine e_opl rfl rfl rfl fun _ hK => wp_append hF hS h16 Try.underlying39 inf49 rfl rfl rfl rfl (h9.vw hS (j := 3) rfl) rfl (by decide) hl_17 rfl fun a w q18 s18 hF hS h18 => hK _ _ ?_
                  refine e_one 4 (by kernel_rfl) ?_
                  refine e_op rfl rfl fun _ hK => wp_buildSlice' (l := ([e_11] : List impl_Entry)) (cells := [(.int .i64 e_11.Scope), (.int .i64 e_11.Loss.Ratio.Num), (.int .i64 e_11.Loss.Ratio.Den), (.int .i64 e_11.Loss.Rho.Num), (.int .i64 e_11.Loss.Rho.Den)]) hF hS Try.underlying39 inf49 rfl rfl (by kernel_rfl) rfl rfl rfl ⟨rfl, rfl⟩ rfl rfl fun a w q19 s19 hF hS h19 hb => hK _ _ hb ?_
                  refine e_one 5 (by kernel_rfl) ?_
                  have hS : St _ _ _ _ [q18, q19, [⟨b13, [(.int .i64 e_11.Scope), (.int .i64 e_11.Loss.Ratio.Num), (.int .i64 e_11.Loss.Ratio.Den), (.int .i64 e_11.Loss.Rho.Num), (.int .i64 e_11.Loss.Rho.Den)], 49⟩], q7, q9, [⟨b2, [(.int .i64 p_budget.Ratio.Num), (.int .i64 p_budget.Ratio.Den), (.int .i64 p_budget.Rho.Num), (.int .i64 p_budget.Rho.Den)], 26⟩]] := hS.sel [1, 0, 2, 3, 4, 5] (by decide)
                  refine e_opl rfl rfl rfl fun _ hK => wp_append hF hS h18 Try.underlying39 inf49 rfl rfl rfl rfl (h19.vw hS (j := 1) rfl) rfl (by decide) hl_20 rfl fun a w q21 s21 hF hS h21 => hK _ _ ?_
                  refine e_p (v := s21.v) 6 hF rfl (ex_assign rfl) rfl rfl (by kernel_rfl) (by kernel_rfl) (by kernel_rfl) fun a hF => ?_
                  refine e_end (by kernel_rfl) (n_jn ?_) _
                  obtain rfl := someI hj6
                  exact ⟨q21, s21, hF.sub ⟨rfl, rfl, rfl, rfl, rfl, rfl, rfl, rfl, trivial⟩, hS.sel [3, 4, 0, 5] (by decide), h21⟩
                · refine e_op rfl rfl fun _ hK => wp_buildSlice' (l := ([e_11] : List impl_Entry)) (cells := [(.int .i64 e_11.Scope), (.int .i64 e_11.Loss.Ratio.Num), (.int .i64 e_11.Loss.Ratio.Den), (.int .i64 e_11.Loss.Rho.Num), (.int .i64 e_11.Loss.Rho.Den)]) hF hS Try.underlying39 inf49 rfl rfl (by kernel_rfl) rfl rfl rfl ⟨rfl, rfl⟩ rfl rfl fun a w q19 s19 hF hS h19 hb => hK _ _ hb ?_
                  refine e_one 2 (by kernel_rfl) ?_
                  have hS : St _ _ _ _ [q16, q19, [⟨b13, [(.int .i64 e_11.Scope), (.int .i64 e_11.Loss.Ratio.Num), (.int .i64 e_11.Loss.Ratio.Den), (.int .i64 e_11.Loss.Rho.Num), (.int .i64 e_11.Loss.Rho.Den)], 49⟩], q7, q9, [⟨b2, [(.int .i64 p_budget.Ratio.Num), (.int .i64 p_budget.Ratio.Den), (.int .i64 p_budget.Rho.Num), (.int .i64 p_budget.Rho.Den)], 26⟩]] := hS.sel [1, 0, 2, 3, 4, 5] (by decide)
                  refine e_opl rfl rfl rfl fun _ hK => wp_append hF hS h16 Try.underlying39 inf49 rfl rfl rfl rfl (h9.vw hS (j := 4) rfl) rfl (by decide) hl_17 rfl fun a w q18 s18 hF hS h18 => hK _ _ ?_
                  refine e_one 5 (by kernel_rfl) ?_
                  refine e_opl rfl rfl rfl fun _ hK => wp_append hF hS h18 Try.underlying39 inf49 rfl rfl rfl rfl (h19.vw hS (j := 1) rfl) rfl (by decide) hl_20 rfl fun a w q21 s21 hF hS h21 => hK _ _ ?_
                  refine e_p (v := s21.v) 6 hF rfl (ex_assign rfl) rfl rfl (by kernel_rfl) (by kernel_rfl) (by kernel_rfl) fun a hF => ?_
                  refine e_end (by kernel_rfl) (n_jn ?_) _
                  obtain rfl := someI hj6
                  exact ⟨q21, s21, hF.sub ⟨rfl, rfl, rfl, rfl, rfl, rfl, rfl, rfl, trivial⟩, hS.sel [3, 4, 0, 5] (by decide), h21⟩
            · refine e_lx (v := (.agg #[(.int .i64 e_11.Scope), (.int .i64 e_11.Loss.Ratio.Num), (.int .i64 e_11.Loss.Ratio.Den), (.int .i64 e_11.Loss.Rho.Num), (.int .i64 e_11.Loss.Rho.Den)])) hF hS rfl (ex_loadA (vs := [(.int .i64 e_11.Scope), (.int .i64 e_11.Loss.Ratio.Num), (.int .i64 e_11.Loss.Ratio.Den), (.int .i64 e_11.Loss.Rho.Num), (.int .i64 e_11.Loss.Rho.Den)]) 0 0 Try.underlying49 rfl sz49 rfl rfl rfl rfl) rfl rfl fun a hF => ?_
              refine e_all [0, 4] (by kernel_rfl) rfl ⟨?_, ?_, trivial⟩
              · refine e_op rfl rfl fun _ hK => wp_build0 (α := impl_Entry) hF hS Try.underlying39 inf49 rfl fun a w q16 s16 hF hS h16 hb => hK _ _ hb ?_
                refine e_all [2, 4] (by kernel_rfl) rfl ⟨?_, ?_, trivial⟩
                · refine e_opl rfl rfl rfl fun _ hK => wp_append hF hS h16 Try.underlying39 inf49 rfl rfl rfl rfl (h9.vw hS (j := 3) rfl) rfl (by decide) hl_17 rfl fun a w q18 s18 hF hS h18 => hK _ _ ?_
                  refine e_one 4 (by kernel_rfl) ?_
                  refine e_op rfl rfl fun _ hK => wp_buildSlice' (l := ([e_11] : List impl_Entry)) (cells := [(.int .i64 e_11.Scope), (.int .i64 e_11.Loss.Ratio.Num), (.int .i64 e_11.Loss.Ratio.Den), (.int .i64 e_11.Loss.Rho.Num), (.int .i64 e_11.Loss.Rho.Den)]) hF hS Try.underlying39 inf49 rfl rfl (by kernel_rfl) rfl rfl rfl ⟨rfl, rfl⟩ rfl rfl fun a w q19 s19 hF hS h19 hb => hK _ _ hb ?_
                  refine e_one 5 (by kernel_rfl) ?_
                  have hS : St _ _ _ _ [q18, q19, [⟨b13, [(.int .i64 e_11.Scope), (.int .i64 e_11.Loss.Ratio.Num), (.int .i64 e_11.Loss.Ratio.Den), (.int .i64 e_11.Loss.Rho.Num), (.int .i64 e_11.Loss.Rho.Den)], 49⟩], q7, q9, [⟨b2, [(.int .i64 p_budget.Ratio.Num), (.int .i64 p_budget.Ratio.Den), (.int .i64 p_budget.Rho.Num), (.int .i64 p_budget.Rho.Den)], 26⟩]] := hS.sel [1, 0, 2, 3, 4, 5] (by decide)
                  refine e_opl rfl rfl rfl fun _ hK => wp_append hF hS h18 Try.underlying39 inf49 rfl rfl rfl rfl (h19.vw hS (j := 1) rfl) rfl (by decide) hl_20 rfl fun a w q21 s21 hF hS h21 => hK _ _ ?_
                  refine e_p (v := s21.v) 6 hF rfl (ex_assign rfl) rfl rfl (by kernel_rfl) (by kernel_rfl) (by kernel_rfl) fun a hF => ?_
                  refine e_end (by kernel_rfl) (n_jn ?_) _
                  obtain rfl := someI hj6
                  exact ⟨q21, s21, hF.sub ⟨rfl, rfl, rfl, rfl, rfl, rfl, rfl, rfl, trivial⟩, hS.sel [3, 4, 0, 5] (by decide), h21⟩
                · refine e_op rfl rfl fun _ hK => wp_buildSlice' (l := ([e_11] : List impl_Entry)) (cells := [(.int .i64 e_11.Scope), (.int .i64 e_11.Loss.Ratio.Num), (.int .i64 e_11.Loss.Ratio.Den), (.int .i64 e_11.Loss.Rho.Num), (.int .i64 e_11.Loss.Rho.Den)]) hF hS Try.underlying39 inf49 rfl rfl (by kernel_rfl) rfl rfl rfl ⟨rfl, rfl⟩ rfl rfl fun a w q19 s19 hF hS h19 hb => hK _ _ hb ?_
                  refine e_one 2 (by kernel_rfl) ?_
                  have hS : St _ _ _ _ [q16, q19, [⟨b13, [(.int .i64 e_11.Scope), (.int .i64 e_11.Loss.Ratio.Num), (.int .i64 e_11.Loss.Ratio.Den), (.int .i64 e_11.Loss.Rho.Num), (.int .i64 e_11.Loss.Rho.Den)], 49⟩], q7, q9, [⟨b2, [(.int .i64 p_budget.Ratio.Num), (.int .i64 p_budget.Ratio.Den), (.int .i64 p_budget.Rho.Num), (.int .i64 p_budget.Rho.Den)], 26⟩]] := hS.sel [1, 0, 2, 3, 4, 5] (by decide)
                  refine e_opl rfl rfl rfl fun _ hK => wp_append hF hS h16 Try.underlying39 inf49 rfl rfl rfl rfl (h9.vw hS (j := 4) rfl) rfl (by decide) hl_17 rfl fun a w q18 s18 hF hS h18 => hK _ _ ?_
                  refine e_one 5 (by kernel_rfl) ?_
                  refine e_opl rfl rfl rfl fun _ hK => wp_append hF hS h18 Try.underlying39 inf49 rfl rfl rfl rfl (h19.vw hS (j := 1) rfl) rfl (by decide) hl_20 rfl fun a w q21 s21 hF hS h21 => hK _ _ ?_
                  refine e_p (v := s21.v) 6 hF rfl (ex_assign rfl) rfl rfl (by kernel_rfl) (by kernel_rfl) (by kernel_rfl) fun a hF => ?_
                  refine e_end (by kernel_rfl) (n_jn ?_) _
                  obtain rfl := someI hj6
                  exact ⟨q21, s21, hF.sub ⟨rfl, rfl, rfl, rfl, rfl, rfl, rfl, rfl, trivial⟩, hS.sel [3, 4, 0, 5] (by decide), h21⟩
              · refine e_op rfl rfl fun _ hK => wp_buildSlice' (l := ([e_11] : List impl_Entry)) (cells := [(.int .i64 e_11.Scope), (.int .i64 e_11.Loss.Ratio.Num), (.int .i64 e_11.Loss.Ratio.Den), (.int .i64 e_11.Loss.Rho.Num), (.int .i64 e_11.Loss.Rho.Den)]) hF hS Try.underlying39 inf49 rfl rfl (by kernel_rfl) rfl rfl rfl ⟨rfl, rfl⟩ rfl rfl fun a w q19 s19 hF hS h19 hb => hK _ _ hb ?_
                refine e_one 0 (by kernel_rfl) ?_
                refine e_op rfl rfl fun _ hK => wp_build0 (α := impl_Entry) hF hS Try.underlying39 inf49 rfl fun a w q16 s16 hF hS h16 hb => hK _ _ hb ?_
                refine e_one 2 (by kernel_rfl) ?_
                refine e_opl rfl rfl rfl fun _ hK => wp_append hF hS h16 Try.underlying39 inf49 rfl rfl rfl rfl (h9.vw hS (j := 4) rfl) rfl (by decide) hl_17 rfl fun a w q18 s18 hF hS h18 => hK _ _ ?_
                refine e_one 5 (by kernel_rfl) ?_
                refine e_opl rfl rfl rfl fun _ hK => wp_append hF hS h18 Try.underlying39 inf49 rfl rfl rfl rfl (h19.vw hS (j := 1) rfl) rfl (by decide) hl_20 rfl fun a w q21 s21 hF hS h21 => hK _ _ ?_
                refine e_p (v := s21.v) 6 hF rfl (ex_assign rfl) rfl rfl (by kernel_rfl) (by kernel_rfl) (by kernel_rfl) fun a hF => ?_
                refine e_end (by kernel_rfl) (n_jn ?_) _
                obtain rfl := someI hj6
                exact ⟨q21, s21, hF.sub ⟨rfl, rfl, rfl, rfl, rfl, rfl, rfl, rfl, trivial⟩, hS.sel [3, 4, 0, 5] (by decide), h21⟩
          · rintro a w ⟨q23, s23, hF, hS, h23⟩
            refine n_sq ?_
            refine q_seq ?_
            refine q_region ?_
            refine q_x (v := s23.v) hF hS (ex_move rfl) rfl rfl fun a hF => ?_
            obtain ⟨m25, hl25, hv25, hz25⟩ := hS.lend
            obtain ⟨t_24, ht_24, hb4⟩ := bindS hb4
            refine q_call (vs := [s23.v]) hF hS Try.func98 (by kernel_rfl) rfl rfl rfl (c_spec_pLedger next_22 t_24 ht_24 _ m25 hv25 s23 (h23.froz hl25 (hz25 2 _ rfl))) ?_
            rintro a w _ rfl hF hS
            refine q_x (v := (.tuple #[(.agg #[(.int .i64 t_24.1.Ratio.Num), (.int .i64 t_24.1.Ratio.Den), (.int .i64 t_24.1.Rho.Num), (.int .i64 t_24.1.Rho.Den)]), (.bool t_24.2)])) hF hS (ex_move rfl) rfl rfl fun a hF => ?_
            refine q_x (v := (.agg #[(.int .i64 t_24.1.Ratio.Num), (.int .i64 t_24.1.Ratio.Den), (.int .i64 t_24.1.Rho.Num), (.int .i64 t_24.1.Rho.Den)])) hF hS (ex_extract rfl rfl) rfl rfl fun a hF => ?_
            refine q_x (v := (.bool t_24.2)) hF hS (ex_extract rfl rfl) rfl rfl fun a hF => ?_
            refine q_alloc (cs := [(.int .i64 0), (.int .i64 0), (.int .i64 0), (.int .i64 0)]) hF hS rfl rfl rfl fun a w b26 hF hS => ?_
            refine q_store (vs := [(.int .i64 t_24.1.Ratio.Num), (.int .i64 t_24.1.Ratio.Den), (.int .i64 t_24.1.Rho.Num), (.int .i64 t_24.1.Rho.Den)]) (cs' := [(.int .i64 t_24.1.Ratio.Num), (.int .i64 t_24.1.Ratio.Den), (.int .i64 t_24.1.Rho.Num), (.int .i64 t_24.1.Rho.Den)]) 0 0 hF hS sz26 rfl rfl rfl rfl rfl rfl rfl rfl fun a w hF hS => ?_
            refine q_x (v := (.bool t_24.2)) hF hS (ex_assign rfl) rfl rfl fun a hF => ?_
            refine q_end (n_sq ?_)
            refine q_seq ?_
            obtain ⟨t_28, hj7, hb4⟩ := bindS hb4
            refine q_join (fun a w => Fr a 52 [(2, (.pointer (some ⟨b2, 0, none⟩))), (6, s7.v), (7, s9.v), (8, (.int .i64 t_10)), (10, s23.v), (21, s1.v), (22, (.int .i64 (goLen p_l))), (23, (.int .i64 t_10)), (44, (.bool t_28))] ∧ St [] w0 w m [q7, q9, q23, [⟨b2, [(.int .i64 p_budget.Ratio.Num), (.int .i64 p_budget.Ratio.Den), (.int .i64 p_budget.Rho.Num), (.int .i64 p_budget.Rho.Den)], 26⟩]]) ?_ ?_
            · refine q_region ?_
              refine q_x (v := (.bool t_24.2)) hF hS (ex_move rfl) rfl rfl fun a hF => ?_
              refine q_x (v := (.bool t_24.2)) hF hS (ex_move rfl) rfl rfl fun a hF => ?_
              rcases bcase (t_24.2) with hc8 | hc8
              · have hj7 := cond_f hc8 hj7
                refine q_skip hF (wanted_f hF rfl rfl rfl hc8 rfl) rfl fun a hF => ?_
                refine q_skip hF (wanted_f hF rfl rfl rfl hc8 rfl) rfl fun a hF => ?_
                refine q_skip hF (wanted_f hF rfl rfl rfl hc8 rfl) rfl fun a hF => ?_
                refine q_x (v := (.bool false)) hF hS (ex_pick_f rfl rfl hc8) rfl rfl fun a hF => ?_
                refine q_end (n_jn ?_)
                obtain rfl := someI hj7
                exact ⟨hF.sub ⟨rfl, rfl, rfl, rfl, rfl, rfl, rfl, rfl, rfl, trivial⟩, hS.mask [false, true, true, true, true]⟩
              · have hj7 := cond_t hc8 hj7
                refine q_xg (v := (.agg #[(.int .i64 p_budget.Ratio.Num), (.int .i64 p_budget.Ratio.Den), (.int .i64 p_budget.Rho.Num), (.int .i64 p_budget.Rho.Den)])) hF hS (ex_loadA (vs := [(.int .i64 p_budget.Ratio.Num), (.int .i64 p_budget.Ratio.Den), (.int .i64 p_budget.Rho.Num), (.int .i64 p_budget.Rho.Den)]) 4 0 Try.underlying26 rfl sz26 rfl rfl rfl rfl) (wanted_t hF rfl rfl rfl hc8) rfl fun a hF => ?_
                refine q_xg (v := (.agg #[(.int .i64 t_24.1.Ratio.Num), (.int .i64 t_24.1.Ratio.Den), (.int .i64 t_24.1.Rho.Num), (.int .i64 t_24.1.Rho.Den)])) hF hS (ex_loadA (vs := [(.int .i64 t_24.1.Ratio.Num), (.int .i64 t_24.1.Ratio.Den), (.int .i64 t_24.1.Rho.Num), (.int .i64 t_24.1.Rho.Den)]) 0 0 Try.underlying26 rfl sz26 rfl rfl rfl rfl) (wanted_t hF rfl rfl rfl hc8) rfl fun a hF => ?_
                obtain ⟨t_27, ht_27, hj7⟩ := bindS hj7
                refine q_callg (vs := [(.agg #[(.int .i64 p_budget.Ratio.Num), (.int .i64 p_budget.Ratio.Den), (.int .i64 p_budget.Rho.Num), (.int .i64 p_budget.Rho.Den)]), (.agg #[(.int .i64 t_24.1.Ratio.Num), (.int .i64 t_24.1.Ratio.Den), (.int .i64 t_24.1.Rho.Num), (.int .i64 t_24.1.Rho.Den)])]) hF hS (wanted_t hF rfl rfl rfl hc8) Try.func83 (by kernel_rfl) rfl rfl rfl (c_spec_pWithin p_budget t_24.1 t_27 ht_27 _ m hS.vis) ?_
                rintro a w _ rfl hF hS
                refine q_x (v := (.bool t_27)) hF hS (ex_pick_t rfl rfl hc8) rfl rfl fun a hF => ?_
                refine q_end (n_jn ?_)
                obtain rfl := someI hj7
                exact ⟨hF.sub ⟨rfl, rfl, rfl, rfl, rfl, rfl, rfl, rfl, rfl, trivial⟩, hS.mask [false, true, true, true, true]⟩
            · rintro a w ⟨hF, hS⟩
              refine n_sq ?_
              obtain ⟨j9, hj9, hb4⟩ := bindS hb4
              refine q_join (fun a w => ∃ (q33 : Piece), ∃ (s33 : Sl), ∃ (q35 : Piece), ∃ (s35 : Sl), ∃ out_32, ∃ kept_34, j9 = (out_32, kept_34) ∧ Fr a 52 [(2, (.pointer (some ⟨b2, 0, none⟩))), (6, s33.v), (7, s35.v), (21, s1.v), (22, (.int .i64 (goLen p_l))), (23, (.int .i64 t_10))] ∧ St [] w0 w m [q33, q35, [⟨b2, [(.int .i64 p_budget.Ratio.Num), (.int .i64 p_budget.Ratio.Den), (.int .i64 p_budget.Rho.Num), (.int .i64 p_budget.Rho.Den)], 26⟩]] ∧ OwnL m 3 q33 s33 out_32 ∧ OwnL m 49 q35 s35 kept_34) ?_ ?_
              · rcases bcase (t_28) with hc10 | hc10
                · have hj9 := cond_f hc10 hj9
                  refine q_cond_f hF rfl hc10 ?_
                  refine q_skipc (n_jn ?_)
                  obtain rfl := someI hj9
                  exact ⟨q7, s7, q9, s9, _, _, rfl, hF.sub ⟨rfl, rfl, rfl, rfl, rfl, rfl, trivial⟩, hS.mask [true, true, false, true], h7, h9⟩
                · have hj9 := cond_t hc10 hj9
                  refine q_cond_t hF rfl hc10 ?_
                  refine q_seq ?_
                  refine q_region ?_
                  refine q_x (v := s23.v) hF hS (ex_move rfl) rfl rfl fun a hF => ?_
                  refine q_x (v := s23.v) hF hS (ex_assign rfl) rfl rfl fun a hF => ?_
                  refine q_end (n_sq ?_)
                  refine q_region ?_
                  refine q_x (v := s7.v) hF hS (ex_move rfl) rfl rfl fun a hF => ?_
                  refine q_x (v := (.int .i64 t_10)) hF hS (ex_move rfl) rfl rfl fun a hF => ?_
                  refine q_do rfl fun _ hK => wp_buildSlice' (l := ([t_10] : List Int)) (cells := [(.int .i64 t_10)]) hF hS Try.underlying42 inf3 rfl rfl (by kernel_rfl) rfl rfl rfl ⟨rfl, rfl⟩ rfl rfl fun a w q29 s29 hF hS h29 _ => hK _ _ ?_
                  have hS : St _ _ _ _ [q7, q29, q9, q23, [⟨b2, [(.int .i64 p_budget.Ratio.Num), (.int .i64 p_budget.Ratio.Den), (.int .i64 p_budget.Rho.Num), (.int .i64 p_budget.Rho.Den)], 26⟩]] := hS.sel [1, 0, 2, 3, 4] (by decide)
                  obtain ⟨l_30, hl_30, hj9⟩ := bindS hj9
                  refine q_do rfl fun _ hK => wp_append hF hS h7 Try.underlying42 inf3 rfl rfl rfl rfl (h29.vw hS (j := 1) rfl) rfl (by decide) hl_30 rfl fun a w q31 s31 hF hS h31 => hK _ _ ?_
                  refine q_x (v := s31.v) hF hS (ex_assign rfl) rfl rfl fun a hF => ?_
                  refine q_end (n_jn ?_)
                  obtain rfl := someI hj9
                  exact ⟨q31, s31, q23, s23, _, _, rfl, hF.sub ⟨rfl, rfl, rfl, rfl, rfl, rfl, trivial⟩, hS.mask [true, false, false, true, true], h31, h23⟩
              · rintro a w ⟨q33, s33, q35, s35, out_32, kept_34, rfl, hF, hS, h33, h35⟩
                refine n_ib (n_sq ?_)
                refine q_region ?_
                refine q_x (v := (.int .i64 (w64 (t_10 + 1)))) hF hS (ex_ibin rfl rfl rfl) rfl rfl fun a hF => ?_
                refine q_x (v := (.int .i64 (w64 (t_10 + 1)))) hF hS (ex_move rfl) rfl rfl fun a hF => ?_
                refine q_end ?_
                obtain rfl := someI hb4
                exact ⟨rfl, q33, s33, q35, s35, _, _, _, rfl, hF.sub ⟨rfl, rfl, rfl, rfl, rfl, rfl, trivial⟩, hS, h33, h35⟩
      · rintro e a w ⟨q37, s37, rfl, hF, hS, h37⟩
        refine x_ib (n_sq ?_)
        refine q_seq ?_
        refine q_region ?_
        refine q_x (v := s37.v) hF hS (ex_move rfl) rfl rfl fun a hF => ?_
        refine q_x (v := s37.v) hF hS (ex_assign rfl) rfl rfl fun a hF => ?_
        refine q_x (v := (.bool true)) hF hS (ex_assign rfl) rfl rfl fun a hF => ?_
        refine q_end (n_sq (q_ret ?_))
        obtain rfl := someI hr
        exact ret_of hF hS rfl (.tmp rfl (.tmp rfl .nil)) ⟨q37, s37, rfl, hS.sel [0] (by decide), h37⟩
    · have hr := cond_t hc3 hr
      refine q_cond_t hF rfl hc3 ?_
      refine q_seq ?_
      refine q_region ?_
      refine q_x (v := nilS.v) hF hS (ex_assign rfl) rfl rfl fun a hF => ?_
      refine q_x (v := (.bool false)) hF hS (ex_assign rfl) rfl rfl fun a hF => ?_
      refine q_end (n_sq (q_ret (r_sq ?_)))
      obtain rfl := someI hr
      exact ret_of hF hS rfl (.tmp rfl (.tmp rfl .nil)) ⟨[], nilS, rfl, hS.sel [1] (by decide), (OwnL.nil (α := Int) m 3)⟩

theorem c_impl_LedgerLoss (p_l : List impl_Entry) (r : impl_Loss × Bool) (hr : impl_LedgerLoss p_l = some r) (w0 : World) (m : Mem) (hv : Vis m w0) (s1 : Sl) (h1 : Rd m s1 p_l) :
    Ret Try.prog 22 [s1.v] w0 (fun v _ => v = (.tuple #[(.agg #[(.int .i64 r.1.Ratio.Num), (.int .i64 r.1.Ratio.Den), (.int .i64 r.1.Rho.Num), (.int .i64 r.1.Rho.Den)]), (.bool r.2)])) := by
  unfold impl_LedgerLoss at hr
  refine ret_start Try.func22 rfl 12 rfl rfl m hv fun a hF hS => ?_
  refine q_seq ?_
  refine q_region ?_
  refine q_alloc (cs := [(.int .i64 0), (.int .i64 0), (.int .i64 0), (.int .i64 0)]) hF hS rfl rfl rfl fun a w b2 hF hS => ?_
  refine q_x (v := (.bool false)) hF hS (ex_assign rfl) rfl rfl fun a hF => ?_
  refine q_end (n_sq ?_)
  refine q_seq ?_
  refine q_seq ?_
  refine q_region ?_
  refine q_x (v := s1.v) hF hS (ex_move rfl) rfl rfl fun a hF => ?_
  obtain ⟨t_3, ht_3, hr⟩ := bindS hr
  refine q_call (vs := [s1.v]) hF hS Try.func95 (by kernel_rfl) rfl rfl rfl (c_impl_areEntries p_l t_3 ht_3 _ m hS.vis s1 h1) ?_
  rintro a w _ rfl hF hS
  refine q_x (v := (.bool (!t_3))) hF hS (ex_not rfl) rfl rfl fun a hF => ?_
  refine q_end (n_sq ?_)
  rcases bcase (!t_3) with hc1 | hc1
  · have hr := cond_f hc1 hr
    refine q_cond_f hF rfl hc1 ?_
    refine q_skipc (n_sq ?_)
    refine q_seq ?_
    refine q_region ?_
    refine q_x (v := s1.v) hF hS (ex_move rfl) rfl rfl fun a hF => ?_
    obtain ⟨t_4, ht_4, hr⟩ := bindS hr
    refine q_call (vs := [s1.v]) hF hS Try.func96 (by kernel_rfl) rfl rfl rfl (c_impl_ledgerLoss p_l t_4 ht_4 _ m hS.vis s1 h1) ?_
    rintro a w _ rfl hF hS
    refine q_x (v := (.agg #[(.int .i64 t_4.1.Ratio.Num), (.int .i64 t_4.1.Ratio.Den), (.int .i64 t_4.1.Rho.Num), (.int .i64 t_4.1.Rho.Den)])) hF hS (ex_extract rfl rfl) rfl rfl fun a hF => ?_
    refine q_x (v := (.bool t_4.2)) hF hS (ex_extract rfl rfl) rfl rfl fun a hF => ?_
    refine q_store (vs := [(.int .i64 t_4.1.Ratio.Num), (.int .i64 t_4.1.Ratio.Den), (.int .i64 t_4.1.Rho.Num), (.int .i64 t_4.1.Rho.Den)]) (cs' := [(.int .i64 t_4.1.Ratio.Num), (.int .i64 t_4.1.Ratio.Den), (.int .i64 t_4.1.Rho.Num), (.int .i64 t_4.1.Rho.Den)]) 0 0 hF hS sz26 rfl rfl rfl rfl rfl rfl rfl rfl fun a w hF hS => ?_
    refine q_x (v := (.bool t_4.2)) hF hS (ex_assign rfl) rfl rfl fun a hF => ?_
    refine q_end (n_sq (q_ret ?_))
    obtain rfl := someI hr
    exact ret_of hF hS rfl (.cellA (us := [(.int .i64 t_4.1.Ratio.Num), (.int .i64 t_4.1.Ratio.Den), (.int .i64 t_4.1.Rho.Num), (.int .i64 t_4.1.Rho.Den)]) 0 0 Try.underlying26 rfl sz26 rfl rfl rfl rfl (.tmp rfl .nil)) rfl
  · have hr := cond_t hc1 hr
    refine q_cond_t hF rfl hc1 ?_
    refine q_seq ?_
    refine q_region ?_
    refine q_x (v := (.agg #[(.int .i64 0), (.int .i64 0), (.int .i64 0), (.int .i64 0)])) hF hS (ex_build (cells := [(.int .i64 0), (.int .i64 0), (.int .i64 0), (.int .i64 0)]) rfl (by kernel_rfl)) rfl rfl fun a hF => ?_
    refine q_store (vs := [(.int .i64 0), (.int .i64 0), (.int .i64 0), (.int .i64 0)]) (cs' := [(.int .i64 0), (.int .i64 0), (.int .i64 0), (.int .i64 0)]) 0 0 hF hS sz26 rfl rfl rfl rfl rfl rfl rfl rfl fun a w hF hS => ?_
    refine q_x (v := (.bool false)) hF hS (ex_assign rfl) rfl rfl fun a hF => ?_
    refine q_end (n_sq (q_ret (r_sq ?_)))
    obtain rfl := someI hr
    exact ret_of hF hS rfl (.cellA (us := [(.int .i64 0), (.int .i64 0), (.int .i64 0), (.int .i64 0)]) 0 0 Try.underlying26 rfl sz26 rfl rfl rfl rfl (.tmp rfl .nil)) rfl

theorem c_spec_LedgerLoss (p_l : List impl_Entry) (r : impl_Loss × Bool) (hr : spec_LedgerLoss p_l = some r) (w0 : World) (m : Mem) (hv : Vis m w0) (s1 : Sl) (h1 : Rd m s1 p_l) :
    Ret Try.prog 23 [s1.v] w0 (fun v _ => v = (.tuple #[(.agg #[(.int .i64 r.1.Ratio.Num), (.int .i64 r.1.Ratio.Den), (.int .i64 r.1.Rho.Num), (.int .i64 r.1.Rho.Den)]), (.bool r.2)])) := by
  unfold spec_LedgerLoss at hr
  refine ret_start Try.func23 rfl 12 rfl rfl m hv fun a hF hS => ?_
  refine q_seq ?_
  refine q_region ?_
  refine q_alloc (cs := [(.int .i64 0), (.int .i64 0), (.int .i64 0), (.int .i64 0)]) hF hS rfl rfl rfl fun a w b2 hF hS => ?_
  refine q_x (v := (.bool false)) hF hS (ex_assign rfl) rfl rfl fun a hF => ?_
  refine q_end (n_sq ?_)
  refine q_seq ?_
  refine q_seq ?_
  refine q_region ?_
  refine q_x (v := s1.v) hF hS (ex_move rfl) rfl rfl fun a hF => ?_
  obtain ⟨t_3, ht_3, hr⟩ := bindS hr
  refine q_call (vs := [s1.v]) hF hS Try.func97 (by kernel_rfl) rfl rfl rfl (c_spec_pEntries p_l t_3 ht_3 _ m hS.vis s1 h1) ?_
  rintro a w _ rfl hF hS
  refine q_x (v := (.bool (!t_3))) hF hS (ex_not rfl) rfl rfl fun a hF => ?_
  refine q_end (n_sq ?_)
  rcases bcase (!t_3) with hc1 | hc1
  · have hr := cond_f hc1 hr
    refine q_cond_f hF rfl hc1 ?_
    refine q_skipc (n_sq ?_)
    refine q_seq ?_
    refine q_region ?_
    refine q_x (v := s1.v) hF hS (ex_move rfl) rfl rfl fun a hF => ?_
    obtain ⟨t_4, ht_4, hr⟩ := bindS hr
    refine q_call (vs := [s1.v]) hF hS Try.func98 (by kernel_rfl) rfl rfl rfl (c_spec_pLedger p_l t_4 ht_4 _ m hS.vis s1 h1) ?_
    rintro a w _ rfl hF hS
    refine q_x (v := (.agg #[(.int .i64 t_4.1.Ratio.Num), (.int .i64 t_4.1.Ratio.Den), (.int .i64 t_4.1.Rho.Num), (.int .i64 t_4.1.Rho.Den)])) hF hS (ex_extract rfl rfl) rfl rfl fun a hF => ?_
    refine q_x (v := (.bool t_4.2)) hF hS (ex_extract rfl rfl) rfl rfl fun a hF => ?_
    refine q_store (vs := [(.int .i64 t_4.1.Ratio.Num), (.int .i64 t_4.1.Ratio.Den), (.int .i64 t_4.1.Rho.Num), (.int .i64 t_4.1.Rho.Den)]) (cs' := [(.int .i64 t_4.1.Ratio.Num), (.int .i64 t_4.1.Ratio.Den), (.int .i64 t_4.1.Rho.Num), (.int .i64 t_4.1.Rho.Den)]) 0 0 hF hS sz26 rfl rfl rfl rfl rfl rfl rfl rfl fun a w hF hS => ?_
    refine q_x (v := (.bool t_4.2)) hF hS (ex_assign rfl) rfl rfl fun a hF => ?_
    refine q_end (n_sq (q_ret ?_))
    obtain rfl := someI hr
    exact ret_of hF hS rfl (.cellA (us := [(.int .i64 t_4.1.Ratio.Num), (.int .i64 t_4.1.Ratio.Den), (.int .i64 t_4.1.Rho.Num), (.int .i64 t_4.1.Rho.Den)]) 0 0 Try.underlying26 rfl sz26 rfl rfl rfl rfl (.tmp rfl .nil)) rfl
  · have hr := cond_t hc1 hr
    refine q_cond_t hF rfl hc1 ?_
    refine q_seq ?_
    refine q_region ?_
    refine q_x (v := (.agg #[(.int .i64 0), (.int .i64 0), (.int .i64 0), (.int .i64 0)])) hF hS (ex_build (cells := [(.int .i64 0), (.int .i64 0), (.int .i64 0), (.int .i64 0)]) rfl (by kernel_rfl)) rfl rfl fun a hF => ?_
    refine q_store (vs := [(.int .i64 0), (.int .i64 0), (.int .i64 0), (.int .i64 0)]) (cs' := [(.int .i64 0), (.int .i64 0), (.int .i64 0), (.int .i64 0)]) 0 0 hF hS sz26 rfl rfl rfl rfl rfl rfl rfl rfl fun a w hF hS => ?_
    refine q_x (v := (.bool false)) hF hS (ex_assign rfl) rfl rfl fun a hF => ?_
    refine q_end (n_sq (q_ret (r_sq ?_)))
    obtain rfl := someI hr
    exact ret_of hF hS rfl (.cellA (us := [(.int .i64 0), (.int .i64 0), (.int .i64 0), (.int .i64 0)]) 0 0 Try.underlying26 rfl sz26 rfl rfl rfl rfl (.tmp rfl .nil)) rfl

theorem c_laws_qInts (p_a : List Int) (p_b : List Int) (r : Bool) (hr : laws_qInts p_a p_b = some r) (w0 : World) (m : Mem) (hv : Vis m w0) (s1 : Sl) (h1 : Rd m s1 p_a) (s2 : Sl) (h2 : Rd m s2 p_b) :
    Ret Try.prog 24 [s1.v, s2.v] w0 (fun v _ => v = (.bool r)) := by
  unfold laws_qInts at hr
  refine ret_start Try.func24 rfl 26 rfl rfl m hv fun a hF hS => ?_
  refine q_seq ?_
  refine q_region ?_
  refine q_x (v := (.bool false)) hF hS (ex_assign rfl) rfl rfl fun a hF => ?_
  refine q_end (n_sq ?_)
  refine q_seq ?_
  refine q_seq ?_
  refine q_region ?_
  refine q_x (v := s1.v) hF hS (ex_move rfl) rfl rfl fun a hF => ?_
  refine q_x (v := (.int .i64 (goLen p_a))) hF hS (ex_len Try.underlying42 rfl h1.len) rfl rfl fun a hF => ?_
  refine q_x (v := s2.v) hF hS (ex_move rfl) rfl rfl fun a hF => ?_
  refine q_x (v := (.int .i64 (goLen p_b))) hF hS (ex_len Try.underlying42 rfl h2.len) rfl rfl fun a hF => ?_
  refine q_x (v := (.bool ((goLen p_a) != (goLen p_b)))) hF hS (ex_ibin rfl rfl rfl) rfl rfl fun a hF => ?_
  refine q_end (n_sq ?_)
  rcases bcase ((goLen p_a) != (goLen p_b)) with hc1 | hc1
  · have hr := cond_f hc1 hr
    refine q_cond_f hF rfl hc1 ?_
    refine q_skipc (n_sq ?_)
    refine q_seq ?_
    refine q_seq ?_
    refine q_region ?_
    refine q_x (v := s1.v) hF hS (ex_move rfl) rfl rfl fun a hF => ?_
    refine q_x (v := (.int .i64 (goLen p_a))) hF hS (ex_len Try.underlying42 rfl h1.len) rfl rfl fun a hF => ?_
    refine q_x (v := (.int .i64 0)) hF hS (ex_move rfl) rfl rfl fun a hF => ?_
    refine q_end (n_sq ?_)
    refine q_block ?_
    obtain ⟨o2, hl2, hr⟩ := bindS hr
    refine q_loop (fun (t_3 : Int) a w => Fr a 26 [(0, s1.v), (1, s2.v), (12, (.int .i64 (goLen p_a))), (13, (.int .i64 t_3))] ∧ St [] w0 w m []) (fun (o : (Unit) ⊕ (Bool)) e a w => o = .inl () ∧ e = .exit 0 ∧ Fr a 26 [] ∧ St [] w0 w m []) hl2 ⟨hF.sub ⟨rfl, rfl, rfl, rfl, trivial⟩, hS⟩ ?_ ?_
    · clear hF hS
      rintro t_3 a w st ⟨hF, hS⟩ hb2
      unfold laws_qInts_l1 at hb2
      refine q_seq ?_
      refine q_region ?_
      refine q_x (v := (.bool (decide (t_3 < (goLen p_a))))) hF hS (ex_ibin rfl rfl rfl) rfl rfl fun a hF => ?_
      refine q_end (n_sq ?_)
      refine q_seq ?_
      rcases bcase (decide (t_3 < (goLen p_a))) with hc3 | hc3
      · have hb2 := cond_f hc3 hb2
        refine q_cond_f hF rfl hc3 ?_
        refine q_exit (x_sq ?_)
        obtain rfl := someI hb2
        exact ⟨nofun, .inl ⟨rfl, rfl, hF.sub trivial, hS⟩⟩
      · have hb2 := cond_t hc3 hb2
        refine q_cond_t hF rfl hc3 ?_
        refine q_skipc (n_sq ?_)
        refine q_seq ?_
        refine q_block ?_
        refine q_seq ?_
        refine q_region ?_
        refine q_x (v := (.int .i64 t_3)) hF hS (ex_move rfl) rfl rfl fun a hF => ?_
        refine q_x (v := (.int .i64 t_3)) hF hS (ex_assign rfl) rfl rfl fun a hF => ?_
        refine q_end (n_sq ?_)
        refine q_seq ?_
        refine e_region [] mixed fun w' hw' => ?_
        have hS := hS.below hw'
        refine e_p (v := s1.v) 0 hF rfl (ex_move rfl) rfl rfl (by kernel_rfl) (by kernel_rfl) (by kernel_rfl) fun a hF => ?_
        refine e_p (v := (.int .i64 t_3)) 1 hF rfl (ex_move rfl) rfl rfl (by kernel_rfl) (by kernel_rfl) (by kernel_rfl) fun a hF => ?_
        obtain ⟨e_4, he_4, hb2⟩ := bindS hb2
        obtain ⟨vs5, at5, d5⟩ := h1.at he_4 1 rfl
        obtain rfl : vs5 = [(.int .i64 e_4)] := d5
        refine e_p (v := (elP s1 (t_3.toNat * 1))) 2 hF rfl (ex_indexAddr Try.underlying42 sz3 rfl rfl (h1.idx he_4)) rfl rfl (by kernel_rfl) (by kernel_rfl) (by kernel_rfl) fun a hF => ?_
        refine e_x (v := (.int .i64 e_4)) 3 hF hS rfl (ex_loadE1 0 Try.underlying3 rfl rfl ((at5).at) rfl rfl) rfl rfl (by kernel_rfl) (by kernel_rfl) (by kernel_rfl) (by kernel_rfl) fun a hF => ?_
        refine e_p (v := s2.v) 4 hF rfl (ex_move rfl) rfl rfl (by kernel_rfl) (by kernel_rfl) (by kernel_rfl) fun a hF => ?_
        refine e_p (v := (.int .i64 t_3)) 5 hF rfl (ex_move rfl) rfl rfl (by kernel_rfl) (by kernel_rfl) (by kernel_rfl) fun a hF => ?_
        obtain ⟨e_6, he_6, hb2⟩ := bindS hb2
        obtain ⟨vs7, at7, d7⟩ := h2.at he_6 1 rfl
        obtain rfl : vs7 = [(.int .i64 e_6)] := d7
        refine e_p (v := (elP s2 (t_3.toNat * 1))) 6 hF rfl (ex_indexAddr Try.underlying42 sz3 rfl rfl (h2.idx he_6)) rfl rfl (by kernel_rfl) (by kernel_rfl) (by kernel_rfl) fun a hF => ?_
        refine e_x (v := (.int .i64 e_6)) 7 hF hS rfl (ex_loadE1 0 Try.underlying3 rfl rfl ((at7).at) rfl rfl) rfl rfl (by kernel_rfl) (by kernel_rfl) (by kernel_rfl) (by kernel_rfl) fun a hF => ?_
        refine e_p (v := (.bool (e_4 != e_6))) 8 hF rfl (ex_ibin rfl rfl rfl) rfl rfl (by kernel_rfl) (by kernel_rfl) (by kernel_rfl) fun a hF => ?_
        refine e_end (by kernel_rfl) (n_sq ?_) _
        rcases bcase (e_4 != e_6) with hc4 | hc4
        · have hb2 := cond_f hc4 hb2
          refine q_cond_f hF rfl hc4 ?_
          refine q_skipc (n_ib (n_sq ?_))
          refine q_region ?_
          refine q_x (v := (.int .i64 (w64 (t_3 + 1)))) hF hS (ex_ibin rfl rfl rfl) rfl rfl fun a hF => ?_
          refine q_x (v := (.int .i64 (w64 (t_3 + 1)))) hF hS (ex_move rfl) rfl rfl fun a hF => ?_
          refine q_end ?_
          obtain rfl := someI hb2
          exact ⟨rfl, hF.sub ⟨rfl, rfl, rfl, rfl, trivial⟩, hS⟩
        · have hb2 := cond_t hc4 hb2
          refine q_cond_t hF rfl hc4 ?_
          refine q_seq ?_
          refine q_region ?_
          refine q_x (v := (.bool false)) hF hS (ex_assign rfl) rfl rfl fun a hF => ?_
          refine q_end (n_sq (q_ret (r_ib (r_sq ?_))))
          obtain rfl := someI hb2
          refine ⟨nofun, .inr fun ho => ?_⟩
          subst ho
          refine r_ib (r_sq ?_)
          obtain rfl := someI hr
          exact ret_of hF hS rfl (.tmp rfl .nil) rfl
    · rintro e a w ⟨rfl, rfl, hF, hS⟩
      refine x_ib (n_sq ?_)
      refine q_seq ?_
      refine q_region ?_
      refine q_x (v := (.bool true)) hF hS (ex_assign rfl) rfl rfl fun a hF => ?_
      refine q_end (n_sq (q_ret ?_))
      obtain rfl := someI hr
      exact ret_of hF hS rfl (.tmp rfl .nil) rfl
  · have hr := cond_t hc1 hr
    refine q_cond_t hF rfl hc1 ?_
    refine q_seq ?_
    refine q_region ?_
    refine q_x (v := (.bool false)) hF hS (ex_assign rfl) rfl rfl fun a hF => ?_
    refine q_end (n_sq (q_ret (r_sq ?_)))
    obtain rfl := someI hr
    exact ret_of hF hS rfl (.tmp rfl .nil) rfl

theorem c_impl_IsWithin (p_budget : impl_Loss) (p_x : impl_Loss) (r : Bool × Bool) (hr : impl_IsWithin p_budget p_x = some r) (w0 : World) (m : Mem) (hv : Vis m w0) :
    Ret Try.prog 16 [(.agg #[(.int .i64 p_budget.Ratio.Num), (.int .i64 p_budget.Ratio.Den), (.int .i64 p_budget.Rho.Num), (.int .i64 p_budget.Rho.Den)]), (.agg #[(.int .i64 p_x.Ratio.Num), (.int .i64 p_x.Ratio.Den), (.int .i64 p_x.Rho.Num), (.int .i64 p_x.Rho.Den)])] w0 (fun v _ => v = (.tuple #[(.bool r.1), (.bool r.2)])) := by
  unfold impl_IsWithin at hr
  refine ret_start Try.func16 rfl 17 rfl rfl m hv fun a hF hS => ?_
  refine q_seq ?_
  refine q_region ?_
  refine q_box (cs := [(.int .i64 p_budget.Ratio.Num), (.int .i64 p_budget.Ratio.Den), (.int .i64 p_budget.Rho.Num), (.int .i64 p_budget.Rho.Den)]) hF hS rfl rfl rfl fun a w b1 hF hS => ?_
  refine q_box (cs := [(.int .i64 p_x.Ratio.Num), (.int .i64 p_x.Ratio.Den), (.int .i64 p_x.Rho.Num), (.int .i64 p_x.Rho.Den)]) hF hS rfl rfl rfl fun a w b2 hF hS => ?_
  refine q_x (v := (.bool false)) hF hS (ex_assign rfl) rfl rfl fun a hF => ?_
  refine q_x (v := (.bool false)) hF hS (ex_assign rfl) rfl rfl fun a hF => ?_
  refine q_end (n_sq ?_)
  refine q_seq ?_
  refine q_seq ?_
  obtain ⟨t_5, hj1, hr⟩ := bindS hr
  refine q_join (fun a w => Fr a 17 [(2, (.pointer (some ⟨b1, 0, none⟩))), (3, (.pointer (some ⟨b2, 0, none⟩))), (13, (.bool t_5))] ∧ St [] w0 w m [[⟨b2, [(.int .i64 p_x.Ratio.Num), (.int .i64 p_x.Ratio.Den), (.int .i64 p_x.Rho.Num), (.int .i64 p_x.Rho.Den)], 26⟩], [⟨b1, [(.int .i64 p_budget.Ratio.Num), (.int .i64 p_budget.Ratio.Den), (.int .i64 p_budget.Rho.Num), (.int .i64 p_budget.Rho.Den)], 26⟩]]) ?_ ?_
  · refine q_region ?_
    refine q_x (v := (.agg #[(.int .i64 p_budget.Ratio.Num), (.int .i64 p_budget.Ratio.Den), (.int .i64 p_budget.Rho.Num), (.int .i64 p_budget.Rho.Den)])) hF hS (ex_loadA (vs := [(.int .i64 p_budget.Ratio.Num), (.int .i64 p_budget.Ratio.Den), (.int .i64 p_budget.Rho.Num), (.int .i64 p_budget.Rho.Den)]) 1 0 Try.underlying26 rfl sz26 rfl rfl rfl rfl) rfl rfl fun a hF => ?_
    obtain ⟨t_3, ht_3, hj1⟩ := bindS hj1
    refine q_call (vs := [(.agg #[(.int .i64 p_budget.Ratio.Num), (.int .i64 p_budget.Ratio.Den), (.int .i64 p_budget.Rho.Num), (.int .i64 p_budget.Rho.Den)])]) hF hS Try.func17 (by kernel_rfl) rfl rfl rfl (c_impl_IsLoss p_budget t_3 ht_3 _ m hS.vis) ?_
    rintro a w _ rfl hF hS
    refine q_x (v := (.bool (!t_3))) hF hS (ex_not rfl) rfl rfl fun a hF => ?_
    refine q_x (v := (.bool (!t_3))) hF hS (ex_move rfl) rfl rfl fun a hF => ?_
    rcases bcase (!t_3) with hc2 | hc2
    · have hj1 := cond_f hc2 hj1
      refine q_xg (v := (.agg #[(.int .i64 p_x.Ratio.Num), (.int .i64 p_x.Ratio.Den), (.int .i64 p_x.Rho.Num), (.int .i64 p_x.Rho.Den)])) hF hS (ex_loadA (vs := [(.int .i64 p_x.Ratio.Num), (.int .i64 p_x.Ratio.Den), (.int .i64 p_x.Rho.Num), (.int .i64 p_x.Rho.Den)]) 0 0 Try.underlying26 rfl sz26 rfl rfl rfl rfl) (wanted_t hF rfl rfl rfl hc2) rfl fun a hF => ?_
      obtain ⟨t_4, ht_4, hj1⟩ := bindS hj1
      refine q_callg (vs := [(.agg #[(.int .i64 p_x.Ratio.Num), (.int .i64 p_x.Ratio.Den), (.int .i64 p_x.Rho.Num), (.int .i64 p_x.Rho.Den)])]) hF hS (wanted_t hF rfl rfl rfl hc2) Try.func17 (by kernel_rfl) rfl rfl rfl (c_impl_IsLoss p_x t_4 ht_4 _ m hS.vis) ?_
      rintro a w _ rfl hF hS
      refine q_xg (v := (.bool (!t_4))) hF hS (ex_not rfl) (wanted_t hF rfl rfl rfl hc2) rfl fun a hF => ?_
      refine q_x (v := (.bool (!t_4))) hF hS (ex_pick_f rfl rfl hc2) rfl rfl fun a hF => ?_
      refine q_end (n_jn ?_)
      obtain rfl := someI hj1
      exact ⟨hF.sub ⟨rfl, rfl, rfl, trivial⟩, hS⟩
    · have hj1 := cond_t hc2 hj1
      refine q_skip hF (wanted_f hF rfl rfl rfl hc2 rfl) rfl fun a hF => ?_
      refine q_skip hF (wanted_f hF rfl rfl rfl hc2 rfl) rfl fun a hF => ?_
      refine q_skip hF (wanted_f hF rfl rfl rfl hc2 rfl) rfl fun a hF => ?_
      refine q_x (v := (.bool true)) hF hS (ex_pick_t rfl rfl hc2) rfl rfl fun a hF => ?_
      refine q_end (n_jn ?_)
      obtain rfl := someI hj1
      exact ⟨hF.sub ⟨rfl, rfl, rfl, trivial⟩, hS⟩
  · rintro a w ⟨hF, hS⟩
    refine n_sq ?_
    rcases bcase (t_5) with hc3 | hc3
    · have hr := cond_f hc3 hr
      refine q_cond_f hF rfl hc3 ?_
      refine q_skipc (n_sq ?_)
      refine q_seq ?_
      refine q_region ?_
      refine q_x (v := (.agg #[(.int .i64 p_budget.Ratio.Num), (.int .i64 p_budget.Ratio.Den), (.int .i64 p_budget.Rho.Num), (.int .i64 p_budget.Rho.Den)])) hF hS (ex_loadA (vs := [(.int .i64 p_budget.Ratio.Num), (.int .i64 p_budget.Ratio.Den), (.int .i64 p_budget.Rho.Num), (.int .i64 p_budget.Rho.Den)]) 1 0 Try.underlying26 rfl sz26 rfl rfl rfl rfl) rfl rfl fun a hF => ?_
      refine q_x (v := (.agg #[(.int .i64 p_x.Ratio.Num), (.int .i64 p_x.Ratio.Den), (.int .i64 p_x.Rho.Num), (.int .i64 p_x.Rho.Den)])) hF hS (ex_loadA (vs := [(.int .i64 p_x.Ratio.Num), (.int .i64 p_x.Ratio.Den), (.int .i64 p_x.Rho.Num), (.int .i64 p_x.Rho.Den)]) 0 0 Try.underlying26 rfl sz26 rfl rfl rfl rfl) rfl rfl fun a hF => ?_
      obtain ⟨t_6, ht_6, hr⟩ := bindS hr
      refine q_call (vs := [(.agg #[(.int .i64 p_budget.Ratio.Num), (.int .i64 p_budget.Ratio.Den), (.int .i64 p_budget.Rho.Num), (.int .i64 p_budget.Rho.Den)]), (.agg #[(.int .i64 p_x.Ratio.Num), (.int .i64 p_x.Ratio.Den), (.int .i64 p_x.Rho.Num), (.int .i64 p_x.Rho.Den)])]) hF hS Try.func79 (by kernel_rfl) rfl rfl rfl (c_impl_isWithin p_budget p_x t_6 ht_6 _ m hS.vis) ?_
      rintro a w _ rfl hF hS
      refine q_x (v := (.bool t_6)) hF hS (ex_assign rfl) rfl rfl fun a hF => ?_
      refine q_x (v := (.bool true)) hF hS (ex_assign rfl) rfl rfl fun a hF => ?_
      refine q_end (n_sq (q_ret ?_))
      obtain rfl := someI hr
      exact ret_of hF hS rfl (.tmp rfl (.tmp rfl .nil)) rfl
    · have hr := cond_t hc3 hr
      refine q_cond_t hF rfl hc3 ?_
      refine q_seq ?_
      refine q_region ?_
      refine q_x (v := (.bool false)) hF hS (ex_assign rfl) rfl rfl fun a hF => ?_
      refine q_x (v := (.bool false)) hF hS (ex_assign rfl) rfl rfl fun a hF => ?_
      refine q_end (n_sq (q_ret (r_sq ?_)))
      obtain rfl := someI hr
      exact ret_of hF hS rfl (.tmp rfl (.tmp rfl .nil)) rfl

end Go.Proofs.Ytdbgmkfniichdaa
