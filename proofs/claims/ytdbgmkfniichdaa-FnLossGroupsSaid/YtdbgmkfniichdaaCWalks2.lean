/- The walks of the functions: each returns what its plain function says. -/
import Derived.Test.YtdbgmkfniichdaaCWalks1
namespace Go.Proofs.Ytdbgmkfniichdaa
open Go.Gx Go.Gx.F Go.RowKit
set_option linter.all false
set_option maxRecDepth 10000


theorem c_impl_greatest (p_a : impl_Loss) (p_b : impl_Loss) (r : impl_Loss) (hr : impl_greatest p_a p_b = some r) (w0 : World) (m : Mem) (hv : Vis m w0) :
    Ret Try.prog 109 [(.agg #[(.int .i64 p_a.Ratio.Num), (.int .i64 p_a.Ratio.Den), (.int .i64 p_a.Rho.Num), (.int .i64 p_a.Rho.Den)]), (.agg #[(.int .i64 p_b.Ratio.Num), (.int .i64 p_b.Ratio.Den), (.int .i64 p_b.Rho.Num), (.int .i64 p_b.Rho.Den)])] w0 (fun v _ => v = (.agg #[(.int .i64 r.Ratio.Num), (.int .i64 r.Ratio.Den), (.int .i64 r.Rho.Num), (.int .i64 r.Rho.Den)])) := by
  unfold impl_greatest at hr
  refine ret_start Try.func109 rfl 24 rfl rfl m hv fun a hF hS => ?_
  refine q_seq ?_
  refine q_region ?_
  refine q_box (cs := [(.int .i64 p_a.Ratio.Num), (.int .i64 p_a.Ratio.Den), (.int .i64 p_a.Rho.Num), (.int .i64 p_a.Rho.Den)]) hF hS rfl rfl rfl fun a w b1 hF hS => ?_
  refine q_box (cs := [(.int .i64 p_b.Ratio.Num), (.int .i64 p_b.Ratio.Den), (.int .i64 p_b.Rho.Num), (.int .i64 p_b.Rho.Den)]) hF hS rfl rfl rfl fun a w b2 hF hS => ?_
  refine q_alloc (cs := [(.int .i64 0), (.int .i64 0), (.int .i64 0), (.int .i64 0)]) hF hS rfl rfl rfl fun a w b3 hF hS => ?_
  refine q_end (n_sq ?_)
  refine q_seq ?_
  refine q_seq ?_
  refine q_region ?_
  refine q_x (v := (.pointer (some ⟨b2, 0, none⟩))) hF hS (ex_fieldAddr Try.underlying26 rfl sz24 rfl rfl) rfl rfl fun a hF => ?_
  refine q_x (v := (.agg #[(.int .i64 p_b.Ratio.Num), (.int .i64 p_b.Ratio.Den)])) hF hS (ex_loadA (vs := [(.int .i64 p_b.Ratio.Num), (.int .i64 p_b.Ratio.Den)]) 1 0 Try.underlying24 rfl sz24 rfl rfl rfl rfl) rfl rfl fun a hF => ?_
  refine q_x (v := (.pointer (some ⟨b1, 0, none⟩))) hF hS (ex_fieldAddr Try.underlying26 rfl sz24 rfl rfl) rfl rfl fun a hF => ?_
  refine q_x (v := (.agg #[(.int .i64 p_a.Ratio.Num), (.int .i64 p_a.Ratio.Den)])) hF hS (ex_loadA (vs := [(.int .i64 p_a.Ratio.Num), (.int .i64 p_a.Ratio.Den)]) 2 0 Try.underlying24 rfl sz24 rfl rfl rfl rfl) rfl rfl fun a hF => ?_
  obtain ⟨t_4, ht_4, hr⟩ := bindS hr
  refine q_call (vs := [(.agg #[(.int .i64 p_b.Ratio.Num), (.int .i64 p_b.Ratio.Den)]), (.agg #[(.int .i64 p_a.Ratio.Num), (.int .i64 p_a.Ratio.Den)])]) hF hS Try.func126 (by kernel_rfl) rfl rfl rfl (c_impl_cmpFrac p_b.Ratio p_a.Ratio t_4 ht_4 _ m hS.vis) ?_
  rintro a w _ rfl hF hS
  refine q_x (v := (.bool (decide (0 < t_4)))) hF hS (ex_ibin rfl rfl rfl) rfl rfl fun a hF => ?_
  refine q_end (n_sq ?_)
  obtain ⟨a_5, hj1, hr⟩ := bindS hr
  refine q_join (fun a w => Fr a 24 [(2, (.pointer (some ⟨b1, 0, none⟩))), (3, (.pointer (some ⟨b2, 0, none⟩))), (4, (.pointer (some ⟨b3, 0, none⟩)))] ∧ St [] w0 w m [[⟨b3, [(.int .i64 0), (.int .i64 0), (.int .i64 0), (.int .i64 0)], 26⟩], [⟨b2, [(.int .i64 p_b.Ratio.Num), (.int .i64 p_b.Ratio.Den), (.int .i64 p_b.Rho.Num), (.int .i64 p_b.Rho.Den)], 26⟩], [⟨b1, [(.int .i64 a_5.Ratio.Num), (.int .i64 a_5.Ratio.Den), (.int .i64 a_5.Rho.Num), (.int .i64 a_5.Rho.Den)], 26⟩]]) ?_ ?_
  · rcases bcase (decide (0 < t_4)) with hc2 | hc2
    · have hj1 := cond_f hc2 hj1
      refine q_cond_f hF rfl hc2 ?_
      refine q_skipc (n_jn ?_)
      obtain rfl := someI hj1
      exact ⟨hF.sub ⟨rfl, rfl, rfl, trivial⟩, hS⟩
    · have hj1 := cond_t hc2 hj1
      refine q_cond_t hF rfl hc2 ?_
      refine q_region ?_
      refine q_x (v := (.pointer (some ⟨b2, 0, none⟩))) hF hS (ex_fieldAddr Try.underlying26 rfl sz24 rfl rfl) rfl rfl fun a hF => ?_
      refine q_x (v := (.agg #[(.int .i64 p_b.Ratio.Num), (.int .i64 p_b.Ratio.Den)])) hF hS (ex_loadA (vs := [(.int .i64 p_b.Ratio.Num), (.int .i64 p_b.Ratio.Den)]) 1 0 Try.underlying24 rfl sz24 rfl rfl rfl rfl) rfl rfl fun a hF => ?_
      refine q_x (v := (.pointer (some ⟨b1, 0, none⟩))) hF hS (ex_fieldAddr Try.underlying26 rfl sz24 rfl rfl) rfl rfl fun a hF => ?_
      refine q_store (vs := [(.int .i64 p_b.Ratio.Num), (.int .i64 p_b.Ratio.Den)]) (cs' := [(.int .i64 p_b.Ratio.Num), (.int .i64 p_b.Ratio.Den), (.int .i64 p_a.Rho.Num), (.int .i64 p_a.Rho.Den)]) 2 0 hF hS sz24 rfl rfl rfl rfl rfl rfl rfl rfl fun a w hF hS => ?_
      refine q_end (n_jn ?_)
      obtain rfl := someI hj1
      exact ⟨hF.sub ⟨rfl, rfl, rfl, trivial⟩, hS⟩
  · rintro a w ⟨hF, hS⟩
    refine n_sq ?_
    refine q_seq ?_
    refine q_seq ?_
    refine q_region ?_
    refine q_x (v := (.pointer (some ⟨b2, 2, none⟩))) hF hS (ex_fieldAddr Try.underlying26 rfl sz24 rfl rfl) rfl rfl fun a hF => ?_
    refine q_x (v := (.agg #[(.int .i64 p_b.Rho.Num), (.int .i64 p_b.Rho.Den)])) hF hS (ex_loadA (vs := [(.int .i64 p_b.Rho.Num), (.int .i64 p_b.Rho.Den)]) 1 0 Try.underlying24 rfl sz24 rfl rfl rfl rfl) rfl rfl fun a hF => ?_
    refine q_x (v := (.pointer (some ⟨b1, 2, none⟩))) hF hS (ex_fieldAddr Try.underlying26 rfl sz24 rfl rfl) rfl rfl fun a hF => ?_
    refine q_x (v := (.agg #[(.int .i64 a_5.Rho.Num), (.int .i64 a_5.Rho.Den)])) hF hS (ex_loadA (vs := [(.int .i64 a_5.Rho.Num), (.int .i64 a_5.Rho.Den)]) 2 0 Try.underlying24 rfl sz24 rfl rfl rfl rfl) rfl rfl fun a hF => ?_
    obtain ⟨t_6, ht_6, hr⟩ := bindS hr
    refine q_call (vs := [(.agg #[(.int .i64 p_b.Rho.Num), (.int .i64 p_b.Rho.Den)]), (.agg #[(.int .i64 a_5.Rho.Num), (.int .i64 a_5.Rho.Den)])]) hF hS Try.func126 (by kernel_rfl) rfl rfl rfl (c_impl_cmpFrac p_b.Rho a_5.Rho t_6 ht_6 _ m hS.vis) ?_
    rintro a w _ rfl hF hS
    refine q_x (v := (.bool (decide (0 < t_6)))) hF hS (ex_ibin rfl rfl rfl) rfl rfl fun a hF => ?_
    refine q_end (n_sq ?_)
    obtain ⟨a_7, hj3, hr⟩ := bindS hr
    refine q_join (fun a w => Fr a 24 [(2, (.pointer (some ⟨b1, 0, none⟩))), (4, (.pointer (some ⟨b3, 0, none⟩)))] ∧ St [] w0 w m [[⟨b3, [(.int .i64 0), (.int .i64 0), (.int .i64 0), (.int .i64 0)], 26⟩], [⟨b1, [(.int .i64 a_7.Ratio.Num), (.int .i64 a_7.Ratio.Den), (.int .i64 a_7.Rho.Num), (.int .i64 a_7.Rho.Den)], 26⟩]]) ?_ ?_
    · rcases bcase (decide (0 < t_6)) with hc4 | hc4
      · have hj3 := cond_f hc4 hj3
        refine q_cond_f hF rfl hc4 ?_
        refine q_skipc (n_jn ?_)
        obtain rfl := someI hj3
        exact ⟨hF.sub ⟨rfl, rfl, trivial⟩, hS.mask [true, false, true]⟩
      · have hj3 := cond_t hc4 hj3
        refine q_cond_t hF rfl hc4 ?_
        refine q_region ?_
        refine q_x (v := (.pointer (some ⟨b2, 2, none⟩))) hF hS (ex_fieldAddr Try.underlying26 rfl sz24 rfl rfl) rfl rfl fun a hF => ?_
        refine q_x (v := (.agg #[(.int .i64 p_b.Rho.Num), (.int .i64 p_b.Rho.Den)])) hF hS (ex_loadA (vs := [(.int .i64 p_b.Rho.Num), (.int .i64 p_b.Rho.Den)]) 1 0 Try.underlying24 rfl sz24 rfl rfl rfl rfl) rfl rfl fun a hF => ?_
        refine q_x (v := (.pointer (some ⟨b1, 2, none⟩))) hF hS (ex_fieldAddr Try.underlying26 rfl sz24 rfl rfl) rfl rfl fun a hF => ?_
        refine q_store (vs := [(.int .i64 p_b.Rho.Num), (.int .i64 p_b.Rho.Den)]) (cs' := [(.int .i64 a_5.Ratio.Num), (.int .i64 a_5.Ratio.Den), (.int .i64 p_b.Rho.Num), (.int .i64 p_b.Rho.Den)]) 2 0 hF hS sz24 rfl rfl rfl rfl rfl rfl rfl rfl fun a w hF hS => ?_
        refine q_end (n_jn ?_)
        obtain rfl := someI hj3
        exact ⟨hF.sub ⟨rfl, rfl, trivial⟩, hS.mask [true, false, true]⟩
    · rintro a w ⟨hF, hS⟩
      refine n_sq ?_
      refine q_seq ?_
      refine q_region ?_
      refine q_x (v := (.agg #[(.int .i64 a_7.Ratio.Num), (.int .i64 a_7.Ratio.Den), (.int .i64 a_7.Rho.Num), (.int .i64 a_7.Rho.Den)])) hF hS (ex_loadA (vs := [(.int .i64 a_7.Ratio.Num), (.int .i64 a_7.Ratio.Den), (.int .i64 a_7.Rho.Num), (.int .i64 a_7.Rho.Den)]) 1 0 Try.underlying26 rfl sz26 rfl rfl rfl rfl) rfl rfl fun a hF => ?_
      refine q_store (vs := [(.int .i64 a_7.Ratio.Num), (.int .i64 a_7.Ratio.Den), (.int .i64 a_7.Rho.Num), (.int .i64 a_7.Rho.Den)]) (cs' := [(.int .i64 a_7.Ratio.Num), (.int .i64 a_7.Ratio.Den), (.int .i64 a_7.Rho.Num), (.int .i64 a_7.Rho.Den)]) 0 0 hF hS sz26 rfl rfl rfl rfl rfl rfl rfl rfl fun a w hF hS => ?_
      refine q_end (n_sq (q_ret ?_))
      obtain rfl := someI hr
      exact ret_of hF hS rfl (.cellA (us := [(.int .i64 a_7.Ratio.Num), (.int .i64 a_7.Ratio.Den), (.int .i64 a_7.Rho.Num), (.int .i64 a_7.Rho.Den)]) 0 0 Try.underlying26 rfl sz26 rfl rfl rfl rfl .nil) rfl

theorem c_impl_ParallelLoss (p_l : List impl_Loss) (r : impl_Loss × Bool) (hr : impl_ParallelLoss p_l = some r) (w0 : World) (m : Mem) (hv : Vis m w0) (s1 : Sl) (h1 : Rd m s1 p_l) :
    Ret Try.prog 29 [s1.v] w0 (fun v _ => v = (.tuple #[(.agg #[(.int .i64 r.1.Ratio.Num), (.int .i64 r.1.Ratio.Den), (.int .i64 r.1.Rho.Num), (.int .i64 r.1.Rho.Den)]), (.bool r.2)])) := by
  unfold impl_ParallelLoss at hr
  refine ret_start Try.func29 rfl 23 rfl rfl m hv fun a hF hS => ?_
  refine q_seq ?_
  refine q_region ?_
  refine q_alloc (cs := [(.int .i64 0), (.int .i64 0), (.int .i64 0), (.int .i64 0)]) hF hS rfl rfl rfl fun a w b2 hF hS => ?_
  refine q_x (v := (.bool false)) hF hS (ex_assign rfl) rfl rfl fun a hF => ?_
  refine q_end (n_sq ?_)
  refine q_seq ?_
  refine q_seq ?_
  refine q_region ?_
  refine q_x (v := s1.v) hF hS (ex_move rfl) rfl rfl fun a hF => ?_
  obtain ⟨t_3, ht_3, hr⟩ := bindS hr
  refine q_call (vs := [s1.v]) hF hS Try.func92 (by kernel_rfl) rfl rfl rfl (c_impl_areLosses p_l t_3 ht_3 _ m hS.vis s1 h1) ?_
  rintro a w _ rfl hF hS
  refine q_x (v := (.bool (!t_3))) hF hS (ex_not rfl) rfl rfl fun a hF => ?_
  refine q_end (n_sq ?_)
  rcases bcase (!t_3) with hc1 | hc1
  · have hr := cond_f hc1 hr
    refine q_cond_f hF rfl hc1 ?_
    refine q_skipc (n_sq ?_)
    refine q_seq ?_
    refine q_region ?_
    obtain ⟨t_4, ht_4, hr⟩ := bindS hr
    refine q_call (vs := []) hF hS Try.func36 (by kernel_rfl) rfl rfl rfl (c_impl_NoLoss  t_4 ht_4 _ m hS.vis) ?_
    rintro a w _ rfl hF hS
    refine q_alloc (cs := [(.int .i64 0), (.int .i64 0), (.int .i64 0), (.int .i64 0)]) hF hS rfl rfl rfl fun a w b5 hF hS => ?_
    refine q_store (vs := [(.int .i64 t_4.Ratio.Num), (.int .i64 t_4.Ratio.Den), (.int .i64 t_4.Rho.Num), (.int .i64 t_4.Rho.Den)]) (cs' := [(.int .i64 t_4.Ratio.Num), (.int .i64 t_4.Ratio.Den), (.int .i64 t_4.Rho.Num), (.int .i64 t_4.Rho.Den)]) 0 0 hF hS sz26 rfl rfl rfl rfl rfl rfl rfl rfl fun a w hF hS => ?_
    refine q_end (n_sq ?_)
    refine q_seq ?_
    refine q_seq ?_
    refine q_region ?_
    refine q_x (v := s1.v) hF hS (ex_move rfl) rfl rfl fun a hF => ?_
    refine q_x (v := (.int .i64 (goLen p_l))) hF hS (ex_len Try.underlying33 rfl h1.len) rfl rfl fun a hF => ?_
    refine q_x (v := (.int .i64 0)) hF hS (ex_move rfl) rfl rfl fun a hF => ?_
    refine q_end (n_sq ?_)
    refine q_block ?_
    obtain ⟨out_12, hl2, hr⟩ := bindS hr
    refine q_loop (fun (s : Int × impl_Loss) a w => ∃ t_6, ∃ out_7, s = (t_6, out_7) ∧ Fr a 23 [(2, (.pointer (some ⟨b2, 0, none⟩))), (4, (.pointer (some ⟨b5, 0, none⟩))), (12, s1.v), (13, (.int .i64 (goLen p_l))), (14, (.int .i64 t_6))] ∧ St [] w0 w m [[⟨b5, [(.int .i64 out_7.Ratio.Num), (.int .i64 out_7.Ratio.Den), (.int .i64 out_7.Rho.Num), (.int .i64 out_7.Rho.Den)], 26⟩], [⟨b2, [(.int .i64 0), (.int .i64 0), (.int .i64 0), (.int .i64 0)], 26⟩]]) (fun (out_12 : impl_Loss) e a w => e = .exit 0 ∧ Fr a 23 [(2, (.pointer (some ⟨b2, 0, none⟩))), (4, (.pointer (some ⟨b5, 0, none⟩)))] ∧ St [] w0 w m [[⟨b5, [(.int .i64 out_12.Ratio.Num), (.int .i64 out_12.Ratio.Den), (.int .i64 out_12.Rho.Num), (.int .i64 out_12.Rho.Den)], 26⟩], [⟨b2, [(.int .i64 0), (.int .i64 0), (.int .i64 0), (.int .i64 0)], 26⟩]]) hl2 ⟨_, _, rfl, hF.sub ⟨rfl, rfl, rfl, rfl, rfl, trivial⟩, hS⟩ ?_ ?_
    · clear hF hS
      rintro s a w st ⟨t_6, out_7, rfl, hF, hS⟩ hb2
      unfold impl_ParallelLoss_l1 at hb2
      refine q_seq ?_
      refine q_region ?_
      refine q_x (v := (.bool (decide (t_6 < (goLen p_l))))) hF hS (ex_ibin rfl rfl rfl) rfl rfl fun a hF => ?_
      refine q_end (n_sq ?_)
      refine q_seq ?_
      rcases bcase (decide (t_6 < (goLen p_l))) with hc3 | hc3
      · have hb2 := cond_f hc3 hb2
        refine q_cond_f hF rfl hc3 ?_
        refine q_exit (x_sq ?_)
        obtain rfl := someI hb2
        exact ⟨nofun, .inl ⟨rfl, hF.sub ⟨rfl, rfl, trivial⟩, hS⟩⟩
      · have hb2 := cond_t hc3 hb2
        refine q_cond_t hF rfl hc3 ?_
        refine q_skipc (n_sq ?_)
        refine q_seq ?_
        refine q_block ?_
        refine q_seq ?_
        refine q_region ?_
        obtain ⟨e_8, he_8, hb2⟩ := bindS hb2
        obtain ⟨vs9, at9, d9⟩ := h1.at he_8 4 rfl
        obtain rfl : vs9 = [(.int .i64 e_8.Ratio.Num), (.int .i64 e_8.Ratio.Den), (.int .i64 e_8.Rho.Num), (.int .i64 e_8.Rho.Den)] := d9
        refine q_x (v := (elP s1 (t_6.toNat * 4))) hF hS (ex_indexAddr Try.underlying33 sz26 rfl rfl (h1.idx he_8)) rfl rfl fun a hF => ?_
        refine q_x (v := (.agg #[(.int .i64 e_8.Ratio.Num), (.int .i64 e_8.Ratio.Den), (.int .i64 e_8.Rho.Num), (.int .i64 e_8.Rho.Den)])) hF hS (ex_loadEA (us := [(.int .i64 e_8.Ratio.Num), (.int .i64 e_8.Ratio.Den), (.int .i64 e_8.Rho.Num), (.int .i64 e_8.Rho.Den)]) 0 Try.underlying26 rfl sz26 rfl ((at9).at) rfl rfl rfl) rfl rfl fun a hF => ?_
        refine q_alloc (cs := [(.int .i64 0), (.int .i64 0), (.int .i64 0), (.int .i64 0)]) hF hS rfl rfl rfl fun a w b10 hF hS => ?_
        refine q_store (vs := [(.int .i64 e_8.Ratio.Num), (.int .i64 e_8.Ratio.Den), (.int .i64 e_8.Rho.Num), (.int .i64 e_8.Rho.Den)]) (cs' := [(.int .i64 e_8.Ratio.Num), (.int .i64 e_8.Ratio.Den), (.int .i64 e_8.Rho.Num), (.int .i64 e_8.Rho.Den)]) 0 0 hF hS sz26 rfl rfl rfl rfl rfl rfl rfl rfl fun a w hF hS => ?_
        refine q_end (n_sq ?_)
        refine q_region ?_
        refine q_x (v := (.agg #[(.int .i64 out_7.Ratio.Num), (.int .i64 out_7.Ratio.Den), (.int .i64 out_7.Rho.Num), (.int .i64 out_7.Rho.Den)])) hF hS (ex_loadA (vs := [(.int .i64 out_7.Ratio.Num), (.int .i64 out_7.Ratio.Den), (.int .i64 out_7.Rho.Num), (.int .i64 out_7.Rho.Den)]) 1 0 Try.underlying26 rfl sz26 rfl rfl rfl rfl) rfl rfl fun a hF => ?_
        refine q_x (v := (.agg #[(.int .i64 e_8.Ratio.Num), (.int .i64 e_8.Ratio.Den), (.int .i64 e_8.Rho.Num), (.int .i64 e_8.Rho.Den)])) hF hS (ex_loadA (vs := [(.int .i64 e_8.Ratio.Num), (.int .i64 e_8.Ratio.Den), (.int .i64 e_8.Rho.Num), (.int .i64 e_8.Rho.Den)]) 0 0 Try.underlying26 rfl sz26 rfl rfl rfl rfl) rfl rfl fun a hF => ?_
        obtain ⟨t_11, ht_11, hb2⟩ := bindS hb2
        refine q_call (vs := [(.agg #[(.int .i64 out_7.Ratio.Num), (.int .i64 out_7.Ratio.Den), (.int .i64 out_7.Rho.Num), (.int .i64 out_7.Rho.Den)]), (.agg #[(.int .i64 e_8.Ratio.Num), (.int .i64 e_8.Ratio.Den), (.int .i64 e_8.Rho.Num), (.int .i64 e_8.Rho.Den)])]) hF hS Try.func109 (by kernel_rfl) rfl rfl rfl (c_impl_greatest out_7 e_8 t_11 ht_11 _ m hS.vis) ?_
        rintro a w _ rfl hF hS
        refine q_store (vs := [(.int .i64 t_11.Ratio.Num), (.int .i64 t_11.Ratio.Den), (.int .i64 t_11.Rho.Num), (.int .i64 t_11.Rho.Den)]) (cs' := [(.int .i64 t_11.Ratio.Num), (.int .i64 t_11.Ratio.Den), (.int .i64 t_11.Rho.Num), (.int .i64 t_11.Rho.Den)]) 1 0 hF hS sz26 rfl rfl rfl rfl rfl rfl rfl rfl fun a w hF hS => ?_
        refine q_end (n_ib (n_sq ?_))
        refine q_region ?_
        refine q_x (v := (.int .i64 (w64 (t_6 + 1)))) hF hS (ex_ibin rfl rfl rfl) rfl rfl fun a hF => ?_
        refine q_x (v := (.int .i64 (w64 (t_6 + 1)))) hF hS (ex_move rfl) rfl rfl fun a hF => ?_
        refine q_end ?_
        obtain rfl := someI hb2
        exact ⟨rfl, _, _, rfl, hF.sub ⟨rfl, rfl, rfl, rfl, rfl, trivial⟩, hS.mask [false, true, true]⟩
    · rintro e a w ⟨rfl, hF, hS⟩
      refine x_ib (n_sq ?_)
      refine q_seq ?_
      refine q_region ?_
      refine q_x (v := (.agg #[(.int .i64 out_12.Ratio.Num), (.int .i64 out_12.Ratio.Den), (.int .i64 out_12.Rho.Num), (.int .i64 out_12.Rho.Den)])) hF hS (ex_loadA (vs := [(.int .i64 out_12.Ratio.Num), (.int .i64 out_12.Ratio.Den), (.int .i64 out_12.Rho.Num), (.int .i64 out_12.Rho.Den)]) 0 0 Try.underlying26 rfl sz26 rfl rfl rfl rfl) rfl rfl fun a hF => ?_
      refine q_store (vs := [(.int .i64 out_12.Ratio.Num), (.int .i64 out_12.Ratio.Den), (.int .i64 out_12.Rho.Num), (.int .i64 out_12.Rho.Den)]) (cs' := [(.int .i64 out_12.Ratio.Num), (.int .i64 out_12.Ratio.Den), (.int .i64 out_12.Rho.Num), (.int .i64 out_12.Rho.Den)]) 1 0 hF hS sz26 rfl rfl rfl rfl rfl rfl rfl rfl fun a w hF hS => ?_
      refine q_x (v := (.bool true)) hF hS (ex_assign rfl) rfl rfl fun a hF => ?_
      refine q_end (n_sq (q_ret ?_))
      obtain rfl := someI hr
      exact ret_of hF hS rfl (.cellA (us := [(.int .i64 out_12.Ratio.Num), (.int .i64 out_12.Ratio.Den), (.int .i64 out_12.Rho.Num), (.int .i64 out_12.Rho.Den)]) 1 0 Try.underlying26 rfl sz26 rfl rfl rfl rfl (.tmp rfl .nil)) rfl
  · have hr := cond_t hc1 hr
    refine q_cond_t hF rfl hc1 ?_
    refine q_seq ?_
    refine q_region ?_
    refine q_x (v := (.agg #[(.int .i64 0), (.int .i64 0), (.int .i64 0), (.int .i64 0)])) hF hS (ex_build (cells := [(.int .i64 0), (.int .i64 0), (.int .i64 0), (.int .i64 0)]) rfl (by kernel_rfl)) rfl rfl fun a hF => ?_
    refine q_store (vs := [(.int .i64 0), (.int .i64 0), (.int .i64 0), (.int .i64 0)]) (cs' := [(.int .i64 0), (.int .i64 0), (.int .i64 0), (.int .i64 0)]) 0 0 hF hS sz26 rfl rfl rfl rfl rfl rfl rfl rfl fun a w hF hS => ?_
    refine q_x (v := (.bool false)) hF hS (ex_assign rfl) rfl rfl fun a hF => ?_
    refine q_end (n_sq (q_ret (r_sq ?_)))
    obtain rfl := someI hr
    exact ret_of hF hS rfl (.cellA (us := [(.int .i64 0), (.int .i64 0), (.int .i64 0), (.int .i64 0)]) 0 0 Try.underlying26 rfl sz26 rfl rfl rfl rfl (.tmp rfl .nil)) rfl

theorem c_spec_pList (p_l : List impl_Loss) (r : Bool) (hr : spec_pList p_l = some r) (w0 : World) (m : Mem) (hv : Vis m w0) (s1 : Sl) (h1 : Rd m s1 p_l) :
    Ret Try.prog 110 [s1.v] w0 (fun v _ => v = (.bool r)) := by
  unfold spec_pList at hr
  refine ret_start Try.func110 rfl 18 rfl rfl m hv fun a hF hS => ?_
  refine q_seq ?_
  refine q_region ?_
  refine q_x (v := (.bool false)) hF hS (ex_assign rfl) rfl rfl fun a hF => ?_
  refine q_end (n_sq ?_)
  refine q_seq ?_
  refine q_seq ?_
  refine q_region ?_
  refine q_x (v := s1.v) hF hS (ex_move rfl) rfl rfl fun a hF => ?_
  refine q_x (v := (.int .i64 (goLen p_l))) hF hS (ex_len Try.underlying33 rfl h1.len) rfl rfl fun a hF => ?_
  refine q_x (v := (.int .i64 0)) hF hS (ex_move rfl) rfl rfl fun a hF => ?_
  refine q_end (n_sq ?_)
  refine q_block ?_
  obtain ⟨o1, hl1, hr⟩ := bindS hr
  refine q_loop (fun (t_2 : Int) a w => Fr a 18 [(0, s1.v), (5, s1.v), (6, (.int .i64 (goLen p_l))), (7, (.int .i64 t_2))] ∧ St [] w0 w m []) (fun (o : (Unit) ⊕ (Bool)) e a w => o = .inl () ∧ e = .exit 0 ∧ Fr a 18 [(0, s1.v)] ∧ St [] w0 w m []) hl1 ⟨hF.sub ⟨rfl, rfl, rfl, rfl, trivial⟩, hS⟩ ?_ ?_
  · clear hF hS
    rintro t_2 a w st ⟨hF, hS⟩ hb1
    unfold spec_pList_l1 at hb1
    refine q_seq ?_
    refine q_region ?_
    refine q_x (v := (.bool (decide (t_2 < (goLen p_l))))) hF hS (ex_ibin rfl rfl rfl) rfl rfl fun a hF => ?_
    refine q_end (n_sq ?_)
    refine q_seq ?_
    rcases bcase (decide (t_2 < (goLen p_l))) with hc2 | hc2
    · have hb1 := cond_f hc2 hb1
      refine q_cond_f hF rfl hc2 ?_
      refine q_exit (x_sq ?_)
      obtain rfl := someI hb1
      exact ⟨nofun, .inl ⟨rfl, rfl, hF.sub ⟨rfl, trivial⟩, hS⟩⟩
    · have hb1 := cond_t hc2 hb1
      refine q_cond_t hF rfl hc2 ?_
      refine q_skipc (n_sq ?_)
      refine q_seq ?_
      refine q_block ?_
      refine q_seq ?_
      refine q_region ?_
      obtain ⟨e_3, he_3, hb1⟩ := bindS hb1
      obtain ⟨vs4, at4, d4⟩ := h1.at he_3 4 rfl
      obtain rfl : vs4 = [(.int .i64 e_3.Ratio.Num), (.int .i64 e_3.Ratio.Den), (.int .i64 e_3.Rho.Num), (.int .i64 e_3.Rho.Den)] := d4
      refine q_x (v := (elP s1 (t_2.toNat * 4))) hF hS (ex_indexAddr Try.underlying33 sz26 rfl rfl (h1.idx he_3)) rfl rfl fun a hF => ?_
      refine q_x (v := (.agg #[(.int .i64 e_3.Ratio.Num), (.int .i64 e_3.Ratio.Den), (.int .i64 e_3.Rho.Num), (.int .i64 e_3.Rho.Den)])) hF hS (ex_loadEA (us := [(.int .i64 e_3.Ratio.Num), (.int .i64 e_3.Ratio.Den), (.int .i64 e_3.Rho.Num), (.int .i64 e_3.Rho.Den)]) 0 Try.underlying26 rfl sz26 rfl ((at4).at) rfl rfl rfl) rfl rfl fun a hF => ?_
      refine q_alloc (cs := [(.int .i64 0), (.int .i64 0), (.int .i64 0), (.int .i64 0)]) hF hS rfl rfl rfl fun a w b5 hF hS => ?_
      refine q_store (vs := [(.int .i64 e_3.Ratio.Num), (.int .i64 e_3.Ratio.Den), (.int .i64 e_3.Rho.Num), (.int .i64 e_3.Rho.Den)]) (cs' := [(.int .i64 e_3.Ratio.Num), (.int .i64 e_3.Ratio.Den), (.int .i64 e_3.Rho.Num), (.int .i64 e_3.Rho.Den)]) 0 0 hF hS sz26 rfl rfl rfl rfl rfl rfl rfl rfl fun a w hF hS => ?_
      refine q_end (n_sq ?_)
      refine q_seq ?_
      refine q_region ?_
      refine q_x (v := (.agg #[(.int .i64 e_3.Ratio.Num), (.int .i64 e_3.Ratio.Den), (.int .i64 e_3.Rho.Num), (.int .i64 e_3.Rho.Den)])) hF hS (ex_loadA (vs := [(.int .i64 e_3.Ratio.Num), (.int .i64 e_3.Ratio.Den), (.int .i64 e_3.Rho.Num), (.int .i64 e_3.Rho.Den)]) 0 0 Try.underlying26 rfl sz26 rfl rfl rfl rfl) rfl rfl fun a hF => ?_
      obtain ⟨t_6, ht_6, hb1⟩ := bindS hb1
      refine q_call (vs := [(.agg #[(.int .i64 e_3.Ratio.Num), (.int .i64 e_3.Ratio.Den), (.int .i64 e_3.Rho.Num), (.int .i64 e_3.Rho.Den)])]) hF hS Try.func82 (by kernel_rfl) rfl rfl rfl (c_spec_pGood e_3 t_6 ht_6 _ m hS.vis) ?_
      rintro a w _ rfl hF hS
      refine q_x (v := (.bool (!t_6))) hF hS (ex_not rfl) rfl rfl fun a hF => ?_
      refine q_end (n_sq ?_)
      rcases bcase (!t_6) with hc3 | hc3
      · have hb1 := cond_f hc3 hb1
        refine q_cond_f hF rfl hc3 ?_
        refine q_skipc (n_ib (n_sq ?_))
        refine q_region ?_
        refine q_x (v := (.int .i64 (w64 (t_2 + 1)))) hF hS (ex_ibin rfl rfl rfl) rfl rfl fun a hF => ?_
        refine q_x (v := (.int .i64 (w64 (t_2 + 1)))) hF hS (ex_move rfl) rfl rfl fun a hF => ?_
        refine q_end ?_
        obtain rfl := someI hb1
        exact ⟨rfl, hF.sub ⟨rfl, rfl, rfl, rfl, trivial⟩, hS.mask [false]⟩
      · have hb1 := cond_t hc3 hb1
        refine q_cond_t hF rfl hc3 ?_
        refine q_seq ?_
        refine q_region ?_
        refine q_x (v := (.bool false)) hF hS (ex_assign rfl) rfl rfl fun a hF => ?_
        refine q_end (n_sq (q_ret (r_ib (r_sq ?_))))
        obtain rfl := someI hb1
        refine ⟨nofun, .inr fun ho => ?_⟩
        subst ho
        refine r_ib (r_sq ?_)
        obtain rfl := someI hr
        exact ret_of hF hS rfl (.tmp rfl .nil) rfl
  · rintro e a w ⟨rfl, rfl, hF, hS⟩
    refine x_ib (n_sq ?_)
    refine q_seq ?_
    refine q_region ?_
    refine q_x (v := s1.v) hF hS (ex_move rfl) rfl rfl fun a hF => ?_
    refine q_x (v := (.int .i64 (goLen p_l))) hF hS (ex_len Try.underlying33 rfl h1.len) rfl rfl fun a hF => ?_
    refine q_x (v := (.bool (decide ((goLen p_l) ≤ 30)))) hF hS (ex_ibin rfl rfl rfl) rfl rfl fun a hF => ?_
    refine q_x (v := (.bool (decide ((goLen p_l) ≤ 30)))) hF hS (ex_assign rfl) rfl rfl fun a hF => ?_
    refine q_end (n_sq (q_ret ?_))
    obtain rfl := someI hr
    exact ret_of hF hS rfl (.tmp rfl .nil) rfl

theorem c_spec_l1Sign (p_n : Int) (r : Int) (hr : spec_l1Sign p_n = some r) (w0 : World) (m : Mem) (hv : Vis m w0) :
    Ret Try.prog 168 [(.int .i64 p_n)] w0 (fun v _ => v = (.int .i64 r)) := by
  unfold spec_l1Sign at hr
  refine ret_start Try.func168 rfl 9 rfl rfl m hv fun a hF hS => ?_
  refine q_seq ?_
  refine q_region ?_
  refine q_x (v := (.int .i64 0)) hF hS (ex_assign rfl) rfl rfl fun a hF => ?_
  refine q_end (n_sq ?_)
  refine q_seq ?_
  refine q_block ?_
  refine q_seq ?_
  refine q_region ?_
  refine q_x (v := (.int .i64 p_n)) hF hS (ex_move rfl) rfl rfl fun a hF => ?_
  refine q_x (v := (.bool (decide (p_n < 0)))) hF hS (ex_ibin rfl rfl rfl) rfl rfl fun a hF => ?_
  refine q_x (v := (.bool (decide (p_n < 0)))) hF hS (ex_assign rfl) rfl rfl fun a hF => ?_
  refine q_end (n_sq ?_)
  rcases bcase (decide (p_n < 0)) with hc1 | hc1
  · have hr := cond_f hc1 hr
    refine q_cond_f hF rfl hc1 ?_
    refine q_seq ?_
    refine q_region ?_
    refine q_x (v := (.int .i64 p_n)) hF hS (ex_move rfl) rfl rfl fun a hF => ?_
    refine q_x (v := (.bool (decide (0 < p_n)))) hF hS (ex_ibin rfl rfl rfl) rfl rfl fun a hF => ?_
    refine q_x (v := (.bool (decide (0 < p_n)))) hF hS (ex_assign rfl) rfl rfl fun a hF => ?_
    refine q_end (n_sq ?_)
    rcases bcase (decide (0 < p_n)) with hc2 | hc2
    · have hr := cond_f hc2 hr
      refine q_cond_f hF rfl hc2 ?_
      refine q_skipc (n_ib (n_sq ?_))
      refine q_seq ?_
      refine q_region ?_
      refine q_x (v := (.int .i64 0)) hF hS (ex_assign rfl) rfl rfl fun a hF => ?_
      refine q_end (n_sq (q_ret ?_))
      obtain rfl := someI hr
      exact ret_of hF hS rfl (.tmp rfl .nil) rfl
    · have hr := cond_t hc2 hr
      refine q_cond_t hF rfl hc2 ?_
      refine q_seq ?_
      refine q_region ?_
      refine q_x (v := (.int .i64 1)) hF hS (ex_assign rfl) rfl rfl fun a hF => ?_
      refine q_end (n_sq (q_ret (r_ib (r_sq ?_))))
      obtain rfl := someI hr
      exact ret_of hF hS rfl (.tmp rfl .nil) rfl
  · have hr := cond_t hc1 hr
    refine q_cond_t hF rfl hc1 ?_
    refine q_seq ?_
    refine q_region ?_
    refine q_x (v := (.int .i64 (-1))) hF hS (ex_assign rfl) rfl rfl fun a hF => ?_
    refine q_end (n_sq (q_ret (r_ib (r_sq ?_))))
    obtain rfl := someI hr
    exact ret_of hF hS rfl (.tmp rfl .nil) rfl

theorem c_spec_fCmp (p_a : impl_Frac) (p_b : impl_Frac) (r : Int) (hr : spec_fCmp p_a p_b = some r) (w0 : World) (m : Mem) (hv : Vis m w0) :
    Ret Try.prog 131 [(.agg #[(.int .i64 p_a.Num), (.int .i64 p_a.Den)]), (.agg #[(.int .i64 p_b.Num), (.int .i64 p_b.Den)])] w0 (fun v _ => v = (.int .i64 r)) := by
  unfold spec_fCmp at hr
  refine ret_start Try.func131 rfl 17 rfl rfl m hv fun a hF hS => ?_
  refine q_seq ?_
  refine q_region ?_
  refine q_box (cs := [(.int .i64 p_a.Num), (.int .i64 p_a.Den)]) hF hS rfl rfl rfl fun a w b1 hF hS => ?_
  refine q_box (cs := [(.int .i64 p_b.Num), (.int .i64 p_b.Den)]) hF hS rfl rfl rfl fun a w b2 hF hS => ?_
  refine q_x (v := (.int .i64 0)) hF hS (ex_assign rfl) rfl rfl fun a hF => ?_
  refine q_end (n_sq ?_)
  refine q_seq ?_
  refine q_region ?_
  refine q_x (v := (.pointer (some ⟨b1, 0, none⟩))) hF hS (ex_fieldAddr Try.underlying24 rfl sz3 rfl rfl) rfl rfl fun a hF => ?_
  refine q_x (v := (.int .i64 p_a.Num)) hF hS (ex_load1 1 0 Try.underlying3 rfl rfl rfl rfl) rfl rfl fun a hF => ?_
  refine q_x (v := (.pointer (some ⟨b2, 1, none⟩))) hF hS (ex_fieldAddr Try.underlying24 rfl sz3 rfl rfl) rfl rfl fun a hF => ?_
  refine q_x (v := (.int .i64 p_b.Den)) hF hS (ex_load1 0 0 Try.underlying3 rfl rfl rfl rfl) rfl rfl fun a hF => ?_
  refine q_x (v := (.int .i64 (w64 (p_a.Num * p_b.Den)))) hF hS (ex_ibin rfl rfl rfl) rfl rfl fun a hF => ?_
  refine q_x (v := (.pointer (some ⟨b2, 0, none⟩))) hF hS (ex_fieldAddr Try.underlying24 rfl sz3 rfl rfl) rfl rfl fun a hF => ?_
  refine q_x (v := (.int .i64 p_b.Num)) hF hS (ex_load1 0 0 Try.underlying3 rfl rfl rfl rfl) rfl rfl fun a hF => ?_
  refine q_x (v := (.pointer (some ⟨b1, 1, none⟩))) hF hS (ex_fieldAddr Try.underlying24 rfl sz3 rfl rfl) rfl rfl fun a hF => ?_
  refine q_x (v := (.int .i64 p_a.Den)) hF hS (ex_load1 1 0 Try.underlying3 rfl rfl rfl rfl) rfl rfl fun a hF => ?_
  refine q_x (v := (.int .i64 (w64 (p_b.Num * p_a.Den)))) hF hS (ex_ibin rfl rfl rfl) rfl rfl fun a hF => ?_
  refine q_x (v := (.int .i64 (w64 ((w64 (p_a.Num * p_b.Den)) - (w64 (p_b.Num * p_a.Den)))))) hF hS (ex_ibin rfl rfl rfl) rfl rfl fun a hF => ?_
  obtain ⟨t_3, ht_3, hr⟩ := bindS hr
  refine q_call (vs := [(.int .i64 (w64 ((w64 (p_a.Num * p_b.Den)) - (w64 (p_b.Num * p_a.Den)))))]) hF hS Try.func168 (by kernel_rfl) rfl rfl rfl (c_spec_l1Sign (w64 ((w64 (p_a.Num * p_b.Den)) - (w64 (p_b.Num * p_a.Den)))) t_3 ht_3 _ m hS.vis) ?_
  rintro a w _ rfl hF hS
  refine q_x (v := (.int .i64 t_3)) hF hS (ex_assign rfl) rfl rfl fun a hF => ?_
  refine q_end (n_sq (q_ret ?_))
  obtain rfl := someI hr
  exact ret_of hF hS rfl (.tmp rfl .nil) rfl

theorem c_spec_fGreater (p_a : impl_Frac) (p_b : impl_Frac) (r : impl_Frac) (hr : spec_fGreater p_a p_b = some r) (w0 : World) (m : Mem) (hv : Vis m w0) :
    Ret Try.prog 161 [(.agg #[(.int .i64 p_a.Num), (.int .i64 p_a.Den)]), (.agg #[(.int .i64 p_b.Num), (.int .i64 p_b.Den)])] w0 (fun v _ => v = (.agg #[(.int .i64 r.Num), (.int .i64 r.Den)])) := by
  unfold spec_fGreater at hr
  refine ret_start Try.func161 rfl 11 rfl rfl m hv fun a hF hS => ?_
  refine q_seq ?_
  refine q_region ?_
  refine q_box (cs := [(.int .i64 p_a.Num), (.int .i64 p_a.Den)]) hF hS rfl rfl rfl fun a w b1 hF hS => ?_
  refine q_box (cs := [(.int .i64 p_b.Num), (.int .i64 p_b.Den)]) hF hS rfl rfl rfl fun a w b2 hF hS => ?_
  refine q_alloc (cs := [(.int .i64 0), (.int .i64 0)]) hF hS rfl rfl rfl fun a w b3 hF hS => ?_
  refine q_end (n_sq ?_)
  refine q_seq ?_
  refine q_seq ?_
  refine q_region ?_
  refine q_x (v := (.agg #[(.int .i64 p_a.Num), (.int .i64 p_a.Den)])) hF hS (ex_loadA (vs := [(.int .i64 p_a.Num), (.int .i64 p_a.Den)]) 2 0 Try.underlying24 rfl sz24 rfl rfl rfl rfl) rfl rfl fun a hF => ?_
  refine q_x (v := (.agg #[(.int .i64 p_b.Num), (.int .i64 p_b.Den)])) hF hS (ex_loadA (vs := [(.int .i64 p_b.Num), (.int .i64 p_b.Den)]) 1 0 Try.underlying24 rfl sz24 rfl rfl rfl rfl) rfl rfl fun a hF => ?_
  obtain ⟨t_4, ht_4, hr⟩ := bindS hr
  refine q_call (vs := [(.agg #[(.int .i64 p_a.Num), (.int .i64 p_a.Den)]), (.agg #[(.int .i64 p_b.Num), (.int .i64 p_b.Den)])]) hF hS Try.func131 (by kernel_rfl) rfl rfl rfl (c_spec_fCmp p_a p_b t_4 ht_4 _ m hS.vis) ?_
  rintro a w _ rfl hF hS
  refine q_x (v := (.bool (decide (t_4 < 0)))) hF hS (ex_ibin rfl rfl rfl) rfl rfl fun a hF => ?_
  refine q_end (n_sq ?_)
  rcases bcase (decide (t_4 < 0)) with hc1 | hc1
  · have hr := cond_f hc1 hr
    refine q_cond_f hF rfl hc1 ?_
    refine q_skipc (n_sq ?_)
    refine q_seq ?_
    refine q_region ?_
    refine q_x (v := (.agg #[(.int .i64 p_a.Num), (.int .i64 p_a.Den)])) hF hS (ex_loadA (vs := [(.int .i64 p_a.Num), (.int .i64 p_a.Den)]) 2 0 Try.underlying24 rfl sz24 rfl rfl rfl rfl) rfl rfl fun a hF => ?_
    refine q_store (vs := [(.int .i64 p_a.Num), (.int .i64 p_a.Den)]) (cs' := [(.int .i64 p_a.Num), (.int .i64 p_a.Den)]) 0 0 hF hS sz24 rfl rfl rfl rfl rfl rfl rfl rfl fun a w hF hS => ?_
    refine q_end (n_sq (q_ret ?_))
    obtain rfl := someI hr
    exact ret_of hF hS rfl (.cellA (us := [(.int .i64 p_a.Num), (.int .i64 p_a.Den)]) 0 0 Try.underlying24 rfl sz24 rfl rfl rfl rfl .nil) rfl
  · have hr := cond_t hc1 hr
    refine q_cond_t hF rfl hc1 ?_
    refine q_seq ?_
    refine q_region ?_
    refine q_x (v := (.agg #[(.int .i64 p_b.Num), (.int .i64 p_b.Den)])) hF hS (ex_loadA (vs := [(.int .i64 p_b.Num), (.int .i64 p_b.Den)]) 1 0 Try.underlying24 rfl sz24 rfl rfl rfl rfl) rfl rfl fun a hF => ?_
    refine q_store (vs := [(.int .i64 p_b.Num), (.int .i64 p_b.Den)]) (cs' := [(.int .i64 p_b.Num), (.int .i64 p_b.Den)]) 0 0 hF hS sz24 rfl rfl rfl rfl rfl rfl rfl rfl fun a w hF hS => ?_
    refine q_end (n_sq (q_ret (r_sq ?_)))
    obtain rfl := someI hr
    exact ret_of hF hS rfl (.cellA (us := [(.int .i64 p_b.Num), (.int .i64 p_b.Den)]) 0 0 Try.underlying24 rfl sz24 rfl rfl rfl rfl .nil) rfl

theorem c_spec_pParallel (p_l : List impl_Loss) (r : impl_Loss) (hr : spec_pParallel p_l = some r) (w0 : World) (m : Mem) (hv : Vis m w0) (s1 : Sl) (h1 : Rd m s1 p_l) :
    Ret Try.prog 111 [s1.v] w0 (fun v _ => v = (.agg #[(.int .i64 r.Ratio.Num), (.int .i64 r.Ratio.Den), (.int .i64 r.Rho.Num), (.int .i64 r.Rho.Den)])) := by
  unfold spec_pParallel at hr
  refine ret_start Try.func111 rfl 26 rfl rfl m hv fun a hF hS => ?_
  refine q_seq ?_
  refine q_region ?_
  refine q_alloc (cs := [(.int .i64 0), (.int .i64 0), (.int .i64 0), (.int .i64 0)]) hF hS rfl rfl rfl fun a w b2 hF hS => ?_
  refine q_end (n_sq ?_)
  refine q_seq ?_
  refine q_region ?_
  obtain ⟨t_3, ht_3, hr⟩ := bindS hr
  refine q_call (vs := []) hF hS Try.func88 (by kernel_rfl) rfl rfl rfl (c_spec_pNone  t_3 ht_3 _ m hS.vis) ?_
  rintro a w _ rfl hF hS
  refine q_alloc (cs := [(.int .i64 0), (.int .i64 0), (.int .i64 0), (.int .i64 0)]) hF hS rfl rfl rfl fun a w b4 hF hS => ?_
  refine q_store (vs := [(.int .i64 t_3.Ratio.Num), (.int .i64 t_3.Ratio.Den), (.int .i64 t_3.Rho.Num), (.int .i64 t_3.Rho.Den)]) (cs' := [(.int .i64 t_3.Ratio.Num), (.int .i64 t_3.Ratio.Den), (.int .i64 t_3.Rho.Num), (.int .i64 t_3.Rho.Den)]) 0 0 hF hS sz26 rfl rfl rfl rfl rfl rfl rfl rfl fun a w hF hS => ?_
  refine q_end (n_sq ?_)
  refine q_seq ?_
  refine q_seq ?_
  refine q_region ?_
  refine q_x (v := s1.v) hF hS (ex_move rfl) rfl rfl fun a hF => ?_
  refine q_x (v := (.int .i64 (goLen p_l))) hF hS (ex_len Try.underlying33 rfl h1.len) rfl rfl fun a hF => ?_
  refine q_x (v := (.int .i64 0)) hF hS (ex_move rfl) rfl rfl fun a hF => ?_
  refine q_end (n_sq ?_)
  refine q_block ?_
  obtain ⟨out_16, hl1, hr⟩ := bindS hr
  refine q_loop (fun (s : Int × impl_Loss) a w => ∃ t_5, ∃ out_6, s = (t_5, out_6) ∧ Fr a 26 [(2, (.pointer (some ⟨b2, 0, none⟩))), (3, (.pointer (some ⟨b4, 0, none⟩))), (7, s1.v), (8, (.int .i64 (goLen p_l))), (9, (.int .i64 t_5))] ∧ St [] w0 w m [[⟨b4, [(.int .i64 out_6.Ratio.Num), (.int .i64 out_6.Ratio.Den), (.int .i64 out_6.Rho.Num), (.int .i64 out_6.Rho.Den)], 26⟩], [⟨b2, [(.int .i64 0), (.int .i64 0), (.int .i64 0), (.int .i64 0)], 26⟩]]) (fun (out_16 : impl_Loss) e a w => e = .exit 0 ∧ Fr a 26 [(2, (.pointer (some ⟨b2, 0, none⟩))), (3, (.pointer (some ⟨b4, 0, none⟩)))] ∧ St [] w0 w m [[⟨b4, [(.int .i64 out_16.Ratio.Num), (.int .i64 out_16.Ratio.Den), (.int .i64 out_16.Rho.Num), (.int .i64 out_16.Rho.Den)], 26⟩], [⟨b2, [(.int .i64 0), (.int .i64 0), (.int .i64 0), (.int .i64 0)], 26⟩]]) hl1 ⟨_, _, rfl, hF.sub ⟨rfl, rfl, rfl, rfl, rfl, trivial⟩, hS⟩ ?_ ?_
  · clear hF hS
    rintro s a w st ⟨t_5, out_6, rfl, hF, hS⟩ hb1
    unfold spec_pParallel_l1 at hb1
    refine q_seq ?_
    refine q_region ?_
    refine q_x (v := (.bool (decide (t_5 < (goLen p_l))))) hF hS (ex_ibin rfl rfl rfl) rfl rfl fun a hF => ?_
    refine q_end (n_sq ?_)
    refine q_seq ?_
    rcases bcase (decide (t_5 < (goLen p_l))) with hc2 | hc2
    · have hb1 := cond_f hc2 hb1
      refine q_cond_f hF rfl hc2 ?_
      refine q_exit (x_sq ?_)
      obtain rfl := someI hb1
      exact ⟨nofun, .inl ⟨rfl, hF.sub ⟨rfl, rfl, trivial⟩, hS⟩⟩
    · have hb1 := cond_t hc2 hb1
      refine q_cond_t hF rfl hc2 ?_
      refine q_skipc (n_sq ?_)
      refine q_seq ?_
      refine q_block ?_
      refine q_seq ?_
      refine q_region ?_
      obtain ⟨e_7, he_7, hb1⟩ := bindS hb1
      obtain ⟨vs8, at8, d8⟩ := h1.at he_7 4 rfl
      obtain rfl : vs8 = [(.int .i64 e_7.Ratio.Num), (.int .i64 e_7.Ratio.Den), (.int .i64 e_7.Rho.Num), (.int .i64 e_7.Rho.Den)] := d8
      refine q_x (v := (elP s1 (t_5.toNat * 4))) hF hS (ex_indexAddr Try.underlying33 sz26 rfl rfl (h1.idx he_7)) rfl rfl fun a hF => ?_
      refine q_x (v := (.agg #[(.int .i64 e_7.Ratio.Num), (.int .i64 e_7.Ratio.Den), (.int .i64 e_7.Rho.Num), (.int .i64 e_7.Rho.Den)])) hF hS (ex_loadEA (us := [(.int .i64 e_7.Ratio.Num), (.int .i64 e_7.Ratio.Den), (.int .i64 e_7.Rho.Num), (.int .i64 e_7.Rho.Den)]) 0 Try.underlying26 rfl sz26 rfl ((at8).at) rfl rfl rfl) rfl rfl fun a hF => ?_
      refine q_alloc (cs := [(.int .i64 0), (.int .i64 0), (.int .i64 0), (.int .i64 0)]) hF hS rfl rfl rfl fun a w b9 hF hS => ?_
      refine q_store (vs := [(.int .i64 e_7.Ratio.Num), (.int .i64 e_7.Ratio.Den), (.int .i64 e_7.Rho.Num), (.int .i64 e_7.Rho.Den)]) (cs' := [(.int .i64 e_7.Ratio.Num), (.int .i64 e_7.Ratio.Den), (.int .i64 e_7.Rho.Num), (.int .i64 e_7.Rho.Den)]) 0 0 hF hS sz26 rfl rfl rfl rfl rfl rfl rfl rfl fun a w hF hS => ?_
      refine q_end (n_sq ?_)
      refine e_region [11] mixed fun w' hw' => ?_
      have hS := hS.below hw'
      refine e_p (v := (.pointer (some ⟨b4, 0, none⟩))) 0 hF rfl (ex_fieldAddr Try.underlying26 rfl sz24 rfl rfl) rfl rfl (by kernel_rfl) (by kernel_rfl) (by kernel_rfl) fun a hF => ?_
      refine e_x (v := (.agg #[(.int .i64 out_6.Ratio.Num), (.int .i64 out_6.Ratio.Den)])) 1 hF hS rfl (ex_loadA (vs := [(.int .i64 out_6.Ratio.Num), (.int .i64 out_6.Ratio.Den)]) 1 0 Try.underlying24 rfl sz24 rfl rfl rfl rfl) rfl rfl (by kernel_rfl) (by kernel_rfl) (by kernel_rfl) (by kernel_rfl) fun a hF => ?_
      refine e_p (v := (.pointer (some ⟨b9, 0, none⟩))) 2 hF rfl (ex_fieldAddr Try.underlying26 rfl sz24 rfl rfl) rfl rfl (by kernel_rfl) (by kernel_rfl) (by kernel_rfl) fun a hF => ?_
      refine e_x (v := (.agg #[(.int .i64 e_7.Ratio.Num), (.int .i64 e_7.Ratio.Den)])) 3 hF hS rfl (ex_loadA (vs := [(.int .i64 e_7.Ratio.Num), (.int .i64 e_7.Ratio.Den)]) 0 0 Try.underlying24 rfl sz24 rfl rfl rfl rfl) rfl rfl (by kernel_rfl) (by kernel_rfl) (by kernel_rfl) (by kernel_rfl) fun a hF => ?_
      refine e_p (v := (.pointer (some ⟨b4, 2, none⟩))) 5 hF rfl (ex_fieldAddr Try.underlying26 rfl sz24 rfl rfl) rfl rfl (by kernel_rfl) (by kernel_rfl) (by kernel_rfl) fun a hF => ?_
      refine e_x (v := (.agg #[(.int .i64 out_6.Rho.Num), (.int .i64 out_6.Rho.Den)])) 6 hF hS rfl (ex_loadA (vs := [(.int .i64 out_6.Rho.Num), (.int .i64 out_6.Rho.Den)]) 1 0 Try.underlying24 rfl sz24 rfl rfl rfl rfl) rfl rfl (by kernel_rfl) (by kernel_rfl) (by kernel_rfl) (by kernel_rfl) fun a hF => ?_
      refine e_p (v := (.pointer (some ⟨b9, 2, none⟩))) 7 hF rfl (ex_fieldAddr Try.underlying26 rfl sz24 rfl rfl) rfl rfl (by kernel_rfl) (by kernel_rfl) (by kernel_rfl) fun a hF => ?_
      refine e_x (v := (.agg #[(.int .i64 e_7.Rho.Num), (.int .i64 e_7.Rho.Den)])) 8 hF hS rfl (ex_loadA (vs := [(.int .i64 e_7.Rho.Num), (.int .i64 e_7.Rho.Den)]) 0 0 Try.underlying24 rfl sz24 rfl rfl rfl rfl) rfl rfl (by kernel_rfl) (by kernel_rfl) (by kernel_rfl) (by kernel_rfl) fun a hF => ?_
      refine e_one 4 (by kernel_rfl) ?_
      obtain ⟨t_14, ht_14, hb1⟩ := bindS hb1
      refine e_call (vs := [(.agg #[(.int .i64 out_6.Ratio.Num), (.int .i64 out_6.Ratio.Den)]), (.agg #[(.int .i64 e_7.Ratio.Num), (.int .i64 e_7.Ratio.Den)])]) hF hS rfl Try.func161 (by kernel_rfl) rfl rfl rfl (c_spec_fGreater out_6.Ratio e_7.Ratio t_14 ht_14 _ m hS.vis) ?_
      rintro a w _ rfl hF hS
      refine e_one 9 (by kernel_rfl) ?_
      obtain ⟨t_15, ht_15, hb1⟩ := bindS hb1
      refine e_call (vs := [(.agg #[(.int .i64 out_6.Rho.Num), (.int .i64 out_6.Rho.Den)]), (.agg #[(.int .i64 e_7.Rho.Num), (.int .i64 e_7.Rho.Den)])]) hF hS rfl Try.func161 (by kernel_rfl) rfl rfl rfl (c_spec_fGreater out_6.Rho e_7.Rho t_15 ht_15 _ m hS.vis) ?_
      rintro a w _ rfl hF hS
      refine e_p (v := (.agg #[(.int .i64 t_14.Num), (.int .i64 t_14.Den), (.int .i64 t_15.Num), (.int .i64 t_15.Den)])) 10 hF rfl (ex_build (cells := [(.int .i64 t_14.Num), (.int .i64 t_14.Den), (.int .i64 t_15.Num), (.int .i64 t_15.Den)]) rfl (by kernel_rfl)) rfl rfl (by kernel_rfl) (by kernel_rfl) (by kernel_rfl) fun a hF => ?_
      refine e_one 11 (by kernel_rfl) ?_
      refine e_store (vs := [(.int .i64 t_14.Num), (.int .i64 t_14.Den), (.int .i64 t_15.Num), (.int .i64 t_15.Den)]) (cs' := [(.int .i64 t_14.Num), (.int .i64 t_14.Den), (.int .i64 t_15.Num), (.int .i64 t_15.Den)]) 1 0 hF hS rfl rfl sz26 rfl rfl rfl rfl rfl rfl rfl rfl fun a w hF hS => ?_
      refine e_end (by kernel_rfl) (n_ib (n_sq ?_)) _
      refine q_region ?_
      refine q_x (v := (.int .i64 (w64 (t_5 + 1)))) hF hS (ex_ibin rfl rfl rfl) rfl rfl fun a hF => ?_
      refine q_x (v := (.int .i64 (w64 (t_5 + 1)))) hF hS (ex_move rfl) rfl rfl fun a hF => ?_
      refine q_end ?_
      obtain rfl := someI hb1
      exact ⟨rfl, _, _, rfl, hF.sub ⟨rfl, rfl, rfl, rfl, rfl, trivial⟩, hS.mask [false, true, true]⟩
  · rintro e a w ⟨rfl, hF, hS⟩
    refine x_ib (n_sq ?_)
    refine q_seq ?_
    refine q_region ?_
    refine q_x (v := (.agg #[(.int .i64 out_16.Ratio.Num), (.int .i64 out_16.Ratio.Den), (.int .i64 out_16.Rho.Num), (.int .i64 out_16.Rho.Den)])) hF hS (ex_loadA (vs := [(.int .i64 out_16.Ratio.Num), (.int .i64 out_16.Ratio.Den), (.int .i64 out_16.Rho.Num), (.int .i64 out_16.Rho.Den)]) 0 0 Try.underlying26 rfl sz26 rfl rfl rfl rfl) rfl rfl fun a hF => ?_
    refine q_store (vs := [(.int .i64 out_16.Ratio.Num), (.int .i64 out_16.Ratio.Den), (.int .i64 out_16.Rho.Num), (.int .i64 out_16.Rho.Den)]) (cs' := [(.int .i64 out_16.Ratio.Num), (.int .i64 out_16.Ratio.Den), (.int .i64 out_16.Rho.Num), (.int .i64 out_16.Rho.Den)]) 1 0 hF hS sz26 rfl rfl rfl rfl rfl rfl rfl rfl fun a w hF hS => ?_
    refine q_end (n_sq (q_ret ?_))
    obtain rfl := someI hr
    exact ret_of hF hS rfl (.cellA (us := [(.int .i64 out_16.Ratio.Num), (.int .i64 out_16.Ratio.Den), (.int .i64 out_16.Rho.Num), (.int .i64 out_16.Rho.Den)]) 1 0 Try.underlying26 rfl sz26 rfl rfl rfl rfl .nil) rfl

theorem c_spec_ParallelLoss (p_l : List impl_Loss) (r : impl_Loss × Bool) (hr : spec_ParallelLoss p_l = some r) (w0 : World) (m : Mem) (hv : Vis m w0) (s1 : Sl) (h1 : Rd m s1 p_l) :
    Ret Try.prog 30 [s1.v] w0 (fun v _ => v = (.tuple #[(.agg #[(.int .i64 r.1.Ratio.Num), (.int .i64 r.1.Ratio.Den), (.int .i64 r.1.Rho.Num), (.int .i64 r.1.Rho.Den)]), (.bool r.2)])) := by
  unfold spec_ParallelLoss at hr
  refine ret_start Try.func30 rfl 10 rfl rfl m hv fun a hF hS => ?_
  refine q_seq ?_
  refine q_region ?_
  refine q_alloc (cs := [(.int .i64 0), (.int .i64 0), (.int .i64 0), (.int .i64 0)]) hF hS rfl rfl rfl fun a w b2 hF hS => ?_
  refine q_x (v := (.bool false)) hF hS (ex_assign rfl) rfl rfl fun a hF => ?_
  refine q_end (n_sq ?_)
  refine q_seq ?_
  refine q_seq ?_
  refine q_region ?_
  refine q_x (v := s1.v) hF hS (ex_move rfl) rfl rfl fun a hF => ?_
  obtain ⟨t_3, ht_3, hr⟩ := bindS hr
  refine q_call (vs := [s1.v]) hF hS Try.func110 (by kernel_rfl) rfl rfl rfl (c_spec_pList p_l t_3 ht_3 _ m hS.vis s1 h1) ?_
  rintro a w _ rfl hF hS
  refine q_x (v := (.bool (!t_3))) hF hS (ex_not rfl) rfl rfl fun a hF => ?_
  refine q_end (n_sq ?_)
  rcases bcase (!t_3) with hc1 | hc1
  · have hr := cond_f hc1 hr
    refine q_cond_f hF rfl hc1 ?_
    refine q_skipc (n_sq ?_)
    refine q_seq ?_
    refine q_region ?_
    refine q_x (v := s1.v) hF hS (ex_move rfl) rfl rfl fun a hF => ?_
    obtain ⟨t_4, ht_4, hr⟩ := bindS hr
    refine q_call (vs := [s1.v]) hF hS Try.func111 (by kernel_rfl) rfl rfl rfl (c_spec_pParallel p_l t_4 ht_4 _ m hS.vis s1 h1) ?_
    rintro a w _ rfl hF hS
    refine q_store (vs := [(.int .i64 t_4.Ratio.Num), (.int .i64 t_4.Ratio.Den), (.int .i64 t_4.Rho.Num), (.int .i64 t_4.Rho.Den)]) (cs' := [(.int .i64 t_4.Ratio.Num), (.int .i64 t_4.Ratio.Den), (.int .i64 t_4.Rho.Num), (.int .i64 t_4.Rho.Den)]) 0 0 hF hS sz26 rfl rfl rfl rfl rfl rfl rfl rfl fun a w hF hS => ?_
    refine q_x (v := (.bool true)) hF hS (ex_assign rfl) rfl rfl fun a hF => ?_
    refine q_end (n_sq (q_ret ?_))
    obtain rfl := someI hr
    exact ret_of hF hS rfl (.cellA (us := [(.int .i64 t_4.Ratio.Num), (.int .i64 t_4.Ratio.Den), (.int .i64 t_4.Rho.Num), (.int .i64 t_4.Rho.Den)]) 0 0 Try.underlying26 rfl sz26 rfl rfl rfl rfl (.tmp rfl .nil)) rfl
  · have hr := cond_t hc1 hr
    refine q_cond_t hF rfl hc1 ?_
    refine q_seq ?_
    refine q_region ?_
    refine q_x (v := (.agg #[(.int .i64 0), (.int .i64 0), (.int .i64 0), (.int .i64 0)])) hF hS (ex_build (cells := [(.int .i64 0), (.int .i64 0), (.int .i64 0), (.int .i64 0)]) rfl (by kernel_rfl)) rfl rfl fun a hF => ?_
    refine q_store (vs := [(.int .i64 0), (.int .i64 0), (.int .i64 0), (.int .i64 0)]) (cs' := [(.int .i64 0), (.int .i64 0), (.int .i64 0), (.int .i64 0)]) 0 0 hF hS sz26 rfl rfl rfl rfl rfl rfl rfl rfl fun a w hF hS => ?_
    refine q_x (v := (.bool false)) hF hS (ex_assign rfl) rfl rfl fun a hF => ?_
    refine q_end (n_sq (q_ret (r_sq ?_)))
    obtain rfl := someI hr
    exact ret_of hF hS rfl (.cellA (us := [(.int .i64 0), (.int .i64 0), (.int .i64 0), (.int .i64 0)]) 0 0 Try.underlying26 rfl sz26 rfl rfl rfl rfl (.tmp rfl .nil)) rfl

theorem c_spec_l1Cur_one (p_c : spec_l1Cur) (p_n : Int) (r : Bool × spec_l1Cur) (hr : spec_l1Cur_one p_c p_n = some r) (w0 : World) (m : Mem) (b_p_c : Nat) (s1 : Sl) (h1 : Rd m s1 p_c.code) (X : List Nat) (hS : St X w0 w0 m [[⟨b_p_c, [s1.v, (.int .i64 p_c.at_), (.int .u64 p_c.seed.v)], 103⟩]]) :
    RetX Try.prog 86 [(.pointer (some ⟨b_p_c, 0, none⟩)), (.int .i64 p_n)] w0 (fun v w => ∃ (m' : Mem) (s0' : Sl), v = (.bool r.1) ∧ MLe X w0.heap.size m m' ∧ St X w0 w m' [[⟨b_p_c, [s0'.v, (.int .i64 r.2.at_), (.int .u64 r.2.seed.v)], 103⟩]] ∧ Rd m' s0' r.2.code) := by
  unfold spec_l1Cur_one at hr
  refine ret_startX Try.func86 rfl 9 rfl rfl fun a hF => ?_
  refine q_seq ?_
  refine q_region ?_
  refine q_x (v := (.bool false)) hF hS (ex_assign rfl) rfl rfl fun a hF => ?_
  refine q_end (n_sq ?_)
  refine q_seq ?_
  refine q_region ?_
  refine q_x (v := (.pointer (some ⟨b_p_c, 0, none⟩))) hF hS (ex_move rfl) rfl rfl fun a hF => ?_
  refine q_x (v := (.int .i64 p_n)) hF hS (ex_move rfl) rfl rfl fun a hF => ?_
  have hS2 : St _ _ _ _ ([[⟨b_p_c, [s1.v, (.int .i64 p_c.at_), (.int .u64 p_c.seed.v)], 103⟩]] ++ []) := hS
  have hE2 := hS2.enter
  obtain ⟨t_3, ht_3, hr⟩ := bindS hr
  refine q_do rfl fun _ hK => wp_callX (vs := [(.pointer (some ⟨b_p_c, 0, none⟩)), (.int .i64 p_n)]) hF Try.func99 (by kernel_rfl) rfl rfl rfl (c_spec_l1Cur_pick p_c p_n t_3 ht_3 _ m b_p_c s1 h1 _ hE2) fun a w _ hR hF => hK _ _ ?_
  obtain ⟨m2', s4, rfl, hm2, hR2, h4⟩ := hR
  have hS : St _ _ _ _ [[⟨b_p_c, [s4.v, (.int .i64 t_3.2.at_), (.int .u64 t_3.2.seed.v)], 103⟩]] := hS2.leave hR2 hm2
  have hm2 := MLe.weakX hS2 hm2
  refine q_x (v := (.bool (t_3.1 == 0))) hF hS (ex_ibin rfl rfl rfl) rfl rfl fun a hF => ?_
  refine q_x (v := (.bool (t_3.1 == 0))) hF hS (ex_assign rfl) rfl rfl fun a hF => ?_
  refine q_end (n_sq (q_ret ?_))
  obtain rfl := someI hr
  exact ret_ofX hF hS rfl (.tmp rfl .nil) ⟨m2', s4, rfl, hm2, hS.sel [0] (by decide), h4⟩

theorem c_spec_DrawSplitRho (p_code : List (K .u8)) (r : impl_Frac × (List Int)) (hr : spec_DrawSplitRho p_code = some r) (w0 : World) (m : Mem) (hv : Vis m w0) (s1 : Sl) (h1 : Rd m s1 p_code) :
    Ret Try.prog 31 [s1.v] w0 (fun v w => ∃ (m' : Mem) (q0' : Piece) (s0' : Sl), v = (.tuple #[(.agg #[(.int .i64 r.1.Num), (.int .i64 r.1.Den)]), s0'.v]) ∧ MLe [] w0.heap.size m m' ∧ St [] w0 w m' [q0'] ∧ OwnL m' 3 q0' s0' r.2) := by
  unfold spec_DrawSplitRho at hr
  refine ret_start Try.func31 rfl 46 rfl rfl m hv fun a hF hS => ?_
  refine q_seq ?_
  refine q_region ?_
  refine q_alloc (cs := [(.int .i64 0), (.int .i64 0)]) hF hS rfl rfl rfl fun a w b2 hF hS => ?_
  refine q_x (v := nilS.v) hF hS (ex_assign rfl) rfl rfl fun a hF => ?_
  refine q_end (n_sq ?_)
  refine q_seq ?_
  refine q_region ?_
  refine q_x (v := s1.v) hF hS (ex_move rfl) rfl rfl fun a hF => ?_
  refine q_x (v := (.agg #[s1.v, (.int .i64 0), (.int .u64 0)])) hF hS (ex_build (cells := [s1.v, (.int .i64 0), (.int .u64 0)]) rfl (by kernel_rfl)) rfl rfl fun a hF => ?_
  refine q_box (cs := [s1.v, (.int .i64 0), (.int .u64 0)]) hF hS rfl rfl rfl fun a w b3 hF hS => ?_
  refine q_x (v := (.pointer (some ⟨b3, 0, none⟩))) hF hS (ex_assign rfl) rfl rfl fun a hF => ?_
  refine q_end (n_sq ?_)
  refine q_seq ?_
  refine q_region ?_
  refine q_x (v := nilS.v) hF hS (ex_assign rfl) rfl rfl fun a hF => ?_
  refine q_end (n_sq ?_)
  refine q_seq ?_
  refine q_seq ?_
  refine q_region ?_
  refine q_x (v := (.pointer (some ⟨b3, 0, none⟩))) hF hS (ex_move rfl) rfl rfl fun a hF => ?_
  have hS4 : St _ _ _ _ ([[⟨b3, [s1.v, (.int .i64 0), (.int .u64 0)], 103⟩]] ++ [[⟨b2, [(.int .i64 0), (.int .i64 0)], 24⟩]]) := hS
  have hE4 := hS4.enter
  obtain ⟨t_5, ht_5, hr⟩ := bindS hr
  refine q_do rfl fun _ hK => wp_callX (vs := [(.pointer (some ⟨b3, 0, none⟩)), (.int .i64 5)]) hF Try.func99 (by kernel_rfl) rfl rfl rfl (c_spec_l1Cur_pick (spec_l1Cur.mk p_code 0 (⟨0⟩ : K .u64)) 5 t_5 ht_5 _ m b3 s1 h1 _ hE4) fun a w _ hR hF => hK _ _ ?_
  obtain ⟨m4', s6, rfl, hm4, hR4, h6⟩ := hR
  have hS : St _ _ _ _ [[⟨b3, [s6.v, (.int .i64 t_5.2.at_), (.int .u64 t_5.2.seed.v)], 103⟩], [⟨b2, [(.int .i64 0), (.int .i64 0)], 24⟩]] := hS4.leave hR4 hm4
  have hm4 := MLe.weakX hS4 hm4
  refine q_x (v := (.int .i64 t_5.1)) hF hS (ex_assign rfl) rfl rfl fun a hF => ?_
  refine q_end (n_sq ?_)
  refine q_block ?_
  obtain ⟨o1, hl1, hr⟩ := bindS hr
  refine q_loop (fun (s : (List Int) × Int × spec_l1Cur) a w => ∃ (m12 : Mem), ∃ (q8 : Piece), ∃ (s8 : Sl), ∃ (s11 : Sl), ∃ w_7, ∃ k_9, ∃ t_10, s = (w_7, k_9, t_10) ∧ Fr a 46 [(2, (.pointer (some ⟨b2, 0, none⟩))), (4, (.pointer (some ⟨b3, 0, none⟩))), (5, s8.v), (6, (.int .i64 k_9))] ∧ St [] w0 w m12 [q8, [⟨b3, [s11.v, (.int .i64 t_10.at_), (.int .u64 t_10.seed.v)], 103⟩], [⟨b2, [(.int .i64 0), (.int .i64 0)], 24⟩]] ∧ MLe [] w0.heap.size m4' m12 ∧ OwnL m12 3 q8 s8 w_7 ∧ Rd m12 s11 t_10.code) (fun (o : (List Int) × spec_l1Cur) e a w => ∃ (m23 : Mem), ∃ (q20 : Piece), ∃ (s20 : Sl), ∃ (s22 : Sl), ∃ w_19, ∃ t_21, o = (w_19, t_21) ∧ e = .exit 0 ∧ Fr a 46 [(2, (.pointer (some ⟨b2, 0, none⟩))), (4, (.pointer (some ⟨b3, 0, none⟩))), (5, s20.v)] ∧ St [] w0 w m23 [q20, [⟨b3, [s22.v, (.int .i64 t_21.at_), (.int .u64 t_21.seed.v)], 103⟩], [⟨b2, [(.int .i64 0), (.int .i64 0)], 24⟩]] ∧ MLe [] w0.heap.size m4' m23 ∧ OwnL m23 3 q20 s20 w_19 ∧ Rd m23 s22 t_21.code) hl1 ⟨m4', [], nilS, s6, _, _, _, rfl, hF.sub ⟨rfl, rfl, rfl, rfl, trivial⟩, hS.sel [2, 0, 1] (by decide), (MLe.refl _ _), (OwnL.nil (α := Int) m4' 3), h6⟩ ?_ ?_
  · clear hF hS
    rintro s a w st ⟨m12, q8, s8, s11, w_7, k_9, t_10, rfl, hF, hS, hm12, h8, h11⟩ hb1
    unfold spec_DrawSplitRho_l1 at hb1
    refine q_seq ?_
    refine q_seq ?_
    refine q_region ?_
    refine q_x (v := (.int .i64 k_9)) hF hS (ex_move rfl) rfl rfl fun a hF => ?_
    refine q_x (v := (.bool (decide (0 < k_9)))) hF hS (ex_ibin rfl rfl rfl) rfl rfl fun a hF => ?_
    refine q_end (n_sq ?_)
    rcases bcase (decide (0 < k_9)) with hc2 | hc2
    · have hb1 := cond_f hc2 hb1
      refine q_cond_f hF rfl hc2 ?_
      refine q_exit (x_sq ?_)
      obtain rfl := someI hb1
      exact ⟨nofun, .inl ⟨m12, q8, s8, s11, _, _, rfl, rfl, hF.sub ⟨rfl, rfl, rfl, trivial⟩, hS, hm12, h8, h11⟩⟩
    · have hb1 := cond_t hc2 hb1
      refine q_cond_t hF rfl hc2 ?_
      refine q_skipc (n_sq ?_)
      refine q_seq ?_
      refine q_block ?_
      refine q_region ?_
      refine q_x (v := s8.v) hF hS (ex_move rfl) rfl rfl fun a hF => ?_
      refine q_x (v := (.pointer (some ⟨b3, 0, none⟩))) hF hS (ex_move rfl) rfl rfl fun a hF => ?_
      have hS : St _ _ _ _ [[⟨b3, [s11.v, (.int .i64 t_10.at_), (.int .u64 t_10.seed.v)], 103⟩], q8, [⟨b2, [(.int .i64 0), (.int .i64 0)], 24⟩]] := hS.sel [1, 0, 2] (by decide)
      have hS13 : St _ _ _ _ ([[⟨b3, [s11.v, (.int .i64 t_10.at_), (.int .u64 t_10.seed.v)], 103⟩]] ++ [q8, [⟨b2, [(.int .i64 0), (.int .i64 0)], 24⟩]]) := hS
      have hE13 := hS13.enter
      obtain ⟨t_14, ht_14, hb1⟩ := bindS hb1
      refine q_do rfl fun _ hK => wp_callX (vs := [(.pointer (some ⟨b3, 0, none⟩)), (.int .i64 9)]) hF Try.func99 (by kernel_rfl) rfl rfl rfl (c_spec_l1Cur_pick t_10 9 t_14 ht_14 _ m12 b3 s11 h11 _ hE13) fun a w _ hR hF => hK _ _ ?_
      obtain ⟨m13', s15, rfl, hm13, hR13, h15⟩ := hR
      have hS : St _ _ _ _ [[⟨b3, [s15.v, (.int .i64 t_14.2.at_), (.int .u64 t_14.2.seed.v)], 103⟩], q8, [⟨b2, [(.int .i64 0), (.int .i64 0)], 24⟩]] := hS13.leave hR13 hm13
      have hm13 := MLe.weakX hS13 hm13
      refine q_x (v := (.int .i64 (w64 (1 + t_14.1)))) hF hS (ex_ibin rfl rfl rfl) rfl rfl fun a hF => ?_
      refine q_do rfl fun _ hK => wp_buildSlice' (l := ([(w64 (1 + t_14.1))] : List Int)) (cells := [(.int .i64 (w64 (1 + t_14.1)))]) hF hS Try.underlying42 inf3 rfl rfl (by kernel_rfl) rfl rfl rfl ⟨rfl, rfl⟩ rfl rfl fun a w q16 s16 hF hS h16 _ => hK _ _ ?_
      have hS : St _ _ _ _ [q8, q16, [⟨b3, [s15.v, (.int .i64 t_14.2.at_), (.int .u64 t_14.2.seed.v)], 103⟩], [⟨b2, [(.int .i64 0), (.int .i64 0)], 24⟩]] := hS.sel [2, 0, 1, 3] (by decide)
      obtain ⟨l_17, hl_17, hb1⟩ := bindS hb1
      refine q_do rfl fun _ hK => wp_append hF hS (h8.mono hm13.le) Try.underlying42 inf3 rfl rfl rfl rfl (h16.vw hS (j := 1) rfl) rfl (by decide) hl_17 rfl fun a w q18 s18 hF hS h18 => hK _ _ ?_
      refine q_x (v := s18.v) hF hS (ex_assign rfl) rfl rfl fun a hF => ?_
      refine q_end (n_ib (n_sq ?_))
      refine q_region ?_
      refine q_x (v := (.int .i64 k_9)) hF hS (ex_move rfl) rfl rfl fun a hF => ?_
      refine q_x (v := (.int .i64 (w64 (k_9 - 1)))) hF hS (ex_ibin rfl rfl rfl) rfl rfl fun a hF => ?_
      refine q_x (v := (.int .i64 (w64 (k_9 - 1)))) hF hS (ex_assign rfl) rfl rfl fun a hF => ?_
      refine q_end ?_
      obtain rfl := someI hb1
      exact ⟨rfl, m13', q18, s18, s15, _, _, _, rfl, hF.sub ⟨rfl, rfl, rfl, rfl, trivial⟩, hS.mask [true, false, true, true], (hm12.trans hm13), h18, h15⟩
  · rintro e a w ⟨m23, q20, s20, s22, w_19, t_21, rfl, rfl, hF, hS, hm23, h20, h22⟩
    refine x_ib (n_sq ?_)
    refine q_seq ?_
    refine q_seq ?_
    refine q_region ?_
    refine q_x (v := (.pointer (some ⟨b3, 0, none⟩))) hF hS (ex_move rfl) rfl rfl fun a hF => ?_
    have hS : St _ _ _ _ [[⟨b3, [s22.v, (.int .i64 t_21.at_), (.int .u64 t_21.seed.v)], 103⟩], q20, [⟨b2, [(.int .i64 0), (.int .i64 0)], 24⟩]] := hS.sel [1, 0, 2] (by decide)
    have hS24 : St _ _ _ _ ([[⟨b3, [s22.v, (.int .i64 t_21.at_), (.int .u64 t_21.seed.v)], 103⟩]] ++ [q20, [⟨b2, [(.int .i64 0), (.int .i64 0)], 24⟩]]) := hS
    have hE24 := hS24.enter
    obtain ⟨t_25, ht_25, hr⟩ := bindS hr
    refine q_do rfl fun _ hK => wp_callX (vs := [(.pointer (some ⟨b3, 0, none⟩)), (.int .i64 10)]) hF Try.func86 (by kernel_rfl) rfl rfl rfl (c_spec_l1Cur_one t_21 10 t_25 ht_25 _ m23 b3 s22 h22 _ hE24) fun a w _ hR hF => hK _ _ ?_
    obtain ⟨m24', s26, rfl, hm24, hR24, h26⟩ := hR
    have hS : St _ _ _ _ [[⟨b3, [s26.v, (.int .i64 t_25.2.at_), (.int .u64 t_25.2.seed.v)], 103⟩], q20, [⟨b2, [(.int .i64 0), (.int .i64 0)], 24⟩]] := hS24.leave hR24 hm24
    have hm24 := MLe.weakX hS24 hm24
    refine q_end (n_sq ?_)
    obtain ⟨j3, hj3, hr⟩ := bindS hr
    refine q_join (fun a w => ∃ (m39 : Mem), ∃ (q36 : Piece), ∃ (s36 : Sl), ∃ (s38 : Sl), ∃ w_35, ∃ t_37, j3 = (w_35, t_37) ∧ Fr a 46 [(2, (.pointer (some ⟨b2, 0, none⟩))), (4, (.pointer (some ⟨b3, 0, none⟩))), (5, s36.v)] ∧ St [] w0 w m39 [q36, [⟨b3, [s38.v, (.int .i64 t_37.at_), (.int .u64 t_37.seed.v)], 103⟩], [⟨b2, [(.int .i64 0), (.int .i64 0)], 24⟩]] ∧ MLe [] w0.heap.size m24' m39 ∧ OwnL m39 3 q36 s36 w_35 ∧ Rd m39 s38 t_37.code) ?_ ?_
    · rcases bcase (t_25.1) with hc4 | hc4
      · have hj3 := cond_f hc4 hj3
        refine q_cond_f hF rfl hc4 ?_
        refine q_skipc (n_jn ?_)
        obtain rfl := someI hj3
        exact ⟨m24', q20, s20, s26, _, _, rfl, hF.sub ⟨rfl, rfl, rfl, trivial⟩, hS.sel [1, 0, 2] (by decide), (MLe.refl _ _), (h20.mono hm24.le), h26⟩
      · have hj3 := cond_t hc4 hj3
        refine q_cond_t hF rfl hc4 ?_
        refine q_region ?_
        refine q_x (v := s20.v) hF hS (ex_move rfl) rfl rfl fun a hF => ?_
        refine q_x (v := (.pointer (some ⟨b3, 0, none⟩))) hF hS (ex_move rfl) rfl rfl fun a hF => ?_
        refine q_do rfl fun _ hK => wp_buildSlice' (l := ([0, 1000, 1001] : List Int)) (cells := [(.int .i64 0), (.int .i64 1000), (.int .i64 1001)]) hF hS Try.underlying42 inf3 rfl rfl (by kernel_rfl) rfl rfl rfl ⟨rfl, rfl, rfl, rfl⟩ rfl rfl fun a w q27 s27 hF hS h27 _ => hK _ _ ?_
        obtain ⟨m28, hm28, hS, hz28⟩ := hS.freeze
        have h28 := h27.froz hm28.le hz28
        have hS29 : St _ _ _ _ ([[⟨b3, [s26.v, (.int .i64 t_25.2.at_), (.int .u64 t_25.2.seed.v)], 103⟩]] ++ [q20, [⟨b2, [(.int .i64 0), (.int .i64 0)], 24⟩]]) := hS
        have hE29 := hS29.enter
        obtain ⟨t_30, ht_30, hj3⟩ := bindS hj3
        refine q_do rfl fun _ hK => wp_callX (vs := [(.pointer (some ⟨b3, 0, none⟩)), s27.v]) hF Try.func100 (by kernel_rfl) rfl rfl rfl (c_spec_l1Cur_among t_25.2 ([0, 1000, 1001] : List Int) t_30 ht_30 _ m28 b3 s26 (h26.mono hm28.le) s27 h28 _ hE29) fun a w _ hR hF => hK _ _ ?_
        obtain ⟨m29', s31, rfl, hm29, hR29, h31⟩ := hR
        have hS : St _ _ _ _ [[⟨b3, [s31.v, (.int .i64 t_30.2.at_), (.int .u64 t_30.2.seed.v)], 103⟩], q20, [⟨b2, [(.int .i64 0), (.int .i64 0)], 24⟩]] := hS29.leave hR29 hm29
        have hm29 := MLe.weakX hS29 hm29
        refine q_do rfl fun _ hK => wp_buildSlice' (l := ([t_30.1] : List Int)) (cells := [(.int .i64 t_30.1)]) hF hS Try.underlying42 inf3 rfl rfl (by kernel_rfl) rfl rfl rfl ⟨rfl, rfl⟩ rfl rfl fun a w q32 s32 hF hS h32 _ => hK _ _ ?_
        have hS : St _ _ _ _ [q20, q32, [⟨b3, [s31.v, (.int .i64 t_30.2.at_), (.int .u64 t_30.2.seed.v)], 103⟩], [⟨b2, [(.int .i64 0), (.int .i64 0)], 24⟩]] := hS.sel [2, 0, 1, 3] (by decide)
        obtain ⟨l_33, hl_33, hj3⟩ := bindS hj3
        refine q_do rfl fun _ hK => wp_append hF hS (((h20.mono hm24.le).mono hm28.le).mono hm29.le) Try.underlying42 inf3 rfl rfl rfl rfl (h32.vw hS (j := 1) rfl) rfl (by decide) hl_33 rfl fun a w q34 s34 hF hS h34 => hK _ _ ?_
        refine q_x (v := s34.v) hF hS (ex_assign rfl) rfl rfl fun a hF => ?_
        refine q_end (n_jn ?_)
        obtain rfl := someI hj3
        exact ⟨m29', q34, s34, s31, _, _, rfl, hF.sub ⟨rfl, rfl, rfl, trivial⟩, hS.mask [true, false, true, true], (hm28.trans hm29), h34, h31⟩
    · rintro a w ⟨m39, q36, s36, s38, w_35, t_37, rfl, hF, hS, hm39, h36, h38⟩
      refine n_sq ?_
      refine q_seq ?_
      refine q_region ?_
      refine q_x (v := (.pointer (some ⟨b3, 0, none⟩))) hF hS (ex_move rfl) rfl rfl fun a hF => ?_
      have hS : St _ _ _ _ [[⟨b3, [s38.v, (.int .i64 t_37.at_), (.int .u64 t_37.seed.v)], 103⟩], q36, [⟨b2, [(.int .i64 0), (.int .i64 0)], 24⟩]] := hS.sel [1, 0, 2] (by decide)
      have hS40 : St _ _ _ _ ([[⟨b3, [s38.v, (.int .i64 t_37.at_), (.int .u64 t_37.seed.v)], 103⟩]] ++ [q36, [⟨b2, [(.int .i64 0), (.int .i64 0)], 24⟩]]) := hS
      have hE40 := hS40.enter
      obtain ⟨t_41, ht_41, hr⟩ := bindS hr
      refine q_do rfl fun _ hK => wp_callX (vs := [(.pointer (some ⟨b3, 0, none⟩))]) hF Try.func112 (by kernel_rfl) rfl rfl rfl (c_spec_l1Cur_anyFrac t_37 t_41 ht_41 _ m39 b3 s38 h38 _ hE40) fun a w _ hR hF => hK _ _ ?_
      obtain ⟨m40', s42, rfl, hm40, hR40, h42⟩ := hR
      have hS : St _ _ _ _ [[⟨b3, [s42.v, (.int .i64 t_41.2.at_), (.int .u64 t_41.2.seed.v)], 103⟩], q36, [⟨b2, [(.int .i64 0), (.int .i64 0)], 24⟩]] := hS40.leave hR40 hm40
      have hm40 := MLe.weakX hS40 hm40
      refine q_alloc (cs := [(.int .i64 0), (.int .i64 0)]) hF hS rfl rfl rfl fun a w b43 hF hS => ?_
      refine q_store (vs := [(.int .i64 t_41.1.Num), (.int .i64 t_41.1.Den)]) (cs' := [(.int .i64 t_41.1.Num), (.int .i64 t_41.1.Den)]) 0 0 hF hS sz24 rfl rfl rfl rfl rfl rfl rfl rfl fun a w hF hS => ?_
      refine q_end (n_sq ?_)
      refine q_seq ?_
      refine q_seq ?_
      obtain ⟨t_47, hj5, hr⟩ := bindS hr
      refine q_join (fun a w => ∃ (m48 : Mem), Fr a 46 [(2, (.pointer (some ⟨b2, 0, none⟩))), (5, s36.v), (7, (.pointer (some ⟨b43, 0, none⟩))), (39, (.bool t_47))] ∧ St [] w0 w m48 [q36, [⟨b43, [(.int .i64 t_41.1.Num), (.int .i64 t_41.1.Den)], 24⟩], [⟨b2, [(.int .i64 0), (.int .i64 0)], 24⟩]] ∧ MLe [] w0.heap.size m40' m48) ?_ ?_
      · refine q_region ?_
        refine q_x (v := (.pointer (some ⟨b43, 0, none⟩))) hF hS (ex_fieldAddr Try.underlying24 rfl sz3 rfl rfl) rfl rfl fun a hF => ?_
        refine q_x (v := (.int .i64 t_41.1.Num)) hF hS (ex_load1 0 0 Try.underlying3 rfl rfl rfl rfl) rfl rfl fun a hF => ?_
        refine q_x (v := (.bool (decide (t_41.1.Num < 0)))) hF hS (ex_ibin rfl rfl rfl) rfl rfl fun a hF => ?_
        refine q_x (v := (.bool (decide (t_41.1.Num < 0)))) hF hS (ex_move rfl) rfl rfl fun a hF => ?_
        rcases bcase (decide (t_41.1.Num < 0)) with hc6 | hc6
        · have hj5 := cond_f hc6 hj5
          refine q_skip hF (wanted_f hF rfl rfl rfl hc6 rfl) rfl fun a hF => ?_
          refine q_skip hF (wanted_f hF rfl rfl rfl hc6 rfl) rfl fun a hF => ?_
          refine q_x (v := (.bool false)) hF hS (ex_pick_f rfl rfl hc6) rfl rfl fun a hF => ?_
          refine q_end (n_jn ?_)
          obtain rfl := someI hj5
          exact ⟨m40', hF.sub ⟨rfl, rfl, rfl, rfl, trivial⟩, hS.sel [2, 0, 3] (by decide), (MLe.refl _ _)⟩
        · have hj5 := cond_t hc6 hj5
          refine q_xg (v := (.pointer (some ⟨b3, 0, none⟩))) hF hS (ex_move rfl) (wanted_t hF rfl rfl rfl hc6) rfl fun a hF => ?_
          have hS : St _ _ _ _ [[⟨b3, [s42.v, (.int .i64 t_41.2.at_), (.int .u64 t_41.2.seed.v)], 103⟩], [⟨b43, [(.int .i64 t_41.1.Num), (.int .i64 t_41.1.Den)], 24⟩], q36, [⟨b2, [(.int .i64 0), (.int .i64 0)], 24⟩]] := hS.sel [1, 0, 2, 3] (by decide)
          have hS44 : St _ _ _ _ ([[⟨b3, [s42.v, (.int .i64 t_41.2.at_), (.int .u64 t_41.2.seed.v)], 103⟩]] ++ [[⟨b43, [(.int .i64 t_41.1.Num), (.int .i64 t_41.1.Den)], 24⟩], q36, [⟨b2, [(.int .i64 0), (.int .i64 0)], 24⟩]]) := hS
          have hE44 := hS44.enter
          obtain ⟨t_45, ht_45, hj5⟩ := bindS hj5
          refine q_dog (wanted_t hF rfl rfl rfl hc6) fun _ hK => wp_callX (vs := [(.pointer (some ⟨b3, 0, none⟩)), (.int .i64 2)]) hF Try.func86 (by kernel_rfl) rfl rfl rfl (c_spec_l1Cur_one t_41.2 2 t_45 ht_45 _ m40' b3 s42 h42 _ hE44) fun a w _ hR hF => hK _ _ ?_
          obtain ⟨m44', s46, rfl, hm44, hR44, h46⟩ := hR
          have hS : St _ _ _ _ [[⟨b3, [s46.v, (.int .i64 t_45.2.at_), (.int .u64 t_45.2.seed.v)], 103⟩], [⟨b43, [(.int .i64 t_41.1.Num), (.int .i64 t_41.1.Den)], 24⟩], q36, [⟨b2, [(.int .i64 0), (.int .i64 0)], 24⟩]] := hS44.leave hR44 hm44
          have hm44 := MLe.weakX hS44 hm44
          refine q_x (v := (.bool t_45.1)) hF hS (ex_pick_t rfl rfl hc6) rfl rfl fun a hF => ?_
          refine q_end (n_jn ?_)
          obtain rfl := someI hj5
          exact ⟨m44', hF.sub ⟨rfl, rfl, rfl, rfl, trivial⟩, hS.sel [2, 1, 3] (by decide), hm44⟩
      · rintro a w ⟨m48, hF, hS, hm48⟩
        refine n_sq ?_
        obtain ⟨f_49, hj7, hr⟩ := bindS hr
        refine q_join (fun a w => Fr a 46 [(2, (.pointer (some ⟨b2, 0, none⟩))), (5, s36.v), (7, (.pointer (some ⟨b43, 0, none⟩)))] ∧ St [] w0 w m48 [q36, [⟨b43, [(.int .i64 f_49.Num), (.int .i64 f_49.Den)], 24⟩], [⟨b2, [(.int .i64 0), (.int .i64 0)], 24⟩]]) ?_ ?_
        · rcases bcase (t_47) with hc8 | hc8
          · have hj7 := cond_f hc8 hj7
            refine q_cond_f hF rfl hc8 ?_
            refine q_skipc (n_jn ?_)
            obtain rfl := someI hj7
            exact ⟨hF.sub ⟨rfl, rfl, rfl, trivial⟩, hS⟩
          · have hj7 := cond_t hc8 hj7
            refine q_cond_t hF rfl hc8 ?_
            refine q_region ?_
            refine q_x (v := (.pointer (some ⟨b43, 0, none⟩))) hF hS (ex_fieldAddr Try.underlying24 rfl sz3 rfl rfl) rfl rfl fun a hF => ?_
            refine q_x (v := (.int .i64 t_41.1.Num)) hF hS (ex_load1 1 0 Try.underlying3 rfl rfl rfl rfl) rfl rfl fun a hF => ?_
            refine q_x (v := (.int .i64 (w64 (-t_41.1.Num)))) hF hS (ex_neg rfl) rfl rfl fun a hF => ?_
            refine q_x (v := (.pointer (some ⟨b43, 0, none⟩))) hF hS (ex_fieldAddr Try.underlying24 rfl sz3 rfl rfl) rfl rfl fun a hF => ?_
            refine q_store (vs := [(.int .i64 (w64 (-t_41.1.Num)))]) (cs' := [(.int .i64 (w64 (-t_41.1.Num))), (.int .i64 t_41.1.Den)]) 1 0 hF hS sz3 rfl rfl rfl rfl rfl rfl rfl rfl fun a w hF hS => ?_
            refine q_end (n_jn ?_)
            obtain rfl := someI hj7
            exact ⟨hF.sub ⟨rfl, rfl, rfl, trivial⟩, hS⟩
        · rintro a w ⟨hF, hS⟩
          refine n_sq ?_
          refine q_seq ?_
          refine q_region ?_
          refine q_x (v := (.agg #[(.int .i64 f_49.Num), (.int .i64 f_49.Den)])) hF hS (ex_loadA (vs := [(.int .i64 f_49.Num), (.int .i64 f_49.Den)]) 1 0 Try.underlying24 rfl sz24 rfl rfl rfl rfl) rfl rfl fun a hF => ?_
          refine q_x (v := s36.v) hF hS (ex_move rfl) rfl rfl fun a hF => ?_
          refine q_store (vs := [(.int .i64 f_49.Num), (.int .i64 f_49.Den)]) (cs' := [(.int .i64 f_49.Num), (.int .i64 f_49.Den)]) 2 0 hF hS sz24 rfl rfl rfl rfl rfl rfl rfl rfl fun a w hF hS => ?_
          refine q_x (v := s36.v) hF hS (ex_assign rfl) rfl rfl fun a hF => ?_
          refine q_end (n_sq (q_ret ?_))
          obtain rfl := someI hr
          exact ret_of hF hS rfl (.cellA (us := [(.int .i64 f_49.Num), (.int .i64 f_49.Den)]) 2 0 Try.underlying24 rfl sz24 rfl rfl rfl rfl (.tmp rfl .nil)) ⟨m48, q36, s36, rfl, (((((hm4.trans hm23).trans hm24).trans hm39).trans hm40).trans hm48), hS.sel [0] (by decide), ((h36.mono hm40.le).mono hm48.le)⟩

theorem c_impl_total (p_l : List Int) (r : Int) (hr : impl_total p_l = some r) (w0 : World) (m : Mem) (hv : Vis m w0) (s1 : Sl) (h1 : Rd m s1 p_l) :
    Ret Try.prog 113 [s1.v] w0 (fun v _ => v = (.int .i64 r)) := by
  unfold impl_total at hr
  refine ret_start Try.func113 rfl 17 rfl rfl m hv fun a hF hS => ?_
  refine q_seq ?_
  refine q_region ?_
  refine q_x (v := (.int .i64 0)) hF hS (ex_assign rfl) rfl rfl fun a hF => ?_
  refine q_end (n_sq ?_)
  refine q_seq ?_
  refine q_region ?_
  refine q_x (v := (.int .i64 0)) hF hS (ex_assign rfl) rfl rfl fun a hF => ?_
  refine q_end (n_sq ?_)
  refine q_seq ?_
  refine q_seq ?_
  refine q_region ?_
  refine q_x (v := s1.v) hF hS (ex_move rfl) rfl rfl fun a hF => ?_
  refine q_x (v := (.int .i64 (goLen p_l))) hF hS (ex_len Try.underlying42 rfl h1.len) rfl rfl fun a hF => ?_
  refine q_x (v := (.int .i64 0)) hF hS (ex_move rfl) rfl rfl fun a hF => ?_
  refine q_end (n_sq ?_)
  refine q_block ?_
  obtain ⟨sum_6, hl1, hr⟩ := bindS hr
  refine q_loop (fun (s : Int × Int) a w => ∃ sum_2, ∃ t_3, s = (sum_2, t_3) ∧ Fr a 17 [(3, (.int .i64 sum_2)), (6, s1.v), (7, (.int .i64 (goLen p_l))), (8, (.int .i64 t_3))] ∧ St [] w0 w m []) (fun (sum_6 : Int) e a w => e = .exit 0 ∧ Fr a 17 [(3, (.int .i64 sum_6))] ∧ St [] w0 w m []) hl1 ⟨_, _, rfl, hF.sub ⟨rfl, rfl, rfl, rfl, trivial⟩, hS⟩ ?_ ?_
  · clear hF hS
    rintro s a w st ⟨sum_2, t_3, rfl, hF, hS⟩ hb1
    unfold impl_total_l1 at hb1
    refine q_seq ?_
    refine q_region ?_
    refine q_x (v := (.bool (decide (t_3 < (goLen p_l))))) hF hS (ex_ibin rfl rfl rfl) rfl rfl fun a hF => ?_
    refine q_end (n_sq ?_)
    refine q_seq ?_
    rcases bcase (decide (t_3 < (goLen p_l))) with hc2 | hc2
    · have hb1 := cond_f hc2 hb1
      refine q_cond_f hF rfl hc2 ?_
      refine q_exit (x_sq ?_)
      obtain rfl := someI hb1
      exact ⟨nofun, .inl ⟨rfl, hF.sub ⟨rfl, trivial⟩, hS⟩⟩
    · have hb1 := cond_t hc2 hb1
      refine q_cond_t hF rfl hc2 ?_
      refine q_skipc (n_sq ?_)
      refine q_seq ?_
      refine q_block ?_
      refine q_seq ?_
      refine q_region ?_
      obtain ⟨e_4, he_4, hb1⟩ := bindS hb1
      obtain ⟨vs5, at5, d5⟩ := h1.at he_4 1 rfl
      obtain rfl : vs5 = [(.int .i64 e_4)] := d5
      refine q_x (v := (elP s1 (t_3.toNat * 1))) hF hS (ex_indexAddr Try.underlying42 sz3 rfl rfl (h1.idx he_4)) rfl rfl fun a hF => ?_
      refine q_x (v := (.int .i64 e_4)) hF hS (ex_loadE1 0 Try.underlying3 rfl rfl ((at5).at) rfl rfl) rfl rfl fun a hF => ?_
      refine q_x (v := (.int .i64 e_4)) hF hS (ex_assign rfl) rfl rfl fun a hF => ?_
      refine q_end (n_sq ?_)
      refine q_region ?_
      refine q_x (v := (.int .i64 sum_2)) hF hS (ex_move rfl) rfl rfl fun a hF => ?_
      refine q_x (v := (.int .i64 e_4)) hF hS (ex_move rfl) rfl rfl fun a hF => ?_
      refine q_x (v := (.int .i64 (w64 (sum_2 + e_4)))) hF hS (ex_ibin rfl rfl rfl) rfl rfl fun a hF => ?_
      refine q_x (v := (.int .i64 (w64 (sum_2 + e_4)))) hF hS (ex_assign rfl) rfl rfl fun a hF => ?_
      refine q_end (n_ib (n_sq ?_))
      refine q_region ?_
      refine q_x (v := (.int .i64 (w64 (t_3 + 1)))) hF hS (ex_ibin rfl rfl rfl) rfl rfl fun a hF => ?_
      refine q_x (v := (.int .i64 (w64 (t_3 + 1)))) hF hS (ex_move rfl) rfl rfl fun a hF => ?_
      refine q_end ?_
      obtain rfl := someI hb1
      exact ⟨rfl, _, _, rfl, hF.sub ⟨rfl, rfl, rfl, rfl, trivial⟩, hS⟩
  · rintro e a w ⟨rfl, hF, hS⟩
    refine x_ib (n_sq ?_)
    refine q_seq ?_
    refine q_region ?_
    refine q_x (v := (.int .i64 sum_6)) hF hS (ex_move rfl) rfl rfl fun a hF => ?_
    refine q_x (v := (.int .i64 sum_6)) hF hS (ex_assign rfl) rfl rfl fun a hF => ?_
    refine q_end (n_sq (q_ret ?_))
    obtain rfl := someI hr
    exact ret_of hF hS rfl (.tmp rfl .nil) rfl

theorem c_impl_SplitRho (p_rho : impl_Frac) (p_weights : List Int) (r : (List impl_Frac) × Bool) (hr : impl_SplitRho p_rho p_weights = some r) (w0 : World) (m : Mem) (hv : Vis m w0) (s1 : Sl) (h1 : Rd m s1 p_weights) :
    Ret Try.prog 32 [(.agg #[(.int .i64 p_rho.Num), (.int .i64 p_rho.Den)]), s1.v] w0 (fun v w => ∃ (q0' : Piece) (s0' : Sl), v = (.tuple #[s0'.v, (.bool r.2)]) ∧ St [] w0 w m [q0'] ∧ OwnL m 24 q0' s0' r.1) := by
  unfold impl_SplitRho at hr
  refine ret_start Try.func32 rfl 78 rfl rfl m hv fun a hF hS => ?_
  refine q_seq ?_
  refine q_region ?_
  refine q_box (cs := [(.int .i64 p_rho.Num), (.int .i64 p_rho.Den)]) hF hS rfl rfl rfl fun a w b2 hF hS => ?_
  refine q_x (v := nilS.v) hF hS (ex_assign rfl) rfl rfl fun a hF => ?_
  refine q_x (v := (.bool false)) hF hS (ex_assign rfl) rfl rfl fun a hF => ?_
  refine q_end (n_sq ?_)
  refine q_seq ?_
  refine q_seq ?_
  obtain ⟨t_4, hj1, hr⟩ := bindS hr
  refine q_join (fun a w => Fr a 78 [(1, s1.v), (2, (.pointer (some ⟨b2, 0, none⟩))), (31, (.bool t_4))] ∧ St [] w0 w m [[⟨b2, [(.int .i64 p_rho.Num), (.int .i64 p_rho.Den)], 24⟩]]) ?_ ?_
  · refine q_region ?_
    refine q_x (v := (.agg #[(.int .i64 p_rho.Num), (.int .i64 p_rho.Den)])) hF hS (ex_loadA (vs := [(.int .i64 p_rho.Num), (.int .i64 p_rho.Den)]) 0 0 Try.underlying24 rfl sz24 rfl rfl rfl rfl) rfl rfl fun a hF => ?_
    obtain ⟨t_3, ht_3, hj1⟩ := bindS hj1
    refine q_call (vs := [(.agg #[(.int .i64 p_rho.Num), (.int .i64 p_rho.Den)])]) hF hS Try.func94 (by kernel_rfl) rfl rfl rfl (c_impl_IsFrac p_rho t_3 ht_3 _ m hS.vis) ?_
    rintro a w _ rfl hF hS
    refine q_x (v := (.bool (!t_3))) hF hS (ex_not rfl) rfl rfl fun a hF => ?_
    refine q_x (v := (.bool (!t_3))) hF hS (ex_move rfl) rfl rfl fun a hF => ?_
    rcases bcase (!t_3) with hc2 | hc2
    · have hj1 := cond_f hc2 hj1
      refine q_xg (v := (.pointer (some ⟨b2, 0, none⟩))) hF hS (ex_fieldAddr Try.underlying24 rfl sz3 rfl rfl) (wanted_t hF rfl rfl rfl hc2) rfl fun a hF => ?_
      refine q_xg (v := (.int .i64 p_rho.Num)) hF hS (ex_load1 0 0 Try.underlying3 rfl rfl rfl rfl) (wanted_t hF rfl rfl rfl hc2) rfl fun a hF => ?_
      refine q_xg (v := (.bool (decide (p_rho.Num < 0)))) hF hS (ex_ibin rfl rfl rfl) (wanted_t hF rfl rfl rfl hc2) rfl fun a hF => ?_
      refine q_x (v := (.bool (decide (p_rho.Num < 0)))) hF hS (ex_pick_f rfl rfl hc2) rfl rfl fun a hF => ?_
      refine q_x (v := (.bool (decide (p_rho.Num < 0)))) hF hS (ex_move rfl) rfl rfl fun a hF => ?_
      rcases bcase (decide (p_rho.Num < 0)) with hc3 | hc3
      · have hj1 := cond_f hc3 hj1
        refine q_xg (v := s1.v) hF hS (ex_move rfl) (wanted_t hF rfl rfl rfl hc3) rfl fun a hF => ?_
        refine q_xg (v := (.int .i64 (goLen p_weights))) hF hS (ex_len Try.underlying42 rfl h1.len) (wanted_t hF rfl rfl rfl hc3) rfl fun a hF => ?_
        refine q_xg (v := (.bool (decide ((goLen p_weights) < 1)))) hF hS (ex_ibin rfl rfl rfl) (wanted_t hF rfl rfl rfl hc3) rfl fun a hF => ?_
        refine q_x (v := (.bool (decide ((goLen p_weights) < 1)))) hF hS (ex_pick_f rfl rfl hc3) rfl rfl fun a hF => ?_
        refine q_x (v := (.bool (decide ((goLen p_weights) < 1)))) hF hS (ex_move rfl) rfl rfl fun a hF => ?_
        rcases bcase (decide ((goLen p_weights) < 1)) with hc4 | hc4
        · have hj1 := cond_f hc4 hj1
          refine q_xg (v := s1.v) hF hS (ex_move rfl) (wanted_t hF rfl rfl rfl hc4) rfl fun a hF => ?_
          refine q_xg (v := (.int .i64 (goLen p_weights))) hF hS (ex_len Try.underlying42 rfl h1.len) (wanted_t hF rfl rfl rfl hc4) rfl fun a hF => ?_
          refine q_xg (v := (.bool (decide (30 < (goLen p_weights))))) hF hS (ex_ibin rfl rfl rfl) (wanted_t hF rfl rfl rfl hc4) rfl fun a hF => ?_
          refine q_x (v := (.bool (decide (30 < (goLen p_weights))))) hF hS (ex_pick_f rfl rfl hc4) rfl rfl fun a hF => ?_
          refine q_end (n_jn ?_)
          obtain rfl := someI hj1
          exact ⟨hF.sub ⟨rfl, rfl, rfl, trivial⟩, hS⟩
        · have hj1 := cond_t hc4 hj1
          refine q_skip hF (wanted_f hF rfl rfl rfl hc4 rfl) rfl fun a hF => ?_
          refine q_skip hF (wanted_f hF rfl rfl rfl hc4 rfl) rfl fun a hF => ?_
          refine q_skip hF (wanted_f hF rfl rfl rfl hc4 rfl) rfl fun a hF => ?_
          refine q_x (v := (.bool true)) hF hS (ex_pick_t rfl rfl hc4) rfl rfl fun a hF => ?_
          refine q_end (n_jn ?_)
          obtain rfl := someI hj1
          exact ⟨hF.sub ⟨rfl, rfl, rfl, trivial⟩, hS⟩
      · have hj1 := cond_t hc3 hj1
        refine q_skip hF (wanted_f hF rfl rfl rfl hc3 rfl) rfl fun a hF => ?_
        refine q_skip hF (wanted_f hF rfl rfl rfl hc3 rfl) rfl fun a hF => ?_
        refine q_skip hF (wanted_f hF rfl rfl rfl hc3 rfl) rfl fun a hF => ?_
        refine q_x (v := (.bool true)) hF hS (ex_pick_t rfl rfl hc3) rfl rfl fun a hF => ?_
        refine q_x (v := (.bool true)) hF hS (ex_move rfl) rfl rfl fun a hF => ?_
        refine q_skip hF (wanted_f hF rfl rfl rfl rfl rfl) rfl fun a hF => ?_
        refine q_skip hF (wanted_f hF rfl rfl rfl rfl rfl) rfl fun a hF => ?_
        refine q_skip hF (wanted_f hF rfl rfl rfl rfl rfl) rfl fun a hF => ?_
        refine q_x (v := (.bool true)) hF hS (ex_pick_t rfl rfl rfl) rfl rfl fun a hF => ?_
        refine q_end (n_jn ?_)
        obtain rfl := someI hj1
        exact ⟨hF.sub ⟨rfl, rfl, rfl, trivial⟩, hS⟩
    · have hj1 := cond_t hc2 hj1
      refine q_skip hF (wanted_f hF rfl rfl rfl hc2 rfl) rfl fun a hF => ?_
      refine q_skip hF (wanted_f hF rfl rfl rfl hc2 rfl) rfl fun a hF => ?_
      refine q_skip hF (wanted_f hF rfl rfl rfl hc2 rfl) rfl fun a hF => ?_
      refine q_x (v := (.bool true)) hF hS (ex_pick_t rfl rfl hc2) rfl rfl fun a hF => ?_
      refine q_x (v := (.bool true)) hF hS (ex_move rfl) rfl rfl fun a hF => ?_
      refine q_skip hF (wanted_f hF rfl rfl rfl rfl rfl) rfl fun a hF => ?_
      refine q_skip hF (wanted_f hF rfl rfl rfl rfl rfl) rfl fun a hF => ?_
      refine q_skip hF (wanted_f hF rfl rfl rfl rfl rfl) rfl fun a hF => ?_
      refine q_x (v := (.bool true)) hF hS (ex_pick_t rfl rfl rfl) rfl rfl fun a hF => ?_
      refine q_x (v := (.bool true)) hF hS (ex_move rfl) rfl rfl fun a hF => ?_
      refine q_skip hF (wanted_f hF rfl rfl rfl rfl rfl) rfl fun a hF => ?_
      refine q_skip hF (wanted_f hF rfl rfl rfl rfl rfl) rfl fun a hF => ?_
      refine q_skip hF (wanted_f hF rfl rfl rfl rfl rfl) rfl fun a hF => ?_
      refine q_x (v := (.bool true)) hF hS (ex_pick_t rfl rfl rfl) rfl rfl fun a hF => ?_
      refine q_end (n_jn ?_)
      obtain rfl := someI hj1
      exact ⟨hF.sub ⟨rfl, rfl, rfl, trivial⟩, hS⟩
  · rintro a w ⟨hF, hS⟩
    refine n_sq ?_
    rcases bcase (t_4) with hc5 | hc5
    · have hr := cond_f hc5 hr
      refine q_cond_f hF rfl hc5 ?_
      refine q_skipc (n_sq ?_)
      refine q_seq ?_
      refine q_seq ?_
      refine q_region ?_
      refine q_x (v := s1.v) hF hS (ex_move rfl) rfl rfl fun a hF => ?_
      refine q_x (v := (.int .i64 (goLen p_weights))) hF hS (ex_len Try.underlying42 rfl h1.len) rfl rfl fun a hF => ?_
      refine q_x (v := (.int .i64 0)) hF hS (ex_move rfl) rfl rfl fun a hF => ?_
      refine q_end (n_sq ?_)
      refine q_block ?_
      obtain ⟨o6, hl6, hr⟩ := bindS hr
      refine q_loop (fun (t_5 : Int) a w => Fr a 78 [(1, s1.v), (2, (.pointer (some ⟨b2, 0, none⟩))), (32, s1.v), (33, (.int .i64 (goLen p_weights))), (34, (.int .i64 t_5))] ∧ St [] w0 w m [[⟨b2, [(.int .i64 p_rho.Num), (.int .i64 p_rho.Den)], 24⟩]]) (fun (o : (Unit) ⊕ ((List impl_Frac) × Bool)) e a w => o = .inl () ∧ e = .exit 0 ∧ Fr a 78 [(1, s1.v), (2, (.pointer (some ⟨b2, 0, none⟩)))] ∧ St [] w0 w m [[⟨b2, [(.int .i64 p_rho.Num), (.int .i64 p_rho.Den)], 24⟩]]) hl6 ⟨hF.sub ⟨rfl, rfl, rfl, rfl, rfl, trivial⟩, hS⟩ ?_ ?_
      · clear hF hS
        rintro t_5 a w st ⟨hF, hS⟩ hb6
        unfold impl_SplitRho_l1 at hb6
        refine q_seq ?_
        refine q_region ?_
        refine q_x (v := (.bool (decide (t_5 < (goLen p_weights))))) hF hS (ex_ibin rfl rfl rfl) rfl rfl fun a hF => ?_
        refine q_end (n_sq ?_)
        refine q_seq ?_
        rcases bcase (decide (t_5 < (goLen p_weights))) with hc7 | hc7
        · have hb6 := cond_f hc7 hb6
          refine q_cond_f hF rfl hc7 ?_
          refine q_exit (x_sq ?_)
          obtain rfl := someI hb6
          exact ⟨nofun, .inl ⟨rfl, rfl, hF.sub ⟨rfl, rfl, trivial⟩, hS⟩⟩
        · have hb6 := cond_t hc7 hb6
          refine q_cond_t hF rfl hc7 ?_
          refine q_skipc (n_sq ?_)
          refine q_seq ?_
          refine q_block ?_
          refine q_seq ?_
          refine q_region ?_
          obtain ⟨e_6, he_6, hb6⟩ := bindS hb6
          obtain ⟨vs7, at7, d7⟩ := h1.at he_6 1 rfl
          obtain rfl : vs7 = [(.int .i64 e_6)] := d7
          refine q_x (v := (elP s1 (t_5.toNat * 1))) hF hS (ex_indexAddr Try.underlying42 sz3 rfl rfl (h1.idx he_6)) rfl rfl fun a hF => ?_
          refine q_x (v := (.int .i64 e_6)) hF hS (ex_loadE1 0 Try.underlying3 rfl rfl ((at7).at) rfl rfl) rfl rfl fun a hF => ?_
          refine q_x (v := (.int .i64 e_6)) hF hS (ex_assign rfl) rfl rfl fun a hF => ?_
          refine q_end (n_sq ?_)
          refine q_seq ?_
          obtain ⟨t_8, hj8, hb6⟩ := bindS hb6
          refine q_join (fun a w => Fr a 78 [(1, s1.v), (2, (.pointer (some ⟨b2, 0, none⟩))), (32, s1.v), (33, (.int .i64 (goLen p_weights))), (34, (.int .i64 t_5)), (43, (.bool t_8))] ∧ St [] w0 w m [[⟨b2, [(.int .i64 p_rho.Num), (.int .i64 p_rho.Den)], 24⟩]]) ?_ ?_
          · refine q_region ?_
            refine q_x (v := (.int .i64 e_6)) hF hS (ex_move rfl) rfl rfl fun a hF => ?_
            refine q_x (v := (.bool (decide (e_6 < 1)))) hF hS (ex_ibin rfl rfl rfl) rfl rfl fun a hF => ?_
            refine q_x (v := (.bool (decide (e_6 < 1)))) hF hS (ex_move rfl) rfl rfl fun a hF => ?_
            rcases bcase (decide (e_6 < 1)) with hc9 | hc9
            · have hj8 := cond_f hc9 hj8
              refine q_xg (v := (.int .i64 e_6)) hF hS (ex_move rfl) (wanted_t hF rfl rfl rfl hc9) rfl fun a hF => ?_
              refine q_xg (v := (.bool (decide (1000 < e_6)))) hF hS (ex_ibin rfl rfl rfl) (wanted_t hF rfl rfl rfl hc9) rfl fun a hF => ?_
              refine q_x (v := (.bool (decide (1000 < e_6)))) hF hS (ex_pick_f rfl rfl hc9) rfl rfl fun a hF => ?_
              refine q_end (n_jn ?_)
              obtain rfl := someI hj8
              exact ⟨hF.sub ⟨rfl, rfl, rfl, rfl, rfl, rfl, trivial⟩, hS⟩
            · have hj8 := cond_t hc9 hj8
              refine q_skip hF (wanted_f hF rfl rfl rfl hc9 rfl) rfl fun a hF => ?_
              refine q_skip hF (wanted_f hF rfl rfl rfl hc9 rfl) rfl fun a hF => ?_
              refine q_x (v := (.bool true)) hF hS (ex_pick_t rfl rfl hc9) rfl rfl fun a hF => ?_
              refine q_end (n_jn ?_)
              obtain rfl := someI hj8
              exact ⟨hF.sub ⟨rfl, rfl, rfl, rfl, rfl, rfl, trivial⟩, hS⟩
          · rintro a w ⟨hF, hS⟩
            refine n_sq ?_
            rcases bcase (t_8) with hc10 | hc10
            · have hb6 := cond_f hc10 hb6
              refine q_cond_f hF rfl hc10 ?_
              refine q_skipc (n_ib (n_sq ?_))
              refine q_region ?_
              refine q_x (v := (.int .i64 (w64 (t_5 + 1)))) hF hS (ex_ibin rfl rfl rfl) rfl rfl fun a hF => ?_
              refine q_x (v := (.int .i64 (w64 (t_5 + 1)))) hF hS (ex_move rfl) rfl rfl fun a hF => ?_
              refine q_end ?_
              obtain rfl := someI hb6
              exact ⟨rfl, hF.sub ⟨rfl, rfl, rfl, rfl, rfl, trivial⟩, hS⟩
            · have hb6 := cond_t hc10 hb6
              refine q_cond_t hF rfl hc10 ?_
              refine q_seq ?_
              refine q_region ?_
              refine q_x (v := nilS.v) hF hS (ex_assign rfl) rfl rfl fun a hF => ?_
              refine q_x (v := (.bool false)) hF hS (ex_assign rfl) rfl rfl fun a hF => ?_
              refine q_end (n_sq (q_ret (r_ib (r_sq ?_))))
              obtain rfl := someI hb6
              refine ⟨nofun, .inr fun ho => ?_⟩
              subst ho
              refine r_ib (r_sq ?_)
              obtain rfl := someI hr
              exact ret_of hF hS rfl (.tmp rfl (.tmp rfl .nil)) ⟨[], nilS, rfl, hS.sel [1] (by decide), (OwnL.nil (α := impl_Frac) m 24)⟩
      · rintro e a w ⟨rfl, rfl, hF, hS⟩
        refine x_ib (n_sq ?_)
        refine q_seq ?_
        refine q_region ?_
        refine q_x (v := s1.v) hF hS (ex_move rfl) rfl rfl fun a hF => ?_
        obtain ⟨t_9, ht_9, hr⟩ := bindS hr
        refine q_call (vs := [s1.v]) hF hS Try.func113 (by kernel_rfl) rfl rfl rfl (c_impl_total p_weights t_9 ht_9 _ m hS.vis s1 h1) ?_
        rintro a w _ rfl hF hS
        refine q_x (v := (.int .i64 t_9)) hF hS (ex_assign rfl) rfl rfl fun a hF => ?_
        refine q_end (n_sq ?_)
        refine q_seq ?_
        refine q_region ?_
        refine q_x (v := s1.v) hF hS (ex_move rfl) rfl rfl fun a hF => ?_
        refine q_x (v := (.int .i64 (goLen p_weights))) hF hS (ex_len Try.underlying42 rfl h1.len) rfl rfl fun a hF => ?_
        obtain ⟨l_10, hl_10, hr⟩ := bindS hr
        refine q_do rfl fun _ hK => wp_make (z := ((impl_Frac.mk 0 0) : impl_Frac)) hF hS Try.underlying56 inf24 rfl rfl rfl rfl rfl (by decide) hl_10 rfl fun a w q11 s11 hF hS h11 _ => hK _ _ ?_
        refine q_x (v := s11.v) hF hS (ex_assign rfl) rfl rfl fun a hF => ?_
        refine q_end (n_sq ?_)
        refine q_seq ?_
        refine q_seq ?_
        refine q_region ?_
        refine q_x (v := s1.v) hF hS (ex_move rfl) rfl rfl fun a hF => ?_
        refine q_x (v := (.int .i64 (goLen p_weights))) hF hS (ex_len Try.underlying42 rfl h1.len) rfl rfl fun a hF => ?_
        refine q_x (v := (.int .i64 0)) hF hS (ex_move rfl) rfl rfl fun a hF => ?_
        refine q_end (n_sq ?_)
        refine q_block ?_
        obtain ⟨o11, hl11, hr⟩ := bindS hr
        refine q_loop (fun (s : (List impl_Frac) × Int) a w => ∃ (q13 : Piece), ∃ out_12, ∃ t_14, s = (out_12, t_14) ∧ Fr a 78 [(2, (.pointer (some ⟨b2, 0, none⟩))), (8, (.int .i64 t_9)), (9, s11.v), (50, s1.v), (51, (.int .i64 (goLen p_weights))), (52, (.int .i64 t_14))] ∧ St [] w0 w m [q13, [⟨b2, [(.int .i64 p_rho.Num), (.int .i64 p_rho.Den)], 24⟩]] ∧ OwnL m 24 q13 s11 out_12) (fun (o : ((List impl_Frac)) ⊕ ((List impl_Frac) × Bool)) e a w => ∃ (q24 : Piece), ∃ out_23, o = .inl out_23 ∧ e = .exit 2 ∧ Fr a 78 [(9, s11.v)] ∧ St [] w0 w m [q24] ∧ OwnL m 24 q24 s11 out_23) hl11 ⟨q11, _, _, rfl, hF.sub ⟨rfl, rfl, rfl, rfl, rfl, rfl, trivial⟩, hS, h11⟩ ?_ ?_
        · clear hF hS
          rintro s a w st ⟨q13, out_12, t_14, rfl, hF, hS, h13⟩ hb11
          unfold impl_SplitRho_l2 at hb11
          refine q_seq ?_
          refine q_region ?_
          refine q_x (v := (.bool (decide (t_14 < (goLen p_weights))))) hF hS (ex_ibin rfl rfl rfl) rfl rfl fun a hF => ?_
          refine q_end (n_sq ?_)
          refine q_seq ?_
          rcases bcase (decide (t_14 < (goLen p_weights))) with hc12 | hc12
          · have hb11 := cond_f hc12 hb11
            refine q_cond_f hF rfl hc12 ?_
            refine q_exit (x_sq ?_)
            obtain rfl := someI hb11
            exact ⟨nofun, .inl ⟨q13, _, rfl, rfl, hF.sub ⟨rfl, trivial⟩, hS.mask [true, false], h13⟩⟩
          · have hb11 := cond_t hc12 hb11
            refine q_cond_t hF rfl hc12 ?_
            refine q_skipc (n_sq ?_)
            refine q_seq ?_
            refine q_block ?_
            refine q_seq ?_
            refine q_region ?_
            refine q_x (v := (.int .i64 t_14)) hF hS (ex_move rfl) rfl rfl fun a hF => ?_
            obtain ⟨e_15, he_15, hb11⟩ := bindS hb11
            obtain ⟨vs16, at16, d16⟩ := h1.at he_15 1 rfl
            obtain rfl : vs16 = [(.int .i64 e_15)] := d16
            refine q_x (v := (elP s1 (t_14.toNat * 1))) hF hS (ex_indexAddr Try.underlying42 sz3 rfl rfl (h1.idx he_15)) rfl rfl fun a hF => ?_
            refine q_x (v := (.int .i64 e_15)) hF hS (ex_loadE1 0 Try.underlying3 rfl rfl ((at16).at) rfl rfl) rfl rfl fun a hF => ?_
            refine q_x (v := (.int .i64 t_14)) hF hS (ex_assign rfl) rfl rfl fun a hF => ?_
            refine q_x (v := (.int .i64 e_15)) hF hS (ex_assign rfl) rfl rfl fun a hF => ?_
            refine q_end (n_sq ?_)
            refine q_seq ?_
            refine q_region ?_
            refine q_x (v := (.int .i64 e_15)) hF hS (ex_move rfl) rfl rfl fun a hF => ?_
            refine q_x (v := (.int .i64 t_9)) hF hS (ex_move rfl) rfl rfl fun a hF => ?_
            obtain ⟨t_17, ht_17, hb11⟩ := bindS hb11
            refine q_call (vs := [(.int .i64 e_15), (.int .i64 t_9)]) hF hS Try.func114 (by kernel_rfl) rfl rfl rfl (c_impl_reduced e_15 t_9 t_17 ht_17 _ m hS.vis) ?_
            rintro a w _ rfl hF hS
            refine q_x (v := (.tuple #[(.agg #[(.int .i64 t_17.1.Num), (.int .i64 t_17.1.Den)]), (.bool t_17.2)])) hF hS (ex_move rfl) rfl rfl fun a hF => ?_
            refine q_x (v := (.agg #[(.int .i64 t_17.1.Num), (.int .i64 t_17.1.Den)])) hF hS (ex_extract rfl rfl) rfl rfl fun a hF => ?_
            refine q_x (v := (.bool t_17.2)) hF hS (ex_extract rfl rfl) rfl rfl fun a hF => ?_
            refine q_alloc (cs := [(.int .i64 0), (.int .i64 0)]) hF hS rfl rfl rfl fun a w b18 hF hS => ?_
            refine q_store (vs := [(.int .i64 t_17.1.Num), (.int .i64 t_17.1.Den)]) (cs' := [(.int .i64 t_17.1.Num), (.int .i64 t_17.1.Den)]) 0 0 hF hS sz24 rfl rfl rfl rfl rfl rfl rfl rfl fun a w hF hS => ?_
            refine q_x (v := (.bool t_17.2)) hF hS (ex_assign rfl) rfl rfl fun a hF => ?_
            refine q_end (n_sq ?_)
            refine q_seq ?_
            refine q_seq ?_
            refine q_region ?_
            refine q_x (v := (.bool t_17.2)) hF hS (ex_move rfl) rfl rfl fun a hF => ?_
            refine q_x (v := (.bool (!t_17.2))) hF hS (ex_not rfl) rfl rfl fun a hF => ?_
            refine q_end (n_sq ?_)
            rcases bcase (!t_17.2) with hc13 | hc13
            · have hb11 := cond_f hc13 hb11
              refine q_cond_f hF rfl hc13 ?_
              refine q_skipc (n_sq ?_)
              refine q_seq ?_
              refine q_region ?_
              refine q_x (v := s11.v) hF hS (ex_move rfl) rfl rfl fun a hF => ?_
              refine q_x (v := (.int .i64 t_14)) hF hS (ex_move rfl) rfl rfl fun a hF => ?_
              refine q_x (v := (.agg #[(.int .i64 t_17.1.Num), (.int .i64 t_17.1.Den)])) hF hS (ex_loadA (vs := [(.int .i64 t_17.1.Num), (.int .i64 t_17.1.Den)]) 0 0 Try.underlying24 rfl sz24 rfl rfl rfl rfl) rfl rfl fun a hF => ?_
              refine q_x (v := (.agg #[(.int .i64 p_rho.Num), (.int .i64 p_rho.Den)])) hF hS (ex_loadA (vs := [(.int .i64 p_rho.Num), (.int .i64 p_rho.Den)]) 2 0 Try.underlying24 rfl sz24 rfl rfl rfl rfl) rfl rfl fun a hF => ?_
              obtain ⟨t_19, ht_19, hb11⟩ := bindS hb11
              refine q_call (vs := [(.agg #[(.int .i64 t_17.1.Num), (.int .i64 t_17.1.Den)]), (.agg #[(.int .i64 p_rho.Num), (.int .i64 p_rho.Den)])]) hF hS Try.func103 (by kernel_rfl) rfl rfl rfl (c_impl_MulFrac t_17.1 p_rho t_19 ht_19 _ m hS.vis) ?_
              rintro a w _ rfl hF hS
              refine q_x (v := (.tuple #[(.agg #[(.int .i64 t_19.1.Num), (.int .i64 t_19.1.Den)]), (.bool t_19.2)])) hF hS (ex_move rfl) rfl rfl fun a hF => ?_
              refine q_x (v := (.agg #[(.int .i64 t_19.1.Num), (.int .i64 t_19.1.Den)])) hF hS (ex_extract rfl rfl) rfl rfl fun a hF => ?_
              refine q_x (v := (.bool t_19.2)) hF hS (ex_extract rfl rfl) rfl rfl fun a hF => ?_
              obtain ⟨e_20, he_20, hb11⟩ := bindS hb11
              obtain ⟨vs21, at21, d21⟩ := h13.at he_20 2 rfl
              obtain rfl : vs21 = [(.int .i64 e_20.Num), (.int .i64 e_20.Den)] := d21
              refine q_x (v := (elP s11 (t_14.toNat * 2))) hF hS (ex_indexAddr Try.underlying56 sz24 rfl rfl (h13.idx he_20)) rfl rfl fun a hF => ?_
              have hS : St _ _ _ _ [q13, [⟨b18, [(.int .i64 t_17.1.Num), (.int .i64 t_17.1.Den)], 24⟩], [⟨b2, [(.int .i64 p_rho.Num), (.int .i64 p_rho.Den)], 24⟩]] := hS.sel [1, 0, 2] (by decide)
              refine q_do rfl fun _ hK => wp_storeE (e' := t_19.1) (us := [(.int .i64 t_19.1.Num), (.int .i64 t_19.1.Den)]) (vs := [(.int .i64 e_20.Num), (.int .i64 e_20.Den)]) 0 hF hS h13 sz24 rfl rfl rfl rfl rfl rfl rfl he_20 at21 rfl rfl rfl fun w q22 hS h22 => hK _ _ ?_
              refine q_x (v := (.bool t_19.2)) hF hS (ex_assign rfl) rfl rfl fun a hF => ?_
              refine q_end (n_sq ?_)
              refine q_seq ?_
              refine q_region ?_
              refine q_x (v := (.bool t_19.2)) hF hS (ex_move rfl) rfl rfl fun a hF => ?_
              refine q_x (v := (.bool (!t_19.2))) hF hS (ex_not rfl) rfl rfl fun a hF => ?_
              refine q_end (n_sq ?_)
              rcases bcase (!t_19.2) with hc14 | hc14
              · have hb11 := cond_f hc14 hb11
                refine q_cond_f hF rfl hc14 ?_
                refine q_skipc (n_ib (n_sq ?_))
                refine q_region ?_
                refine q_x (v := (.int .i64 (w64 (t_14 + 1)))) hF hS (ex_ibin rfl rfl rfl) rfl rfl fun a hF => ?_
                refine q_x (v := (.int .i64 (w64 (t_14 + 1)))) hF hS (ex_move rfl) rfl rfl fun a hF => ?_
                refine q_end ?_
                obtain rfl := someI hb11
                exact ⟨rfl, q22, _, _, rfl, hF.sub ⟨rfl, rfl, rfl, rfl, rfl, rfl, trivial⟩, hS.mask [true, false, true], h22⟩
              · have hb11 := cond_t hc14 hb11
                refine q_cond_t hF rfl hc14 ?_
                refine q_seq ?_
                refine q_region ?_
                refine q_x (v := nilS.v) hF hS (ex_assign rfl) rfl rfl fun a hF => ?_
                refine q_x (v := (.bool false)) hF hS (ex_assign rfl) rfl rfl fun a hF => ?_
                refine q_end (n_sq (q_ret (r_ib (r_sq ?_))))
                obtain rfl := someI hb11
                refine ⟨nofun, .inr fun ho => ?_⟩
                subst ho
                refine r_ib (r_sq ?_)
                obtain rfl := someI hr
                exact ret_of hF hS rfl (.tmp rfl (.tmp rfl .nil)) ⟨[], nilS, rfl, hS.sel [3] (by decide), (OwnL.nil (α := impl_Frac) m 24)⟩
            · have hb11 := cond_t hc13 hb11
              refine q_cond_t hF rfl hc13 ?_
              refine q_seq ?_
              refine q_region ?_
              refine q_x (v := nilS.v) hF hS (ex_assign rfl) rfl rfl fun a hF => ?_
              refine q_x (v := (.bool false)) hF hS (ex_assign rfl) rfl rfl fun a hF => ?_
              refine q_end (n_sq (q_ret (r_sq (r_ib (r_sq ?_)))))
              obtain rfl := someI hb11
              refine ⟨nofun, .inr fun ho => ?_⟩
              subst ho
              refine r_ib (r_sq ?_)
              obtain rfl := someI hr
              exact ret_of hF hS rfl (.tmp rfl (.tmp rfl .nil)) ⟨[], nilS, rfl, hS.sel [3] (by decide), (OwnL.nil (α := impl_Frac) m 24)⟩
        · rintro e a w ⟨q24, out_23, rfl, rfl, hF, hS, h24⟩
          refine x_ib (n_sq ?_)
          refine q_seq ?_
          refine q_region ?_
          refine q_x (v := s11.v) hF hS (ex_move rfl) rfl rfl fun a hF => ?_
          refine q_x (v := s11.v) hF hS (ex_assign rfl) rfl rfl fun a hF => ?_
          refine q_x (v := (.bool true)) hF hS (ex_assign rfl) rfl rfl fun a hF => ?_
          refine q_end (n_sq (q_ret ?_))
          obtain rfl := someI hr
          exact ret_of hF hS rfl (.tmp rfl (.tmp rfl .nil)) ⟨q24, s11, rfl, hS.sel [0] (by decide), h24⟩
    · have hr := cond_t hc5 hr
      refine q_cond_t hF rfl hc5 ?_
      refine q_seq ?_
      refine q_region ?_
      refine q_x (v := nilS.v) hF hS (ex_assign rfl) rfl rfl fun a hF => ?_
      refine q_x (v := (.bool false)) hF hS (ex_assign rfl) rfl rfl fun a hF => ?_
      refine q_end (n_sq (q_ret (r_sq ?_)))
      obtain rfl := someI hr
      exact ret_of hF hS rfl (.tmp rfl (.tmp rfl .nil)) ⟨[], nilS, rfl, hS.sel [1] (by decide), (OwnL.nil (α := impl_Frac) m 24)⟩

theorem c_spec_l1All (p_l : List Int) (p_lo : Int) (p_hi : Int) (r : Bool) (hr : spec_l1All p_l p_lo p_hi = some r) (w0 : World) (m : Mem) (hv : Vis m w0) (s1 : Sl) (h1 : Rd m s1 p_l) :
    Ret Try.prog 116 [s1.v, (.int .i64 p_lo), (.int .i64 p_hi)] w0 (fun v _ => v = (.bool r)) := by
  unfold spec_l1All at hr
  refine ret_start Try.func116 rfl 21 rfl rfl m hv fun a hF hS => ?_
  refine q_seq ?_
  refine q_region ?_
  refine q_x (v := (.bool false)) hF hS (ex_assign rfl) rfl rfl fun a hF => ?_
  refine q_end (n_sq ?_)
  refine q_seq ?_
  refine q_seq ?_
  refine q_region ?_
  refine q_x (v := s1.v) hF hS (ex_move rfl) rfl rfl fun a hF => ?_
  refine q_x (v := (.int .i64 (goLen p_l))) hF hS (ex_len Try.underlying42 rfl h1.len) rfl rfl fun a hF => ?_
  refine q_x (v := (.int .i64 0)) hF hS (ex_move rfl) rfl rfl fun a hF => ?_
  refine q_end (n_sq ?_)
  refine q_block ?_
  obtain ⟨o1, hl1, hr⟩ := bindS hr
  refine q_loop (fun (t_2 : Int) a w => Fr a 21 [(1, (.int .i64 p_lo)), (2, (.int .i64 p_hi)), (9, s1.v), (10, (.int .i64 (goLen p_l))), (11, (.int .i64 t_2))] ∧ St [] w0 w m []) (fun (o : (Unit) ⊕ (Bool)) e a w => o = .inl () ∧ e = .exit 0 ∧ Fr a 21 [] ∧ St [] w0 w m []) hl1 ⟨hF.sub ⟨rfl, rfl, rfl, rfl, rfl, trivial⟩, hS⟩ ?_ ?_
  · clear hF hS
    rintro t_2 a w st ⟨hF, hS⟩ hb1
    unfold spec_l1All_l1 at hb1
    refine q_seq ?_
    refine q_region ?_
    refine q_x (v := (.bool (decide (t_2 < (goLen p_l))))) hF hS (ex_ibin rfl rfl rfl) rfl rfl fun a hF => ?_
    refine q_end (n_sq ?_)
    refine q_seq ?_
    rcases bcase (decide (t_2 < (goLen p_l))) with hc2 | hc2
    · have hb1 := cond_f hc2 hb1
      refine q_cond_f hF rfl hc2 ?_
      refine q_exit (x_sq ?_)
      obtain rfl := someI hb1
      exact ⟨nofun, .inl ⟨rfl, rfl, hF.sub trivial, hS⟩⟩
    · have hb1 := cond_t hc2 hb1
      refine q_cond_t hF rfl hc2 ?_
      refine q_skipc (n_sq ?_)
      refine q_seq ?_
      refine q_block ?_
      refine q_seq ?_
      refine q_region ?_
      obtain ⟨e_3, he_3, hb1⟩ := bindS hb1
      obtain ⟨vs4, at4, d4⟩ := h1.at he_3 1 rfl
      obtain rfl : vs4 = [(.int .i64 e_3)] := d4
      refine q_x (v := (elP s1 (t_2.toNat * 1))) hF hS (ex_indexAddr Try.underlying42 sz3 rfl rfl (h1.idx he_3)) rfl rfl fun a hF => ?_
      refine q_x (v := (.int .i64 e_3)) hF hS (ex_loadE1 0 Try.underlying3 rfl rfl ((at4).at) rfl rfl) rfl rfl fun a hF => ?_
      refine q_x (v := (.int .i64 e_3)) hF hS (ex_assign rfl) rfl rfl fun a hF => ?_
      refine q_end (n_sq ?_)
      refine q_seq ?_
      refine q_region ?_
      refine q_x (v := (.int .i64 e_3)) hF hS (ex_move rfl) rfl rfl fun a hF => ?_
      refine q_x (v := (.int .i64 p_lo)) hF hS (ex_move rfl) rfl rfl fun a hF => ?_
      refine q_x (v := (.int .i64 p_hi)) hF hS (ex_move rfl) rfl rfl fun a hF => ?_
      obtain ⟨t_5, ht_5, hb1⟩ := bindS hb1
      refine q_call (vs := [(.int .i64 e_3), (.int .i64 p_lo), (.int .i64 p_hi)]) hF hS Try.func104 (by kernel_rfl) rfl rfl rfl (c_spec_l1In e_3 p_lo p_hi t_5 ht_5 _ m hS.vis) ?_
      rintro a w _ rfl hF hS
      refine q_x (v := (.bool (!t_5))) hF hS (ex_not rfl) rfl rfl fun a hF => ?_
      refine q_end (n_sq ?_)
      rcases bcase (!t_5) with hc3 | hc3
      · have hb1 := cond_f hc3 hb1
        refine q_cond_f hF rfl hc3 ?_
        refine q_skipc (n_ib (n_sq ?_))
        refine q_region ?_
        refine q_x (v := (.int .i64 (w64 (t_2 + 1)))) hF hS (ex_ibin rfl rfl rfl) rfl rfl fun a hF => ?_
        refine q_x (v := (.int .i64 (w64 (t_2 + 1)))) hF hS (ex_move rfl) rfl rfl fun a hF => ?_
        refine q_end ?_
        obtain rfl := someI hb1
        exact ⟨rfl, hF.sub ⟨rfl, rfl, rfl, rfl, rfl, trivial⟩, hS⟩
      · have hb1 := cond_t hc3 hb1
        refine q_cond_t hF rfl hc3 ?_
        refine q_seq ?_
        refine q_region ?_
        refine q_x (v := (.bool false)) hF hS (ex_assign rfl) rfl rfl fun a hF => ?_
        refine q_end (n_sq (q_ret (r_ib (r_sq ?_))))
        obtain rfl := someI hb1
        refine ⟨nofun, .inr fun ho => ?_⟩
        subst ho
        refine r_ib (r_sq ?_)
        obtain rfl := someI hr
        exact ret_of hF hS rfl (.tmp rfl .nil) rfl
  · rintro e a w ⟨rfl, rfl, hF, hS⟩
    refine x_ib (n_sq ?_)
    refine q_seq ?_
    refine q_region ?_
    refine q_x (v := (.bool true)) hF hS (ex_assign rfl) rfl rfl fun a hF => ?_
    refine q_end (n_sq (q_ret ?_))
    obtain rfl := someI hr
    exact ret_of hF hS rfl (.tmp rfl .nil) rfl

theorem c_spec_SplitRho (p_rho : impl_Frac) (p_weights : List Int) (r : (List impl_Frac) × Bool) (hr : spec_SplitRho p_rho p_weights = some r) (w0 : World) (m : Mem) (hv : Vis m w0) (s1 : Sl) (h1 : Rd m s1 p_weights) :
    Ret Try.prog 33 [(.agg #[(.int .i64 p_rho.Num), (.int .i64 p_rho.Den)]), s1.v] w0 (fun v w => ∃ (q0' : Piece) (s0' : Sl), v = (.tuple #[s0'.v, (.bool r.2)]) ∧ St [] w0 w m [q0'] ∧ OwnL m 24 q0' s0' r.1) := by
  unfold spec_SplitRho at hr
  refine ret_start Try.func33 rfl 75 rfl rfl m hv fun a hF hS => ?_
  refine q_seq ?_
  refine q_region ?_
  refine q_box (cs := [(.int .i64 p_rho.Num), (.int .i64 p_rho.Den)]) hF hS rfl rfl rfl fun a w b2 hF hS => ?_
  refine q_x (v := nilS.v) hF hS (ex_assign rfl) rfl rfl fun a hF => ?_
  refine q_x (v := (.bool false)) hF hS (ex_assign rfl) rfl rfl fun a hF => ?_
  refine q_end (n_sq ?_)
  refine q_seq ?_
  refine q_seq ?_
  obtain ⟨t_6, hj1, hr⟩ := bindS hr
  refine q_join (fun a w => Fr a 75 [(1, s1.v), (2, (.pointer (some ⟨b2, 0, none⟩))), (34, (.bool t_6))] ∧ St [] w0 w m [[⟨b2, [(.int .i64 p_rho.Num), (.int .i64 p_rho.Den)], 24⟩]]) ?_ ?_
  · refine q_region ?_
    refine q_x (v := (.agg #[(.int .i64 p_rho.Num), (.int .i64 p_rho.Den)])) hF hS (ex_loadA (vs := [(.int .i64 p_rho.Num), (.int .i64 p_rho.Den)]) 0 0 Try.underlying24 rfl sz24 rfl rfl rfl rfl) rfl rfl fun a hF => ?_
    obtain ⟨t_3, ht_3, hj1⟩ := bindS hj1
    refine q_call (vs := [(.agg #[(.int .i64 p_rho.Num), (.int .i64 p_rho.Den)])]) hF hS Try.func115 (by kernel_rfl) rfl rfl rfl (c_spec_fGood p_rho t_3 ht_3 _ m hS.vis) ?_
    rintro a w _ rfl hF hS
    refine q_x (v := (.bool (!t_3))) hF hS (ex_not rfl) rfl rfl fun a hF => ?_
    refine q_x (v := (.bool (!t_3))) hF hS (ex_move rfl) rfl rfl fun a hF => ?_
    rcases bcase (!t_3) with hc2 | hc2
    · have hj1 := cond_f hc2 hj1
      refine q_xg (v := (.pointer (some ⟨b2, 0, none⟩))) hF hS (ex_fieldAddr Try.underlying24 rfl sz3 rfl rfl) (wanted_t hF rfl rfl rfl hc2) rfl fun a hF => ?_
      refine q_xg (v := (.int .i64 p_rho.Num)) hF hS (ex_load1 0 0 Try.underlying3 rfl rfl rfl rfl) (wanted_t hF rfl rfl rfl hc2) rfl fun a hF => ?_
      refine q_xg (v := (.bool (decide (p_rho.Num < 0)))) hF hS (ex_ibin rfl rfl rfl) (wanted_t hF rfl rfl rfl hc2) rfl fun a hF => ?_
      refine q_x (v := (.bool (decide (p_rho.Num < 0)))) hF hS (ex_pick_f rfl rfl hc2) rfl rfl fun a hF => ?_
      refine q_x (v := (.bool (decide (p_rho.Num < 0)))) hF hS (ex_move rfl) rfl rfl fun a hF => ?_
      rcases bcase (decide (p_rho.Num < 0)) with hc3 | hc3
      · have hj1 := cond_f hc3 hj1
        refine q_xg (v := s1.v) hF hS (ex_move rfl) (wanted_t hF rfl rfl rfl hc3) rfl fun a hF => ?_
        refine q_xg (v := (.int .i64 (goLen p_weights))) hF hS (ex_len Try.underlying42 rfl h1.len) (wanted_t hF rfl rfl rfl hc3) rfl fun a hF => ?_
        obtain ⟨t_4, ht_4, hj1⟩ := bindS hj1
        refine q_callg (vs := [(.int .i64 (goLen p_weights)), (.int .i64 1), (.int .i64 30)]) hF hS (wanted_t hF rfl rfl rfl hc3) Try.func104 (by kernel_rfl) rfl rfl rfl (c_spec_l1In (goLen p_weights) 1 30 t_4 ht_4 _ m hS.vis) ?_
        rintro a w _ rfl hF hS
        refine q_xg (v := (.bool (!t_4))) hF hS (ex_not rfl) (wanted_t hF rfl rfl rfl hc3) rfl fun a hF => ?_
        refine q_x (v := (.bool (!t_4))) hF hS (ex_pick_f rfl rfl hc3) rfl rfl fun a hF => ?_
        refine q_x (v := (.bool (!t_4))) hF hS (ex_move rfl) rfl rfl fun a hF => ?_
        rcases bcase (!t_4) with hc4 | hc4
        · have hj1 := cond_f hc4 hj1
          refine q_xg (v := s1.v) hF hS (ex_move rfl) (wanted_t hF rfl rfl rfl hc4) rfl fun a hF => ?_
          obtain ⟨t_5, ht_5, hj1⟩ := bindS hj1
          refine q_callg (vs := [s1.v, (.int .i64 1), (.int .i64 1000)]) hF hS (wanted_t hF rfl rfl rfl hc4) Try.func116 (by kernel_rfl) rfl rfl rfl (c_spec_l1All p_weights 1 1000 t_5 ht_5 _ m hS.vis s1 h1) ?_
          rintro a w _ rfl hF hS
          refine q_xg (v := (.bool (!t_5))) hF hS (ex_not rfl) (wanted_t hF rfl rfl rfl hc4) rfl fun a hF => ?_
          refine q_x (v := (.bool (!t_5))) hF hS (ex_pick_f rfl rfl hc4) rfl rfl fun a hF => ?_
          refine q_end (n_jn ?_)
          obtain rfl := someI hj1
          exact ⟨hF.sub ⟨rfl, rfl, rfl, trivial⟩, hS⟩
        · have hj1 := cond_t hc4 hj1
          refine q_skip hF (wanted_f hF rfl rfl rfl hc4 rfl) rfl fun a hF => ?_
          refine q_skip hF (wanted_f hF rfl rfl rfl hc4 rfl) rfl fun a hF => ?_
          refine q_skip hF (wanted_f hF rfl rfl rfl hc4 rfl) rfl fun a hF => ?_
          refine q_x (v := (.bool true)) hF hS (ex_pick_t rfl rfl hc4) rfl rfl fun a hF => ?_
          refine q_end (n_jn ?_)
          obtain rfl := someI hj1
          exact ⟨hF.sub ⟨rfl, rfl, rfl, trivial⟩, hS⟩
      · have hj1 := cond_t hc3 hj1
        refine q_skip hF (wanted_f hF rfl rfl rfl hc3 rfl) rfl fun a hF => ?_
        refine q_skip hF (wanted_f hF rfl rfl rfl hc3 rfl) rfl fun a hF => ?_
        refine q_skip hF (wanted_f hF rfl rfl rfl hc3 rfl) rfl fun a hF => ?_
        refine q_skip hF (wanted_f hF rfl rfl rfl hc3 rfl) rfl fun a hF => ?_
        refine q_x (v := (.bool true)) hF hS (ex_pick_t rfl rfl hc3) rfl rfl fun a hF => ?_
        refine q_x (v := (.bool true)) hF hS (ex_move rfl) rfl rfl fun a hF => ?_
        refine q_skip hF (wanted_f hF rfl rfl rfl rfl rfl) rfl fun a hF => ?_
        refine q_skip hF (wanted_f hF rfl rfl rfl rfl rfl) rfl fun a hF => ?_
        refine q_skip hF (wanted_f hF rfl rfl rfl rfl rfl) rfl fun a hF => ?_
        refine q_x (v := (.bool true)) hF hS (ex_pick_t rfl rfl rfl) rfl rfl fun a hF => ?_
        refine q_end (n_jn ?_)
        obtain rfl := someI hj1
        exact ⟨hF.sub ⟨rfl, rfl, rfl, trivial⟩, hS⟩
    · have hj1 := cond_t hc2 hj1
      refine q_skip hF (wanted_f hF rfl rfl rfl hc2 rfl) rfl fun a hF => ?_
      refine q_skip hF (wanted_f hF rfl rfl rfl hc2 rfl) rfl fun a hF => ?_
      refine q_skip hF (wanted_f hF rfl rfl rfl hc2 rfl) rfl fun a hF => ?_
      refine q_x (v := (.bool true)) hF hS (ex_pick_t rfl rfl hc2) rfl rfl fun a hF => ?_
      refine q_x (v := (.bool true)) hF hS (ex_move rfl) rfl rfl fun a hF => ?_
      refine q_skip hF (wanted_f hF rfl rfl rfl rfl rfl) rfl fun a hF => ?_
      refine q_skip hF (wanted_f hF rfl rfl rfl rfl rfl) rfl fun a hF => ?_
      refine q_skip hF (wanted_f hF rfl rfl rfl rfl rfl) rfl fun a hF => ?_
      refine q_skip hF (wanted_f hF rfl rfl rfl rfl rfl) rfl fun a hF => ?_
      refine q_x (v := (.bool true)) hF hS (ex_pick_t rfl rfl rfl) rfl rfl fun a hF => ?_
      refine q_x (v := (.bool true)) hF hS (ex_move rfl) rfl rfl fun a hF => ?_
      refine q_skip hF (wanted_f hF rfl rfl rfl rfl rfl) rfl fun a hF => ?_
      refine q_skip hF (wanted_f hF rfl rfl rfl rfl rfl) rfl fun a hF => ?_
      refine q_skip hF (wanted_f hF rfl rfl rfl rfl rfl) rfl fun a hF => ?_
      refine q_x (v := (.bool true)) hF hS (ex_pick_t rfl rfl rfl) rfl rfl fun a hF => ?_
      refine q_end (n_jn ?_)
      obtain rfl := someI hj1
      exact ⟨hF.sub ⟨rfl, rfl, rfl, trivial⟩, hS⟩
  · rintro a w ⟨hF, hS⟩
    refine n_sq ?_
    rcases bcase (t_6) with hc5 | hc5
    · have hr := cond_f hc5 hr
      refine q_cond_f hF rfl hc5 ?_
      refine q_skipc (n_sq ?_)
      refine q_seq ?_
      refine q_region ?_
      refine q_x (v := (.int .i64 0)) hF hS (ex_assign rfl) rfl rfl fun a hF => ?_
      refine q_end (n_sq ?_)
      refine q_seq ?_
      refine q_seq ?_
      refine q_region ?_
      refine q_x (v := s1.v) hF hS (ex_move rfl) rfl rfl fun a hF => ?_
      refine q_x (v := (.int .i64 (goLen p_weights))) hF hS (ex_len Try.underlying42 rfl h1.len) rfl rfl fun a hF => ?_
      refine q_x (v := (.int .i64 0)) hF hS (ex_move rfl) rfl rfl fun a hF => ?_
      refine q_end (n_sq ?_)
      refine q_block ?_
      obtain ⟨sum_11, hl6, hr⟩ := bindS hr
      refine q_loop (fun (s : Int × Int) a w => ∃ sum_7, ∃ t_8, s = (sum_7, t_8) ∧ Fr a 75 [(1, s1.v), (2, (.pointer (some ⟨b2, 0, none⟩))), (6, (.int .i64 sum_7)), (35, s1.v), (36, (.int .i64 (goLen p_weights))), (37, (.int .i64 t_8))] ∧ St [] w0 w m [[⟨b2, [(.int .i64 p_rho.Num), (.int .i64 p_rho.Den)], 24⟩]]) (fun (sum_11 : Int) e a w => e = .exit 0 ∧ Fr a 75 [(1, s1.v), (2, (.pointer (some ⟨b2, 0, none⟩))), (6, (.int .i64 sum_11))] ∧ St [] w0 w m [[⟨b2, [(.int .i64 p_rho.Num), (.int .i64 p_rho.Den)], 24⟩]]) hl6 ⟨_, _, rfl, hF.sub ⟨rfl, rfl, rfl, rfl, rfl, rfl, trivial⟩, hS⟩ ?_ ?_
      · clear hF hS
        rintro s a w st ⟨sum_7, t_8, rfl, hF, hS⟩ hb6
        unfold spec_SplitRho_l1 at hb6
        refine q_seq ?_
        refine q_region ?_
        refine q_x (v := (.bool (decide (t_8 < (goLen p_weights))))) hF hS (ex_ibin rfl rfl rfl) rfl rfl fun a hF => ?_
        refine q_end (n_sq ?_)
        refine q_seq ?_
        rcases bcase (decide (t_8 < (goLen p_weights))) with hc7 | hc7
        · have hb6 := cond_f hc7 hb6
          refine q_cond_f hF rfl hc7 ?_
          refine q_exit (x_sq ?_)
          obtain rfl := someI hb6
          exact ⟨nofun, .inl ⟨rfl, hF.sub ⟨rfl, rfl, rfl, trivial⟩, hS⟩⟩
        · have hb6 := cond_t hc7 hb6
          refine q_cond_t hF rfl hc7 ?_
          refine q_skipc (n_sq ?_)
          refine q_seq ?_
          refine q_block ?_
          refine q_seq ?_
          refine q_region ?_
          obtain ⟨e_9, he_9, hb6⟩ := bindS hb6
          obtain ⟨vs10, at10, d10⟩ := h1.at he_9 1 rfl
          obtain rfl : vs10 = [(.int .i64 e_9)] := d10
          refine q_x (v := (elP s1 (t_8.toNat * 1))) hF hS (ex_indexAddr Try.underlying42 sz3 rfl rfl (h1.idx he_9)) rfl rfl fun a hF => ?_
          refine q_x (v := (.int .i64 e_9)) hF hS (ex_loadE1 0 Try.underlying3 rfl rfl ((at10).at) rfl rfl) rfl rfl fun a hF => ?_
          refine q_x (v := (.int .i64 e_9)) hF hS (ex_assign rfl) rfl rfl fun a hF => ?_
          refine q_end (n_sq ?_)
          refine q_region ?_
          refine q_x (v := (.int .i64 sum_7)) hF hS (ex_move rfl) rfl rfl fun a hF => ?_
          refine q_x (v := (.int .i64 e_9)) hF hS (ex_move rfl) rfl rfl fun a hF => ?_
          refine q_x (v := (.int .i64 (w64 (sum_7 + e_9)))) hF hS (ex_ibin rfl rfl rfl) rfl rfl fun a hF => ?_
          refine q_x (v := (.int .i64 (w64 (sum_7 + e_9)))) hF hS (ex_assign rfl) rfl rfl fun a hF => ?_
          refine q_end (n_ib (n_sq ?_))
          refine q_region ?_
          refine q_x (v := (.int .i64 (w64 (t_8 + 1)))) hF hS (ex_ibin rfl rfl rfl) rfl rfl fun a hF => ?_
          refine q_x (v := (.int .i64 (w64 (t_8 + 1)))) hF hS (ex_move rfl) rfl rfl fun a hF => ?_
          refine q_end ?_
          obtain rfl := someI hb6
          exact ⟨rfl, _, _, rfl, hF.sub ⟨rfl, rfl, rfl, rfl, rfl, rfl, trivial⟩, hS⟩
      · rintro e a w ⟨rfl, hF, hS⟩
        refine x_ib (n_sq ?_)
        refine q_seq ?_
        refine q_region ?_
        refine q_x (v := nilS.v) hF hS (ex_assign rfl) rfl rfl fun a hF => ?_
        refine q_end (n_sq ?_)
        refine q_seq ?_
        refine q_seq ?_
        refine q_region ?_
        refine q_x (v := s1.v) hF hS (ex_move rfl) rfl rfl fun a hF => ?_
        refine q_x (v := (.int .i64 (goLen p_weights))) hF hS (ex_len Try.underlying42 rfl h1.len) rfl rfl fun a hF => ?_
        refine q_x (v := (.int .i64 0)) hF hS (ex_move rfl) rfl rfl fun a hF => ?_
        refine q_end (n_sq ?_)
        refine q_block ?_
        obtain ⟨o8, hl8, hr⟩ := bindS hr
        refine q_loop (fun (s : (List impl_Frac) × Int) a w => ∃ (q13 : Piece), ∃ (s13 : Sl), ∃ out_12, ∃ t_14, s = (out_12, t_14) ∧ Fr a 75 [(2, (.pointer (some ⟨b2, 0, none⟩))), (6, (.int .i64 sum_11)), (9, s13.v), (45, s1.v), (46, (.int .i64 (goLen p_weights))), (47, (.int .i64 t_14))] ∧ St [] w0 w m [q13, [⟨b2, [(.int .i64 p_rho.Num), (.int .i64 p_rho.Den)], 24⟩]] ∧ OwnL m 24 q13 s13 out_12) (fun (o : ((List impl_Frac)) ⊕ ((List impl_Frac) × Bool)) e a w => ∃ (q26 : Piece), ∃ (s26 : Sl), ∃ out_25, o = .inl out_25 ∧ e = .exit 2 ∧ Fr a 75 [(9, s26.v)] ∧ St [] w0 w m [q26] ∧ OwnL m 24 q26 s26 out_25) hl8 ⟨[], nilS, _, _, rfl, hF.sub ⟨rfl, rfl, rfl, rfl, rfl, rfl, trivial⟩, hS.sel [1, 0] (by decide), (OwnL.nil (α := impl_Frac) m 24)⟩ ?_ ?_
        · clear hF hS
          rintro s a w st ⟨q13, s13, out_12, t_14, rfl, hF, hS, h13⟩ hb8
          unfold spec_SplitRho_l2 at hb8
          refine q_seq ?_
          refine q_region ?_
          refine q_x (v := (.bool (decide (t_14 < (goLen p_weights))))) hF hS (ex_ibin rfl rfl rfl) rfl rfl fun a hF => ?_
          refine q_end (n_sq ?_)
          refine q_seq ?_
          rcases bcase (decide (t_14 < (goLen p_weights))) with hc9 | hc9
          · have hb8 := cond_f hc9 hb8
            refine q_cond_f hF rfl hc9 ?_
            refine q_exit (x_sq ?_)
            obtain rfl := someI hb8
            exact ⟨nofun, .inl ⟨q13, s13, _, rfl, rfl, hF.sub ⟨rfl, trivial⟩, hS.mask [true, false], h13⟩⟩
          · have hb8 := cond_t hc9 hb8
            refine q_cond_t hF rfl hc9 ?_
            refine q_skipc (n_sq ?_)
            refine q_seq ?_
            refine q_block ?_
            refine q_seq ?_
            refine q_region ?_
            obtain ⟨e_15, he_15, hb8⟩ := bindS hb8
            obtain ⟨vs16, at16, d16⟩ := h1.at he_15 1 rfl
            obtain rfl : vs16 = [(.int .i64 e_15)] := d16
            refine q_x (v := (elP s1 (t_14.toNat * 1))) hF hS (ex_indexAddr Try.underlying42 sz3 rfl rfl (h1.idx he_15)) rfl rfl fun a hF => ?_
            refine q_x (v := (.int .i64 e_15)) hF hS (ex_loadE1 0 Try.underlying3 rfl rfl ((at16).at) rfl rfl) rfl rfl fun a hF => ?_
            refine q_x (v := (.int .i64 e_15)) hF hS (ex_assign rfl) rfl rfl fun a hF => ?_
            refine q_end (n_sq ?_)
            refine q_seq ?_
            refine q_region ?_
            refine q_x (v := (.int .i64 e_15)) hF hS (ex_move rfl) rfl rfl fun a hF => ?_
            refine q_x (v := (.int .i64 sum_11)) hF hS (ex_move rfl) rfl rfl fun a hF => ?_
            obtain ⟨t_17, ht_17, hb8⟩ := bindS hb8
            refine q_call (vs := [(.int .i64 e_15), (.int .i64 sum_11)]) hF hS Try.func117 (by kernel_rfl) rfl rfl rfl (c_spec_fMake e_15 sum_11 t_17 ht_17 _ m hS.vis) ?_
            rintro a w _ rfl hF hS
            refine q_x (v := (.tuple #[(.agg #[(.int .i64 t_17.1.Num), (.int .i64 t_17.1.Den)]), (.bool t_17.2)])) hF hS (ex_move rfl) rfl rfl fun a hF => ?_
            refine q_x (v := (.agg #[(.int .i64 t_17.1.Num), (.int .i64 t_17.1.Den)])) hF hS (ex_extract rfl rfl) rfl rfl fun a hF => ?_
            refine q_x (v := (.bool t_17.2)) hF hS (ex_extract rfl rfl) rfl rfl fun a hF => ?_
            refine q_alloc (cs := [(.int .i64 0), (.int .i64 0)]) hF hS rfl rfl rfl fun a w b18 hF hS => ?_
            refine q_store (vs := [(.int .i64 t_17.1.Num), (.int .i64 t_17.1.Den)]) (cs' := [(.int .i64 t_17.1.Num), (.int .i64 t_17.1.Den)]) 0 0 hF hS sz24 rfl rfl rfl rfl rfl rfl rfl rfl fun a w hF hS => ?_
            refine q_x (v := (.bool t_17.2)) hF hS (ex_assign rfl) rfl rfl fun a hF => ?_
            refine q_end (n_sq ?_)
            refine q_seq ?_
            refine q_region ?_
            refine q_x (v := (.agg #[(.int .i64 p_rho.Num), (.int .i64 p_rho.Den)])) hF hS (ex_loadA (vs := [(.int .i64 p_rho.Num), (.int .i64 p_rho.Den)]) 2 0 Try.underlying24 rfl sz24 rfl rfl rfl rfl) rfl rfl fun a hF => ?_
            refine q_x (v := (.agg #[(.int .i64 t_17.1.Num), (.int .i64 t_17.1.Den)])) hF hS (ex_loadA (vs := [(.int .i64 t_17.1.Num), (.int .i64 t_17.1.Den)]) 0 0 Try.underlying24 rfl sz24 rfl rfl rfl rfl) rfl rfl fun a hF => ?_
            obtain ⟨t_19, ht_19, hb8⟩ := bindS hb8
            refine q_call (vs := [(.agg #[(.int .i64 p_rho.Num), (.int .i64 p_rho.Den)]), (.agg #[(.int .i64 t_17.1.Num), (.int .i64 t_17.1.Den)])]) hF hS Try.func106 (by kernel_rfl) rfl rfl rfl (c_spec_fMul p_rho t_17.1 t_19 ht_19 _ m hS.vis) ?_
            rintro a w _ rfl hF hS
            refine q_x (v := (.tuple #[(.agg #[(.int .i64 t_19.1.Num), (.int .i64 t_19.1.Den)]), (.bool t_19.2)])) hF hS (ex_move rfl) rfl rfl fun a hF => ?_
            refine q_x (v := (.agg #[(.int .i64 t_19.1.Num), (.int .i64 t_19.1.Den)])) hF hS (ex_extract rfl rfl) rfl rfl fun a hF => ?_
            refine q_x (v := (.bool t_19.2)) hF hS (ex_extract rfl rfl) rfl rfl fun a hF => ?_
            refine q_alloc (cs := [(.int .i64 0), (.int .i64 0)]) hF hS rfl rfl rfl fun a w b20 hF hS => ?_
            refine q_store (vs := [(.int .i64 t_19.1.Num), (.int .i64 t_19.1.Den)]) (cs' := [(.int .i64 t_19.1.Num), (.int .i64 t_19.1.Den)]) 0 0 hF hS sz24 rfl rfl rfl rfl rfl rfl rfl rfl fun a w hF hS => ?_
            refine q_x (v := (.bool t_19.2)) hF hS (ex_assign rfl) rfl rfl fun a hF => ?_
            refine q_end (n_sq ?_)
            refine q_seq ?_
            refine q_seq ?_
            obtain ⟨t_21, hj10, hb8⟩ := bindS hb8
            refine q_join (fun a w => Fr a 75 [(2, (.pointer (some ⟨b2, 0, none⟩))), (6, (.int .i64 sum_11)), (9, s13.v), (14, (.pointer (some ⟨b20, 0, none⟩))), (45, s1.v), (46, (.int .i64 (goLen p_weights))), (47, (.int .i64 t_14)), (68, (.bool t_21))] ∧ St [] w0 w m [q13, [⟨b20, [(.int .i64 t_19.1.Num), (.int .i64 t_19.1.Den)], 24⟩], [⟨b2, [(.int .i64 p_rho.Num), (.int .i64 p_rho.Den)], 24⟩]]) ?_ ?_
            · refine q_region ?_
              refine q_x (v := (.bool t_17.2)) hF hS (ex_move rfl) rfl rfl fun a hF => ?_
              refine q_x (v := (.bool (!t_17.2))) hF hS (ex_not rfl) rfl rfl fun a hF => ?_
              refine q_x (v := (.bool (!t_17.2))) hF hS (ex_move rfl) rfl rfl fun a hF => ?_
              rcases bcase (!t_17.2) with hc11 | hc11
              · have hj10 := cond_f hc11 hj10
                refine q_xg (v := (.bool t_19.2)) hF hS (ex_move rfl) (wanted_t hF rfl rfl rfl hc11) rfl fun a hF => ?_
                refine q_xg (v := (.bool (!t_19.2))) hF hS (ex_not rfl) (wanted_t hF rfl rfl rfl hc11) rfl fun a hF => ?_
                refine q_x (v := (.bool (!t_19.2))) hF hS (ex_pick_f rfl rfl hc11) rfl rfl fun a hF => ?_
                refine q_end (n_jn ?_)
                obtain rfl := someI hj10
                exact ⟨hF.sub ⟨rfl, rfl, rfl, rfl, rfl, rfl, rfl, rfl, trivial⟩, hS.sel [2, 0, 3] (by decide)⟩
              · have hj10 := cond_t hc11 hj10
                refine q_skip hF (wanted_f hF rfl rfl rfl hc11 rfl) rfl fun a hF => ?_
                refine q_skip hF (wanted_f hF rfl rfl rfl hc11 rfl) rfl fun a hF => ?_
                refine q_x (v := (.bool true)) hF hS (ex_pick_t rfl rfl hc11) rfl rfl fun a hF => ?_
                refine q_end (n_jn ?_)
                obtain rfl := someI hj10
                exact ⟨hF.sub ⟨rfl, rfl, rfl, rfl, rfl, rfl, rfl, rfl, trivial⟩, hS.sel [2, 0, 3] (by decide)⟩
            · rintro a w ⟨hF, hS⟩
              refine n_sq ?_
              rcases bcase (t_21) with hc12 | hc12
              · have hb8 := cond_f hc12 hb8
                refine q_cond_f hF rfl hc12 ?_
                refine q_skipc (n_sq ?_)
                refine q_region ?_
                refine q_x (v := s13.v) hF hS (ex_move rfl) rfl rfl fun a hF => ?_
                refine q_x (v := (.agg #[(.int .i64 t_19.1.Num), (.int .i64 t_19.1.Den)])) hF hS (ex_loadA (vs := [(.int .i64 t_19.1.Num), (.int .i64 t_19.1.Den)]) 1 0 Try.underlying24 rfl sz24 rfl rfl rfl rfl) rfl rfl fun a hF => ?_
                refine q_do rfl fun _ hK => wp_buildSlice' (l := ([t_19.1] : List impl_Frac)) (cells := [(.int .i64 t_19.1.Num), (.int .i64 t_19.1.Den)]) hF hS Try.underlying56 inf24 rfl rfl (by kernel_rfl) rfl rfl rfl ⟨rfl, rfl⟩ rfl rfl fun a w q22 s22 hF hS h22 _ => hK _ _ ?_
                have hS : St _ _ _ _ [q13, q22, [⟨b20, [(.int .i64 t_19.1.Num), (.int .i64 t_19.1.Den)], 24⟩], [⟨b2, [(.int .i64 p_rho.Num), (.int .i64 p_rho.Den)], 24⟩]] := hS.sel [1, 0, 2, 3] (by decide)
                obtain ⟨l_23, hl_23, hb8⟩ := bindS hb8
                refine q_do rfl fun _ hK => wp_append hF hS h13 Try.underlying56 inf24 rfl rfl rfl rfl (h22.vw hS (j := 1) rfl) rfl (by decide) hl_23 rfl fun a w q24 s24 hF hS h24 => hK _ _ ?_
                refine q_x (v := s24.v) hF hS (ex_assign rfl) rfl rfl fun a hF => ?_
                refine q_end (n_ib (n_sq ?_))
                refine q_region ?_
                refine q_x (v := (.int .i64 (w64 (t_14 + 1)))) hF hS (ex_ibin rfl rfl rfl) rfl rfl fun a hF => ?_
                refine q_x (v := (.int .i64 (w64 (t_14 + 1)))) hF hS (ex_move rfl) rfl rfl fun a hF => ?_
                refine q_end ?_
                obtain rfl := someI hb8
                exact ⟨rfl, q24, s24, _, _, rfl, hF.sub ⟨rfl, rfl, rfl, rfl, rfl, rfl, trivial⟩, hS.mask [true, false, false, true], h24⟩
              · have hb8 := cond_t hc12 hb8
                refine q_cond_t hF rfl hc12 ?_
                refine q_seq ?_
                refine q_region ?_
                refine q_x (v := nilS.v) hF hS (ex_assign rfl) rfl rfl fun a hF => ?_
                refine q_x (v := (.bool false)) hF hS (ex_assign rfl) rfl rfl fun a hF => ?_
                refine q_end (n_sq (q_ret (r_sq (r_ib (r_sq ?_)))))
                obtain rfl := someI hb8
                refine ⟨nofun, .inr fun ho => ?_⟩
                subst ho
                refine r_ib (r_sq ?_)
                obtain rfl := someI hr
                exact ret_of hF hS rfl (.tmp rfl (.tmp rfl .nil)) ⟨[], nilS, rfl, hS.sel [3] (by decide), (OwnL.nil (α := impl_Frac) m 24)⟩
        · rintro e a w ⟨q26, s26, out_25, rfl, rfl, hF, hS, h26⟩
          refine x_ib (n_sq ?_)
          refine q_seq ?_
          refine q_region ?_
          refine q_x (v := s26.v) hF hS (ex_move rfl) rfl rfl fun a hF => ?_
          refine q_x (v := s26.v) hF hS (ex_assign rfl) rfl rfl fun a hF => ?_
          refine q_x (v := (.bool true)) hF hS (ex_assign rfl) rfl rfl fun a hF => ?_
          refine q_end (n_sq (q_ret ?_))
          obtain rfl := someI hr
          exact ret_of hF hS rfl (.tmp rfl (.tmp rfl .nil)) ⟨q26, s26, rfl, hS.sel [0] (by decide), h26⟩
    · have hr := cond_t hc5 hr
      refine q_cond_t hF rfl hc5 ?_
      refine q_seq ?_
      refine q_region ?_
      refine q_x (v := nilS.v) hF hS (ex_assign rfl) rfl rfl fun a hF => ?_
      refine q_x (v := (.bool false)) hF hS (ex_assign rfl) rfl rfl fun a hF => ?_
      refine q_end (n_sq (q_ret (r_sq ?_)))
      obtain rfl := someI hr
      exact ret_of hF hS rfl (.tmp rfl (.tmp rfl .nil)) ⟨[], nilS, rfl, hS.sel [1] (by decide), (OwnL.nil (α := impl_Frac) m 24)⟩

theorem c_laws_qFracs (p_a : List impl_Frac) (p_b : List impl_Frac) (r : Bool) (hr : laws_qFracs p_a p_b = some r) (w0 : World) (m : Mem) (hv : Vis m w0) (s1 : Sl) (h1 : Rd m s1 p_a) (s2 : Sl) (h2 : Rd m s2 p_b) :
    Ret Try.prog 34 [s1.v, s2.v] w0 (fun v _ => v = (.bool r)) := by
  unfold laws_qFracs at hr
  refine ret_start Try.func34 rfl 26 rfl rfl m hv fun a hF hS => ?_
  refine q_seq ?_
  refine q_region ?_
  refine q_x (v := (.bool false)) hF hS (ex_assign rfl) rfl rfl fun a hF => ?_
  refine q_end (n_sq ?_)
  refine q_seq ?_
  refine q_seq ?_
  refine q_region ?_
  refine q_x (v := s1.v) hF hS (ex_move rfl) rfl rfl fun a hF => ?_
  refine q_x (v := (.int .i64 (goLen p_a))) hF hS (ex_len Try.underlying56 rfl h1.len) rfl rfl fun a hF => ?_
  refine q_x (v := s2.v) hF hS (ex_move rfl) rfl rfl fun a hF => ?_
  refine q_x (v := (.int .i64 (goLen p_b))) hF hS (ex_len Try.underlying56 rfl h2.len) rfl rfl fun a hF => ?_
  refine q_x (v := (.bool ((goLen p_a) != (goLen p_b)))) hF hS (ex_ibin rfl rfl rfl) rfl rfl fun a hF => ?_
  refine q_end (n_sq ?_)
  rcases bcase ((goLen p_a) != (goLen p_b)) with hc1 | hc1
  · have hr := cond_f hc1 hr
    refine q_cond_f hF rfl hc1 ?_
    refine q_skipc (n_sq ?_)
    refine q_seq ?_
    refine q_seq ?_
    refine q_region ?_
    refine q_x (v := s1.v) hF hS (ex_move rfl) rfl rfl fun a hF => ?_
    refine q_x (v := (.int .i64 (goLen p_a))) hF hS (ex_len Try.underlying56 rfl h1.len) rfl rfl fun a hF => ?_
    refine q_x (v := (.int .i64 0)) hF hS (ex_move rfl) rfl rfl fun a hF => ?_
    refine q_end (n_sq ?_)
    refine q_block ?_
    obtain ⟨o2, hl2, hr⟩ := bindS hr
    refine q_loop (fun (t_3 : Int) a w => Fr a 26 [(0, s1.v), (1, s2.v), (12, (.int .i64 (goLen p_a))), (13, (.int .i64 t_3))] ∧ St [] w0 w m []) (fun (o : (Unit) ⊕ (Bool)) e a w => o = .inl () ∧ e = .exit 0 ∧ Fr a 26 [] ∧ St [] w0 w m []) hl2 ⟨hF.sub ⟨rfl, rfl, rfl, rfl, trivial⟩, hS⟩ ?_ ?_
    · clear hF hS
      rintro t_3 a w st ⟨hF, hS⟩ hb2
      unfold laws_qFracs_l1 at hb2
      refine q_seq ?_
      refine q_region ?_
      refine q_x (v := (.bool (decide (t_3 < (goLen p_a))))) hF hS (ex_ibin rfl rfl rfl) rfl rfl fun a hF => ?_
      refine q_end (n_sq ?_)
      refine q_seq ?_
      rcases bcase (decide (t_3 < (goLen p_a))) with hc3 | hc3
      · have hb2 := cond_f hc3 hb2
        refine q_cond_f hF rfl hc3 ?_
        refine q_exit (x_sq ?_)
        obtain rfl := someI hb2
        exact ⟨nofun, .inl ⟨rfl, rfl, hF.sub trivial, hS⟩⟩
      · have hb2 := cond_t hc3 hb2
        refine q_cond_t hF rfl hc3 ?_
        refine q_skipc (n_sq ?_)
        refine q_seq ?_
        refine q_block ?_
        refine q_seq ?_
        refine q_region ?_
        refine q_x (v := (.int .i64 t_3)) hF hS (ex_move rfl) rfl rfl fun a hF => ?_
        refine q_x (v := (.int .i64 t_3)) hF hS (ex_assign rfl) rfl rfl fun a hF => ?_
        refine q_end (n_sq ?_)
        refine q_seq ?_
        refine e_region [] mixed fun w' hw' => ?_
        have hS := hS.below hw'
        refine e_p (v := s1.v) 0 hF rfl (ex_move rfl) rfl rfl (by kernel_rfl) (by kernel_rfl) (by kernel_rfl) fun a hF => ?_
        refine e_p (v := (.int .i64 t_3)) 1 hF rfl (ex_move rfl) rfl rfl (by kernel_rfl) (by kernel_rfl) (by kernel_rfl) fun a hF => ?_
        obtain ⟨e_4, he_4, hb2⟩ := bindS hb2
        obtain ⟨vs5, at5, d5⟩ := h1.at he_4 2 rfl
        obtain rfl : vs5 = [(.int .i64 e_4.Num), (.int .i64 e_4.Den)] := d5
        refine e_p (v := (elP s1 (t_3.toNat * 2))) 2 hF rfl (ex_indexAddr Try.underlying56 sz24 rfl rfl (h1.idx he_4)) rfl rfl (by kernel_rfl) (by kernel_rfl) (by kernel_rfl) fun a hF => ?_
        refine e_x (v := (.agg #[(.int .i64 e_4.Num), (.int .i64 e_4.Den)])) 3 hF hS rfl (ex_loadEA (us := [(.int .i64 e_4.Num), (.int .i64 e_4.Den)]) 0 Try.underlying24 rfl sz24 rfl ((at5).at) rfl rfl rfl) rfl rfl (by kernel_rfl) (by kernel_rfl) (by kernel_rfl) (by kernel_rfl) fun a hF => ?_
        refine e_p (v := s2.v) 4 hF rfl (ex_move rfl) rfl rfl (by kernel_rfl) (by kernel_rfl) (by kernel_rfl) fun a hF => ?_
        refine e_p (v := (.int .i64 t_3)) 5 hF rfl (ex_move rfl) rfl rfl (by kernel_rfl) (by kernel_rfl) (by kernel_rfl) fun a hF => ?_
        obtain ⟨e_6, he_6, hb2⟩ := bindS hb2
        obtain ⟨vs7, at7, d7⟩ := h2.at he_6 2 rfl
        obtain rfl : vs7 = [(.int .i64 e_6.Num), (.int .i64 e_6.Den)] := d7
        refine e_p (v := (elP s2 (t_3.toNat * 2))) 6 hF rfl (ex_indexAddr Try.underlying56 sz24 rfl rfl (h2.idx he_6)) rfl rfl (by kernel_rfl) (by kernel_rfl) (by kernel_rfl) fun a hF => ?_
        refine e_x (v := (.agg #[(.int .i64 e_6.Num), (.int .i64 e_6.Den)])) 7 hF hS rfl (ex_loadEA (us := [(.int .i64 e_6.Num), (.int .i64 e_6.Den)]) 0 Try.underlying24 rfl sz24 rfl ((at7).at) rfl rfl rfl) rfl rfl (by kernel_rfl) (by kernel_rfl) (by kernel_rfl) (by kernel_rfl) fun a hF => ?_
        refine e_p (v := (.bool (!((e_4.Num == e_6.Num) && ((e_4.Den == e_6.Den) && true))))) 8 hF rfl (ex_neA (xs := [(.int .i64 e_4.Num), (.int .i64 e_4.Den)]) (ys := [(.int .i64 e_6.Num), (.int .i64 e_6.Den)]) rfl rfl (by kernel_rfl) (eqv_struct (xs := [(.int .i64 e_4.Num), (.int .i64 e_4.Den)]) (ys := [(.int .i64 e_6.Num), (.int .i64 e_6.Den)]) Try.underlying24 (by kernel_rfl) (eqf_cons rfl (part_cell Try.underlying3 rfl rfl) (part_cell Try.underlying3 rfl rfl) (eqv_int Try.underlying3) (eqf_cons rfl (part_cell Try.underlying3 rfl rfl) (part_cell Try.underlying3 rfl rfl) (eqv_int Try.underlying3) (eqf_nil))))) rfl rfl (by kernel_rfl) (by kernel_rfl) (by kernel_rfl) fun a hF => ?_
        refine e_end (by kernel_rfl) (n_sq ?_) _
        rcases bcase (!((e_4.Num == e_6.Num) && ((e_4.Den == e_6.Den) && true))) with hc4 | hc4
        · have hb2 := cond_f hc4 hb2
          refine q_cond_f hF rfl hc4 ?_
          refine q_skipc (n_ib (n_sq ?_))
          refine q_region ?_
          refine q_x (v := (.int .i64 (w64 (t_3 + 1)))) hF hS (ex_ibin rfl rfl rfl) rfl rfl fun a hF => ?_
          refine q_x (v := (.int .i64 (w64 (t_3 + 1)))) hF hS (ex_move rfl) rfl rfl fun a hF => ?_
          refine q_end ?_
          obtain rfl := someI hb2
          exact ⟨rfl, hF.sub ⟨rfl, rfl, rfl, rfl, trivial⟩, hS⟩
        · have hb2 := cond_t hc4 hb2
          refine q_cond_t hF rfl hc4 ?_
          refine q_seq ?_
          refine q_region ?_
          refine q_x (v := (.bool false)) hF hS (ex_assign rfl) rfl rfl fun a hF => ?_
          refine q_end (n_sq (q_ret (r_ib (r_sq ?_))))
          obtain rfl := someI hb2
          refine ⟨nofun, .inr fun ho => ?_⟩
          subst ho
          refine r_ib (r_sq ?_)
          obtain rfl := someI hr
          exact ret_of hF hS rfl (.tmp rfl .nil) rfl
    · rintro e a w ⟨rfl, rfl, hF, hS⟩
      refine x_ib (n_sq ?_)
      refine q_seq ?_
      refine q_region ?_
      refine q_x (v := (.bool true)) hF hS (ex_assign rfl) rfl rfl fun a hF => ?_
      refine q_end (n_sq (q_ret ?_))
      obtain rfl := someI hr
      exact ret_of hF hS rfl (.tmp rfl .nil) rfl
  · have hr := cond_t hc1 hr
    refine q_cond_t hF rfl hc1 ?_
    refine q_seq ?_
    refine q_region ?_
    refine q_x (v := (.bool false)) hF hS (ex_assign rfl) rfl rfl fun a hF => ?_
    refine q_end (n_sq (q_ret (r_sq ?_)))
    obtain rfl := someI hr
    exact ret_of hF hS rfl (.tmp rfl .nil) rfl

theorem c_impl_isWithin (p_budget : impl_Loss) (p_x : impl_Loss) (r : Bool) (hr : impl_isWithin p_budget p_x = some r) (w0 : World) (m : Mem) (hv : Vis m w0) :
    Ret Try.prog 79 [(.agg #[(.int .i64 p_budget.Ratio.Num), (.int .i64 p_budget.Ratio.Den), (.int .i64 p_budget.Rho.Num), (.int .i64 p_budget.Rho.Den)]), (.agg #[(.int .i64 p_x.Ratio.Num), (.int .i64 p_x.Ratio.Den), (.int .i64 p_x.Rho.Num), (.int .i64 p_x.Rho.Den)])] w0 (fun v _ => v = (.bool r)) := by
  unfold impl_isWithin at hr
  refine ret_start Try.func79 rfl 19 rfl rfl m hv fun a hF hS => ?_
  refine q_seq ?_
  refine q_region ?_
  refine q_box (cs := [(.int .i64 p_budget.Ratio.Num), (.int .i64 p_budget.Ratio.Den), (.int .i64 p_budget.Rho.Num), (.int .i64 p_budget.Rho.Den)]) hF hS rfl rfl rfl fun a w b1 hF hS => ?_
  refine q_box (cs := [(.int .i64 p_x.Ratio.Num), (.int .i64 p_x.Ratio.Den), (.int .i64 p_x.Rho.Num), (.int .i64 p_x.Rho.Den)]) hF hS rfl rfl rfl fun a w b2 hF hS => ?_
  refine q_x (v := (.bool false)) hF hS (ex_assign rfl) rfl rfl fun a hF => ?_
  refine q_end (n_sq ?_)
  refine q_seq ?_
  obtain ⟨t_5, hj1, hr⟩ := bindS hr
  refine q_join (fun a w => Fr a 19 [(4, (.bool t_5))] ∧ St [] w0 w m []) ?_ ?_
  · refine q_region ?_
    refine q_x (v := (.pointer (some ⟨b2, 0, none⟩))) hF hS (ex_fieldAddr Try.underlying26 rfl sz24 rfl rfl) rfl rfl fun a hF => ?_
    refine q_x (v := (.agg #[(.int .i64 p_x.Ratio.Num), (.int .i64 p_x.Ratio.Den)])) hF hS (ex_loadA (vs := [(.int .i64 p_x.Ratio.Num), (.int .i64 p_x.Ratio.Den)]) 0 0 Try.underlying24 rfl sz24 rfl rfl rfl rfl) rfl rfl fun a hF => ?_
    refine q_x (v := (.pointer (some ⟨b1, 0, none⟩))) hF hS (ex_fieldAddr Try.underlying26 rfl sz24 rfl rfl) rfl rfl fun a hF => ?_
    refine q_x (v := (.agg #[(.int .i64 p_budget.Ratio.Num), (.int .i64 p_budget.Ratio.Den)])) hF hS (ex_loadA (vs := [(.int .i64 p_budget.Ratio.Num), (.int .i64 p_budget.Ratio.Den)]) 1 0 Try.underlying24 rfl sz24 rfl rfl rfl rfl) rfl rfl fun a hF => ?_
    obtain ⟨t_3, ht_3, hj1⟩ := bindS hj1
    refine q_call (vs := [(.agg #[(.int .i64 p_x.Ratio.Num), (.int .i64 p_x.Ratio.Den)]), (.agg #[(.int .i64 p_budget.Ratio.Num), (.int .i64 p_budget.Ratio.Den)])]) hF hS Try.func126 (by kernel_rfl) rfl rfl rfl (c_impl_cmpFrac p_x.Ratio p_budget.Ratio t_3 ht_3 _ m hS.vis) ?_
    rintro a w _ rfl hF hS
    refine q_x (v := (.bool (decide (t_3 ≤ 0)))) hF hS (ex_ibin rfl rfl rfl) rfl rfl fun a hF => ?_
    refine q_x (v := (.bool (decide (t_3 ≤ 0)))) hF hS (ex_move rfl) rfl rfl fun a hF => ?_
    rcases bcase (decide (t_3 ≤ 0)) with hc2 | hc2
    · have hj1 := cond_f hc2 hj1
      refine q_skip hF (wanted_f hF rfl rfl rfl hc2 rfl) rfl fun a hF => ?_
      refine q_skip hF (wanted_f hF rfl rfl rfl hc2 rfl) rfl fun a hF => ?_
      refine q_skip hF (wanted_f hF rfl rfl rfl hc2 rfl) rfl fun a hF => ?_
      refine q_skip hF (wanted_f hF rfl rfl rfl hc2 rfl) rfl fun a hF => ?_
      refine q_skip hF (wanted_f hF rfl rfl rfl hc2 rfl) rfl fun a hF => ?_
      refine q_skip hF (wanted_f hF rfl rfl rfl hc2 rfl) rfl fun a hF => ?_
      refine q_x (v := (.bool false)) hF hS (ex_pick_f rfl rfl hc2) rfl rfl fun a hF => ?_
      refine q_x (v := (.bool false)) hF hS (ex_assign rfl) rfl rfl fun a hF => ?_
      refine q_end (n_jn ?_)
      obtain rfl := someI hj1
      exact ⟨hF.sub ⟨rfl, trivial⟩, hS.mask [false, false]⟩
    · have hj1 := cond_t hc2 hj1
      refine q_xg (v := (.pointer (some ⟨b2, 2, none⟩))) hF hS (ex_fieldAddr Try.underlying26 rfl sz24 rfl rfl) (wanted_t hF rfl rfl rfl hc2) rfl fun a hF => ?_
      refine q_xg (v := (.agg #[(.int .i64 p_x.Rho.Num), (.int .i64 p_x.Rho.Den)])) hF hS (ex_loadA (vs := [(.int .i64 p_x.Rho.Num), (.int .i64 p_x.Rho.Den)]) 0 0 Try.underlying24 rfl sz24 rfl rfl rfl rfl) (wanted_t hF rfl rfl rfl hc2) rfl fun a hF => ?_
      refine q_xg (v := (.pointer (some ⟨b1, 2, none⟩))) hF hS (ex_fieldAddr Try.underlying26 rfl sz24 rfl rfl) (wanted_t hF rfl rfl rfl hc2) rfl fun a hF => ?_
      refine q_xg (v := (.agg #[(.int .i64 p_budget.Rho.Num), (.int .i64 p_budget.Rho.Den)])) hF hS (ex_loadA (vs := [(.int .i64 p_budget.Rho.Num), (.int .i64 p_budget.Rho.Den)]) 1 0 Try.underlying24 rfl sz24 rfl rfl rfl rfl) (wanted_t hF rfl rfl rfl hc2) rfl fun a hF => ?_
      obtain ⟨t_4, ht_4, hj1⟩ := bindS hj1
      refine q_callg (vs := [(.agg #[(.int .i64 p_x.Rho.Num), (.int .i64 p_x.Rho.Den)]), (.agg #[(.int .i64 p_budget.Rho.Num), (.int .i64 p_budget.Rho.Den)])]) hF hS (wanted_t hF rfl rfl rfl hc2) Try.func126 (by kernel_rfl) rfl rfl rfl (c_impl_cmpFrac p_x.Rho p_budget.Rho t_4 ht_4 _ m hS.vis) ?_
      rintro a w _ rfl hF hS
      refine q_xg (v := (.bool (decide (t_4 ≤ 0)))) hF hS (ex_ibin rfl rfl rfl) (wanted_t hF rfl rfl rfl hc2) rfl fun a hF => ?_
      refine q_x (v := (.bool (decide (t_4 ≤ 0)))) hF hS (ex_pick_t rfl rfl hc2) rfl rfl fun a hF => ?_
      refine q_x (v := (.bool (decide (t_4 ≤ 0)))) hF hS (ex_assign rfl) rfl rfl fun a hF => ?_
      refine q_end (n_jn ?_)
      obtain rfl := someI hj1
      exact ⟨hF.sub ⟨rfl, trivial⟩, hS.mask [false, false]⟩
  · rintro a w ⟨hF, hS⟩
    refine n_sq (q_ret ?_)
    obtain rfl := someI hr
    exact ret_of hF hS rfl (.tmp rfl .nil) rfl

theorem c_impl_IsWithin (p_budget : impl_Loss) (p_x : impl_Loss) (r : Bool × Bool) (hr : impl_IsWithin p_budget p_x = some r) (w0 : World) (m : Mem) (hv : Vis m w0) :
    Ret Try.prog 16 [(.agg #[(.int .i64 p_budget.Ratio.Num), (.int .i64 p_budget.Ratio.Den), (.int .i64 p_budget.Rho.Num), (.int .i64 p_budget.Rho.Den)]), (.agg #[(.int .i64 p_x.Ratio.Num), (.int .i64 p_x.Ratio.Den), (.int .i64 p_x.Rho.Num), (.int .i64 p_x.Rho.Den)])] w0 (fun v _ => v = (.tuple #[(.bool r.1), (.bool r.2)])) := by
  unfold impl_IsWithin at hr
  refine ret_start Try.func16 rfl 17 rfl rfl m hv fun a hF hS => ?_
  refine q_seq ?_
  refine q_region ?_
  refine q_box (cs := [(.int .i64 p_budget.Ratio.Num), (.int .i64 p_budget.Ratio.Den), (.int .i64 p_budget.Rho.Num), (.int .i64 p_budget.Rho.Den)]) hF hS rfl rfl rfl fun a w b1 hF hS => ?_
  refine q_box (cs := [(.int .i64 p_x.Ratio.Num), (.int .i64 p_x.Ratio.Den), (.int .i64 p_x.Rho.Num), (.int .i64 p_x.Rho.Den)]) hF hS rfl rfl rfl fun a w b2 hF hS => ?_
  refine q_x (v := (.bool false)) hF hS (ex_assign rfl) rfl rfl fun a hF => ?_
  refine q_x (v := (.bool false)) hF hS (ex_assign rfl) rfl rfl fun a hF => ?_
  refine q_end (n_sq ?_)
  refine q_seq ?_
  refine q_seq ?_
  obtain ⟨t_5, hj1, hr⟩ := bindS hr
  refine q_join (fun a w => Fr a 17 [(2, (.pointer (some ⟨b1, 0, none⟩))), (3, (.pointer (some ⟨b2, 0, none⟩))), (13, (.bool t_5))] ∧ St [] w0 w m [[⟨b2, [(.int .i64 p_x.Ratio.Num), (.int .i64 p_x.Ratio.Den), (.int .i64 p_x.Rho.Num), (.int .i64 p_x.Rho.Den)], 26⟩], [⟨b1, [(.int .i64 p_budget.Ratio.Num), (.int .i64 p_budget.Ratio.Den), (.int .i64 p_budget.Rho.Num), (.int .i64 p_budget.Rho.Den)], 26⟩]]) ?_ ?_
  · refine q_region ?_
    refine q_x (v := (.agg #[(.int .i64 p_budget.Ratio.Num), (.int .i64 p_budget.Ratio.Den), (.int .i64 p_budget.Rho.Num), (.int .i64 p_budget.Rho.Den)])) hF hS (ex_loadA (vs := [(.int .i64 p_budget.Ratio.Num), (.int .i64 p_budget.Ratio.Den), (.int .i64 p_budget.Rho.Num), (.int .i64 p_budget.Rho.Den)]) 1 0 Try.underlying26 rfl sz26 rfl rfl rfl rfl) rfl rfl fun a hF => ?_
    obtain ⟨t_3, ht_3, hj1⟩ := bindS hj1
    refine q_call (vs := [(.agg #[(.int .i64 p_budget.Ratio.Num), (.int .i64 p_budget.Ratio.Den), (.int .i64 p_budget.Rho.Num), (.int .i64 p_budget.Rho.Den)])]) hF hS Try.func17 (by kernel_rfl) rfl rfl rfl (c_impl_IsLoss p_budget t_3 ht_3 _ m hS.vis) ?_
    rintro a w _ rfl hF hS
    refine q_x (v := (.bool (!t_3))) hF hS (ex_not rfl) rfl rfl fun a hF => ?_
    refine q_x (v := (.bool (!t_3))) hF hS (ex_move rfl) rfl rfl fun a hF => ?_
    rcases bcase (!t_3) with hc2 | hc2
    · have hj1 := cond_f hc2 hj1
      refine q_xg (v := (.agg #[(.int .i64 p_x.Ratio.Num), (.int .i64 p_x.Ratio.Den), (.int .i64 p_x.Rho.Num), (.int .i64 p_x.Rho.Den)])) hF hS (ex_loadA (vs := [(.int .i64 p_x.Ratio.Num), (.int .i64 p_x.Ratio.Den), (.int .i64 p_x.Rho.Num), (.int .i64 p_x.Rho.Den)]) 0 0 Try.underlying26 rfl sz26 rfl rfl rfl rfl) (wanted_t hF rfl rfl rfl hc2) rfl fun a hF => ?_
      obtain ⟨t_4, ht_4, hj1⟩ := bindS hj1
      refine q_callg (vs := [(.agg #[(.int .i64 p_x.Ratio.Num), (.int .i64 p_x.Ratio.Den), (.int .i64 p_x.Rho.Num), (.int .i64 p_x.Rho.Den)])]) hF hS (wanted_t hF rfl rfl rfl hc2) Try.func17 (by kernel_rfl) rfl rfl rfl (c_impl_IsLoss p_x t_4 ht_4 _ m hS.vis) ?_
      rintro a w _ rfl hF hS
      refine q_xg (v := (.bool (!t_4))) hF hS (ex_not rfl) (wanted_t hF rfl rfl rfl hc2) rfl fun a hF => ?_
      refine q_x (v := (.bool (!t_4))) hF hS (ex_pick_f rfl rfl hc2) rfl rfl fun a hF => ?_
      refine q_end (n_jn ?_)
      obtain rfl := someI hj1
      exact ⟨hF.sub ⟨rfl, rfl, rfl, trivial⟩, hS⟩
    · have hj1 := cond_t hc2 hj1
      refine q_skip hF (wanted_f hF rfl rfl rfl hc2 rfl) rfl fun a hF => ?_
      refine q_skip hF (wanted_f hF rfl rfl rfl hc2 rfl) rfl fun a hF => ?_
      refine q_skip hF (wanted_f hF rfl rfl rfl hc2 rfl) rfl fun a hF => ?_
      refine q_x (v := (.bool true)) hF hS (ex_pick_t rfl rfl hc2) rfl rfl fun a hF => ?_
      refine q_end (n_jn ?_)
      obtain rfl := someI hj1
      exact ⟨hF.sub ⟨rfl, rfl, rfl, trivial⟩, hS⟩
  · rintro a w ⟨hF, hS⟩
    refine n_sq ?_
    rcases bcase (t_5) with hc3 | hc3
    · have hr := cond_f hc3 hr
      refine q_cond_f hF rfl hc3 ?_
      refine q_skipc (n_sq ?_)
      refine q_seq ?_
      refine q_region ?_
      refine q_x (v := (.agg #[(.int .i64 p_budget.Ratio.Num), (.int .i64 p_budget.Ratio.Den), (.int .i64 p_budget.Rho.Num), (.int .i64 p_budget.Rho.Den)])) hF hS (ex_loadA (vs := [(.int .i64 p_budget.Ratio.Num), (.int .i64 p_budget.Ratio.Den), (.int .i64 p_budget.Rho.Num), (.int .i64 p_budget.Rho.Den)]) 1 0 Try.underlying26 rfl sz26 rfl rfl rfl rfl) rfl rfl fun a hF => ?_
      refine q_x (v := (.agg #[(.int .i64 p_x.Ratio.Num), (.int .i64 p_x.Ratio.Den), (.int .i64 p_x.Rho.Num), (.int .i64 p_x.Rho.Den)])) hF hS (ex_loadA (vs := [(.int .i64 p_x.Ratio.Num), (.int .i64 p_x.Ratio.Den), (.int .i64 p_x.Rho.Num), (.int .i64 p_x.Rho.Den)]) 0 0 Try.underlying26 rfl sz26 rfl rfl rfl rfl) rfl rfl fun a hF => ?_
      obtain ⟨t_6, ht_6, hr⟩ := bindS hr
      refine q_call (vs := [(.agg #[(.int .i64 p_budget.Ratio.Num), (.int .i64 p_budget.Ratio.Den), (.int .i64 p_budget.Rho.Num), (.int .i64 p_budget.Rho.Den)]), (.agg #[(.int .i64 p_x.Ratio.Num), (.int .i64 p_x.Ratio.Den), (.int .i64 p_x.Rho.Num), (.int .i64 p_x.Rho.Den)])]) hF hS Try.func79 (by kernel_rfl) rfl rfl rfl (c_impl_isWithin p_budget p_x t_6 ht_6 _ m hS.vis) ?_
      rintro a w _ rfl hF hS
      refine q_x (v := (.bool t_6)) hF hS (ex_assign rfl) rfl rfl fun a hF => ?_
      refine q_x (v := (.bool true)) hF hS (ex_assign rfl) rfl rfl fun a hF => ?_
      refine q_end (n_sq (q_ret ?_))
      obtain rfl := someI hr
      exact ret_of hF hS rfl (.tmp rfl (.tmp rfl .nil)) rfl
    · have hr := cond_t hc3 hr
      refine q_cond_t hF rfl hc3 ?_
      refine q_seq ?_
      refine q_region ?_
      refine q_x (v := (.bool false)) hF hS (ex_assign rfl) rfl rfl fun a hF => ?_
      refine q_x (v := (.bool false)) hF hS (ex_assign rfl) rfl rfl fun a hF => ?_
      refine q_end (n_sq (q_ret (r_sq ?_)))
      obtain rfl := someI hr
      exact ret_of hF hS rfl (.tmp rfl (.tmp rfl .nil)) rfl

theorem c_impl_AddFrac (p_a : impl_Frac) (p_b : impl_Frac) (r : impl_Frac × Bool) (hr : impl_AddFrac p_a p_b = some r) (w0 : World) (m : Mem) (hv : Vis m w0) :
    Ret Try.prog 118 [(.agg #[(.int .i64 p_a.Num), (.int .i64 p_a.Den)]), (.agg #[(.int .i64 p_b.Num), (.int .i64 p_b.Den)])] w0 (fun v _ => v = (.tuple #[(.agg #[(.int .i64 r.1.Num), (.int .i64 r.1.Den)]), (.bool r.2)])) := by
  unfold impl_AddFrac at hr
  refine ret_start Try.func118 rfl 34 rfl rfl m hv fun a hF hS => ?_
  refine q_seq ?_
  refine q_region ?_
  refine q_box (cs := [(.int .i64 p_a.Num), (.int .i64 p_a.Den)]) hF hS rfl rfl rfl fun a w b1 hF hS => ?_
  refine q_box (cs := [(.int .i64 p_b.Num), (.int .i64 p_b.Den)]) hF hS rfl rfl rfl fun a w b2 hF hS => ?_
  refine q_alloc (cs := [(.int .i64 0), (.int .i64 0)]) hF hS rfl rfl rfl fun a w b3 hF hS => ?_
  refine q_x (v := (.bool false)) hF hS (ex_assign rfl) rfl rfl fun a hF => ?_
  refine q_end (n_sq ?_)
  refine q_seq ?_
  refine q_seq ?_
  obtain ⟨t_6, hj1, hr⟩ := bindS hr
  refine q_join (fun a w => Fr a 34 [(2, (.pointer (some ⟨b1, 0, none⟩))), (3, (.pointer (some ⟨b2, 0, none⟩))), (4, (.pointer (some ⟨b3, 0, none⟩))), (13, (.bool t_6))] ∧ St [] w0 w m [[⟨b3, [(.int .i64 0), (.int .i64 0)], 24⟩], [⟨b2, [(.int .i64 p_b.Num), (.int .i64 p_b.Den)], 24⟩], [⟨b1, [(.int .i64 p_a.Num), (.int .i64 p_a.Den)], 24⟩]]) ?_ ?_
  · refine q_region ?_
    refine q_x (v := (.agg #[(.int .i64 p_a.Num), (.int .i64 p_a.Den)])) hF hS (ex_loadA (vs := [(.int .i64 p_a.Num), (.int .i64 p_a.Den)]) 2 0 Try.underlying24 rfl sz24 rfl rfl rfl rfl) rfl rfl fun a hF => ?_
    obtain ⟨t_4, ht_4, hj1⟩ := bindS hj1
    refine q_call (vs := [(.agg #[(.int .i64 p_a.Num), (.int .i64 p_a.Den)])]) hF hS Try.func94 (by kernel_rfl) rfl rfl rfl (c_impl_IsFrac p_a t_4 ht_4 _ m hS.vis) ?_
    rintro a w _ rfl hF hS
    refine q_x (v := (.bool (!t_4))) hF hS (ex_not rfl) rfl rfl fun a hF => ?_
    refine q_x (v := (.bool (!t_4))) hF hS (ex_move rfl) rfl rfl fun a hF => ?_
    rcases bcase (!t_4) with hc2 | hc2
    · have hj1 := cond_f hc2 hj1
      refine q_xg (v := (.agg #[(.int .i64 p_b.Num), (.int .i64 p_b.Den)])) hF hS (ex_loadA (vs := [(.int .i64 p_b.Num), (.int .i64 p_b.Den)]) 1 0 Try.underlying24 rfl sz24 rfl rfl rfl rfl) (wanted_t hF rfl rfl rfl hc2) rfl fun a hF => ?_
      obtain ⟨t_5, ht_5, hj1⟩ := bindS hj1
      refine q_callg (vs := [(.agg #[(.int .i64 p_b.Num), (.int .i64 p_b.Den)])]) hF hS (wanted_t hF rfl rfl rfl hc2) Try.func94 (by kernel_rfl) rfl rfl rfl (c_impl_IsFrac p_b t_5 ht_5 _ m hS.vis) ?_
      rintro a w _ rfl hF hS
      refine q_xg (v := (.bool (!t_5))) hF hS (ex_not rfl) (wanted_t hF rfl rfl rfl hc2) rfl fun a hF => ?_
      refine q_x (v := (.bool (!t_5))) hF hS (ex_pick_f rfl rfl hc2) rfl rfl fun a hF => ?_
      refine q_end (n_jn ?_)
      obtain rfl := someI hj1
      exact ⟨hF.sub ⟨rfl, rfl, rfl, rfl, trivial⟩, hS⟩
    · have hj1 := cond_t hc2 hj1
      refine q_skip hF (wanted_f hF rfl rfl rfl hc2 rfl) rfl fun a hF => ?_
      refine q_skip hF (wanted_f hF rfl rfl rfl hc2 rfl) rfl fun a hF => ?_
      refine q_skip hF (wanted_f hF rfl rfl rfl hc2 rfl) rfl fun a hF => ?_
      refine q_x (v := (.bool true)) hF hS (ex_pick_t rfl rfl hc2) rfl rfl fun a hF => ?_
      refine q_end (n_jn ?_)
      obtain rfl := someI hj1
      exact ⟨hF.sub ⟨rfl, rfl, rfl, rfl, trivial⟩, hS⟩
  · rintro a w ⟨hF, hS⟩
    refine n_sq ?_
    rcases bcase (t_6) with hc3 | hc3
    · have hr := cond_f hc3 hr
      refine q_cond_f hF rfl hc3 ?_
      refine q_skipc (n_sq ?_)
      refine q_seq ?_
      refine q_region ?_
      refine q_x (v := (.pointer (some ⟨b1, 0, none⟩))) hF hS (ex_fieldAddr Try.underlying24 rfl sz3 rfl rfl) rfl rfl fun a hF => ?_
      refine q_x (v := (.int .i64 p_a.Num)) hF hS (ex_load1 2 0 Try.underlying3 rfl rfl rfl rfl) rfl rfl fun a hF => ?_
      refine q_x (v := (.pointer (some ⟨b2, 1, none⟩))) hF hS (ex_fieldAddr Try.underlying24 rfl sz3 rfl rfl) rfl rfl fun a hF => ?_
      refine q_x (v := (.int .i64 p_b.Den)) hF hS (ex_load1 1 0 Try.underlying3 rfl rfl rfl rfl) rfl rfl fun a hF => ?_
      refine q_x (v := (.int .i64 (w64 (p_a.Num * p_b.Den)))) hF hS (ex_ibin rfl rfl rfl) rfl rfl fun a hF => ?_
      refine q_x (v := (.pointer (some ⟨b2, 0, none⟩))) hF hS (ex_fieldAddr Try.underlying24 rfl sz3 rfl rfl) rfl rfl fun a hF => ?_
      refine q_x (v := (.int .i64 p_b.Num)) hF hS (ex_load1 1 0 Try.underlying3 rfl rfl rfl rfl) rfl rfl fun a hF => ?_
      refine q_x (v := (.pointer (some ⟨b1, 1, none⟩))) hF hS (ex_fieldAddr Try.underlying24 rfl sz3 rfl rfl) rfl rfl fun a hF => ?_
      refine q_x (v := (.int .i64 p_a.Den)) hF hS (ex_load1 2 0 Try.underlying3 rfl rfl rfl rfl) rfl rfl fun a hF => ?_
      refine q_x (v := (.int .i64 (w64 (p_b.Num * p_a.Den)))) hF hS (ex_ibin rfl rfl rfl) rfl rfl fun a hF => ?_
      refine q_x (v := (.int .i64 (w64 ((w64 (p_a.Num * p_b.Den)) + (w64 (p_b.Num * p_a.Den)))))) hF hS (ex_ibin rfl rfl rfl) rfl rfl fun a hF => ?_
      refine q_x (v := (.pointer (some ⟨b1, 1, none⟩))) hF hS (ex_fieldAddr Try.underlying24 rfl sz3 rfl rfl) rfl rfl fun a hF => ?_
      refine q_x (v := (.int .i64 p_a.Den)) hF hS (ex_load1 2 0 Try.underlying3 rfl rfl rfl rfl) rfl rfl fun a hF => ?_
      refine q_x (v := (.pointer (some ⟨b2, 1, none⟩))) hF hS (ex_fieldAddr Try.underlying24 rfl sz3 rfl rfl) rfl rfl fun a hF => ?_
      refine q_x (v := (.int .i64 p_b.Den)) hF hS (ex_load1 1 0 Try.underlying3 rfl rfl rfl rfl) rfl rfl fun a hF => ?_
      refine q_x (v := (.int .i64 (w64 (p_a.Den * p_b.Den)))) hF hS (ex_ibin rfl rfl rfl) rfl rfl fun a hF => ?_
      obtain ⟨t_7, ht_7, hr⟩ := bindS hr
      refine q_call (vs := [(.int .i64 (w64 ((w64 (p_a.Num * p_b.Den)) + (w64 (p_b.Num * p_a.Den))))), (.int .i64 (w64 (p_a.Den * p_b.Den)))]) hF hS Try.func114 (by kernel_rfl) rfl rfl rfl (c_impl_reduced (w64 ((w64 (p_a.Num * p_b.Den)) + (w64 (p_b.Num * p_a.Den)))) (w64 (p_a.Den * p_b.Den)) t_7 ht_7 _ m hS.vis) ?_
      rintro a w _ rfl hF hS
      refine q_x (v := (.agg #[(.int .i64 t_7.1.Num), (.int .i64 t_7.1.Den)])) hF hS (ex_extract rfl rfl) rfl rfl fun a hF => ?_
      refine q_x (v := (.bool t_7.2)) hF hS (ex_extract rfl rfl) rfl rfl fun a hF => ?_
      refine q_store (vs := [(.int .i64 t_7.1.Num), (.int .i64 t_7.1.Den)]) (cs' := [(.int .i64 t_7.1.Num), (.int .i64 t_7.1.Den)]) 0 0 hF hS sz24 rfl rfl rfl rfl rfl rfl rfl rfl fun a w hF hS => ?_
      refine q_x (v := (.bool t_7.2)) hF hS (ex_assign rfl) rfl rfl fun a hF => ?_
      refine q_end (n_sq (q_ret ?_))
      obtain rfl := someI hr
      exact ret_of hF hS rfl (.cellA (us := [(.int .i64 t_7.1.Num), (.int .i64 t_7.1.Den)]) 0 0 Try.underlying24 rfl sz24 rfl rfl rfl rfl (.tmp rfl .nil)) rfl
    · have hr := cond_t hc3 hr
      refine q_cond_t hF rfl hc3 ?_
      refine q_seq ?_
      refine q_region ?_
      refine q_x (v := (.agg #[(.int .i64 0), (.int .i64 0)])) hF hS (ex_build (cells := [(.int .i64 0), (.int .i64 0)]) rfl (by kernel_rfl)) rfl rfl fun a hF => ?_
      refine q_store (vs := [(.int .i64 0), (.int .i64 0)]) (cs' := [(.int .i64 0), (.int .i64 0)]) 0 0 hF hS sz24 rfl rfl rfl rfl rfl rfl rfl rfl fun a w hF hS => ?_
      refine q_x (v := (.bool false)) hF hS (ex_assign rfl) rfl rfl fun a hF => ?_
      refine q_end (n_sq (q_ret (r_sq ?_)))
      obtain rfl := someI hr
      exact ret_of hF hS rfl (.cellA (us := [(.int .i64 0), (.int .i64 0)]) 0 0 Try.underlying24 rfl sz24 rfl rfl rfl rfl (.tmp rfl .nil)) rfl

theorem c_impl_SumFracs (p_l : List impl_Frac) (r : impl_Frac × Bool) (hr : impl_SumFracs p_l = some r) (w0 : World) (m : Mem) (hv : Vis m w0) (s1 : Sl) (h1 : Rd m s1 p_l) :
    Ret Try.prog 35 [s1.v] w0 (fun v _ => v = (.tuple #[(.agg #[(.int .i64 r.1.Num), (.int .i64 r.1.Den)]), (.bool r.2)])) := by
  unfold impl_SumFracs at hr
  refine ret_start Try.func35 rfl 32 rfl rfl m hv fun a hF hS => ?_
  refine q_seq ?_
  refine q_region ?_
  refine q_alloc (cs := [(.int .i64 0), (.int .i64 0)]) hF hS rfl rfl rfl fun a w b2 hF hS => ?_
  refine q_x (v := (.bool false)) hF hS (ex_assign rfl) rfl rfl fun a hF => ?_
  refine q_end (n_sq ?_)
  refine q_seq ?_
  refine q_seq ?_
  refine q_region ?_
  refine q_x (v := s1.v) hF hS (ex_move rfl) rfl rfl fun a hF => ?_
  refine q_x (v := (.int .i64 (goLen p_l))) hF hS (ex_len Try.underlying56 rfl h1.len) rfl rfl fun a hF => ?_
  refine q_x (v := (.bool (decide (100 < (goLen p_l))))) hF hS (ex_ibin rfl rfl rfl) rfl rfl fun a hF => ?_
  refine q_end (n_sq ?_)
  rcases bcase (decide (100 < (goLen p_l))) with hc1 | hc1
  · have hr := cond_f hc1 hr
    refine q_cond_f hF rfl hc1 ?_
    refine q_skipc (n_sq ?_)
    refine q_seq ?_
    refine q_region ?_
    refine q_x (v := (.agg #[(.int .i64 0), (.int .i64 1)])) hF hS (ex_build (cells := [(.int .i64 0), (.int .i64 1)]) rfl (by kernel_rfl)) rfl rfl fun a hF => ?_
    refine q_alloc (cs := [(.int .i64 0), (.int .i64 0)]) hF hS rfl rfl rfl fun a w b3 hF hS => ?_
    refine q_store (vs := [(.int .i64 0), (.int .i64 1)]) (cs' := [(.int .i64 0), (.int .i64 1)]) 0 0 hF hS sz24 rfl rfl rfl rfl rfl rfl rfl rfl fun a w hF hS => ?_
    refine q_end (n_sq ?_)
    refine q_seq ?_
    refine q_seq ?_
    refine q_region ?_
    refine q_x (v := s1.v) hF hS (ex_move rfl) rfl rfl fun a hF => ?_
    refine q_x (v := (.int .i64 (goLen p_l))) hF hS (ex_len Try.underlying56 rfl h1.len) rfl rfl fun a hF => ?_
    refine q_x (v := (.int .i64 0)) hF hS (ex_move rfl) rfl rfl fun a hF => ?_
    refine q_end (n_sq ?_)
    refine q_block ?_
    obtain ⟨o2, hl2, hr⟩ := bindS hr
    refine q_loop (fun (s : Int × impl_Frac) a w => ∃ t_4, ∃ sum_5, s = (t_4, sum_5) ∧ Fr a 32 [(2, (.pointer (some ⟨b2, 0, none⟩))), (4, (.pointer (some ⟨b3, 0, none⟩))), (14, s1.v), (15, (.int .i64 (goLen p_l))), (16, (.int .i64 t_4))] ∧ St [] w0 w m [[⟨b3, [(.int .i64 sum_5.Num), (.int .i64 sum_5.Den)], 24⟩], [⟨b2, [(.int .i64 0), (.int .i64 0)], 24⟩]]) (fun (o : (impl_Frac) ⊕ (impl_Frac × Bool)) e a w => ∃ sum_11, o = .inl sum_11 ∧ e = .exit 0 ∧ Fr a 32 [(2, (.pointer (some ⟨b2, 0, none⟩))), (4, (.pointer (some ⟨b3, 0, none⟩)))] ∧ St [] w0 w m [[⟨b3, [(.int .i64 sum_11.Num), (.int .i64 sum_11.Den)], 24⟩], [⟨b2, [(.int .i64 0), (.int .i64 0)], 24⟩]]) hl2 ⟨_, _, rfl, hF.sub ⟨rfl, rfl, rfl, rfl, rfl, trivial⟩, hS⟩ ?_ ?_
    · clear hF hS
      rintro s a w st ⟨t_4, sum_5, rfl, hF, hS⟩ hb2
      unfold impl_SumFracs_l1 at hb2
      refine q_seq ?_
      refine q_region ?_
      refine q_x (v := (.bool (decide (t_4 < (goLen p_l))))) hF hS (ex_ibin rfl rfl rfl) rfl rfl fun a hF => ?_
      refine q_end (n_sq ?_)
      refine q_seq ?_
      rcases bcase (decide (t_4 < (goLen p_l))) with hc3 | hc3
      · have hb2 := cond_f hc3 hb2
        refine q_cond_f hF rfl hc3 ?_
        refine q_exit (x_sq ?_)
        obtain rfl := someI hb2
        exact ⟨nofun, .inl ⟨_, rfl, rfl, hF.sub ⟨rfl, rfl, trivial⟩, hS⟩⟩
      · have hb2 := cond_t hc3 hb2
        refine q_cond_t hF rfl hc3 ?_
        refine q_skipc (n_sq ?_)
        refine q_seq ?_
        refine q_block ?_
        refine q_seq ?_
        refine q_region ?_
        obtain ⟨e_6, he_6, hb2⟩ := bindS hb2
        obtain ⟨vs7, at7, d7⟩ := h1.at he_6 2 rfl
        obtain rfl : vs7 = [(.int .i64 e_6.Num), (.int .i64 e_6.Den)] := d7
        refine q_x (v := (elP s1 (t_4.toNat * 2))) hF hS (ex_indexAddr Try.underlying56 sz24 rfl rfl (h1.idx he_6)) rfl rfl fun a hF => ?_
        refine q_x (v := (.agg #[(.int .i64 e_6.Num), (.int .i64 e_6.Den)])) hF hS (ex_loadEA (us := [(.int .i64 e_6.Num), (.int .i64 e_6.Den)]) 0 Try.underlying24 rfl sz24 rfl ((at7).at) rfl rfl rfl) rfl rfl fun a hF => ?_
        refine q_alloc (cs := [(.int .i64 0), (.int .i64 0)]) hF hS rfl rfl rfl fun a w b8 hF hS => ?_
        refine q_store (vs := [(.int .i64 e_6.Num), (.int .i64 e_6.Den)]) (cs' := [(.int .i64 e_6.Num), (.int .i64 e_6.Den)]) 0 0 hF hS sz24 rfl rfl rfl rfl rfl rfl rfl rfl fun a w hF hS => ?_
        refine q_end (n_sq ?_)
        refine q_seq ?_
        refine q_region ?_
        refine q_x (v := (.agg #[(.int .i64 sum_5.Num), (.int .i64 sum_5.Den)])) hF hS (ex_loadA (vs := [(.int .i64 sum_5.Num), (.int .i64 sum_5.Den)]) 1 0 Try.underlying24 rfl sz24 rfl rfl rfl rfl) rfl rfl fun a hF => ?_
        refine q_x (v := (.agg #[(.int .i64 e_6.Num), (.int .i64 e_6.Den)])) hF hS (ex_loadA (vs := [(.int .i64 e_6.Num), (.int .i64 e_6.Den)]) 0 0 Try.underlying24 rfl sz24 rfl rfl rfl rfl) rfl rfl fun a hF => ?_
        obtain ⟨t_9, ht_9, hb2⟩ := bindS hb2
        refine q_call (vs := [(.agg #[(.int .i64 sum_5.Num), (.int .i64 sum_5.Den)]), (.agg #[(.int .i64 e_6.Num), (.int .i64 e_6.Den)])]) hF hS Try.func118 (by kernel_rfl) rfl rfl rfl (c_impl_AddFrac sum_5 e_6 t_9 ht_9 _ m hS.vis) ?_
        rintro a w _ rfl hF hS
        refine q_x (v := (.tuple #[(.agg #[(.int .i64 t_9.1.Num), (.int .i64 t_9.1.Den)]), (.bool t_9.2)])) hF hS (ex_move rfl) rfl rfl fun a hF => ?_
        refine q_x (v := (.agg #[(.int .i64 t_9.1.Num), (.int .i64 t_9.1.Den)])) hF hS (ex_extract rfl rfl) rfl rfl fun a hF => ?_
        refine q_x (v := (.bool t_9.2)) hF hS (ex_extract rfl rfl) rfl rfl fun a hF => ?_
        refine q_alloc (cs := [(.int .i64 0), (.int .i64 0)]) hF hS rfl rfl rfl fun a w b10 hF hS => ?_
        refine q_store (vs := [(.int .i64 t_9.1.Num), (.int .i64 t_9.1.Den)]) (cs' := [(.int .i64 t_9.1.Num), (.int .i64 t_9.1.Den)]) 0 0 hF hS sz24 rfl rfl rfl rfl rfl rfl rfl rfl fun a w hF hS => ?_
        refine q_x (v := (.bool t_9.2)) hF hS (ex_assign rfl) rfl rfl fun a hF => ?_
        refine q_end (n_sq ?_)
        refine q_seq ?_
        refine q_seq ?_
        refine q_region ?_
        refine q_x (v := (.bool t_9.2)) hF hS (ex_move rfl) rfl rfl fun a hF => ?_
        refine q_x (v := (.bool (!t_9.2))) hF hS (ex_not rfl) rfl rfl fun a hF => ?_
        refine q_end (n_sq ?_)
        rcases bcase (!t_9.2) with hc4 | hc4
        · have hb2 := cond_f hc4 hb2
          refine q_cond_f hF rfl hc4 ?_
          refine q_skipc (n_sq ?_)
          refine q_region ?_
          refine q_x (v := (.agg #[(.int .i64 t_9.1.Num), (.int .i64 t_9.1.Den)])) hF hS (ex_loadA (vs := [(.int .i64 t_9.1.Num), (.int .i64 t_9.1.Den)]) 0 0 Try.underlying24 rfl sz24 rfl rfl rfl rfl) rfl rfl fun a hF => ?_
          refine q_store (vs := [(.int .i64 t_9.1.Num), (.int .i64 t_9.1.Den)]) (cs' := [(.int .i64 t_9.1.Num), (.int .i64 t_9.1.Den)]) 2 0 hF hS sz24 rfl rfl rfl rfl rfl rfl rfl rfl fun a w hF hS => ?_
          refine q_end (n_ib (n_sq ?_))
          refine q_region ?_
          refine q_x (v := (.int .i64 (w64 (t_4 + 1)))) hF hS (ex_ibin rfl rfl rfl) rfl rfl fun a hF => ?_
          refine q_x (v := (.int .i64 (w64 (t_4 + 1)))) hF hS (ex_move rfl) rfl rfl fun a hF => ?_
          refine q_end ?_
          obtain rfl := someI hb2
          exact ⟨rfl, _, _, rfl, hF.sub ⟨rfl, rfl, rfl, rfl, rfl, trivial⟩, hS.mask [false, false, true, true]⟩
        · have hb2 := cond_t hc4 hb2
          refine q_cond_t hF rfl hc4 ?_
          refine q_seq ?_
          refine q_region ?_
          refine q_x (v := (.agg #[(.int .i64 0), (.int .i64 0)])) hF hS (ex_build (cells := [(.int .i64 0), (.int .i64 0)]) rfl (by kernel_rfl)) rfl rfl fun a hF => ?_
          refine q_store (vs := [(.int .i64 0), (.int .i64 0)]) (cs' := [(.int .i64 0), (.int .i64 0)]) 3 0 hF hS sz24 rfl rfl rfl rfl rfl rfl rfl rfl fun a w hF hS => ?_
          refine q_x (v := (.bool false)) hF hS (ex_assign rfl) rfl rfl fun a hF => ?_
          refine q_end (n_sq (q_ret (r_sq (r_ib (r_sq ?_)))))
          obtain rfl := someI hb2
          refine ⟨nofun, .inr fun ho => ?_⟩
          subst ho
          refine r_ib (r_sq ?_)
          obtain rfl := someI hr
          exact ret_of hF hS rfl (.cellA (us := [(.int .i64 0), (.int .i64 0)]) 3 0 Try.underlying24 rfl sz24 rfl rfl rfl rfl (.tmp rfl .nil)) rfl
    · rintro e a w ⟨sum_11, rfl, rfl, hF, hS⟩
      refine x_ib (n_sq ?_)
      refine q_seq ?_
      refine q_region ?_
      refine q_x (v := (.agg #[(.int .i64 sum_11.Num), (.int .i64 sum_11.Den)])) hF hS (ex_loadA (vs := [(.int .i64 sum_11.Num), (.int .i64 sum_11.Den)]) 0 0 Try.underlying24 rfl sz24 rfl rfl rfl rfl) rfl rfl fun a hF => ?_
      refine q_store (vs := [(.int .i64 sum_11.Num), (.int .i64 sum_11.Den)]) (cs' := [(.int .i64 sum_11.Num), (.int .i64 sum_11.Den)]) 1 0 hF hS sz24 rfl rfl rfl rfl rfl rfl rfl rfl fun a w hF hS => ?_
      refine q_x (v := (.bool true)) hF hS (ex_assign rfl) rfl rfl fun a hF => ?_
      refine q_end (n_sq (q_ret ?_))
      obtain rfl := someI hr
      exact ret_of hF hS rfl (.cellA (us := [(.int .i64 sum_11.Num), (.int .i64 sum_11.Den)]) 1 0 Try.underlying24 rfl sz24 rfl rfl rfl rfl (.tmp rfl .nil)) rfl
  · have hr := cond_t hc1 hr
    refine q_cond_t hF rfl hc1 ?_
    refine q_seq ?_
    refine q_region ?_
    refine q_x (v := (.agg #[(.int .i64 0), (.int .i64 0)])) hF hS (ex_build (cells := [(.int .i64 0), (.int .i64 0)]) rfl (by kernel_rfl)) rfl rfl fun a hF => ?_
    refine q_store (vs := [(.int .i64 0), (.int .i64 0)]) (cs' := [(.int .i64 0), (.int .i64 0)]) 0 0 hF hS sz24 rfl rfl rfl rfl rfl rfl rfl rfl fun a w hF hS => ?_
    refine q_x (v := (.bool false)) hF hS (ex_assign rfl) rfl rfl fun a hF => ?_
    refine q_end (n_sq (q_ret (r_sq ?_)))
    obtain rfl := someI hr
    exact ret_of hF hS rfl (.cellA (us := [(.int .i64 0), (.int .i64 0)]) 0 0 Try.underlying24 rfl sz24 rfl rfl rfl rfl (.tmp rfl .nil)) rfl

theorem c_impl_composed (p_a : impl_Loss) (p_b : impl_Loss) (r : impl_Loss × Bool) (hr : impl_composed p_a p_b = some r) (w0 : World) (m : Mem) (hv : Vis m w0) :
    Ret Try.prog 93 [(.agg #[(.int .i64 p_a.Ratio.Num), (.int .i64 p_a.Ratio.Den), (.int .i64 p_a.Rho.Num), (.int .i64 p_a.Rho.Den)]), (.agg #[(.int .i64 p_b.Ratio.Num), (.int .i64 p_b.Ratio.Den), (.int .i64 p_b.Rho.Num), (.int .i64 p_b.Rho.Den)])] w0 (fun v _ => v = (.tuple #[(.agg #[(.int .i64 r.1.Ratio.Num), (.int .i64 r.1.Ratio.Den), (.int .i64 r.1.Rho.Num), (.int .i64 r.1.Rho.Den)]), (.bool r.2)])) := by
  unfold impl_composed at hr
  refine ret_start Try.func93 rfl 34 rfl rfl m hv fun a hF hS => ?_
  refine q_seq ?_
  refine q_region ?_
  refine q_box (cs := [(.int .i64 p_a.Ratio.Num), (.int .i64 p_a.Ratio.Den), (.int .i64 p_a.Rho.Num), (.int .i64 p_a.Rho.Den)]) hF hS rfl rfl rfl fun a w b1 hF hS => ?_
  refine q_box (cs := [(.int .i64 p_b.Ratio.Num), (.int .i64 p_b.Ratio.Den), (.int .i64 p_b.Rho.Num), (.int .i64 p_b.Rho.Den)]) hF hS rfl rfl rfl fun a w b2 hF hS => ?_
  refine q_alloc (cs := [(.int .i64 0), (.int .i64 0), (.int .i64 0), (.int .i64 0)]) hF hS rfl rfl rfl fun a w b3 hF hS => ?_
  refine q_x (v := (.bool false)) hF hS (ex_assign rfl) rfl rfl fun a hF => ?_
  refine q_end (n_sq ?_)
  refine q_seq ?_
  refine q_region ?_
  refine q_x (v := (.pointer (some ⟨b1, 0, none⟩))) hF hS (ex_fieldAddr Try.underlying26 rfl sz24 rfl rfl) rfl rfl fun a hF => ?_
  refine q_x (v := (.agg #[(.int .i64 p_a.Ratio.Num), (.int .i64 p_a.Ratio.Den)])) hF hS (ex_loadA (vs := [(.int .i64 p_a.Ratio.Num), (.int .i64 p_a.Ratio.Den)]) 2 0 Try.underlying24 rfl sz24 rfl rfl rfl rfl) rfl rfl fun a hF => ?_
  refine q_x (v := (.pointer (some ⟨b2, 0, none⟩))) hF hS (ex_fieldAddr Try.underlying26 rfl sz24 rfl rfl) rfl rfl fun a hF => ?_
  refine q_x (v := (.agg #[(.int .i64 p_b.Ratio.Num), (.int .i64 p_b.Ratio.Den)])) hF hS (ex_loadA (vs := [(.int .i64 p_b.Ratio.Num), (.int .i64 p_b.Ratio.Den)]) 1 0 Try.underlying24 rfl sz24 rfl rfl rfl rfl) rfl rfl fun a hF => ?_
  obtain ⟨t_4, ht_4, hr⟩ := bindS hr
  refine q_call (vs := [(.agg #[(.int .i64 p_a.Ratio.Num), (.int .i64 p_a.Ratio.Den)]), (.agg #[(.int .i64 p_b.Ratio.Num), (.int .i64 p_b.Ratio.Den)])]) hF hS Try.func103 (by kernel_rfl) rfl rfl rfl (c_impl_MulFrac p_a.Ratio p_b.Ratio t_4 ht_4 _ m hS.vis) ?_
  rintro a w _ rfl hF hS
  refine q_x (v := (.tuple #[(.agg #[(.int .i64 t_4.1.Num), (.int .i64 t_4.1.Den)]), (.bool t_4.2)])) hF hS (ex_move rfl) rfl rfl fun a hF => ?_
  refine q_x (v := (.agg #[(.int .i64 t_4.1.Num), (.int .i64 t_4.1.Den)])) hF hS (ex_extract rfl rfl) rfl rfl fun a hF => ?_
  refine q_x (v := (.bool t_4.2)) hF hS (ex_extract rfl rfl) rfl rfl fun a hF => ?_
  refine q_alloc (cs := [(.int .i64 0), (.int .i64 0)]) hF hS rfl rfl rfl fun a w b5 hF hS => ?_
  refine q_store (vs := [(.int .i64 t_4.1.Num), (.int .i64 t_4.1.Den)]) (cs' := [(.int .i64 t_4.1.Num), (.int .i64 t_4.1.Den)]) 0 0 hF hS sz24 rfl rfl rfl rfl rfl rfl rfl rfl fun a w hF hS => ?_
  refine q_x (v := (.bool t_4.2)) hF hS (ex_assign rfl) rfl rfl fun a hF => ?_
  refine q_end (n_sq ?_)
  refine q_seq ?_
  refine q_seq ?_
  refine q_region ?_
  refine q_x (v := (.bool t_4.2)) hF hS (ex_move rfl) rfl rfl fun a hF => ?_
  refine q_x (v := (.bool (!t_4.2))) hF hS (ex_not rfl) rfl rfl fun a hF => ?_
  refine q_end (n_sq ?_)
  rcases bcase (!t_4.2) with hc1 | hc1
  · have hr := cond_f hc1 hr
    refine q_cond_f hF rfl hc1 ?_
    refine q_skipc (n_sq ?_)
    refine q_seq ?_
    refine q_region ?_
    refine q_x (v := (.pointer (some ⟨b1, 2, none⟩))) hF hS (ex_fieldAddr Try.underlying26 rfl sz24 rfl rfl) rfl rfl fun a hF => ?_
    refine q_x (v := (.agg #[(.int .i64 p_a.Rho.Num), (.int .i64 p_a.Rho.Den)])) hF hS (ex_loadA (vs := [(.int .i64 p_a.Rho.Num), (.int .i64 p_a.Rho.Den)]) 3 0 Try.underlying24 rfl sz24 rfl rfl rfl rfl) rfl rfl fun a hF => ?_
    refine q_x (v := (.pointer (some ⟨b2, 2, none⟩))) hF hS (ex_fieldAddr Try.underlying26 rfl sz24 rfl rfl) rfl rfl fun a hF => ?_
    refine q_x (v := (.agg #[(.int .i64 p_b.Rho.Num), (.int .i64 p_b.Rho.Den)])) hF hS (ex_loadA (vs := [(.int .i64 p_b.Rho.Num), (.int .i64 p_b.Rho.Den)]) 2 0 Try.underlying24 rfl sz24 rfl rfl rfl rfl) rfl rfl fun a hF => ?_
    obtain ⟨t_6, ht_6, hr⟩ := bindS hr
    refine q_call (vs := [(.agg #[(.int .i64 p_a.Rho.Num), (.int .i64 p_a.Rho.Den)]), (.agg #[(.int .i64 p_b.Rho.Num), (.int .i64 p_b.Rho.Den)])]) hF hS Try.func118 (by kernel_rfl) rfl rfl rfl (c_impl_AddFrac p_a.Rho p_b.Rho t_6 ht_6 _ m hS.vis) ?_
    rintro a w _ rfl hF hS
    refine q_x (v := (.tuple #[(.agg #[(.int .i64 t_6.1.Num), (.int .i64 t_6.1.Den)]), (.bool t_6.2)])) hF hS (ex_move rfl) rfl rfl fun a hF => ?_
    refine q_x (v := (.agg #[(.int .i64 t_6.1.Num), (.int .i64 t_6.1.Den)])) hF hS (ex_extract rfl rfl) rfl rfl fun a hF => ?_
    refine q_x (v := (.bool t_6.2)) hF hS (ex_extract rfl rfl) rfl rfl fun a hF => ?_
    refine q_alloc (cs := [(.int .i64 0), (.int .i64 0)]) hF hS rfl rfl rfl fun a w b7 hF hS => ?_
    refine q_store (vs := [(.int .i64 t_6.1.Num), (.int .i64 t_6.1.Den)]) (cs' := [(.int .i64 t_6.1.Num), (.int .i64 t_6.1.Den)]) 0 0 hF hS sz24 rfl rfl rfl rfl rfl rfl rfl rfl fun a w hF hS => ?_
    refine q_x (v := (.bool t_6.2)) hF hS (ex_assign rfl) rfl rfl fun a hF => ?_
    refine q_end (n_sq ?_)
    refine q_seq ?_
    refine q_seq ?_
    refine q_region ?_
    refine q_x (v := (.bool t_6.2)) hF hS (ex_move rfl) rfl rfl fun a hF => ?_
    refine q_x (v := (.bool (!t_6.2))) hF hS (ex_not rfl) rfl rfl fun a hF => ?_
    refine q_end (n_sq ?_)
    rcases bcase (!t_6.2) with hc2 | hc2
    · have hr := cond_f hc2 hr
      refine q_cond_f hF rfl hc2 ?_
      refine q_skipc (n_sq ?_)
      refine q_seq ?_
      refine q_region ?_
      refine q_x (v := (.agg #[(.int .i64 t_4.1.Num), (.int .i64 t_4.1.Den)])) hF hS (ex_loadA (vs := [(.int .i64 t_4.1.Num), (.int .i64 t_4.1.Den)]) 1 0 Try.underlying24 rfl sz24 rfl rfl rfl rfl) rfl rfl fun a hF => ?_
      refine q_x (v := (.agg #[(.int .i64 t_6.1.Num), (.int .i64 t_6.1.Den)])) hF hS (ex_loadA (vs := [(.int .i64 t_6.1.Num), (.int .i64 t_6.1.Den)]) 0 0 Try.underlying24 rfl sz24 rfl rfl rfl rfl) rfl rfl fun a hF => ?_
      refine q_x (v := (.agg #[(.int .i64 t_4.1.Num), (.int .i64 t_4.1.Den), (.int .i64 t_6.1.Num), (.int .i64 t_6.1.Den)])) hF hS (ex_build (cells := [(.int .i64 t_4.1.Num), (.int .i64 t_4.1.Den), (.int .i64 t_6.1.Num), (.int .i64 t_6.1.Den)]) rfl (by kernel_rfl)) rfl rfl fun a hF => ?_
      refine q_store (vs := [(.int .i64 t_4.1.Num), (.int .i64 t_4.1.Den), (.int .i64 t_6.1.Num), (.int .i64 t_6.1.Den)]) (cs' := [(.int .i64 t_4.1.Num), (.int .i64 t_4.1.Den), (.int .i64 t_6.1.Num), (.int .i64 t_6.1.Den)]) 2 0 hF hS sz26 rfl rfl rfl rfl rfl rfl rfl rfl fun a w hF hS => ?_
      refine q_x (v := (.bool true)) hF hS (ex_assign rfl) rfl rfl fun a hF => ?_
      refine q_end (n_sq (q_ret ?_))
      obtain rfl := someI hr
      exact ret_of hF hS rfl (.cellA (us := [(.int .i64 t_4.1.Num), (.int .i64 t_4.1.Den), (.int .i64 t_6.1.Num), (.int .i64 t_6.1.Den)]) 2 0 Try.underlying26 rfl sz26 rfl rfl rfl rfl (.tmp rfl .nil)) rfl
    · have hr := cond_t hc2 hr
      refine q_cond_t hF rfl hc2 ?_
      refine q_seq ?_
      refine q_region ?_
      refine q_x (v := (.agg #[(.int .i64 0), (.int .i64 0), (.int .i64 0), (.int .i64 0)])) hF hS (ex_build (cells := [(.int .i64 0), (.int .i64 0), (.int .i64 0), (.int .i64 0)]) rfl (by kernel_rfl)) rfl rfl fun a hF => ?_
      refine q_store (vs := [(.int .i64 0), (.int .i64 0), (.int .i64 0), (.int .i64 0)]) (cs' := [(.int .i64 0), (.int .i64 0), (.int .i64 0), (.int .i64 0)]) 2 0 hF hS sz26 rfl rfl rfl rfl rfl rfl rfl rfl fun a w hF hS => ?_
      refine q_x (v := (.bool false)) hF hS (ex_assign rfl) rfl rfl fun a hF => ?_
      refine q_end (n_sq (q_ret (r_sq ?_)))
      obtain rfl := someI hr
      exact ret_of hF hS rfl (.cellA (us := [(.int .i64 0), (.int .i64 0), (.int .i64 0), (.int .i64 0)]) 2 0 Try.underlying26 rfl sz26 rfl rfl rfl rfl (.tmp rfl .nil)) rfl
  · have hr := cond_t hc1 hr
    refine q_cond_t hF rfl hc1 ?_
    refine q_seq ?_
    refine q_region ?_
    refine q_x (v := (.agg #[(.int .i64 0), (.int .i64 0), (.int .i64 0), (.int .i64 0)])) hF hS (ex_build (cells := [(.int .i64 0), (.int .i64 0), (.int .i64 0), (.int .i64 0)]) rfl (by kernel_rfl)) rfl rfl fun a hF => ?_
    refine q_store (vs := [(.int .i64 0), (.int .i64 0), (.int .i64 0), (.int .i64 0)]) (cs' := [(.int .i64 0), (.int .i64 0), (.int .i64 0), (.int .i64 0)]) 1 0 hF hS sz26 rfl rfl rfl rfl rfl rfl rfl rfl fun a w hF hS => ?_
    refine q_x (v := (.bool false)) hF hS (ex_assign rfl) rfl rfl fun a hF => ?_
    refine q_end (n_sq (q_ret (r_sq ?_)))
    obtain rfl := someI hr
    exact ret_of hF hS rfl (.cellA (us := [(.int .i64 0), (.int .i64 0), (.int .i64 0), (.int .i64 0)]) 1 0 Try.underlying26 rfl sz26 rfl rfl rfl rfl (.tmp rfl .nil)) rfl

theorem c_impl_ComposeLosses (p_l : List impl_Loss) (r : impl_Loss × Bool) (hr : impl_ComposeLosses p_l = some r) (w0 : World) (m : Mem) (hv : Vis m w0) (s1 : Sl) (h1 : Rd m s1 p_l) :
    Ret Try.prog 15 [s1.v] w0 (fun v _ => v = (.tuple #[(.agg #[(.int .i64 r.1.Ratio.Num), (.int .i64 r.1.Ratio.Den), (.int .i64 r.1.Rho.Num), (.int .i64 r.1.Rho.Den)]), (.bool r.2)])) := by
  unfold impl_ComposeLosses at hr
  refine ret_start Try.func15 rfl 30 rfl rfl m hv fun a hF hS => ?_
  refine q_seq ?_
  refine q_region ?_
  refine q_alloc (cs := [(.int .i64 0), (.int .i64 0), (.int .i64 0), (.int .i64 0)]) hF hS rfl rfl rfl fun a w b2 hF hS => ?_
  refine q_x (v := (.bool false)) hF hS (ex_assign rfl) rfl rfl fun a hF => ?_
  refine q_end (n_sq ?_)
  refine q_seq ?_
  refine q_seq ?_
  refine q_region ?_
  refine q_x (v := s1.v) hF hS (ex_move rfl) rfl rfl fun a hF => ?_
  obtain ⟨t_3, ht_3, hr⟩ := bindS hr
  refine q_call (vs := [s1.v]) hF hS Try.func92 (by kernel_rfl) rfl rfl rfl (c_impl_areLosses p_l t_3 ht_3 _ m hS.vis s1 h1) ?_
  rintro a w _ rfl hF hS
  refine q_x (v := (.bool (!t_3))) hF hS (ex_not rfl) rfl rfl fun a hF => ?_
  refine q_end (n_sq ?_)
  rcases bcase (!t_3) with hc1 | hc1
  · have hr := cond_f hc1 hr
    refine q_cond_f hF rfl hc1 ?_
    refine q_skipc (n_sq ?_)
    refine q_seq ?_
    refine q_region ?_
    obtain ⟨t_4, ht_4, hr⟩ := bindS hr
    refine q_call (vs := []) hF hS Try.func36 (by kernel_rfl) rfl rfl rfl (c_impl_NoLoss  t_4 ht_4 _ m hS.vis) ?_
    rintro a w _ rfl hF hS
    refine q_alloc (cs := [(.int .i64 0), (.int .i64 0), (.int .i64 0), (.int .i64 0)]) hF hS rfl rfl rfl fun a w b5 hF hS => ?_
    refine q_store (vs := [(.int .i64 t_4.Ratio.Num), (.int .i64 t_4.Ratio.Den), (.int .i64 t_4.Rho.Num), (.int .i64 t_4.Rho.Den)]) (cs' := [(.int .i64 t_4.Ratio.Num), (.int .i64 t_4.Ratio.Den), (.int .i64 t_4.Rho.Num), (.int .i64 t_4.Rho.Den)]) 0 0 hF hS sz26 rfl rfl rfl rfl rfl rfl rfl rfl fun a w hF hS => ?_
    refine q_x (v := (.bool true)) hF hS (ex_assign rfl) rfl rfl fun a hF => ?_
    refine q_end (n_sq ?_)
    refine q_seq ?_
    refine q_seq ?_
    refine q_region ?_
    refine q_x (v := s1.v) hF hS (ex_move rfl) rfl rfl fun a hF => ?_
    refine q_x (v := (.int .i64 (goLen p_l))) hF hS (ex_len Try.underlying33 rfl h1.len) rfl rfl fun a hF => ?_
    refine q_x (v := (.int .i64 0)) hF hS (ex_move rfl) rfl rfl fun a hF => ?_
    refine q_end (n_sq ?_)
    refine q_block ?_
    obtain ⟨o2, hl2, hr⟩ := bindS hr
    refine q_loop (fun (s : Int × impl_Loss) a w => ∃ t_6, ∃ sum_7, s = (t_6, sum_7) ∧ Fr a 30 [(2, (.pointer (some ⟨b2, 0, none⟩))), (4, (.pointer (some ⟨b5, 0, none⟩))), (13, s1.v), (14, (.int .i64 (goLen p_l))), (15, (.int .i64 t_6))] ∧ St [] w0 w m [[⟨b5, [(.int .i64 sum_7.Ratio.Num), (.int .i64 sum_7.Ratio.Den), (.int .i64 sum_7.Rho.Num), (.int .i64 sum_7.Rho.Den)], 26⟩], [⟨b2, [(.int .i64 0), (.int .i64 0), (.int .i64 0), (.int .i64 0)], 26⟩]]) (fun (o : (impl_Loss) ⊕ (impl_Loss × Bool)) e a w => ∃ sum_12, o = .inl sum_12 ∧ e = .exit 0 ∧ Fr a 30 [(2, (.pointer (some ⟨b2, 0, none⟩))), (4, (.pointer (some ⟨b5, 0, none⟩)))] ∧ St [] w0 w m [[⟨b5, [(.int .i64 sum_12.Ratio.Num), (.int .i64 sum_12.Ratio.Den), (.int .i64 sum_12.Rho.Num), (.int .i64 sum_12.Rho.Den)], 26⟩], [⟨b2, [(.int .i64 0), (.int .i64 0), (.int .i64 0), (.int .i64 0)], 26⟩]]) hl2 ⟨_, _, rfl, hF.sub ⟨rfl, rfl, rfl, rfl, rfl, trivial⟩, hS⟩ ?_ ?_
    · clear hF hS
      rintro s a w st ⟨t_6, sum_7, rfl, hF, hS⟩ hb2
      unfold impl_ComposeLosses_l1 at hb2
      refine q_seq ?_
      refine q_region ?_
      refine q_x (v := (.bool (decide (t_6 < (goLen p_l))))) hF hS (ex_ibin rfl rfl rfl) rfl rfl fun a hF => ?_
      refine q_end (n_sq ?_)
      refine q_seq ?_
      rcases bcase (decide (t_6 < (goLen p_l))) with hc3 | hc3
      · have hb2 := cond_f hc3 hb2
        refine q_cond_f hF rfl hc3 ?_
        refine q_exit (x_sq ?_)
        obtain rfl := someI hb2
        exact ⟨nofun, .inl ⟨_, rfl, rfl, hF.sub ⟨rfl, rfl, trivial⟩, hS⟩⟩
      · have hb2 := cond_t hc3 hb2
        refine q_cond_t hF rfl hc3 ?_
        refine q_skipc (n_sq ?_)
        refine q_seq ?_
        refine q_block ?_
        refine q_seq ?_
        refine q_region ?_
        obtain ⟨e_8, he_8, hb2⟩ := bindS hb2
        obtain ⟨vs9, at9, d9⟩ := h1.at he_8 4 rfl
        obtain rfl : vs9 = [(.int .i64 e_8.Ratio.Num), (.int .i64 e_8.Ratio.Den), (.int .i64 e_8.Rho.Num), (.int .i64 e_8.Rho.Den)] := d9
        refine q_x (v := (elP s1 (t_6.toNat * 4))) hF hS (ex_indexAddr Try.underlying33 sz26 rfl rfl (h1.idx he_8)) rfl rfl fun a hF => ?_
        refine q_x (v := (.agg #[(.int .i64 e_8.Ratio.Num), (.int .i64 e_8.Ratio.Den), (.int .i64 e_8.Rho.Num), (.int .i64 e_8.Rho.Den)])) hF hS (ex_loadEA (us := [(.int .i64 e_8.Ratio.Num), (.int .i64 e_8.Ratio.Den), (.int .i64 e_8.Rho.Num), (.int .i64 e_8.Rho.Den)]) 0 Try.underlying26 rfl sz26 rfl ((at9).at) rfl rfl rfl) rfl rfl fun a hF => ?_
        refine q_alloc (cs := [(.int .i64 0), (.int .i64 0), (.int .i64 0), (.int .i64 0)]) hF hS rfl rfl rfl fun a w b10 hF hS => ?_
        refine q_store (vs := [(.int .i64 e_8.Ratio.Num), (.int .i64 e_8.Ratio.Den), (.int .i64 e_8.Rho.Num), (.int .i64 e_8.Rho.Den)]) (cs' := [(.int .i64 e_8.Ratio.Num), (.int .i64 e_8.Ratio.Den), (.int .i64 e_8.Rho.Num), (.int .i64 e_8.Rho.Den)]) 0 0 hF hS sz26 rfl rfl rfl rfl rfl rfl rfl rfl fun a w hF hS => ?_
        refine q_end (n_sq ?_)
        refine q_seq ?_
        refine q_region ?_
        refine q_x (v := (.agg #[(.int .i64 sum_7.Ratio.Num), (.int .i64 sum_7.Ratio.Den), (.int .i64 sum_7.Rho.Num), (.int .i64 sum_7.Rho.Den)])) hF hS (ex_loadA (vs := [(.int .i64 sum_7.Ratio.Num), (.int .i64 sum_7.Ratio.Den), (.int .i64 sum_7.Rho.Num), (.int .i64 sum_7.Rho.Den)]) 1 0 Try.underlying26 rfl sz26 rfl rfl rfl rfl) rfl rfl fun a hF => ?_
        refine q_x (v := (.agg #[(.int .i64 e_8.Ratio.Num), (.int .i64 e_8.Ratio.Den), (.int .i64 e_8.Rho.Num), (.int .i64 e_8.Rho.Den)])) hF hS (ex_loadA (vs := [(.int .i64 e_8.Ratio.Num), (.int .i64 e_8.Ratio.Den), (.int .i64 e_8.Rho.Num), (.int .i64 e_8.Rho.Den)]) 0 0 Try.underlying26 rfl sz26 rfl rfl rfl rfl) rfl rfl fun a hF => ?_
        obtain ⟨t_11, ht_11, hb2⟩ := bindS hb2
        refine q_call (vs := [(.agg #[(.int .i64 sum_7.Ratio.Num), (.int .i64 sum_7.Ratio.Den), (.int .i64 sum_7.Rho.Num), (.int .i64 sum_7.Rho.Den)]), (.agg #[(.int .i64 e_8.Ratio.Num), (.int .i64 e_8.Ratio.Den), (.int .i64 e_8.Rho.Num), (.int .i64 e_8.Rho.Den)])]) hF hS Try.func93 (by kernel_rfl) rfl rfl rfl (c_impl_composed sum_7 e_8 t_11 ht_11 _ m hS.vis) ?_
        rintro a w _ rfl hF hS
        refine q_x (v := (.tuple #[(.agg #[(.int .i64 t_11.1.Ratio.Num), (.int .i64 t_11.1.Ratio.Den), (.int .i64 t_11.1.Rho.Num), (.int .i64 t_11.1.Rho.Den)]), (.bool t_11.2)])) hF hS (ex_move rfl) rfl rfl fun a hF => ?_
        refine q_x (v := (.agg #[(.int .i64 t_11.1.Ratio.Num), (.int .i64 t_11.1.Ratio.Den), (.int .i64 t_11.1.Rho.Num), (.int .i64 t_11.1.Rho.Den)])) hF hS (ex_extract rfl rfl) rfl rfl fun a hF => ?_
        refine q_x (v := (.bool t_11.2)) hF hS (ex_extract rfl rfl) rfl rfl fun a hF => ?_
        refine q_store (vs := [(.int .i64 t_11.1.Ratio.Num), (.int .i64 t_11.1.Ratio.Den), (.int .i64 t_11.1.Rho.Num), (.int .i64 t_11.1.Rho.Den)]) (cs' := [(.int .i64 t_11.1.Ratio.Num), (.int .i64 t_11.1.Ratio.Den), (.int .i64 t_11.1.Rho.Num), (.int .i64 t_11.1.Rho.Den)]) 1 0 hF hS sz26 rfl rfl rfl rfl rfl rfl rfl rfl fun a w hF hS => ?_
        refine q_x (v := (.bool t_11.2)) hF hS (ex_assign rfl) rfl rfl fun a hF => ?_
        refine q_end (n_sq ?_)
        refine q_seq ?_
        refine q_region ?_
        refine q_x (v := (.bool t_11.2)) hF hS (ex_move rfl) rfl rfl fun a hF => ?_
        refine q_x (v := (.bool (!t_11.2))) hF hS (ex_not rfl) rfl rfl fun a hF => ?_
        refine q_end (n_sq ?_)
        rcases bcase (!t_11.2) with hc4 | hc4
        · have hb2 := cond_f hc4 hb2
          refine q_cond_f hF rfl hc4 ?_
          refine q_skipc (n_ib (n_sq ?_))
          refine q_region ?_
          refine q_x (v := (.int .i64 (w64 (t_6 + 1)))) hF hS (ex_ibin rfl rfl rfl) rfl rfl fun a hF => ?_
          refine q_x (v := (.int .i64 (w64 (t_6 + 1)))) hF hS (ex_move rfl) rfl rfl fun a hF => ?_
          refine q_end ?_
          obtain rfl := someI hb2
          exact ⟨rfl, _, _, rfl, hF.sub ⟨rfl, rfl, rfl, rfl, rfl, trivial⟩, hS.mask [false, true, true]⟩
        · have hb2 := cond_t hc4 hb2
          refine q_cond_t hF rfl hc4 ?_
          refine q_seq ?_
          refine q_region ?_
          refine q_x (v := (.agg #[(.int .i64 0), (.int .i64 0), (.int .i64 0), (.int .i64 0)])) hF hS (ex_build (cells := [(.int .i64 0), (.int .i64 0), (.int .i64 0), (.int .i64 0)]) rfl (by kernel_rfl)) rfl rfl fun a hF => ?_
          refine q_store (vs := [(.int .i64 0), (.int .i64 0), (.int .i64 0), (.int .i64 0)]) (cs' := [(.int .i64 0), (.int .i64 0), (.int .i64 0), (.int .i64 0)]) 2 0 hF hS sz26 rfl rfl rfl rfl rfl rfl rfl rfl fun a w hF hS => ?_
          refine q_x (v := (.bool false)) hF hS (ex_assign rfl) rfl rfl fun a hF => ?_
          refine q_end (n_sq (q_ret (r_ib (r_sq ?_))))
          obtain rfl := someI hb2
          refine ⟨nofun, .inr fun ho => ?_⟩
          subst ho
          refine r_ib (r_sq ?_)
          obtain rfl := someI hr
          exact ret_of hF hS rfl (.cellA (us := [(.int .i64 0), (.int .i64 0), (.int .i64 0), (.int .i64 0)]) 2 0 Try.underlying26 rfl sz26 rfl rfl rfl rfl (.tmp rfl .nil)) rfl
    · rintro e a w ⟨sum_12, rfl, rfl, hF, hS⟩
      refine x_ib (n_sq ?_)
      refine q_seq ?_
      refine q_region ?_
      refine q_x (v := (.agg #[(.int .i64 sum_12.Ratio.Num), (.int .i64 sum_12.Ratio.Den), (.int .i64 sum_12.Rho.Num), (.int .i64 sum_12.Rho.Den)])) hF hS (ex_loadA (vs := [(.int .i64 sum_12.Ratio.Num), (.int .i64 sum_12.Ratio.Den), (.int .i64 sum_12.Rho.Num), (.int .i64 sum_12.Rho.Den)]) 0 0 Try.underlying26 rfl sz26 rfl rfl rfl rfl) rfl rfl fun a hF => ?_
      refine q_store (vs := [(.int .i64 sum_12.Ratio.Num), (.int .i64 sum_12.Ratio.Den), (.int .i64 sum_12.Rho.Num), (.int .i64 sum_12.Rho.Den)]) (cs' := [(.int .i64 sum_12.Ratio.Num), (.int .i64 sum_12.Ratio.Den), (.int .i64 sum_12.Rho.Num), (.int .i64 sum_12.Rho.Den)]) 1 0 hF hS sz26 rfl rfl rfl rfl rfl rfl rfl rfl fun a w hF hS => ?_
      refine q_x (v := (.bool true)) hF hS (ex_assign rfl) rfl rfl fun a hF => ?_
      refine q_end (n_sq (q_ret ?_))
      obtain rfl := someI hr
      exact ret_of hF hS rfl (.cellA (us := [(.int .i64 sum_12.Ratio.Num), (.int .i64 sum_12.Ratio.Den), (.int .i64 sum_12.Rho.Num), (.int .i64 sum_12.Rho.Den)]) 1 0 Try.underlying26 rfl sz26 rfl rfl rfl rfl (.tmp rfl .nil)) rfl
  · have hr := cond_t hc1 hr
    refine q_cond_t hF rfl hc1 ?_
    refine q_seq ?_
    refine q_region ?_
    refine q_x (v := (.agg #[(.int .i64 0), (.int .i64 0), (.int .i64 0), (.int .i64 0)])) hF hS (ex_build (cells := [(.int .i64 0), (.int .i64 0), (.int .i64 0), (.int .i64 0)]) rfl (by kernel_rfl)) rfl rfl fun a hF => ?_
    refine q_store (vs := [(.int .i64 0), (.int .i64 0), (.int .i64 0), (.int .i64 0)]) (cs' := [(.int .i64 0), (.int .i64 0), (.int .i64 0), (.int .i64 0)]) 0 0 hF hS sz26 rfl rfl rfl rfl rfl rfl rfl rfl fun a w hF hS => ?_
    refine q_x (v := (.bool false)) hF hS (ex_assign rfl) rfl rfl fun a hF => ?_
    refine q_end (n_sq (q_ret (r_sq ?_)))
    obtain rfl := someI hr
    exact ret_of hF hS rfl (.cellA (us := [(.int .i64 0), (.int .i64 0), (.int .i64 0), (.int .i64 0)]) 0 0 Try.underlying26 rfl sz26 rfl rfl rfl rfl (.tmp rfl .nil)) rfl

end Go.Proofs.Ytdbgmkfniichdaa
