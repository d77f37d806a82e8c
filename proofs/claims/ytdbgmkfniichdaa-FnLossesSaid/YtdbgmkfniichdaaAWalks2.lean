/- The walks of the functions: each returns what its plain function says. -/
import Derived.Test.YtdbgmkfniichdaaAWalks1
namespace Go.Proofs.Ytdbgmkfniichdaa
open Go.Gx Go.Gx.F Go.RowKit
set_option linter.all false
set_option maxRecDepth 10000


theorem c_spec_DrawCountUses (p_code : List (K .u8)) (r : impl_Loss × impl_Loss) (hr : spec_DrawCountUses p_code = some r) (w0 : World) (m : Mem) (hv : Vis m w0) (s1 : Sl) (h1 : Rd m s1 p_code) :
    Ret Try.prog 12 [s1.v] w0 (fun v _ => v = (.tuple #[(.agg #[(.int .i64 r.1.Ratio.Num), (.int .i64 r.1.Ratio.Den), (.int .i64 r.1.Rho.Num), (.int .i64 r.1.Rho.Den)]), (.agg #[(.int .i64 r.2.Ratio.Num), (.int .i64 r.2.Ratio.Den), (.int .i64 r.2.Rho.Num), (.int .i64 r.2.Rho.Den)])])) := by
  unfold spec_DrawCountUses at hr
  refine ret_start Try.func12 rfl 17 rfl rfl m hv fun a hF hS => ?_
  refine q_seq ?_
  refine q_region ?_
  refine q_alloc (cs := [(.int .i64 0), (.int .i64 0), (.int .i64 0), (.int .i64 0)]) hF hS rfl rfl rfl fun a w b2 hF hS => ?_
  refine q_alloc (cs := [(.int .i64 0), (.int .i64 0), (.int .i64 0), (.int .i64 0)]) hF hS rfl rfl rfl fun a w b3 hF hS => ?_
  refine q_end (n_sq ?_)
  refine q_seq ?_
  refine q_region ?_
  refine q_x (v := s1.v) hF hS (ex_move rfl) rfl rfl fun a hF => ?_
  refine q_x (v := (.agg #[s1.v, (.int .i64 0), (.int .u64 0)])) hF hS (ex_build (cells := [s1.v, (.int .i64 0), (.int .u64 0)]) rfl (by kernel_rfl)) rfl rfl fun a hF => ?_
  refine q_box (cs := [s1.v, (.int .i64 0), (.int .u64 0)]) hF hS rfl rfl rfl fun a w b4 hF hS => ?_
  refine q_x (v := (.pointer (some ⟨b4, 0, none⟩))) hF hS (ex_assign rfl) rfl rfl fun a hF => ?_
  refine q_end (n_sq ?_)
  refine q_seq ?_
  refine q_seq ?_
  refine q_region ?_
  refine q_x (v := (.pointer (some ⟨b4, 0, none⟩))) hF hS (ex_move rfl) rfl rfl fun a hF => ?_
  have hS5 : St _ _ _ _ ([[⟨b4, [s1.v, (.int .i64 0), (.int .u64 0)], 103⟩]] ++ [[⟨b3, [(.int .i64 0), (.int .i64 0), (.int .i64 0), (.int .i64 0)], 26⟩], [⟨b2, [(.int .i64 0), (.int .i64 0), (.int .i64 0), (.int .i64 0)], 26⟩]]) := hS
  have hE5 := hS5.enter
  obtain ⟨t_6, ht_6, hr⟩ := bindS hr
  refine q_do rfl fun _ hK => wp_callX (vs := [(.pointer (some ⟨b4, 0, none⟩)), (.int .i64 8)]) hF Try.func86 (by kernel_rfl) rfl rfl rfl (c_spec_l1Cur_one (spec_l1Cur.mk p_code 0 (⟨0⟩ : K .u64)) 8 t_6 ht_6 _ m b4 s1 h1 _ hE5) fun a w _ hR hF => hK _ _ ?_
  obtain ⟨m5', s7, rfl, hm5, hR5, h7⟩ := hR
  have hS : St _ _ _ _ [[⟨b4, [s7.v, (.int .i64 t_6.2.at_), (.int .u64 t_6.2.seed.v)], 103⟩], [⟨b3, [(.int .i64 0), (.int .i64 0), (.int .i64 0), (.int .i64 0)], 26⟩], [⟨b2, [(.int .i64 0), (.int .i64 0), (.int .i64 0), (.int .i64 0)], 26⟩]] := hS5.leave hR5 hm5
  have hm5 := MLe.weakX hS5 hm5
  refine q_end (n_sq ?_)
  rcases hc1 : (t_6.1) with _ | _
  · have hr := cond_f hc1 hr
    refine q_cond_f hF rfl hc1 ?_
    refine q_skipc (n_sq ?_)
    refine q_seq ?_
    refine q_region ?_
    refine q_x (v := (.pointer (some ⟨b4, 0, none⟩))) hF hS (ex_move rfl) rfl rfl fun a hF => ?_
    have hS8 : St _ _ _ _ ([[⟨b4, [s7.v, (.int .i64 t_6.2.at_), (.int .u64 t_6.2.seed.v)], 103⟩]] ++ [[⟨b3, [(.int .i64 0), (.int .i64 0), (.int .i64 0), (.int .i64 0)], 26⟩], [⟨b2, [(.int .i64 0), (.int .i64 0), (.int .i64 0), (.int .i64 0)], 26⟩]]) := hS
    have hE8 := hS8.enter
    obtain ⟨t_9, ht_9, hr⟩ := bindS hr
    refine q_do rfl fun _ hK => wp_callX (vs := [(.pointer (some ⟨b4, 0, none⟩))]) hF Try.func87 (by kernel_rfl) rfl rfl rfl (c_spec_l1Cur_budget t_6.2 t_9 ht_9 _ m5' b4 s7 h7 _ hE8) fun a w _ hR hF => hK _ _ ?_
    obtain ⟨m8', s10, rfl, hm8, hR8, h10⟩ := hR
    have hS : St _ _ _ _ [[⟨b4, [s10.v, (.int .i64 t_9.2.at_), (.int .u64 t_9.2.seed.v)], 103⟩], [⟨b3, [(.int .i64 0), (.int .i64 0), (.int .i64 0), (.int .i64 0)], 26⟩], [⟨b2, [(.int .i64 0), (.int .i64 0), (.int .i64 0), (.int .i64 0)], 26⟩]] := hS8.leave hR8 hm8
    have hm8 := MLe.weakX hS8 hm8
    refine q_x (v := (.pointer (some ⟨b4, 0, none⟩))) hF hS (ex_move rfl) rfl rfl fun a hF => ?_
    have hS11 : St _ _ _ _ ([[⟨b4, [s10.v, (.int .i64 t_9.2.at_), (.int .u64 t_9.2.seed.v)], 103⟩]] ++ [[⟨b3, [(.int .i64 0), (.int .i64 0), (.int .i64 0), (.int .i64 0)], 26⟩], [⟨b2, [(.int .i64 0), (.int .i64 0), (.int .i64 0), (.int .i64 0)], 26⟩]]) := hS
    have hE11 := hS11.enter
    obtain ⟨t_12, ht_12, hr⟩ := bindS hr
    refine q_do rfl fun _ hK => wp_callX (vs := [(.pointer (some ⟨b4, 0, none⟩))]) hF Try.func89 (by kernel_rfl) rfl rfl rfl (c_spec_l1Cur_anyLoss t_9.2 t_12 ht_12 _ m8' b4 s10 h10 _ hE11) fun a w _ hR hF => hK _ _ ?_
    obtain ⟨m11', s13, rfl, hm11, hR11, h13⟩ := hR
    have hS : St _ _ _ _ [[⟨b4, [s13.v, (.int .i64 t_12.2.at_), (.int .u64 t_12.2.seed.v)], 103⟩], [⟨b3, [(.int .i64 0), (.int .i64 0), (.int .i64 0), (.int .i64 0)], 26⟩], [⟨b2, [(.int .i64 0), (.int .i64 0), (.int .i64 0), (.int .i64 0)], 26⟩]] := hS11.leave hR11 hm11
    have hm11 := MLe.weakX hS11 hm11
    refine q_store (vs := [(.int .i64 t_9.1.Ratio.Num), (.int .i64 t_9.1.Ratio.Den), (.int .i64 t_9.1.Rho.Num), (.int .i64 t_9.1.Rho.Den)]) (cs' := [(.int .i64 t_9.1.Ratio.Num), (.int .i64 t_9.1.Ratio.Den), (.int .i64 t_9.1.Rho.Num), (.int .i64 t_9.1.Rho.Den)]) 2 0 hF hS sz26 rfl rfl rfl rfl rfl rfl rfl rfl fun a w hF hS => ?_
    refine q_store (vs := [(.int .i64 t_12.1.Ratio.Num), (.int .i64 t_12.1.Ratio.Den), (.int .i64 t_12.1.Rho.Num), (.int .i64 t_12.1.Rho.Den)]) (cs' := [(.int .i64 t_12.1.Ratio.Num), (.int .i64 t_12.1.Ratio.Den), (.int .i64 t_12.1.Rho.Num), (.int .i64 t_12.1.Rho.Den)]) 1 0 hF hS sz26 rfl rfl rfl rfl rfl rfl rfl rfl fun a w hF hS => ?_
    refine q_end (n_sq (q_ret ?_))
    obtain rfl := someI hr
    exact ret_of hF hS rfl (.cellA (us := [(.int .i64 t_9.1.Ratio.Num), (.int .i64 t_9.1.Ratio.Den), (.int .i64 t_9.1.Rho.Num), (.int .i64 t_9.1.Rho.Den)]) 2 0 Try.underlying26 rfl sz26 rfl rfl rfl rfl (.cellA (us := [(.int .i64 t_12.1.Ratio.Num), (.int .i64 t_12.1.Ratio.Den), (.int .i64 t_12.1.Rho.Num), (.int .i64 t_12.1.Rho.Den)]) 1 0 Try.underlying26 rfl sz26 rfl rfl rfl rfl .nil)) rfl
  · have hr := cond_t hc1 hr
    refine q_cond_t hF rfl hc1 ?_
    refine q_seq ?_
    refine q_region ?_
    refine q_x (v := (.pointer (some ⟨b4, 0, none⟩))) hF hS (ex_move rfl) rfl rfl fun a hF => ?_
    have hS14 : St _ _ _ _ ([[⟨b4, [s7.v, (.int .i64 t_6.2.at_), (.int .u64 t_6.2.seed.v)], 103⟩]] ++ [[⟨b3, [(.int .i64 0), (.int .i64 0), (.int .i64 0), (.int .i64 0)], 26⟩], [⟨b2, [(.int .i64 0), (.int .i64 0), (.int .i64 0), (.int .i64 0)], 26⟩]]) := hS
    have hE14 := hS14.enter
    obtain ⟨t_15, ht_15, hr⟩ := bindS hr
    refine q_do rfl fun _ hK => wp_callX (vs := [(.pointer (some ⟨b4, 0, none⟩))]) hF Try.func87 (by kernel_rfl) rfl rfl rfl (c_spec_l1Cur_budget t_6.2 t_15 ht_15 _ m5' b4 s7 h7 _ hE14) fun a w _ hR hF => hK _ _ ?_
    obtain ⟨m14', s16, rfl, hm14, hR14, h16⟩ := hR
    have hS : St _ _ _ _ [[⟨b4, [s16.v, (.int .i64 t_15.2.at_), (.int .u64 t_15.2.seed.v)], 103⟩], [⟨b3, [(.int .i64 0), (.int .i64 0), (.int .i64 0), (.int .i64 0)], 26⟩], [⟨b2, [(.int .i64 0), (.int .i64 0), (.int .i64 0), (.int .i64 0)], 26⟩]] := hS14.leave hR14 hm14
    have hm14 := MLe.weakX hS14 hm14
    obtain ⟨t_17, ht_17, hr⟩ := bindS hr
    refine q_call (vs := []) hF hS Try.func88 (by kernel_rfl) rfl rfl rfl (c_spec_pNone  t_17 ht_17 _ m14' hS.vis) ?_
    rintro a w _ rfl hF hS
    refine q_store (vs := [(.int .i64 t_15.1.Ratio.Num), (.int .i64 t_15.1.Ratio.Den), (.int .i64 t_15.1.Rho.Num), (.int .i64 t_15.1.Rho.Den)]) (cs' := [(.int .i64 t_15.1.Ratio.Num), (.int .i64 t_15.1.Ratio.Den), (.int .i64 t_15.1.Rho.Num), (.int .i64 t_15.1.Rho.Den)]) 2 0 hF hS sz26 rfl rfl rfl rfl rfl rfl rfl rfl fun a w hF hS => ?_
    refine q_store (vs := [(.int .i64 t_17.Ratio.Num), (.int .i64 t_17.Ratio.Den), (.int .i64 t_17.Rho.Num), (.int .i64 t_17.Rho.Den)]) (cs' := [(.int .i64 t_17.Ratio.Num), (.int .i64 t_17.Ratio.Den), (.int .i64 t_17.Rho.Num), (.int .i64 t_17.Rho.Den)]) 1 0 hF hS sz26 rfl rfl rfl rfl rfl rfl rfl rfl fun a w hF hS => ?_
    refine q_end (n_sq (q_ret (r_sq ?_)))
    obtain rfl := someI hr
    exact ret_of hF hS rfl (.cellA (us := [(.int .i64 t_15.1.Ratio.Num), (.int .i64 t_15.1.Ratio.Den), (.int .i64 t_15.1.Rho.Num), (.int .i64 t_15.1.Rho.Den)]) 2 0 Try.underlying26 rfl sz26 rfl rfl rfl rfl (.cellA (us := [(.int .i64 t_17.Ratio.Num), (.int .i64 t_17.Ratio.Den), (.int .i64 t_17.Rho.Num), (.int .i64 t_17.Rho.Den)]) 1 0 Try.underlying26 rfl sz26 rfl rfl rfl rfl .nil)) rfl

theorem c_impl_NoLoss  (r : impl_Loss) (hr : impl_NoLoss = some r) (w0 : World) (m : Mem) (hv : Vis m w0) :
    Ret Try.prog 36 [] w0 (fun v _ => v = (.agg #[(.int .i64 r.Ratio.Num), (.int .i64 r.Ratio.Den), (.int .i64 r.Rho.Num), (.int .i64 r.Rho.Den)])) := by
  unfold impl_NoLoss at hr
  refine ret_start Try.func36 rfl 4 rfl rfl m hv fun a hF hS => ?_
  refine q_seq ?_
  refine q_region ?_
  refine q_alloc (cs := [(.int .i64 0), (.int .i64 0), (.int .i64 0), (.int .i64 0)]) hF hS rfl rfl rfl fun a w b1 hF hS => ?_
  refine q_end (n_sq ?_)
  refine q_seq ?_
  refine q_region ?_
  refine q_x (v := (.agg #[(.int .i64 1), (.int .i64 1)])) hF hS (ex_build (cells := [(.int .i64 1), (.int .i64 1)]) rfl (by kernel_rfl)) rfl rfl fun a hF => ?_
  refine q_x (v := (.agg #[(.int .i64 0), (.int .i64 1)])) hF hS (ex_build (cells := [(.int .i64 0), (.int .i64 1)]) rfl (by kernel_rfl)) rfl rfl fun a hF => ?_
  refine q_x (v := (.agg #[(.int .i64 1), (.int .i64 1), (.int .i64 0), (.int .i64 1)])) hF hS (ex_build (cells := [(.int .i64 1), (.int .i64 1), (.int .i64 0), (.int .i64 1)]) rfl (by kernel_rfl)) rfl rfl fun a hF => ?_
  refine q_store (vs := [(.int .i64 1), (.int .i64 1), (.int .i64 0), (.int .i64 1)]) (cs' := [(.int .i64 1), (.int .i64 1), (.int .i64 0), (.int .i64 1)]) 0 0 hF hS sz26 rfl rfl rfl rfl rfl rfl rfl rfl fun a w hF hS => ?_
  refine q_end (n_sq (q_ret ?_))
  obtain rfl := someI hr
  exact ret_of hF hS rfl (.cellA (us := [(.int .i64 1), (.int .i64 1), (.int .i64 0), (.int .i64 1)]) 0 0 Try.underlying26 rfl sz26 rfl rfl rfl rfl .nil) rfl

theorem c_impl_MulFrac (p_a : impl_Frac) (p_b : impl_Frac) (r : impl_Frac × Bool) (hr : impl_MulFrac p_a p_b = some r) (w0 : World) (m : Mem) (hv : Vis m w0) :
    Ret Try.prog 103 [(.agg #[(.int .i64 p_a.Num), (.int .i64 p_a.Den)]), (.agg #[(.int .i64 p_b.Num), (.int .i64 p_b.Den)])] w0 (fun v _ => v = (.tuple #[(.agg #[(.int .i64 r.1.Num), (.int .i64 r.1.Den)]), (.bool r.2)])) := by
  unfold impl_MulFrac at hr
  refine ret_start Try.func103 rfl 28 rfl rfl m hv fun a hF hS => ?_
  refine q_seq ?_
  refine q_region ?_
  refine q_box (cs := [(.int .i64 p_a.Num), (.int .i64 p_a.Den)]) hF hS rfl rfl rfl fun a w b1 hF hS => ?_
  refine q_box (cs := [(.int .i64 p_b.Num), (.int .i64 p_b.Den)]) hF hS rfl rfl rfl fun a w b2 hF hS => ?_
  refine q_alloc (cs := [(.int .i64 0), (.int .i64 0)]) hF hS rfl rfl rfl fun a w b3 hF hS => ?_
  refine q_x (v := (.bool false)) hF hS (ex_assign rfl) rfl rfl fun a hF => ?_
  refine q_end (n_sq ?_)
  refine q_seq ?_
  refine q_seq ?_
  obtain ⟨t_6, hj1, hr⟩ := bindS hr
  refine q_join (fun a w => Fr a 28 [(2, (.pointer (some ⟨b1, 0, none⟩))), (3, (.pointer (some ⟨b2, 0, none⟩))), (4, (.pointer (some ⟨b3, 0, none⟩))), (13, (.bool t_6))] ∧ St [] w0 w m [[⟨b3, [(.int .i64 0), (.int .i64 0)], 24⟩], [⟨b2, [(.int .i64 p_b.Num), (.int .i64 p_b.Den)], 24⟩], [⟨b1, [(.int .i64 p_a.Num), (.int .i64 p_a.Den)], 24⟩]]) ?_ ?_
  · refine q_region ?_
    refine q_x (v := (.agg #[(.int .i64 p_a.Num), (.int .i64 p_a.Den)])) hF hS (ex_loadA (vs := [(.int .i64 p_a.Num), (.int .i64 p_a.Den)]) 2 0 Try.underlying24 rfl sz24 rfl rfl rfl rfl) rfl rfl fun a hF => ?_
    obtain ⟨t_4, ht_4, hj1⟩ := bindS hj1
    refine q_call (vs := [(.agg #[(.int .i64 p_a.Num), (.int .i64 p_a.Den)])]) hF hS Try.func94 (by kernel_rfl) rfl rfl rfl (c_impl_IsFrac p_a t_4 ht_4 _ m hS.vis) ?_
    rintro a w _ rfl hF hS
    refine q_x (v := (.bool (!t_4))) hF hS (ex_not rfl) rfl rfl fun a hF => ?_
    refine q_x (v := (.bool (!t_4))) hF hS (ex_move rfl) rfl rfl fun a hF => ?_
    rcases hc2 : (!t_4) with _ | _
    · have hj1 := cond_f hc2 hj1
      refine q_xg (v := (.agg #[(.int .i64 p_b.Num), (.int .i64 p_b.Den)])) hF hS (ex_loadA (vs := [(.int .i64 p_b.Num), (.int .i64 p_b.Den)]) 1 0 Try.underlying24 rfl sz24 rfl rfl rfl rfl) (wanted_t hF rfl rfl rfl hc2) rfl fun a hF => ?_
      obtain ⟨t_5, ht_5, hj1⟩ := bindS hj1
      refine q_callg (vs := [(.agg #[(.int .i64 p_b.Num), (.int .i64 p_b.Den)])]) hF hS (wanted_t hF rfl rfl rfl hc2) Try.func94 (by kernel_rfl) rfl rfl rfl (c_impl_IsFrac p_b t_5 ht_5 _ m hS.vis) ?_
      rintro a w _ rfl hF hS
      refine q_xg (v := (.bool (!t_5))) hF hS (ex_not rfl) (wanted_t hF rfl rfl rfl hc2) rfl fun a hF => ?_
      refine q_x (v := (.bool (!t_5))) hF hS (ex_pick_f rfl rfl hc2) rfl rfl fun a hF => ?_
      refine q_end (n_jn ?_)
      obtain rfl := someI hj1
      exact ⟨hF.sub ⟨rfl, rfl, rfl, rfl, trivial⟩, hS⟩
    · have hj1 := cond_t hc2 hj1
      refine q_skip hF (wanted_f hF rfl rfl rfl hc2 rfl) rfl fun a hF => ?_
      refine q_skip hF (wanted_f hF rfl rfl rfl hc2 rfl) rfl fun a hF => ?_
      refine q_skip hF (wanted_f hF rfl rfl rfl hc2 rfl) rfl fun a hF => ?_
      refine q_x (v := (.bool true)) hF hS (ex_pick_t rfl rfl hc2) rfl rfl fun a hF => ?_
      refine q_end (n_jn ?_)
      obtain rfl := someI hj1
      exact ⟨hF.sub ⟨rfl, rfl, rfl, rfl, trivial⟩, hS⟩
  · rintro a w ⟨hF, hS⟩
    refine n_sq ?_
    rcases hc3 : (t_6) with _ | _
    · have hr := cond_f hc3 hr
      refine q_cond_f hF rfl hc3 ?_
      refine q_skipc (n_sq ?_)
      refine q_seq ?_
      refine q_region ?_
      refine q_x (v := (.pointer (some ⟨b1, 0, none⟩))) hF hS (ex_fieldAddr Try.underlying24 rfl sz3 rfl rfl) rfl rfl fun a hF => ?_
      refine q_x (v := (.int .i64 p_a.Num)) hF hS (ex_load1 2 0 Try.underlying3 rfl rfl rfl rfl) rfl rfl fun a hF => ?_
      refine q_x (v := (.pointer (some ⟨b2, 0, none⟩))) hF hS (ex_fieldAddr Try.underlying24 rfl sz3 rfl rfl) rfl rfl fun a hF => ?_
      refine q_x (v := (.int .i64 p_b.Num)) hF hS (ex_load1 1 0 Try.underlying3 rfl rfl rfl rfl) rfl rfl fun a hF => ?_
      refine q_x (v := (.int .i64 (w64 (p_a.Num * p_b.Num)))) hF hS (ex_ibin rfl rfl rfl) rfl rfl fun a hF => ?_
      refine q_x (v := (.pointer (some ⟨b1, 1, none⟩))) hF hS (ex_fieldAddr Try.underlying24 rfl sz3 rfl rfl) rfl rfl fun a hF => ?_
      refine q_x (v := (.int .i64 p_a.Den)) hF hS (ex_load1 2 0 Try.underlying3 rfl rfl rfl rfl) rfl rfl fun a hF => ?_
      refine q_x (v := (.pointer (some ⟨b2, 1, none⟩))) hF hS (ex_fieldAddr Try.underlying24 rfl sz3 rfl rfl) rfl rfl fun a hF => ?_
      refine q_x (v := (.int .i64 p_b.Den)) hF hS (ex_load1 1 0 Try.underlying3 rfl rfl rfl rfl) rfl rfl fun a hF => ?_
      refine q_x (v := (.int .i64 (w64 (p_a.Den * p_b.Den)))) hF hS (ex_ibin rfl rfl rfl) rfl rfl fun a hF => ?_
      obtain ⟨t_7, ht_7, hr⟩ := bindS hr
      refine q_call (vs := [(.int .i64 (w64 (p_a.Num * p_b.Num))), (.int .i64 (w64 (p_a.Den * p_b.Den)))]) hF hS Try.func114 (by kernel_rfl) rfl rfl rfl (c_impl_reduced (w64 (p_a.Num * p_b.Num)) (w64 (p_a.Den * p_b.Den)) t_7 ht_7 _ m hS.vis) ?_
      rintro a w _ rfl hF hS
      refine q_x (v := (.agg #[(.int .i64 t_7.1.Num), (.int .i64 t_7.1.Den)])) hF hS (ex_extract rfl rfl) rfl rfl fun a hF => ?_
      refine q_x (v := (.bool t_7.2)) hF hS (ex_extract rfl rfl) rfl rfl fun a hF => ?_
      refine q_store (vs := [(.int .i64 t_7.1.Num), (.int .i64 t_7.1.Den)]) (cs' := [(.int .i64 t_7.1.Num), (.int .i64 t_7.1.Den)]) 0 0 hF hS sz24 rfl rfl rfl rfl rfl rfl rfl rfl fun a w hF hS => ?_
      refine q_x (v := (.bool t_7.2)) hF hS (ex_assign rfl) rfl rfl fun a hF => ?_
      refine q_end (n_sq (q_ret ?_))
      obtain rfl := someI hr
      exact ret_of hF hS rfl (.cellA (us := [(.int .i64 t_7.1.Num), (.int .i64 t_7.1.Den)]) 0 0 Try.underlying24 rfl sz24 rfl rfl rfl rfl (.tmp rfl .nil)) rfl
    · have hr := cond_t hc3 hr
      refine q_cond_t hF rfl hc3 ?_
      refine q_seq ?_
      refine q_region ?_
      refine q_x (v := (.agg #[(.int .i64 0), (.int .i64 0)])) hF hS (ex_build (cells := [(.int .i64 0), (.int .i64 0)]) rfl (by kernel_rfl)) rfl rfl fun a hF => ?_
      refine q_store (vs := [(.int .i64 0), (.int .i64 0)]) (cs' := [(.int .i64 0), (.int .i64 0)]) 0 0 hF hS sz24 rfl rfl rfl rfl rfl rfl rfl rfl fun a w hF hS => ?_
      refine q_x (v := (.bool false)) hF hS (ex_assign rfl) rfl rfl fun a hF => ?_
      refine q_end (n_sq (q_ret (r_sq ?_)))
      obtain rfl := someI hr
      exact ret_of hF hS rfl (.cellA (us := [(.int .i64 0), (.int .i64 0)]) 0 0 Try.underlying24 rfl sz24 rfl rfl rfl rfl (.tmp rfl .nil)) rfl

theorem c_impl_AddFrac (p_a : impl_Frac) (p_b : impl_Frac) (r : impl_Frac × Bool) (hr : impl_AddFrac p_a p_b = some r) (w0 : World) (m : Mem) (hv : Vis m w0) :
    Ret Try.prog 118 [(.agg #[(.int .i64 p_a.Num), (.int .i64 p_a.Den)]), (.agg #[(.int .i64 p_b.Num), (.int .i64 p_b.Den)])] w0 (fun v _ => v = (.tuple #[(.agg #[(.int .i64 r.1.Num), (.int .i64 r.1.Den)]), (.bool r.2)])) := by
  unfold impl_AddFrac at hr
  refine ret_start Try.func118 rfl 34 rfl rfl m hv fun a hF hS => ?_
  refine q_seq ?_
  refine q_region ?_
  refine q_box (cs := [(.int .i64 p_a.Num), (.int .i64 p_a.Den)]) hF hS rfl rfl rfl fun a w b1 hF hS => ?_
  refine q_box (cs := [(.int .i64 p_b.Num), (.int .i64 p_b.Den)]) hF hS rfl rfl rfl fun a w b2 hF hS => ?_
  refine q_alloc (cs := [(.int .i64 0), (.int .i64 0)]) hF hS rfl rfl rfl fun a w b3 hF hS => ?_
  refine q_x (v := (.bool false)) hF hS (ex_assign rfl) rfl rfl fun a hF => ?_
  refine q_end (n_sq ?_)
  refine q_seq ?_
  refine q_seq ?_
  obtain ⟨t_6, hj1, hr⟩ := bindS hr
  refine q_join (fun a w => Fr a 34 [(2, (.pointer (some ⟨b1, 0, none⟩))), (3, (.pointer (some ⟨b2, 0, none⟩))), (4, (.pointer (some ⟨b3, 0, none⟩))), (13, (.bool t_6))] ∧ St [] w0 w m [[⟨b3, [(.int .i64 0), (.int .i64 0)], 24⟩], [⟨b2, [(.int .i64 p_b.Num), (.int .i64 p_b.Den)], 24⟩], [⟨b1, [(.int .i64 p_a.Num), (.int .i64 p_a.Den)], 24⟩]]) ?_ ?_
  · refine q_region ?_
    refine q_x (v := (.agg #[(.int .i64 p_a.Num), (.int .i64 p_a.Den)])) hF hS (ex_loadA (vs := [(.int .i64 p_a.Num), (.int .i64 p_a.Den)]) 2 0 Try.underlying24 rfl sz24 rfl rfl rfl rfl) rfl rfl fun a hF => ?_
    obtain ⟨t_4, ht_4, hj1⟩ := bindS hj1
    refine q_call (vs := [(.agg #[(.int .i64 p_a.Num), (.int .i64 p_a.Den)])]) hF hS Try.func94 (by kernel_rfl) rfl rfl rfl (c_impl_IsFrac p_a t_4 ht_4 _ m hS.vis) ?_
    rintro a w _ rfl hF hS
    refine q_x (v := (.bool (!t_4))) hF hS (ex_not rfl) rfl rfl fun a hF => ?_
    refine q_x (v := (.bool (!t_4))) hF hS (ex_move rfl) rfl rfl fun a hF => ?_
    rcases hc2 : (!t_4) with _ | _
    · have hj1 := cond_f hc2 hj1
      refine q_xg (v := (.agg #[(.int .i64 p_b.Num), (.int .i64 p_b.Den)])) hF hS (ex_loadA (vs := [(.int .i64 p_b.Num), (.int .i64 p_b.Den)]) 1 0 Try.underlying24 rfl sz24 rfl rfl rfl rfl) (wanted_t hF rfl rfl rfl hc2) rfl fun a hF => ?_
      obtain ⟨t_5, ht_5, hj1⟩ := bindS hj1
      refine q_callg (vs := [(.agg #[(.int .i64 p_b.Num), (.int .i64 p_b.Den)])]) hF hS (wanted_t hF rfl rfl rfl hc2) Try.func94 (by kernel_rfl) rfl rfl rfl (c_impl_IsFrac p_b t_5 ht_5 _ m hS.vis) ?_
      rintro a w _ rfl hF hS
      refine q_xg (v := (.bool (!t_5))) hF hS (ex_not rfl) (wanted_t hF rfl rfl rfl hc2) rfl fun a hF => ?_
      refine q_x (v := (.bool (!t_5))) hF hS (ex_pick_f rfl rfl hc2) rfl rfl fun a hF => ?_
      refine q_end (n_jn ?_)
      obtain rfl := someI hj1
      exact ⟨hF.sub ⟨rfl, rfl, rfl, rfl, trivial⟩, hS⟩
    · have hj1 := cond_t hc2 hj1
      refine q_skip hF (wanted_f hF rfl rfl rfl hc2 rfl) rfl fun a hF => ?_
      refine q_skip hF (wanted_f hF rfl rfl rfl hc2 rfl) rfl fun a hF => ?_
      refine q_skip hF (wanted_f hF rfl rfl rfl hc2 rfl) rfl fun a hF => ?_
      refine q_x (v := (.bool true)) hF hS (ex_pick_t rfl rfl hc2) rfl rfl fun a hF => ?_
      refine q_end (n_jn ?_)
      obtain rfl := someI hj1
      exact ⟨hF.sub ⟨rfl, rfl, rfl, rfl, trivial⟩, hS⟩
  · rintro a w ⟨hF, hS⟩
    refine n_sq ?_
    rcases hc3 : (t_6) with _ | _
    · have hr := cond_f hc3 hr
      refine q_cond_f hF rfl hc3 ?_
      refine q_skipc (n_sq ?_)
      refine q_seq ?_
      refine q_region ?_
      refine q_x (v := (.pointer (some ⟨b1, 0, none⟩))) hF hS (ex_fieldAddr Try.underlying24 rfl sz3 rfl rfl) rfl rfl fun a hF => ?_
      refine q_x (v := (.int .i64 p_a.Num)) hF hS (ex_load1 2 0 Try.underlying3 rfl rfl rfl rfl) rfl rfl fun a hF => ?_
      refine q_x (v := (.pointer (some ⟨b2, 1, none⟩))) hF hS (ex_fieldAddr Try.underlying24 rfl sz3 rfl rfl) rfl rfl fun a hF => ?_
      refine q_x (v := (.int .i64 p_b.Den)) hF hS (ex_load1 1 0 Try.underlying3 rfl rfl rfl rfl) rfl rfl fun a hF => ?_
      refine q_x (v := (.int .i64 (w64 (p_a.Num * p_b.Den)))) hF hS (ex_ibin rfl rfl rfl) rfl rfl fun a hF => ?_
      refine q_x (v := (.pointer (some ⟨b2, 0, none⟩))) hF hS (ex_fieldAddr Try.underlying24 rfl sz3 rfl rfl) rfl rfl fun a hF => ?_
      refine q_x (v := (.int .i64 p_b.Num)) hF hS (ex_load1 1 0 Try.underlying3 rfl rfl rfl rfl) rfl rfl fun a hF => ?_
      refine q_x (v := (.pointer (some ⟨b1, 1, none⟩))) hF hS (ex_fieldAddr Try.underlying24 rfl sz3 rfl rfl) rfl rfl fun a hF => ?_
      refine q_x (v := (.int .i64 p_a.Den)) hF hS (ex_load1 2 0 Try.underlying3 rfl rfl rfl rfl) rfl rfl fun a hF => ?_
      refine q_x (v := (.int .i64 (w64 (p_b.Num * p_a.Den)))) hF hS (ex_ibin rfl rfl rfl) rfl rfl fun a hF => ?_
      refine q_x (v := (.int .i64 (w64 ((w64 (p_a.Num * p_b.Den)) + (w64 (p_b.Num * p_a.Den)))))) hF hS (ex_ibin rfl rfl rfl) rfl rfl fun a hF => ?_
      refine q_x (v := (.pointer (some ⟨b1, 1, none⟩))) hF hS (ex_fieldAddr Try.underlying24 rfl sz3 rfl rfl) rfl rfl fun a hF => ?_
      refine q_x (v := (.int .i64 p_a.Den)) hF hS (ex_load1 2 0 Try.underlying3 rfl rfl rfl rfl) rfl rfl fun a hF => ?_
      refine q_x (v := (.pointer (some ⟨b2, 1, none⟩))) hF hS (ex_fieldAddr Try.underlying24 rfl sz3 rfl rfl) rfl rfl fun a hF => ?_
      refine q_x (v := (.int .i64 p_b.Den)) hF hS (ex_load1 1 0 Try.underlying3 rfl rfl rfl rfl) rfl rfl fun a hF => ?_
      refine q_x (v := (.int .i64 (w64 (p_a.Den * p_b.Den)))) hF hS (ex_ibin rfl rfl rfl) rfl rfl fun a hF => ?_
      obtain ⟨t_7, ht_7, hr⟩ := bindS hr
      refine q_call (vs := [(.int .i64 (w64 ((w64 (p_a.Num * p_b.Den)) + (w64 (p_b.Num * p_a.Den))))), (.int .i64 (w64 (p_a.Den * p_b.Den)))]) hF hS Try.func114 (by kernel_rfl) rfl rfl rfl (c_impl_reduced (w64 ((w64 (p_a.Num * p_b.Den)) + (w64 (p_b.Num * p_a.Den)))) (w64 (p_a.Den * p_b.Den)) t_7 ht_7 _ m hS.vis) ?_
      rintro a w _ rfl hF hS
      refine q_x (v := (.agg #[(.int .i64 t_7.1.Num), (.int .i64 t_7.1.Den)])) hF hS (ex_extract rfl rfl) rfl rfl fun a hF => ?_
      refine q_x (v := (.bool t_7.2)) hF hS (ex_extract rfl rfl) rfl rfl fun a hF => ?_
      refine q_store (vs := [(.int .i64 t_7.1.Num), (.int .i64 t_7.1.Den)]) (cs' := [(.int .i64 t_7.1.Num), (.int .i64 t_7.1.Den)]) 0 0 hF hS sz24 rfl rfl rfl rfl rfl rfl rfl rfl fun a w hF hS => ?_
      refine q_x (v := (.bool t_7.2)) hF hS (ex_assign rfl) rfl rfl fun a hF => ?_
      refine q_end (n_sq (q_ret ?_))
      obtain rfl := someI hr
      exact ret_of hF hS rfl (.cellA (us := [(.int .i64 t_7.1.Num), (.int .i64 t_7.1.Den)]) 0 0 Try.underlying24 rfl sz24 rfl rfl rfl rfl (.tmp rfl .nil)) rfl
    · have hr := cond_t hc3 hr
      refine q_cond_t hF rfl hc3 ?_
      refine q_seq ?_
      refine q_region ?_
      refine q_x (v := (.agg #[(.int .i64 0), (.int .i64 0)])) hF hS (ex_build (cells := [(.int .i64 0), (.int .i64 0)]) rfl (by kernel_rfl)) rfl rfl fun a hF => ?_
      refine q_store (vs := [(.int .i64 0), (.int .i64 0)]) (cs' := [(.int .i64 0), (.int .i64 0)]) 0 0 hF hS sz24 rfl rfl rfl rfl rfl rfl rfl rfl fun a w hF hS => ?_
      refine q_x (v := (.bool false)) hF hS (ex_assign rfl) rfl rfl fun a hF => ?_
      refine q_end (n_sq (q_ret (r_sq ?_)))
      obtain rfl := someI hr
      exact ret_of hF hS rfl (.cellA (us := [(.int .i64 0), (.int .i64 0)]) 0 0 Try.underlying24 rfl sz24 rfl rfl rfl rfl (.tmp rfl .nil)) rfl

theorem c_impl_composed (p_a : impl_Loss) (p_b : impl_Loss) (r : impl_Loss × Bool) (hr : impl_composed p_a p_b = some r) (w0 : World) (m : Mem) (hv : Vis m w0) :
    Ret Try.prog 93 [(.agg #[(.int .i64 p_a.Ratio.Num), (.int .i64 p_a.Ratio.Den), (.int .i64 p_a.Rho.Num), (.int .i64 p_a.Rho.Den)]), (.agg #[(.int .i64 p_b.Ratio.Num), (.int .i64 p_b.Ratio.Den), (.int .i64 p_b.Rho.Num), (.int .i64 p_b.Rho.Den)])] w0 (fun v _ => v = (.tuple #[(.agg #[(.int .i64 r.1.Ratio.Num), (.int .i64 r.1.Ratio.Den), (.int .i64 r.1.Rho.Num), (.int .i64 r.1.Rho.Den)]), (.bool r.2)])) := by
  unfold impl_composed at hr
  refine ret_start Try.func93 rfl 34 rfl rfl m hv fun a hF hS => ?_
  refine q_seq ?_
  refine q_region ?_
  refine q_box (cs := [(.int .i64 p_a.Ratio.Num), (.int .i64 p_a.Ratio.Den), (.int .i64 p_a.Rho.Num), (.int .i64 p_a.Rho.Den)]) hF hS rfl rfl rfl fun a w b1 hF hS => ?_
  refine q_box (cs := [(.int .i64 p_b.Ratio.Num), (.int .i64 p_b.Ratio.Den), (.int .i64 p_b.Rho.Num), (.int .i64 p_b.Rho.Den)]) hF hS rfl rfl rfl fun a w b2 hF hS => ?_
  refine q_alloc (cs := [(.int .i64 0), (.int .i64 0), (.int .i64 0), (.int .i64 0)]) hF hS rfl rfl rfl fun a w b3 hF hS => ?_
  refine q_x (v := (.bool false)) hF hS (ex_assign rfl) rfl rfl fun a hF => ?_
  refine q_end (n_sq ?_)
  refine q_seq ?_
  refine q_region ?_
  refine q_x (v := (.pointer (some ⟨b1, 0, none⟩))) hF hS (ex_fieldAddr Try.underlying26 rfl sz24 rfl rfl) rfl rfl fun a hF => ?_
  refine q_x (v := (.agg #[(.int .i64 p_a.Ratio.Num), (.int .i64 p_a.Ratio.Den)])) hF hS (ex_loadA (vs := [(.int .i64 p_a.Ratio.Num), (.int .i64 p_a.Ratio.Den)]) 2 0 Try.underlying24 rfl sz24 rfl rfl rfl rfl) rfl rfl fun a hF => ?_
  refine q_x (v := (.pointer (some ⟨b2, 0, none⟩))) hF hS (ex_fieldAddr Try.underlying26 rfl sz24 rfl rfl) rfl rfl fun a hF => ?_
  refine q_x (v := (.agg #[(.int .i64 p_b.Ratio.Num), (.int .i64 p_b.Ratio.Den)])) hF hS (ex_loadA (vs := [(.int .i64 p_b.Ratio.Num), (.int .i64 p_b.Ratio.Den)]) 1 0 Try.underlying24 rfl sz24 rfl rfl rfl rfl) rfl rfl fun a hF => ?_
  obtain ⟨t_4, ht_4, hr⟩ := bindS hr
  refine q_call (vs := [(.agg #[(.int .i64 p_a.Ratio.Num), (.int .i64 p_a.Ratio.Den)]), (.agg #[(.int .i64 p_b.Ratio.Num), (.int .i64 p_b.Ratio.Den)])]) hF hS Try.func103 (by kernel_rfl) rfl rfl rfl (c_impl_MulFrac p_a.Ratio p_b.Ratio t_4 ht_4 _ m hS.vis) ?_
  rintro a w _ rfl hF hS
  refine q_x (v := (.tuple #[(.agg #[(.int .i64 t_4.1.Num), (.int .i64 t_4.1.Den)]), (.bool t_4.2)])) hF hS (ex_move rfl) rfl rfl fun a hF => ?_
  refine q_x (v := (.agg #[(.int .i64 t_4.1.Num), (.int .i64 t_4.1.Den)])) hF hS (ex_extract rfl rfl) rfl rfl fun a hF => ?_
  refine q_x (v := (.bool t_4.2)) hF hS (ex_extract rfl rfl) rfl rfl fun a hF => ?_
  refine q_alloc (cs := [(.int .i64 0), (.int .i64 0)]) hF hS rfl rfl rfl fun a w b5 hF hS => ?_
  refine q_store (vs := [(.int .i64 t_4.1.Num), (.int .i64 t_4.1.Den)]) (cs' := [(.int .i64 t_4.1.Num), (.int .i64 t_4.1.Den)]) 0 0 hF hS sz24 rfl rfl rfl rfl rfl rfl rfl rfl fun a w hF hS => ?_
  refine q_x (v := (.bool t_4.2)) hF hS (ex_assign rfl) rfl rfl fun a hF => ?_
  refine q_end (n_sq ?_)
  refine q_seq ?_
  refine q_seq ?_
  refine q_region ?_
  refine q_x (v := (.bool t_4.2)) hF hS (ex_move rfl) rfl rfl fun a hF => ?_
  refine q_x (v := (.bool (!t_4.2))) hF hS (ex_not rfl) rfl rfl fun a hF => ?_
  refine q_end (n_sq ?_)
  rcases hc1 : (!t_4.2) with _ | _
  · have hr := cond_f hc1 hr
    refine q_cond_f hF rfl hc1 ?_
    refine q_skipc (n_sq ?_)
    refine q_seq ?_
    refine q_region ?_
    refine q_x (v := (.pointer (some ⟨b1, 2, none⟩))) hF hS (ex_fieldAddr Try.underlying26 rfl sz24 rfl rfl) rfl rfl fun a hF => ?_
    refine q_x (v := (.agg #[(.int .i64 p_a.Rho.Num), (.int .i64 p_a.Rho.Den)])) hF hS (ex_loadA (vs := [(.int .i64 p_a.Rho.Num), (.int .i64 p_a.Rho.Den)]) 3 0 Try.underlying24 rfl sz24 rfl rfl rfl rfl) rfl rfl fun a hF => ?_
    refine q_x (v := (.pointer (some ⟨b2, 2, none⟩))) hF hS (ex_fieldAddr Try.underlying26 rfl sz24 rfl rfl) rfl rfl fun a hF => ?_
    refine q_x (v := (.agg #[(.int .i64 p_b.Rho.Num), (.int .i64 p_b.Rho.Den)])) hF hS (ex_loadA (vs := [(.int .i64 p_b.Rho.Num), (.int .i64 p_b.Rho.Den)]) 2 0 Try.underlying24 rfl sz24 rfl rfl rfl rfl) rfl rfl fun a hF => ?_
    obtain ⟨t_6, ht_6, hr⟩ := bindS hr
    refine q_call (vs := [(.agg #[(.int .i64 p_a.Rho.Num), (.int .i64 p_a.Rho.Den)]), (.agg #[(.int .i64 p_b.Rho.Num), (.int .i64 p_b.Rho.Den)])]) hF hS Try.func118 (by kernel_rfl) rfl rfl rfl (c_impl_AddFrac p_a.Rho p_b.Rho t_6 ht_6 _ m hS.vis) ?_
    rintro a w _ rfl hF hS
    refine q_x (v := (.tuple #[(.agg #[(.int .i64 t_6.1.Num), (.int .i64 t_6.1.Den)]), (.bool t_6.2)])) hF hS (ex_move rfl) rfl rfl fun a hF => ?_
    refine q_x (v := (.agg #[(.int .i64 t_6.1.Num), (.int .i64 t_6.1.Den)])) hF hS (ex_extract rfl rfl) rfl rfl fun a hF => ?_
    refine q_x (v := (.bool t_6.2)) hF hS (ex_extract rfl rfl) rfl rfl fun a hF => ?_
    refine q_alloc (cs := [(.int .i64 0), (.int .i64 0)]) hF hS rfl rfl rfl fun a w b7 hF hS => ?_
    refine q_store (vs := [(.int .i64 t_6.1.Num), (.int .i64 t_6.1.Den)]) (cs' := [(.int .i64 t_6.1.Num), (.int .i64 t_6.1.Den)]) 0 0 hF hS sz24 rfl rfl rfl rfl rfl rfl rfl rfl fun a w hF hS => ?_
    refine q_x (v := (.bool t_6.2)) hF hS (ex_assign rfl) rfl rfl fun a hF => ?_
    refine q_end (n_sq ?_)
    refine q_seq ?_
    refine q_seq ?_
    refine q_region ?_
    refine q_x (v := (.bool t_6.2)) hF hS (ex_move rfl) rfl rfl fun a hF => ?_
    refine q_x (v := (.bool (!t_6.2))) hF hS (ex_not rfl) rfl rfl fun a hF => ?_
    refine q_end (n_sq ?_)
    rcases hc2 : (!t_6.2) with _ | _
    · have hr := cond_f hc2 hr
      refine q_cond_f hF rfl hc2 ?_
      refine q_skipc (n_sq ?_)
      refine q_seq ?_
      refine q_region ?_
      refine q_x (v := (.agg #[(.int .i64 t_4.1.Num), (.int .i64 t_4.1.Den)])) hF hS (ex_loadA (vs := [(.int .i64 t_4.1.Num), (.int .i64 t_4.1.Den)]) 1 0 Try.underlying24 rfl sz24 rfl rfl rfl rfl) rfl rfl fun a hF => ?_
      refine q_x (v := (.agg #[(.int .i64 t_6.1.Num), (.int .i64 t_6.1.Den)])) hF hS (ex_loadA (vs := [(.int .i64 t_6.1.Num), (.int .i64 t_6.1.Den)]) 0 0 Try.underlying24 rfl sz24 rfl rfl rfl rfl) rfl rfl fun a hF => ?_
      refine q_x (v := (.agg #[(.int .i64 t_4.1.Num), (.int .i64 t_4.1.Den), (.int .i64 t_6.1.Num), (.int .i64 t_6.1.Den)])) hF hS (ex_build (cells := [(.int .i64 t_4.1.Num), (.int .i64 t_4.1.Den), (.int .i64 t_6.1.Num), (.int .i64 t_6.1.Den)]) rfl (by kernel_rfl)) rfl rfl fun a hF => ?_
      refine q_store (vs := [(.int .i64 t_4.1.Num), (.int .i64 t_4.1.Den), (.int .i64 t_6.1.Num), (.int .i64 t_6.1.Den)]) (cs' := [(.int .i64 t_4.1.Num), (.int .i64 t_4.1.Den), (.int .i64 t_6.1.Num), (.int .i64 t_6.1.Den)]) 2 0 hF hS sz26 rfl rfl rfl rfl rfl rfl rfl rfl fun a w hF hS => ?_
      refine q_x (v := (.bool true)) hF hS (ex_assign rfl) rfl rfl fun a hF => ?_
      refine q_end (n_sq (q_ret ?_))
      obtain rfl := someI hr
      exact ret_of hF hS rfl (.cellA (us := [(.int .i64 t_4.1.Num), (.int .i64 t_4.1.Den), (.int .i64 t_6.1.Num), (.int .i64 t_6.1.Den)]) 2 0 Try.underlying26 rfl sz26 rfl rfl rfl rfl (.tmp rfl .nil)) rfl
    · have hr := cond_t hc2 hr
      refine q_cond_t hF rfl hc2 ?_
      refine q_seq ?_
      refine q_region ?_
      refine q_x (v := (.agg #[(.int .i64 0), (.int .i64 0), (.int .i64 0), (.int .i64 0)])) hF hS (ex_build (cells := [(.int .i64 0), (.int .i64 0), (.int .i64 0), (.int .i64 0)]) rfl (by kernel_rfl)) rfl rfl fun a hF => ?_
      refine q_store (vs := [(.int .i64 0), (.int .i64 0), (.int .i64 0), (.int .i64 0)]) (cs' := [(.int .i64 0), (.int .i64 0), (.int .i64 0), (.int .i64 0)]) 2 0 hF hS sz26 rfl rfl rfl rfl rfl rfl rfl rfl fun a w hF hS => ?_
      refine q_x (v := (.bool false)) hF hS (ex_assign rfl) rfl rfl fun a hF => ?_
      refine q_end (n_sq (q_ret (r_sq ?_)))
      obtain rfl := someI hr
      exact ret_of hF hS rfl (.cellA (us := [(.int .i64 0), (.int .i64 0), (.int .i64 0), (.int .i64 0)]) 2 0 Try.underlying26 rfl sz26 rfl rfl rfl rfl (.tmp rfl .nil)) rfl
  · have hr := cond_t hc1 hr
    refine q_cond_t hF rfl hc1 ?_
    refine q_seq ?_
    refine q_region ?_
    refine q_x (v := (.agg #[(.int .i64 0), (.int .i64 0), (.int .i64 0), (.int .i64 0)])) hF hS (ex_build (cells := [(.int .i64 0), (.int .i64 0), (.int .i64 0), (.int .i64 0)]) rfl (by kernel_rfl)) rfl rfl fun a hF => ?_
    refine q_store (vs := [(.int .i64 0), (.int .i64 0), (.int .i64 0), (.int .i64 0)]) (cs' := [(.int .i64 0), (.int .i64 0), (.int .i64 0), (.int .i64 0)]) 1 0 hF hS sz26 rfl rfl rfl rfl rfl rfl rfl rfl fun a w hF hS => ?_
    refine q_x (v := (.bool false)) hF hS (ex_assign rfl) rfl rfl fun a hF => ?_
    refine q_end (n_sq (q_ret (r_sq ?_)))
    obtain rfl := someI hr
    exact ret_of hF hS rfl (.cellA (us := [(.int .i64 0), (.int .i64 0), (.int .i64 0), (.int .i64 0)]) 1 0 Try.underlying26 rfl sz26 rfl rfl rfl rfl (.tmp rfl .nil)) rfl

theorem c_impl_usesFrom (p_budget : impl_Loss) (p_start : impl_Loss) (p_x : impl_Loss) (p_most : Int) (r : Int) (hr : impl_usesFrom p_budget p_start p_x p_most = some r) (w0 : World) (m : Mem) (hv : Vis m w0) :
    Ret Try.prog 90 [(.agg #[(.int .i64 p_budget.Ratio.Num), (.int .i64 p_budget.Ratio.Den), (.int .i64 p_budget.Rho.Num), (.int .i64 p_budget.Rho.Den)]), (.agg #[(.int .i64 p_start.Ratio.Num), (.int .i64 p_start.Ratio.Den), (.int .i64 p_start.Rho.Num), (.int .i64 p_start.Rho.Den)]), (.agg #[(.int .i64 p_x.Ratio.Num), (.int .i64 p_x.Ratio.Den), (.int .i64 p_x.Rho.Num), (.int .i64 p_x.Rho.Den)]), (.int .i64 p_most)] w0 (fun v _ => v = (.int .i64 r)) := by
  unfold impl_usesFrom at hr
  refine ret_start Try.func90 rfl 34 rfl rfl m hv fun a hF hS => ?_
  refine q_seq ?_
  refine q_region ?_
  refine q_box (cs := [(.int .i64 p_budget.Ratio.Num), (.int .i64 p_budget.Ratio.Den), (.int .i64 p_budget.Rho.Num), (.int .i64 p_budget.Rho.Den)]) hF hS rfl rfl rfl fun a w b1 hF hS => ?_
  refine q_box (cs := [(.int .i64 p_start.Ratio.Num), (.int .i64 p_start.Ratio.Den), (.int .i64 p_start.Rho.Num), (.int .i64 p_start.Rho.Den)]) hF hS rfl rfl rfl fun a w b2 hF hS => ?_
  refine q_box (cs := [(.int .i64 p_x.Ratio.Num), (.int .i64 p_x.Ratio.Den), (.int .i64 p_x.Rho.Num), (.int .i64 p_x.Rho.Den)]) hF hS rfl rfl rfl fun a w b3 hF hS => ?_
  refine q_x (v := (.int .i64 0)) hF hS (ex_assign rfl) rfl rfl fun a hF => ?_
  refine q_end (n_sq ?_)
  refine q_seq ?_
  refine q_seq ?_
  refine q_region ?_
  refine q_x (v := (.int .i64 p_most)) hF hS (ex_move rfl) rfl rfl fun a hF => ?_
  refine q_x (v := (.int .i64 0)) hF hS (ex_move rfl) rfl rfl fun a hF => ?_
  refine q_end (n_sq ?_)
  refine q_block ?_
  obtain ⟨o1, hl1, hr⟩ := bindS hr
  refine q_loop (fun (s : Int × impl_Loss) a w => ∃ t_4, ∃ start_5, s = (t_4, start_5) ∧ Fr a 34 [(3, (.int .i64 p_most)), (4, (.pointer (some ⟨b1, 0, none⟩))), (5, (.pointer (some ⟨b2, 0, none⟩))), (6, (.pointer (some ⟨b3, 0, none⟩))), (12, (.int .i64 p_most)), (13, (.int .i64 t_4))] ∧ St [] w0 w m [[⟨b3, [(.int .i64 p_x.Ratio.Num), (.int .i64 p_x.Ratio.Den), (.int .i64 p_x.Rho.Num), (.int .i64 p_x.Rho.Den)], 26⟩], [⟨b2, [(.int .i64 start_5.Ratio.Num), (.int .i64 start_5.Ratio.Den), (.int .i64 start_5.Rho.Num), (.int .i64 start_5.Rho.Den)], 26⟩], [⟨b1, [(.int .i64 p_budget.Ratio.Num), (.int .i64 p_budget.Ratio.Den), (.int .i64 p_budget.Rho.Num), (.int .i64 p_budget.Rho.Den)], 26⟩]]) (fun (o : (Unit) ⊕ (Int)) e a w => o = .inl () ∧ e = .exit 0 ∧ Fr a 34 [(3, (.int .i64 p_most))] ∧ St [] w0 w m []) hl1 ⟨_, _, rfl, hF.sub ⟨rfl, rfl, rfl, rfl, rfl, rfl, trivial⟩, hS⟩ ?_ ?_
  · clear hF hS
    rintro s a w st ⟨t_4, start_5, rfl, hF, hS⟩ hb1
    unfold impl_usesFrom_l1 at hb1
    refine q_seq ?_
    refine q_region ?_
    refine q_x (v := (.bool (decide (t_4 < p_most)))) hF hS (ex_ibin rfl rfl rfl) rfl rfl fun a hF => ?_
    refine q_end (n_sq ?_)
    refine q_seq ?_
    rcases hc2 : (decide (t_4 < p_most)) with _ | _
    · have hb1 := cond_f hc2 hb1
      refine q_cond_f hF rfl hc2 ?_
      refine q_exit (x_sq ?_)
      obtain rfl := someI hb1
      exact ⟨nofun, .inl ⟨rfl, rfl, hF.sub ⟨rfl, trivial⟩, hS.mask [false, false, false]⟩⟩
    · have hb1 := cond_t hc2 hb1
      refine q_cond_t hF rfl hc2 ?_
      refine q_skipc (n_sq ?_)
      refine q_seq ?_
      refine q_block ?_
      refine q_seq ?_
      refine q_region ?_
      refine q_x (v := (.int .i64 t_4)) hF hS (ex_move rfl) rfl rfl fun a hF => ?_
      refine q_x (v := (.int .i64 t_4)) hF hS (ex_assign rfl) rfl rfl fun a hF => ?_
      refine q_end (n_sq ?_)
      refine q_seq ?_
      refine q_region ?_
      refine q_x (v := (.agg #[(.int .i64 start_5.Ratio.Num), (.int .i64 start_5.Ratio.Den), (.int .i64 start_5.Rho.Num), (.int .i64 start_5.Rho.Den)])) hF hS (ex_loadA (vs := [(.int .i64 start_5.Ratio.Num), (.int .i64 start_5.Ratio.Den), (.int .i64 start_5.Rho.Num), (.int .i64 start_5.Rho.Den)]) 1 0 Try.underlying26 rfl sz26 rfl rfl rfl rfl) rfl rfl fun a hF => ?_
      refine q_x (v := (.agg #[(.int .i64 p_x.Ratio.Num), (.int .i64 p_x.Ratio.Den), (.int .i64 p_x.Rho.Num), (.int .i64 p_x.Rho.Den)])) hF hS (ex_loadA (vs := [(.int .i64 p_x.Ratio.Num), (.int .i64 p_x.Ratio.Den), (.int .i64 p_x.Rho.Num), (.int .i64 p_x.Rho.Den)]) 0 0 Try.underlying26 rfl sz26 rfl rfl rfl rfl) rfl rfl fun a hF => ?_
      obtain ⟨t_6, ht_6, hb1⟩ := bindS hb1
      refine q_call (vs := [(.agg #[(.int .i64 start_5.Ratio.Num), (.int .i64 start_5.Ratio.Den), (.int .i64 start_5.Rho.Num), (.int .i64 start_5.Rho.Den)]), (.agg #[(.int .i64 p_x.Ratio.Num), (.int .i64 p_x.Ratio.Den), (.int .i64 p_x.Rho.Num), (.int .i64 p_x.Rho.Den)])]) hF hS Try.func93 (by kernel_rfl) rfl rfl rfl (c_impl_composed start_5 p_x t_6 ht_6 _ m hS.vis) ?_
      rintro a w _ rfl hF hS
      refine q_x (v := (.tuple #[(.agg #[(.int .i64 t_6.1.Ratio.Num), (.int .i64 t_6.1.Ratio.Den), (.int .i64 t_6.1.Rho.Num), (.int .i64 t_6.1.Rho.Den)]), (.bool t_6.2)])) hF hS (ex_move rfl) rfl rfl fun a hF => ?_
      refine q_x (v := (.agg #[(.int .i64 t_6.1.Ratio.Num), (.int .i64 t_6.1.Ratio.Den), (.int .i64 t_6.1.Rho.Num), (.int .i64 t_6.1.Rho.Den)])) hF hS (ex_extract rfl rfl) rfl rfl fun a hF => ?_
      refine q_x (v := (.bool t_6.2)) hF hS (ex_extract rfl rfl) rfl rfl fun a hF => ?_
      refine q_alloc (cs := [(.int .i64 0), (.int .i64 0), (.int .i64 0), (.int .i64 0)]) hF hS rfl rfl rfl fun a w b7 hF hS => ?_
      refine q_store (vs := [(.int .i64 t_6.1.Ratio.Num), (.int .i64 t_6.1.Ratio.Den), (.int .i64 t_6.1.Rho.Num), (.int .i64 t_6.1.Rho.Den)]) (cs' := [(.int .i64 t_6.1.Ratio.Num), (.int .i64 t_6.1.Ratio.Den), (.int .i64 t_6.1.Rho.Num), (.int .i64 t_6.1.Rho.Den)]) 0 0 hF hS sz26 rfl rfl rfl rfl rfl rfl rfl rfl fun a w hF hS => ?_
      refine q_x (v := (.bool t_6.2)) hF hS (ex_assign rfl) rfl rfl fun a hF => ?_
      refine q_end (n_sq ?_)
      refine q_seq ?_
      refine q_seq ?_
      obtain ⟨t_9, hj3, hb1⟩ := bindS hb1
      refine q_join (fun a w => Fr a 34 [(3, (.int .i64 p_most)), (4, (.pointer (some ⟨b1, 0, none⟩))), (5, (.pointer (some ⟨b2, 0, none⟩))), (6, (.pointer (some ⟨b3, 0, none⟩))), (9, (.int .i64 t_4)), (10, (.pointer (some ⟨b7, 0, none⟩))), (12, (.int .i64 p_most)), (13, (.int .i64 t_4)), (29, (.bool t_9))] ∧ St [] w0 w m [[⟨b7, [(.int .i64 t_6.1.Ratio.Num), (.int .i64 t_6.1.Ratio.Den), (.int .i64 t_6.1.Rho.Num), (.int .i64 t_6.1.Rho.Den)], 26⟩], [⟨b3, [(.int .i64 p_x.Ratio.Num), (.int .i64 p_x.Ratio.Den), (.int .i64 p_x.Rho.Num), (.int .i64 p_x.Rho.Den)], 26⟩], [⟨b2, [(.int .i64 start_5.Ratio.Num), (.int .i64 start_5.Ratio.Den), (.int .i64 start_5.Rho.Num), (.int .i64 start_5.Rho.Den)], 26⟩], [⟨b1, [(.int .i64 p_budget.Ratio.Num), (.int .i64 p_budget.Ratio.Den), (.int .i64 p_budget.Rho.Num), (.int .i64 p_budget.Rho.Den)], 26⟩]]) ?_ ?_
      · refine q_region ?_
        refine q_x (v := (.bool t_6.2)) hF hS (ex_move rfl) rfl rfl fun a hF => ?_
        refine q_x (v := (.bool (!t_6.2))) hF hS (ex_not rfl) rfl rfl fun a hF => ?_
        refine q_x (v := (.bool (!t_6.2))) hF hS (ex_move rfl) rfl rfl fun a hF => ?_
        rcases hc4 : (!t_6.2) with _ | _
        · have hj3 := cond_f hc4 hj3
          refine q_xg (v := (.agg #[(.int .i64 p_budget.Ratio.Num), (.int .i64 p_budget.Ratio.Den), (.int .i64 p_budget.Rho.Num), (.int .i64 p_budget.Rho.Den)])) hF hS (ex_loadA (vs := [(.int .i64 p_budget.Ratio.Num), (.int .i64 p_budget.Ratio.Den), (.int .i64 p_budget.Rho.Num), (.int .i64 p_budget.Rho.Den)]) 3 0 Try.underlying26 rfl sz26 rfl rfl rfl rfl) (wanted_t hF rfl rfl rfl hc4) rfl fun a hF => ?_
          refine q_xg (v := (.agg #[(.int .i64 t_6.1.Ratio.Num), (.int .i64 t_6.1.Ratio.Den), (.int .i64 t_6.1.Rho.Num), (.int .i64 t_6.1.Rho.Den)])) hF hS (ex_loadA (vs := [(.int .i64 t_6.1.Ratio.Num), (.int .i64 t_6.1.Ratio.Den), (.int .i64 t_6.1.Rho.Num), (.int .i64 t_6.1.Rho.Den)]) 0 0 Try.underlying26 rfl sz26 rfl rfl rfl rfl) (wanted_t hF rfl rfl rfl hc4) rfl fun a hF => ?_
          obtain ⟨t_8, ht_8, hj3⟩ := bindS hj3
          refine q_callg (vs := [(.agg #[(.int .i64 p_budget.Ratio.Num), (.int .i64 p_budget.Ratio.Den), (.int .i64 p_budget.Rho.Num), (.int .i64 p_budget.Rho.Den)]), (.agg #[(.int .i64 t_6.1.Ratio.Num), (.int .i64 t_6.1.Ratio.Den), (.int .i64 t_6.1.Rho.Num), (.int .i64 t_6.1.Rho.Den)])]) hF hS (wanted_t hF rfl rfl rfl hc4) Try.func79 (by kernel_rfl) rfl rfl rfl (c_impl_isWithin p_budget t_6.1 t_8 ht_8 _ m hS.vis) ?_
          rintro a w _ rfl hF hS
          refine q_xg (v := (.bool (!t_8))) hF hS (ex_not rfl) (wanted_t hF rfl rfl rfl hc4) rfl fun a hF => ?_
          refine q_x (v := (.bool (!t_8))) hF hS (ex_pick_f rfl rfl hc4) rfl rfl fun a hF => ?_
          refine q_end (n_jn ?_)
          obtain rfl := someI hj3
          exact ⟨hF.sub ⟨rfl, rfl, rfl, rfl, rfl, rfl, rfl, rfl, rfl, trivial⟩, hS⟩
        · have hj3 := cond_t hc4 hj3
          refine q_skip hF (wanted_f hF rfl rfl rfl hc4 rfl) rfl fun a hF => ?_
          refine q_skip hF (wanted_f hF rfl rfl rfl hc4 rfl) rfl fun a hF => ?_
          refine q_skip hF (wanted_f hF rfl rfl rfl hc4 rfl) rfl fun a hF => ?_
          refine q_skip hF (wanted_f hF rfl rfl rfl hc4 rfl) rfl fun a hF => ?_
          refine q_x (v := (.bool true)) hF hS (ex_pick_t rfl rfl hc4) rfl rfl fun a hF => ?_
          refine q_end (n_jn ?_)
          obtain rfl := someI hj3
          exact ⟨hF.sub ⟨rfl, rfl, rfl, rfl, rfl, rfl, rfl, rfl, rfl, trivial⟩, hS⟩
      · rintro a w ⟨hF, hS⟩
        refine n_sq ?_
        rcases hc5 : (t_9) with _ | _
        · have hb1 := cond_f hc5 hb1
          refine q_cond_f hF rfl hc5 ?_
          refine q_skipc (n_sq ?_)
          refine q_region ?_
          refine q_x (v := (.agg #[(.int .i64 t_6.1.Ratio.Num), (.int .i64 t_6.1.Ratio.Den), (.int .i64 t_6.1.Rho.Num), (.int .i64 t_6.1.Rho.Den)])) hF hS (ex_loadA (vs := [(.int .i64 t_6.1.Ratio.Num), (.int .i64 t_6.1.Ratio.Den), (.int .i64 t_6.1.Rho.Num), (.int .i64 t_6.1.Rho.Den)]) 0 0 Try.underlying26 rfl sz26 rfl rfl rfl rfl) rfl rfl fun a hF => ?_
          refine q_store (vs := [(.int .i64 t_6.1.Ratio.Num), (.int .i64 t_6.1.Ratio.Den), (.int .i64 t_6.1.Rho.Num), (.int .i64 t_6.1.Rho.Den)]) (cs' := [(.int .i64 t_6.1.Ratio.Num), (.int .i64 t_6.1.Ratio.Den), (.int .i64 t_6.1.Rho.Num), (.int .i64 t_6.1.Rho.Den)]) 2 0 hF hS sz26 rfl rfl rfl rfl rfl rfl rfl rfl fun a w hF hS => ?_
          refine q_end (n_ib (n_sq ?_))
          refine q_region ?_
          refine q_x (v := (.int .i64 (w64 (t_4 + 1)))) hF hS (ex_ibin rfl rfl rfl) rfl rfl fun a hF => ?_
          refine q_x (v := (.int .i64 (w64 (t_4 + 1)))) hF hS (ex_move rfl) rfl rfl fun a hF => ?_
          refine q_end ?_
          obtain rfl := someI hb1
          exact ⟨rfl, _, _, rfl, hF.sub ⟨rfl, rfl, rfl, rfl, rfl, rfl, trivial⟩, hS.mask [false, true, true, true]⟩
        · have hb1 := cond_t hc5 hb1
          refine q_cond_t hF rfl hc5 ?_
          refine q_seq ?_
          refine q_region ?_
          refine q_x (v := (.int .i64 t_4)) hF hS (ex_move rfl) rfl rfl fun a hF => ?_
          refine q_x (v := (.int .i64 t_4)) hF hS (ex_assign rfl) rfl rfl fun a hF => ?_
          refine q_end (n_sq (q_ret (r_sq (r_ib (r_sq ?_)))))
          obtain rfl := someI hb1
          refine ⟨nofun, .inr fun ho => ?_⟩
          subst ho
          refine r_ib (r_sq ?_)
          obtain rfl := someI hr
          exact ret_of hF hS rfl (.tmp rfl .nil) rfl
  · rintro e a w ⟨rfl, rfl, hF, hS⟩
    refine x_ib (n_sq ?_)
    refine q_seq ?_
    refine q_region ?_
    refine q_x (v := (.int .i64 p_most)) hF hS (ex_move rfl) rfl rfl fun a hF => ?_
    refine q_x (v := (.int .i64 p_most)) hF hS (ex_assign rfl) rfl rfl fun a hF => ?_
    refine q_end (n_sq (q_ret ?_))
    obtain rfl := someI hr
    exact ret_of hF hS rfl (.tmp rfl .nil) rfl

theorem c_impl_CountUses (p_budget : impl_Loss) (p_x : impl_Loss) (r : Int × Bool) (hr : impl_CountUses p_budget p_x = some r) (w0 : World) (m : Mem) (hv : Vis m w0) :
    Ret Try.prog 13 [(.agg #[(.int .i64 p_budget.Ratio.Num), (.int .i64 p_budget.Ratio.Den), (.int .i64 p_budget.Rho.Num), (.int .i64 p_budget.Rho.Den)]), (.agg #[(.int .i64 p_x.Ratio.Num), (.int .i64 p_x.Ratio.Den), (.int .i64 p_x.Rho.Num), (.int .i64 p_x.Rho.Den)])] w0 (fun v _ => v = (.tuple #[(.int .i64 r.1), (.bool r.2)])) := by
  unfold impl_CountUses at hr
  refine ret_start Try.func13 rfl 18 rfl rfl m hv fun a hF hS => ?_
  refine q_seq ?_
  refine q_region ?_
  refine q_box (cs := [(.int .i64 p_budget.Ratio.Num), (.int .i64 p_budget.Ratio.Den), (.int .i64 p_budget.Rho.Num), (.int .i64 p_budget.Rho.Den)]) hF hS rfl rfl rfl fun a w b1 hF hS => ?_
  refine q_box (cs := [(.int .i64 p_x.Ratio.Num), (.int .i64 p_x.Ratio.Den), (.int .i64 p_x.Rho.Num), (.int .i64 p_x.Rho.Den)]) hF hS rfl rfl rfl fun a w b2 hF hS => ?_
  refine q_x (v := (.int .i64 0)) hF hS (ex_assign rfl) rfl rfl fun a hF => ?_
  refine q_x (v := (.bool false)) hF hS (ex_assign rfl) rfl rfl fun a hF => ?_
  refine q_end (n_sq ?_)
  refine q_seq ?_
  refine q_seq ?_
  obtain ⟨t_5, hj1, hr⟩ := bindS hr
  refine q_join (fun a w => Fr a 18 [(2, (.pointer (some ⟨b1, 0, none⟩))), (3, (.pointer (some ⟨b2, 0, none⟩))), (13, (.bool t_5))] ∧ St [] w0 w m [[⟨b2, [(.int .i64 p_x.Ratio.Num), (.int .i64 p_x.Ratio.Den), (.int .i64 p_x.Rho.Num), (.int .i64 p_x.Rho.Den)], 26⟩], [⟨b1, [(.int .i64 p_budget.Ratio.Num), (.int .i64 p_budget.Ratio.Den), (.int .i64 p_budget.Rho.Num), (.int .i64 p_budget.Rho.Den)], 26⟩]]) ?_ ?_
  · refine q_region ?_
    refine q_x (v := (.agg #[(.int .i64 p_budget.Ratio.Num), (.int .i64 p_budget.Ratio.Den), (.int .i64 p_budget.Rho.Num), (.int .i64 p_budget.Rho.Den)])) hF hS (ex_loadA (vs := [(.int .i64 p_budget.Ratio.Num), (.int .i64 p_budget.Ratio.Den), (.int .i64 p_budget.Rho.Num), (.int .i64 p_budget.Rho.Den)]) 1 0 Try.underlying26 rfl sz26 rfl rfl rfl rfl) rfl rfl fun a hF => ?_
    obtain ⟨t_3, ht_3, hj1⟩ := bindS hj1
    refine q_call (vs := [(.agg #[(.int .i64 p_budget.Ratio.Num), (.int .i64 p_budget.Ratio.Den), (.int .i64 p_budget.Rho.Num), (.int .i64 p_budget.Rho.Den)])]) hF hS Try.func17 (by kernel_rfl) rfl rfl rfl (c_impl_IsLoss p_budget t_3 ht_3 _ m hS.vis) ?_
    rintro a w _ rfl hF hS
    refine q_x (v := (.bool (!t_3))) hF hS (ex_not rfl) rfl rfl fun a hF => ?_
    refine q_x (v := (.bool (!t_3))) hF hS (ex_move rfl) rfl rfl fun a hF => ?_
    rcases hc2 : (!t_3) with _ | _
    · have hj1 := cond_f hc2 hj1
      refine q_xg (v := (.agg #[(.int .i64 p_x.Ratio.Num), (.int .i64 p_x.Ratio.Den), (.int .i64 p_x.Rho.Num), (.int .i64 p_x.Rho.Den)])) hF hS (ex_loadA (vs := [(.int .i64 p_x.Ratio.Num), (.int .i64 p_x.Ratio.Den), (.int .i64 p_x.Rho.Num), (.int .i64 p_x.Rho.Den)]) 0 0 Try.underlying26 rfl sz26 rfl rfl rfl rfl) (wanted_t hF rfl rfl rfl hc2) rfl fun a hF => ?_
      obtain ⟨t_4, ht_4, hj1⟩ := bindS hj1
      refine q_callg (vs := [(.agg #[(.int .i64 p_x.Ratio.Num), (.int .i64 p_x.Ratio.Den), (.int .i64 p_x.Rho.Num), (.int .i64 p_x.Rho.Den)])]) hF hS (wanted_t hF rfl rfl rfl hc2) Try.func17 (by kernel_rfl) rfl rfl rfl (c_impl_IsLoss p_x t_4 ht_4 _ m hS.vis) ?_
      rintro a w _ rfl hF hS
      refine q_xg (v := (.bool (!t_4))) hF hS (ex_not rfl) (wanted_t hF rfl rfl rfl hc2) rfl fun a hF => ?_
      refine q_x (v := (.bool (!t_4))) hF hS (ex_pick_f rfl rfl hc2) rfl rfl fun a hF => ?_
      refine q_end (n_jn ?_)
      obtain rfl := someI hj1
      exact ⟨hF.sub ⟨rfl, rfl, rfl, trivial⟩, hS⟩
    · have hj1 := cond_t hc2 hj1
      refine q_skip hF (wanted_f hF rfl rfl rfl hc2 rfl) rfl fun a hF => ?_
      refine q_skip hF (wanted_f hF rfl rfl rfl hc2 rfl) rfl fun a hF => ?_
      refine q_skip hF (wanted_f hF rfl rfl rfl hc2 rfl) rfl fun a hF => ?_
      refine q_x (v := (.bool true)) hF hS (ex_pick_t rfl rfl hc2) rfl rfl fun a hF => ?_
      refine q_end (n_jn ?_)
      obtain rfl := someI hj1
      exact ⟨hF.sub ⟨rfl, rfl, rfl, trivial⟩, hS⟩
  · rintro a w ⟨hF, hS⟩
    refine n_sq ?_
    rcases hc3 : (t_5) with _ | _
    · have hr := cond_f hc3 hr
      refine q_cond_f hF rfl hc3 ?_
      refine q_skipc (n_sq ?_)
      refine q_seq ?_
      refine e_region [] mixed fun w' hw' => ?_
      have hS := hS.below hw'
      refine e_x (v := (.agg #[(.int .i64 p_budget.Ratio.Num), (.int .i64 p_budget.Ratio.Den), (.int .i64 p_budget.Rho.Num), (.int .i64 p_budget.Rho.Den)])) 0 hF hS rfl (ex_loadA (vs := [(.int .i64 p_budget.Ratio.Num), (.int .i64 p_budget.Ratio.Den), (.int .i64 p_budget.Rho.Num), (.int .i64 p_budget.Rho.Den)]) 1 0 Try.underlying26 rfl sz26 rfl rfl rfl rfl) rfl rfl (by kernel_rfl) (by kernel_rfl) (by kernel_rfl) (by kernel_rfl) fun a hF => ?_
      refine e_x (v := (.agg #[(.int .i64 p_x.Ratio.Num), (.int .i64 p_x.Ratio.Den), (.int .i64 p_x.Rho.Num), (.int .i64 p_x.Rho.Den)])) 2 hF hS rfl (ex_loadA (vs := [(.int .i64 p_x.Ratio.Num), (.int .i64 p_x.Ratio.Den), (.int .i64 p_x.Rho.Num), (.int .i64 p_x.Rho.Den)]) 0 0 Try.underlying26 rfl sz26 rfl rfl rfl rfl) rfl rfl (by kernel_rfl) (by kernel_rfl) (by kernel_rfl) (by kernel_rfl) fun a hF => ?_
      refine e_one 1 (by kernel_rfl) ?_
      obtain ⟨t_7, ht_7, hr⟩ := bindS hr
      refine e_call (vs := []) hF hS rfl Try.func36 (by kernel_rfl) rfl rfl rfl (c_impl_NoLoss  t_7 ht_7 _ m hS.vis) ?_
      rintro a w _ rfl hF hS
      refine e_one 3 (by kernel_rfl) ?_
      obtain ⟨t_8, ht_8, hr⟩ := bindS hr
      refine e_call (vs := [(.agg #[(.int .i64 p_budget.Ratio.Num), (.int .i64 p_budget.Ratio.Den), (.int .i64 p_budget.Rho.Num), (.int .i64 p_budget.Rho.Den)]), (.agg #[(.int .i64 t_7.Ratio.Num), (.int .i64 t_7.Ratio.Den), (.int .i64 t_7.Rho.Num), (.int .i64 t_7.Rho.Den)]), (.agg #[(.int .i64 p_x.Ratio.Num), (.int .i64 p_x.Ratio.Den), (.int .i64 p_x.Rho.Num), (.int .i64 p_x.Rho.Den)]), (.int .i64 60)]) hF hS rfl Try.func90 (by kernel_rfl) rfl rfl rfl (c_impl_usesFrom p_budget t_7 p_x 60 t_8 ht_8 _ m hS.vis) ?_
      rintro a w _ rfl hF hS
      refine e_p (v := (.int .i64 t_8)) 4 hF rfl (ex_assign rfl) rfl rfl (by kernel_rfl) (by kernel_rfl) (by kernel_rfl) fun a hF => ?_
      refine e_p (v := (.bool true)) 5 hF rfl (ex_assign rfl) rfl rfl (by kernel_rfl) (by kernel_rfl) (by kernel_rfl) fun a hF => ?_
      refine e_end (by kernel_rfl) (n_sq (q_ret ?_)) _
      obtain rfl := someI hr
      exact ret_of hF hS rfl (.tmp rfl (.tmp rfl .nil)) rfl
    · have hr := cond_t hc3 hr
      refine q_cond_t hF rfl hc3 ?_
      refine q_seq ?_
      refine q_region ?_
      refine q_x (v := (.int .i64 0)) hF hS (ex_assign rfl) rfl rfl fun a hF => ?_
      refine q_x (v := (.bool false)) hF hS (ex_assign rfl) rfl rfl fun a hF => ?_
      refine q_end (n_sq (q_ret (r_sq ?_)))
      obtain rfl := someI hr
      exact ret_of hF hS rfl (.tmp rfl (.tmp rfl .nil)) rfl

theorem c_spec_fMul (p_a : impl_Frac) (p_b : impl_Frac) (r : impl_Frac × Bool) (hr : spec_fMul p_a p_b = some r) (w0 : World) (m : Mem) (hv : Vis m w0) :
    Ret Try.prog 106 [(.agg #[(.int .i64 p_a.Num), (.int .i64 p_a.Den)]), (.agg #[(.int .i64 p_b.Num), (.int .i64 p_b.Den)])] w0 (fun v _ => v = (.tuple #[(.agg #[(.int .i64 r.1.Num), (.int .i64 r.1.Den)]), (.bool r.2)])) := by
  unfold spec_fMul at hr
  refine ret_start Try.func106 rfl 19 rfl rfl m hv fun a hF hS => ?_
  refine q_seq ?_
  refine q_region ?_
  refine q_box (cs := [(.int .i64 p_a.Num), (.int .i64 p_a.Den)]) hF hS rfl rfl rfl fun a w b1 hF hS => ?_
  refine q_box (cs := [(.int .i64 p_b.Num), (.int .i64 p_b.Den)]) hF hS rfl rfl rfl fun a w b2 hF hS => ?_
  refine q_alloc (cs := [(.int .i64 0), (.int .i64 0)]) hF hS rfl rfl rfl fun a w b3 hF hS => ?_
  refine q_x (v := (.bool false)) hF hS (ex_assign rfl) rfl rfl fun a hF => ?_
  refine q_end (n_sq ?_)
  refine q_seq ?_
  refine q_region ?_
  refine q_x (v := (.pointer (some ⟨b1, 0, none⟩))) hF hS (ex_fieldAddr Try.underlying24 rfl sz3 rfl rfl) rfl rfl fun a hF => ?_
  refine q_x (v := (.int .i64 p_a.Num)) hF hS (ex_load1 2 0 Try.underlying3 rfl rfl rfl rfl) rfl rfl fun a hF => ?_
  refine q_x (v := (.pointer (some ⟨b2, 0, none⟩))) hF hS (ex_fieldAddr Try.underlying24 rfl sz3 rfl rfl) rfl rfl fun a hF => ?_
  refine q_x (v := (.int .i64 p_b.Num)) hF hS (ex_load1 1 0 Try.underlying3 rfl rfl rfl rfl) rfl rfl fun a hF => ?_
  refine q_x (v := (.int .i64 (w64 (p_a.Num * p_b.Num)))) hF hS (ex_ibin rfl rfl rfl) rfl rfl fun a hF => ?_
  refine q_x (v := (.pointer (some ⟨b1, 1, none⟩))) hF hS (ex_fieldAddr Try.underlying24 rfl sz3 rfl rfl) rfl rfl fun a hF => ?_
  refine q_x (v := (.int .i64 p_a.Den)) hF hS (ex_load1 2 0 Try.underlying3 rfl rfl rfl rfl) rfl rfl fun a hF => ?_
  refine q_x (v := (.pointer (some ⟨b2, 1, none⟩))) hF hS (ex_fieldAddr Try.underlying24 rfl sz3 rfl rfl) rfl rfl fun a hF => ?_
  refine q_x (v := (.int .i64 p_b.Den)) hF hS (ex_load1 1 0 Try.underlying3 rfl rfl rfl rfl) rfl rfl fun a hF => ?_
  refine q_x (v := (.int .i64 (w64 (p_a.Den * p_b.Den)))) hF hS (ex_ibin rfl rfl rfl) rfl rfl fun a hF => ?_
  obtain ⟨t_4, ht_4, hr⟩ := bindS hr
  refine q_call (vs := [(.int .i64 (w64 (p_a.Num * p_b.Num))), (.int .i64 (w64 (p_a.Den * p_b.Den)))]) hF hS Try.func117 (by kernel_rfl) rfl rfl rfl (c_spec_fMake (w64 (p_a.Num * p_b.Num)) (w64 (p_a.Den * p_b.Den)) t_4 ht_4 _ m hS.vis) ?_
  rintro a w _ rfl hF hS
  refine q_x (v := (.agg #[(.int .i64 t_4.1.Num), (.int .i64 t_4.1.Den)])) hF hS (ex_extract rfl rfl) rfl rfl fun a hF => ?_
  refine q_x (v := (.bool t_4.2)) hF hS (ex_extract rfl rfl) rfl rfl fun a hF => ?_
  refine q_store (vs := [(.int .i64 t_4.1.Num), (.int .i64 t_4.1.Den)]) (cs' := [(.int .i64 t_4.1.Num), (.int .i64 t_4.1.Den)]) 0 0 hF hS sz24 rfl rfl rfl rfl rfl rfl rfl rfl fun a w hF hS => ?_
  refine q_x (v := (.bool t_4.2)) hF hS (ex_assign rfl) rfl rfl fun a hF => ?_
  refine q_end (n_sq (q_ret ?_))
  obtain rfl := someI hr
  exact ret_of hF hS rfl (.cellA (us := [(.int .i64 t_4.1.Num), (.int .i64 t_4.1.Den)]) 0 0 Try.underlying24 rfl sz24 rfl rfl rfl rfl (.tmp rfl .nil)) rfl

theorem c_spec_fAdd (p_a : impl_Frac) (p_b : impl_Frac) (r : impl_Frac × Bool) (hr : spec_fAdd p_a p_b = some r) (w0 : World) (m : Mem) (hv : Vis m w0) :
    Ret Try.prog 156 [(.agg #[(.int .i64 p_a.Num), (.int .i64 p_a.Den)]), (.agg #[(.int .i64 p_b.Num), (.int .i64 p_b.Den)])] w0 (fun v _ => v = (.tuple #[(.agg #[(.int .i64 r.1.Num), (.int .i64 r.1.Den)]), (.bool r.2)])) := by
  unfold spec_fAdd at hr
  refine ret_start Try.func156 rfl 25 rfl rfl m hv fun a hF hS => ?_
  refine q_seq ?_
  refine q_region ?_
  refine q_box (cs := [(.int .i64 p_a.Num), (.int .i64 p_a.Den)]) hF hS rfl rfl rfl fun a w b1 hF hS => ?_
  refine q_box (cs := [(.int .i64 p_b.Num), (.int .i64 p_b.Den)]) hF hS rfl rfl rfl fun a w b2 hF hS => ?_
  refine q_alloc (cs := [(.int .i64 0), (.int .i64 0)]) hF hS rfl rfl rfl fun a w b3 hF hS => ?_
  refine q_x (v := (.bool false)) hF hS (ex_assign rfl) rfl rfl fun a hF => ?_
  refine q_end (n_sq ?_)
  refine q_seq ?_
  refine q_region ?_
  refine q_x (v := (.pointer (some ⟨b1, 0, none⟩))) hF hS (ex_fieldAddr Try.underlying24 rfl sz3 rfl rfl) rfl rfl fun a hF => ?_
  refine q_x (v := (.int .i64 p_a.Num)) hF hS (ex_load1 2 0 Try.underlying3 rfl rfl rfl rfl) rfl rfl fun a hF => ?_
  refine q_x (v := (.pointer (some ⟨b2, 1, none⟩))) hF hS (ex_fieldAddr Try.underlying24 rfl sz3 rfl rfl) rfl rfl fun a hF => ?_
  refine q_x (v := (.int .i64 p_b.Den)) hF hS (ex_load1 1 0 Try.underlying3 rfl rfl rfl rfl) rfl rfl fun a hF => ?_
  refine q_x (v := (.int .i64 (w64 (p_a.Num * p_b.Den)))) hF hS (ex_ibin rfl rfl rfl) rfl rfl fun a hF => ?_
  refine q_x (v := (.pointer (some ⟨b2, 0, none⟩))) hF hS (ex_fieldAddr Try.underlying24 rfl sz3 rfl rfl) rfl rfl fun a hF => ?_
  refine q_x (v := (.int .i64 p_b.Num)) hF hS (ex_load1 1 0 Try.underlying3 rfl rfl rfl rfl) rfl rfl fun a hF => ?_
  refine q_x (v := (.pointer (some ⟨b1, 1, none⟩))) hF hS (ex_fieldAddr Try.underlying24 rfl sz3 rfl rfl) rfl rfl fun a hF => ?_
  refine q_x (v := (.int .i64 p_a.Den)) hF hS (ex_load1 2 0 Try.underlying3 rfl rfl rfl rfl) rfl rfl fun a hF => ?_
  refine q_x (v := (.int .i64 (w64 (p_b.Num * p_a.Den)))) hF hS (ex_ibin rfl rfl rfl) rfl rfl fun a hF => ?_
  refine q_x (v := (.int .i64 (w64 ((w64 (p_a.Num * p_b.Den)) + (w64 (p_b.Num * p_a.Den)))))) hF hS (ex_ibin rfl rfl rfl) rfl rfl fun a hF => ?_
  refine q_x (v := (.pointer (some ⟨b1, 1, none⟩))) hF hS (ex_fieldAddr Try.underlying24 rfl sz3 rfl rfl) rfl rfl fun a hF => ?_
  refine q_x (v := (.int .i64 p_a.Den)) hF hS (ex_load1 2 0 Try.underlying3 rfl rfl rfl rfl) rfl rfl fun a hF => ?_
  refine q_x (v := (.pointer (some ⟨b2, 1, none⟩))) hF hS (ex_fieldAddr Try.underlying24 rfl sz3 rfl rfl) rfl rfl fun a hF => ?_
  refine q_x (v := (.int .i64 p_b.Den)) hF hS (ex_load1 1 0 Try.underlying3 rfl rfl rfl rfl) rfl rfl fun a hF => ?_
  refine q_x (v := (.int .i64 (w64 (p_a.Den * p_b.Den)))) hF hS (ex_ibin rfl rfl rfl) rfl rfl fun a hF => ?_
  obtain ⟨t_4, ht_4, hr⟩ := bindS hr
  refine q_call (vs := [(.int .i64 (w64 ((w64 (p_a.Num * p_b.Den)) + (w64 (p_b.Num * p_a.Den))))), (.int .i64 (w64 (p_a.Den * p_b.Den)))]) hF hS Try.func117 (by kernel_rfl) rfl rfl rfl (c_spec_fMake (w64 ((w64 (p_a.Num * p_b.Den)) + (w64 (p_b.Num * p_a.Den)))) (w64 (p_a.Den * p_b.Den)) t_4 ht_4 _ m hS.vis) ?_
  rintro a w _ rfl hF hS
  refine q_x (v := (.agg #[(.int .i64 t_4.1.Num), (.int .i64 t_4.1.Den)])) hF hS (ex_extract rfl rfl) rfl rfl fun a hF => ?_
  refine q_x (v := (.bool t_4.2)) hF hS (ex_extract rfl rfl) rfl rfl fun a hF => ?_
  refine q_store (vs := [(.int .i64 t_4.1.Num), (.int .i64 t_4.1.Den)]) (cs' := [(.int .i64 t_4.1.Num), (.int .i64 t_4.1.Den)]) 0 0 hF hS sz24 rfl rfl rfl rfl rfl rfl rfl rfl fun a w hF hS => ?_
  refine q_x (v := (.bool t_4.2)) hF hS (ex_assign rfl) rfl rfl fun a hF => ?_
  refine q_end (n_sq (q_ret ?_))
  obtain rfl := someI hr
  exact ret_of hF hS rfl (.cellA (us := [(.int .i64 t_4.1.Num), (.int .i64 t_4.1.Den)]) 0 0 Try.underlying24 rfl sz24 rfl rfl rfl rfl (.tmp rfl .nil)) rfl

theorem c_spec_pTwo (p_a : impl_Loss) (p_b : impl_Loss) (r : impl_Loss × Bool) (hr : spec_pTwo p_a p_b = some r) (w0 : World) (m : Mem) (hv : Vis m w0) :
    Ret Try.prog 91 [(.agg #[(.int .i64 p_a.Ratio.Num), (.int .i64 p_a.Ratio.Den), (.int .i64 p_a.Rho.Num), (.int .i64 p_a.Rho.Den)]), (.agg #[(.int .i64 p_b.Ratio.Num), (.int .i64 p_b.Ratio.Den), (.int .i64 p_b.Rho.Num), (.int .i64 p_b.Rho.Den)])] w0 (fun v _ => v = (.tuple #[(.agg #[(.int .i64 r.1.Ratio.Num), (.int .i64 r.1.Ratio.Den), (.int .i64 r.1.Rho.Num), (.int .i64 r.1.Rho.Den)]), (.bool r.2)])) := by
  unfold spec_pTwo at hr
  refine ret_start Try.func91 rfl 36 rfl rfl m hv fun a hF hS => ?_
  refine q_seq ?_
  refine q_region ?_
  refine q_box (cs := [(.int .i64 p_a.Ratio.Num), (.int .i64 p_a.Ratio.Den), (.int .i64 p_a.Rho.Num), (.int .i64 p_a.Rho.Den)]) hF hS rfl rfl rfl fun a w b1 hF hS => ?_
  refine q_box (cs := [(.int .i64 p_b.Ratio.Num), (.int .i64 p_b.Ratio.Den), (.int .i64 p_b.Rho.Num), (.int .i64 p_b.Rho.Den)]) hF hS rfl rfl rfl fun a w b2 hF hS => ?_
  refine q_alloc (cs := [(.int .i64 0), (.int .i64 0), (.int .i64 0), (.int .i64 0)]) hF hS rfl rfl rfl fun a w b3 hF hS => ?_
  refine q_x (v := (.bool false)) hF hS (ex_assign rfl) rfl rfl fun a hF => ?_
  refine q_end (n_sq ?_)
  refine q_seq ?_
  refine q_region ?_
  refine q_x (v := (.pointer (some ⟨b1, 0, none⟩))) hF hS (ex_fieldAddr Try.underlying26 rfl sz24 rfl rfl) rfl rfl fun a hF => ?_
  refine q_x (v := (.agg #[(.int .i64 p_a.Ratio.Num), (.int .i64 p_a.Ratio.Den)])) hF hS (ex_loadA (vs := [(.int .i64 p_a.Ratio.Num), (.int .i64 p_a.Ratio.Den)]) 2 0 Try.underlying24 rfl sz24 rfl rfl rfl rfl) rfl rfl fun a hF => ?_
  refine q_x (v := (.pointer (some ⟨b2, 0, none⟩))) hF hS (ex_fieldAddr Try.underlying26 rfl sz24 rfl rfl) rfl rfl fun a hF => ?_
  refine q_x (v := (.agg #[(.int .i64 p_b.Ratio.Num), (.int .i64 p_b.Ratio.Den)])) hF hS (ex_loadA (vs := [(.int .i64 p_b.Ratio.Num), (.int .i64 p_b.Ratio.Den)]) 1 0 Try.underlying24 rfl sz24 rfl rfl rfl rfl) rfl rfl fun a hF => ?_
  obtain ⟨t_4, ht_4, hr⟩ := bindS hr
  refine q_call (vs := [(.agg #[(.int .i64 p_a.Ratio.Num), (.int .i64 p_a.Ratio.Den)]), (.agg #[(.int .i64 p_b.Ratio.Num), (.int .i64 p_b.Ratio.Den)])]) hF hS Try.func106 (by kernel_rfl) rfl rfl rfl (c_spec_fMul p_a.Ratio p_b.Ratio t_4 ht_4 _ m hS.vis) ?_
  rintro a w _ rfl hF hS
  refine q_x (v := (.tuple #[(.agg #[(.int .i64 t_4.1.Num), (.int .i64 t_4.1.Den)]), (.bool t_4.2)])) hF hS (ex_move rfl) rfl rfl fun a hF => ?_
  refine q_x (v := (.agg #[(.int .i64 t_4.1.Num), (.int .i64 t_4.1.Den)])) hF hS (ex_extract rfl rfl) rfl rfl fun a hF => ?_
  refine q_x (v := (.bool t_4.2)) hF hS (ex_extract rfl rfl) rfl rfl fun a hF => ?_
  refine q_alloc (cs := [(.int .i64 0), (.int .i64 0)]) hF hS rfl rfl rfl fun a w b5 hF hS => ?_
  refine q_store (vs := [(.int .i64 t_4.1.Num), (.int .i64 t_4.1.Den)]) (cs' := [(.int .i64 t_4.1.Num), (.int .i64 t_4.1.Den)]) 0 0 hF hS sz24 rfl rfl rfl rfl rfl rfl rfl rfl fun a w hF hS => ?_
  refine q_x (v := (.bool t_4.2)) hF hS (ex_assign rfl) rfl rfl fun a hF => ?_
  refine q_end (n_sq ?_)
  refine q_seq ?_
  refine q_region ?_
  refine q_x (v := (.pointer (some ⟨b1, 2, none⟩))) hF hS (ex_fieldAddr Try.underlying26 rfl sz24 rfl rfl) rfl rfl fun a hF => ?_
  refine q_x (v := (.agg #[(.int .i64 p_a.Rho.Num), (.int .i64 p_a.Rho.Den)])) hF hS (ex_loadA (vs := [(.int .i64 p_a.Rho.Num), (.int .i64 p_a.Rho.Den)]) 3 0 Try.underlying24 rfl sz24 rfl rfl rfl rfl) rfl rfl fun a hF => ?_
  refine q_x (v := (.pointer (some ⟨b2, 2, none⟩))) hF hS (ex_fieldAddr Try.underlying26 rfl sz24 rfl rfl) rfl rfl fun a hF => ?_
  refine q_x (v := (.agg #[(.int .i64 p_b.Rho.Num), (.int .i64 p_b.Rho.Den)])) hF hS (ex_loadA (vs := [(.int .i64 p_b.Rho.Num), (.int .i64 p_b.Rho.Den)]) 2 0 Try.underlying24 rfl sz24 rfl rfl rfl rfl) rfl rfl fun a hF => ?_
  obtain ⟨t_6, ht_6, hr⟩ := bindS hr
  refine q_call (vs := [(.agg #[(.int .i64 p_a.Rho.Num), (.int .i64 p_a.Rho.Den)]), (.agg #[(.int .i64 p_b.Rho.Num), (.int .i64 p_b.Rho.Den)])]) hF hS Try.func156 (by kernel_rfl) rfl rfl rfl (c_spec_fAdd p_a.Rho p_b.Rho t_6 ht_6 _ m hS.vis) ?_
  rintro a w _ rfl hF hS
  refine q_x (v := (.tuple #[(.agg #[(.int .i64 t_6.1.Num), (.int .i64 t_6.1.Den)]), (.bool t_6.2)])) hF hS (ex_move rfl) rfl rfl fun a hF => ?_
  refine q_x (v := (.agg #[(.int .i64 t_6.1.Num), (.int .i64 t_6.1.Den)])) hF hS (ex_extract rfl rfl) rfl rfl fun a hF => ?_
  refine q_x (v := (.bool t_6.2)) hF hS (ex_extract rfl rfl) rfl rfl fun a hF => ?_
  refine q_alloc (cs := [(.int .i64 0), (.int .i64 0)]) hF hS rfl rfl rfl fun a w b7 hF hS => ?_
  refine q_store (vs := [(.int .i64 t_6.1.Num), (.int .i64 t_6.1.Den)]) (cs' := [(.int .i64 t_6.1.Num), (.int .i64 t_6.1.Den)]) 0 0 hF hS sz24 rfl rfl rfl rfl rfl rfl rfl rfl fun a w hF hS => ?_
  refine q_x (v := (.bool t_6.2)) hF hS (ex_assign rfl) rfl rfl fun a hF => ?_
  refine q_end (n_sq ?_)
  refine q_seq ?_
  refine q_seq ?_
  obtain ⟨t_8, hj1, hr⟩ := bindS hr
  refine q_join (fun a w => Fr a 36 [(4, (.pointer (some ⟨b3, 0, none⟩))), (6, (.pointer (some ⟨b5, 0, none⟩))), (8, (.pointer (some ⟨b7, 0, none⟩))), (31, (.bool t_8))] ∧ St [] w0 w m [[⟨b7, [(.int .i64 t_6.1.Num), (.int .i64 t_6.1.Den)], 24⟩], [⟨b5, [(.int .i64 t_4.1.Num), (.int .i64 t_4.1.Den)], 24⟩], [⟨b3, [(.int .i64 0), (.int .i64 0), (.int .i64 0), (.int .i64 0)], 26⟩]]) ?_ ?_
  · refine q_region ?_
    refine q_x (v := (.bool t_4.2)) hF hS (ex_move rfl) rfl rfl fun a hF => ?_
    refine q_x (v := (.bool (!t_4.2))) hF hS (ex_not rfl) rfl rfl fun a hF => ?_
    refine q_x (v := (.bool (!t_4.2))) hF hS (ex_move rfl) rfl rfl fun a hF => ?_
    rcases hc2 : (!t_4.2) with _ | _
    · have hj1 := cond_f hc2 hj1
      refine q_xg (v := (.bool t_6.2)) hF hS (ex_move rfl) (wanted_t hF rfl rfl rfl hc2) rfl fun a hF => ?_
      refine q_xg (v := (.bool (!t_6.2))) hF hS (ex_not rfl) (wanted_t hF rfl rfl rfl hc2) rfl fun a hF => ?_
      refine q_x (v := (.bool (!t_6.2))) hF hS (ex_pick_f rfl rfl hc2) rfl rfl fun a hF => ?_
      refine q_end (n_jn ?_)
      obtain rfl := someI hj1
      exact ⟨hF.sub ⟨rfl, rfl, rfl, rfl, trivial⟩, hS.mask [true, true, true, false, false]⟩
    · have hj1 := cond_t hc2 hj1
      refine q_skip hF (wanted_f hF rfl rfl rfl hc2 rfl) rfl fun a hF => ?_
      refine q_skip hF (wanted_f hF rfl rfl rfl hc2 rfl) rfl fun a hF => ?_
      refine q_x (v := (.bool true)) hF hS (ex_pick_t rfl rfl hc2) rfl rfl fun a hF => ?_
      refine q_end (n_jn ?_)
      obtain rfl := someI hj1
      exact ⟨hF.sub ⟨rfl, rfl, rfl, rfl, trivial⟩, hS.mask [true, true, true, false, false]⟩
  · rintro a w ⟨hF, hS⟩
    refine n_sq ?_
    rcases hc3 : (t_8) with _ | _
    · have hr := cond_f hc3 hr
      refine q_cond_f hF rfl hc3 ?_
      refine q_skipc (n_sq ?_)
      refine q_seq ?_
      refine q_region ?_
      refine q_x (v := (.agg #[(.int .i64 t_4.1.Num), (.int .i64 t_4.1.Den)])) hF hS (ex_loadA (vs := [(.int .i64 t_4.1.Num), (.int .i64 t_4.1.Den)]) 1 0 Try.underlying24 rfl sz24 rfl rfl rfl rfl) rfl rfl fun a hF => ?_
      refine q_x (v := (.agg #[(.int .i64 t_6.1.Num), (.int .i64 t_6.1.Den)])) hF hS (ex_loadA (vs := [(.int .i64 t_6.1.Num), (.int .i64 t_6.1.Den)]) 0 0 Try.underlying24 rfl sz24 rfl rfl rfl rfl) rfl rfl fun a hF => ?_
      refine q_x (v := (.agg #[(.int .i64 t_4.1.Num), (.int .i64 t_4.1.Den), (.int .i64 t_6.1.Num), (.int .i64 t_6.1.Den)])) hF hS (ex_build (cells := [(.int .i64 t_4.1.Num), (.int .i64 t_4.1.Den), (.int .i64 t_6.1.Num), (.int .i64 t_6.1.Den)]) rfl (by kernel_rfl)) rfl rfl fun a hF => ?_
      refine q_store (vs := [(.int .i64 t_4.1.Num), (.int .i64 t_4.1.Den), (.int .i64 t_6.1.Num), (.int .i64 t_6.1.Den)]) (cs' := [(.int .i64 t_4.1.Num), (.int .i64 t_4.1.Den), (.int .i64 t_6.1.Num), (.int .i64 t_6.1.Den)]) 2 0 hF hS sz26 rfl rfl rfl rfl rfl rfl rfl rfl fun a w hF hS => ?_
      refine q_x (v := (.bool true)) hF hS (ex_assign rfl) rfl rfl fun a hF => ?_
      refine q_end (n_sq (q_ret ?_))
      obtain rfl := someI hr
      exact ret_of hF hS rfl (.cellA (us := [(.int .i64 t_4.1.Num), (.int .i64 t_4.1.Den), (.int .i64 t_6.1.Num), (.int .i64 t_6.1.Den)]) 2 0 Try.underlying26 rfl sz26 rfl rfl rfl rfl (.tmp rfl .nil)) rfl
    · have hr := cond_t hc3 hr
      refine q_cond_t hF rfl hc3 ?_
      refine q_seq ?_
      refine q_region ?_
      refine q_x (v := (.agg #[(.int .i64 0), (.int .i64 0), (.int .i64 0), (.int .i64 0)])) hF hS (ex_build (cells := [(.int .i64 0), (.int .i64 0), (.int .i64 0), (.int .i64 0)]) rfl (by kernel_rfl)) rfl rfl fun a hF => ?_
      refine q_store (vs := [(.int .i64 0), (.int .i64 0), (.int .i64 0), (.int .i64 0)]) (cs' := [(.int .i64 0), (.int .i64 0), (.int .i64 0), (.int .i64 0)]) 2 0 hF hS sz26 rfl rfl rfl rfl rfl rfl rfl rfl fun a w hF hS => ?_
      refine q_x (v := (.bool false)) hF hS (ex_assign rfl) rfl rfl fun a hF => ?_
      refine q_end (n_sq (q_ret (r_sq ?_)))
      obtain rfl := someI hr
      exact ret_of hF hS rfl (.cellA (us := [(.int .i64 0), (.int .i64 0), (.int .i64 0), (.int .i64 0)]) 2 0 Try.underlying26 rfl sz26 rfl rfl rfl rfl (.tmp rfl .nil)) rfl

theorem c_spec_CountUses (p_budget : impl_Loss) (p_x : impl_Loss) (r : Int × Bool) (hr : spec_CountUses p_budget p_x = some r) (w0 : World) (m : Mem) (hv : Vis m w0) :
    Ret Try.prog 14 [(.agg #[(.int .i64 p_budget.Ratio.Num), (.int .i64 p_budget.Ratio.Den), (.int .i64 p_budget.Rho.Num), (.int .i64 p_budget.Rho.Den)]), (.agg #[(.int .i64 p_x.Ratio.Num), (.int .i64 p_x.Ratio.Den), (.int .i64 p_x.Rho.Num), (.int .i64 p_x.Rho.Den)])] w0 (fun v _ => v = (.tuple #[(.int .i64 r.1), (.bool r.2)])) := by
  unfold spec_CountUses at hr
  refine ret_start Try.func14 rfl 38 rfl rfl m hv fun a hF hS => ?_
  refine q_seq ?_
  refine q_region ?_
  refine q_box (cs := [(.int .i64 p_budget.Ratio.Num), (.int .i64 p_budget.Ratio.Den), (.int .i64 p_budget.Rho.Num), (.int .i64 p_budget.Rho.Den)]) hF hS rfl rfl rfl fun a w b1 hF hS => ?_
  refine q_box (cs := [(.int .i64 p_x.Ratio.Num), (.int .i64 p_x.Ratio.Den), (.int .i64 p_x.Rho.Num), (.int .i64 p_x.Rho.Den)]) hF hS rfl rfl rfl fun a w b2 hF hS => ?_
  refine q_x (v := (.int .i64 0)) hF hS (ex_assign rfl) rfl rfl fun a hF => ?_
  refine q_x (v := (.bool false)) hF hS (ex_assign rfl) rfl rfl fun a hF => ?_
  refine q_end (n_sq ?_)
  refine q_seq ?_
  refine q_seq ?_
  obtain ⟨t_5, hj1, hr⟩ := bindS hr
  refine q_join (fun a w => Fr a 38 [(2, (.pointer (some ⟨b1, 0, none⟩))), (3, (.pointer (some ⟨b2, 0, none⟩))), (18, (.bool t_5))] ∧ St [] w0 w m [[⟨b2, [(.int .i64 p_x.Ratio.Num), (.int .i64 p_x.Ratio.Den), (.int .i64 p_x.Rho.Num), (.int .i64 p_x.Rho.Den)], 26⟩], [⟨b1, [(.int .i64 p_budget.Ratio.Num), (.int .i64 p_budget.Ratio.Den), (.int .i64 p_budget.Rho.Num), (.int .i64 p_budget.Rho.Den)], 26⟩]]) ?_ ?_
  · refine q_region ?_
    refine q_x (v := (.agg #[(.int .i64 p_budget.Ratio.Num), (.int .i64 p_budget.Ratio.Den), (.int .i64 p_budget.Rho.Num), (.int .i64 p_budget.Rho.Den)])) hF hS (ex_loadA (vs := [(.int .i64 p_budget.Ratio.Num), (.int .i64 p_budget.Ratio.Den), (.int .i64 p_budget.Rho.Num), (.int .i64 p_budget.Rho.Den)]) 1 0 Try.underlying26 rfl sz26 rfl rfl rfl rfl) rfl rfl fun a hF => ?_
    obtain ⟨t_3, ht_3, hj1⟩ := bindS hj1
    refine q_call (vs := [(.agg #[(.int .i64 p_budget.Ratio.Num), (.int .i64 p_budget.Ratio.Den), (.int .i64 p_budget.Rho.Num), (.int .i64 p_budget.Rho.Den)])]) hF hS Try.func82 (by kernel_rfl) rfl rfl rfl (c_spec_pGood p_budget t_3 ht_3 _ m hS.vis) ?_
    rintro a w _ rfl hF hS
    refine q_x (v := (.bool (!t_3))) hF hS (ex_not rfl) rfl rfl fun a hF => ?_
    refine q_x (v := (.bool (!t_3))) hF hS (ex_move rfl) rfl rfl fun a hF => ?_
    rcases hc2 : (!t_3) with _ | _
    · have hj1 := cond_f hc2 hj1
      refine q_xg (v := (.agg #[(.int .i64 p_x.Ratio.Num), (.int .i64 p_x.Ratio.Den), (.int .i64 p_x.Rho.Num), (.int .i64 p_x.Rho.Den)])) hF hS (ex_loadA (vs := [(.int .i64 p_x.Ratio.Num), (.int .i64 p_x.Ratio.Den), (.int .i64 p_x.Rho.Num), (.int .i64 p_x.Rho.Den)]) 0 0 Try.underlying26 rfl sz26 rfl rfl rfl rfl) (wanted_t hF rfl rfl rfl hc2) rfl fun a hF => ?_
      obtain ⟨t_4, ht_4, hj1⟩ := bindS hj1
      refine q_callg (vs := [(.agg #[(.int .i64 p_x.Ratio.Num), (.int .i64 p_x.Ratio.Den), (.int .i64 p_x.Rho.Num), (.int .i64 p_x.Rho.Den)])]) hF hS (wanted_t hF rfl rfl rfl hc2) Try.func82 (by kernel_rfl) rfl rfl rfl (c_spec_pGood p_x t_4 ht_4 _ m hS.vis) ?_
      rintro a w _ rfl hF hS
      refine q_xg (v := (.bool (!t_4))) hF hS (ex_not rfl) (wanted_t hF rfl rfl rfl hc2) rfl fun a hF => ?_
      refine q_x (v := (.bool (!t_4))) hF hS (ex_pick_f rfl rfl hc2) rfl rfl fun a hF => ?_
      refine q_end (n_jn ?_)
      obtain rfl := someI hj1
      exact ⟨hF.sub ⟨rfl, rfl, rfl, trivial⟩, hS⟩
    · have hj1 := cond_t hc2 hj1
      refine q_skip hF (wanted_f hF rfl rfl rfl hc2 rfl) rfl fun a hF => ?_
      refine q_skip hF (wanted_f hF rfl rfl rfl hc2 rfl) rfl fun a hF => ?_
      refine q_skip hF (wanted_f hF rfl rfl rfl hc2 rfl) rfl fun a hF => ?_
      refine q_x (v := (.bool true)) hF hS (ex_pick_t rfl rfl hc2) rfl rfl fun a hF => ?_
      refine q_end (n_jn ?_)
      obtain rfl := someI hj1
      exact ⟨hF.sub ⟨rfl, rfl, rfl, trivial⟩, hS⟩
  · rintro a w ⟨hF, hS⟩
    refine n_sq ?_
    rcases hc3 : (t_5) with _ | _
    · have hr := cond_f hc3 hr
      refine q_cond_f hF rfl hc3 ?_
      refine q_skipc (n_sq ?_)
      refine q_seq ?_
      refine q_region ?_
      obtain ⟨t_6, ht_6, hr⟩ := bindS hr
      refine q_call (vs := []) hF hS Try.func88 (by kernel_rfl) rfl rfl rfl (c_spec_pNone  t_6 ht_6 _ m hS.vis) ?_
      rintro a w _ rfl hF hS
      refine q_alloc (cs := [(.int .i64 0), (.int .i64 0), (.int .i64 0), (.int .i64 0)]) hF hS rfl rfl rfl fun a w b7 hF hS => ?_
      refine q_store (vs := [(.int .i64 t_6.Ratio.Num), (.int .i64 t_6.Ratio.Den), (.int .i64 t_6.Rho.Num), (.int .i64 t_6.Rho.Den)]) (cs' := [(.int .i64 t_6.Ratio.Num), (.int .i64 t_6.Ratio.Den), (.int .i64 t_6.Rho.Num), (.int .i64 t_6.Rho.Den)]) 0 0 hF hS sz26 rfl rfl rfl rfl rfl rfl rfl rfl fun a w hF hS => ?_
      refine q_end (n_sq ?_)
      refine q_seq ?_
      refine q_region ?_
      refine q_x (v := (.int .i64 0)) hF hS (ex_assign rfl) rfl rfl fun a hF => ?_
      refine q_end (n_sq ?_)
      refine q_seq ?_
      refine q_seq ?_
      refine q_region ?_
      refine q_x (v := (.int .i64 1)) hF hS (ex_assign rfl) rfl rfl fun a hF => ?_
      refine q_end (n_sq ?_)
      refine q_block ?_
      obtain ⟨best_15, hl4, hr⟩ := bindS hr
      refine q_loop (fun (s : Int × Int × impl_Loss) a w => ∃ best_8, ∃ k_9, ∃ sum_10, s = (best_8, k_9, sum_10) ∧ Fr a 38 [(2, (.pointer (some ⟨b1, 0, none⟩))), (3, (.pointer (some ⟨b2, 0, none⟩))), (6, (.pointer (some ⟨b7, 0, none⟩))), (7, (.int .i64 best_8)), (8, (.int .i64 k_9))] ∧ St [] w0 w m [[⟨b7, [(.int .i64 sum_10.Ratio.Num), (.int .i64 sum_10.Ratio.Den), (.int .i64 sum_10.Rho.Num), (.int .i64 sum_10.Rho.Den)], 26⟩], [⟨b2, [(.int .i64 p_x.Ratio.Num), (.int .i64 p_x.Ratio.Den), (.int .i64 p_x.Rho.Num), (.int .i64 p_x.Rho.Den)], 26⟩], [⟨b1, [(.int .i64 p_budget.Ratio.Num), (.int .i64 p_budget.Ratio.Den), (.int .i64 p_budget.Rho.Num), (.int .i64 p_budget.Rho.Den)], 26⟩]]) (fun (best_15 : Int) e a w => e = .exit 0 ∧ Fr a 38 [(7, (.int .i64 best_15))] ∧ St [] w0 w m []) hl4 ⟨_, _, _, rfl, hF.sub ⟨rfl, rfl, rfl, rfl, rfl, trivial⟩, hS⟩ ?_ ?_
      · clear hF hS
        rintro s a w st ⟨best_8, k_9, sum_10, rfl, hF, hS⟩ hb4
        unfold spec_CountUses_l1 at hb4
        refine q_seq ?_
        refine q_seq ?_
        refine q_region ?_
        refine q_x (v := (.int .i64 k_9)) hF hS (ex_move rfl) rfl rfl fun a hF => ?_
        refine q_x (v := (.bool (decide (k_9 ≤ 60)))) hF hS (ex_ibin rfl rfl rfl) rfl rfl fun a hF => ?_
        refine q_end (n_sq ?_)
        rcases hc5 : (decide (k_9 ≤ 60)) with _ | _
        · have hb4 := cond_f hc5 hb4
          refine q_cond_f hF rfl hc5 ?_
          refine q_exit (x_sq ?_)
          obtain rfl := someI hb4
          exact ⟨nofun, .inl ⟨rfl, hF.sub ⟨rfl, trivial⟩, hS.mask [false, false, false]⟩⟩
        · have hb4 := cond_t hc5 hb4
          refine q_cond_t hF rfl hc5 ?_
          refine q_skipc (n_sq ?_)
          refine q_seq ?_
          refine q_block ?_
          refine q_seq ?_
          refine q_region ?_
          refine q_x (v := (.agg #[(.int .i64 sum_10.Ratio.Num), (.int .i64 sum_10.Ratio.Den), (.int .i64 sum_10.Rho.Num), (.int .i64 sum_10.Rho.Den)])) hF hS (ex_loadA (vs := [(.int .i64 sum_10.Ratio.Num), (.int .i64 sum_10.Ratio.Den), (.int .i64 sum_10.Rho.Num), (.int .i64 sum_10.Rho.Den)]) 0 0 Try.underlying26 rfl sz26 rfl rfl rfl rfl) rfl rfl fun a hF => ?_
          refine q_x (v := (.agg #[(.int .i64 p_x.Ratio.Num), (.int .i64 p_x.Ratio.Den), (.int .i64 p_x.Rho.Num), (.int .i64 p_x.Rho.Den)])) hF hS (ex_loadA (vs := [(.int .i64 p_x.Ratio.Num), (.int .i64 p_x.Ratio.Den), (.int .i64 p_x.Rho.Num), (.int .i64 p_x.Rho.Den)]) 1 0 Try.underlying26 rfl sz26 rfl rfl rfl rfl) rfl rfl fun a hF => ?_
          obtain ⟨t_11, ht_11, hb4⟩ := bindS hb4
          refine q_call (vs := [(.agg #[(.int .i64 sum_10.Ratio.Num), (.int .i64 sum_10.Ratio.Den), (.int .i64 sum_10.Rho.Num), (.int .i64 sum_10.Rho.Den)]), (.agg #[(.int .i64 p_x.Ratio.Num), (.int .i64 p_x.Ratio.Den), (.int .i64 p_x.Rho.Num), (.int .i64 p_x.Rho.Den)])]) hF hS Try.func91 (by kernel_rfl) rfl rfl rfl (c_spec_pTwo sum_10 p_x t_11 ht_11 _ m hS.vis) ?_
          rintro a w _ rfl hF hS
          refine q_x (v := (.tuple #[(.agg #[(.int .i64 t_11.1.Ratio.Num), (.int .i64 t_11.1.Ratio.Den), (.int .i64 t_11.1.Rho.Num), (.int .i64 t_11.1.Rho.Den)]), (.bool t_11.2)])) hF hS (ex_move rfl) rfl rfl fun a hF => ?_
          refine q_x (v := (.agg #[(.int .i64 t_11.1.Ratio.Num), (.int .i64 t_11.1.Ratio.Den), (.int .i64 t_11.1.Rho.Num), (.int .i64 t_11.1.Rho.Den)])) hF hS (ex_extract rfl rfl) rfl rfl fun a hF => ?_
          refine q_x (v := (.bool t_11.2)) hF hS (ex_extract rfl rfl) rfl rfl fun a hF => ?_
          refine q_alloc (cs := [(.int .i64 0), (.int .i64 0), (.int .i64 0), (.int .i64 0)]) hF hS rfl rfl rfl fun a w b12 hF hS => ?_
          refine q_store (vs := [(.int .i64 t_11.1.Ratio.Num), (.int .i64 t_11.1.Ratio.Den), (.int .i64 t_11.1.Rho.Num), (.int .i64 t_11.1.Rho.Den)]) (cs' := [(.int .i64 t_11.1.Ratio.Num), (.int .i64 t_11.1.Ratio.Den), (.int .i64 t_11.1.Rho.Num), (.int .i64 t_11.1.Rho.Den)]) 0 0 hF hS sz26 rfl rfl rfl rfl rfl rfl rfl rfl fun a w hF hS => ?_
          refine q_x (v := (.bool t_11.2)) hF hS (ex_assign rfl) rfl rfl fun a hF => ?_
          refine q_end (n_sq ?_)
          refine q_seq ?_
          refine q_seq ?_
          refine q_region ?_
          refine q_x (v := (.bool t_11.2)) hF hS (ex_move rfl) rfl rfl fun a hF => ?_
          refine q_x (v := (.bool (!t_11.2))) hF hS (ex_not rfl) rfl rfl fun a hF => ?_
          refine q_end (n_sq ?_)
          rcases hc6 : (!t_11.2) with _ | _
          · have hb4 := cond_f hc6 hb4
            refine q_cond_f hF rfl hc6 ?_
            refine q_skipc (n_sq ?_)
            refine q_seq ?_
            refine q_region ?_
            refine q_x (v := (.agg #[(.int .i64 t_11.1.Ratio.Num), (.int .i64 t_11.1.Ratio.Den), (.int .i64 t_11.1.Rho.Num), (.int .i64 t_11.1.Rho.Den)])) hF hS (ex_loadA (vs := [(.int .i64 t_11.1.Ratio.Num), (.int .i64 t_11.1.Ratio.Den), (.int .i64 t_11.1.Rho.Num), (.int .i64 t_11.1.Rho.Den)]) 0 0 Try.underlying26 rfl sz26 rfl rfl rfl rfl) rfl rfl fun a hF => ?_
            refine q_store (vs := [(.int .i64 t_11.1.Ratio.Num), (.int .i64 t_11.1.Ratio.Den), (.int .i64 t_11.1.Rho.Num), (.int .i64 t_11.1.Rho.Den)]) (cs' := [(.int .i64 t_11.1.Ratio.Num), (.int .i64 t_11.1.Ratio.Den), (.int .i64 t_11.1.Rho.Num), (.int .i64 t_11.1.Rho.Den)]) 1 0 hF hS sz26 rfl rfl rfl rfl rfl rfl rfl rfl fun a w hF hS => ?_
            refine q_end (n_sq ?_)
            refine q_seq ?_
            refine q_region ?_
            refine q_x (v := (.agg #[(.int .i64 p_budget.Ratio.Num), (.int .i64 p_budget.Ratio.Den), (.int .i64 p_budget.Rho.Num), (.int .i64 p_budget.Rho.Den)])) hF hS (ex_loadA (vs := [(.int .i64 p_budget.Ratio.Num), (.int .i64 p_budget.Ratio.Den), (.int .i64 p_budget.Rho.Num), (.int .i64 p_budget.Rho.Den)]) 3 0 Try.underlying26 rfl sz26 rfl rfl rfl rfl) rfl rfl fun a hF => ?_
            refine q_x (v := (.agg #[(.int .i64 t_11.1.Ratio.Num), (.int .i64 t_11.1.Ratio.Den), (.int .i64 t_11.1.Rho.Num), (.int .i64 t_11.1.Rho.Den)])) hF hS (ex_loadA (vs := [(.int .i64 t_11.1.Ratio.Num), (.int .i64 t_11.1.Ratio.Den), (.int .i64 t_11.1.Rho.Num), (.int .i64 t_11.1.Rho.Den)]) 1 0 Try.underlying26 rfl sz26 rfl rfl rfl rfl) rfl rfl fun a hF => ?_
            obtain ⟨t_13, ht_13, hb4⟩ := bindS hb4
            refine q_call (vs := [(.agg #[(.int .i64 p_budget.Ratio.Num), (.int .i64 p_budget.Ratio.Den), (.int .i64 p_budget.Rho.Num), (.int .i64 p_budget.Rho.Den)]), (.agg #[(.int .i64 t_11.1.Ratio.Num), (.int .i64 t_11.1.Ratio.Den), (.int .i64 t_11.1.Rho.Num), (.int .i64 t_11.1.Rho.Den)])]) hF hS Try.func83 (by kernel_rfl) rfl rfl rfl (c_spec_pWithin p_budget t_11.1 t_13 ht_13 _ m hS.vis) ?_
            rintro a w _ rfl hF hS
            refine q_end (n_sq ?_)
            obtain ⟨best_14, hj7, hb4⟩ := bindS hb4
            refine q_join (fun a w => Fr a 38 [(2, (.pointer (some ⟨b1, 0, none⟩))), (3, (.pointer (some ⟨b2, 0, none⟩))), (6, (.pointer (some ⟨b7, 0, none⟩))), (7, (.int .i64 best_14)), (8, (.int .i64 k_9))] ∧ St [] w0 w m [[⟨b7, [(.int .i64 t_11.1.Ratio.Num), (.int .i64 t_11.1.Ratio.Den), (.int .i64 t_11.1.Rho.Num), (.int .i64 t_11.1.Rho.Den)], 26⟩], [⟨b2, [(.int .i64 p_x.Ratio.Num), (.int .i64 p_x.Ratio.Den), (.int .i64 p_x.Rho.Num), (.int .i64 p_x.Rho.Den)], 26⟩], [⟨b1, [(.int .i64 p_budget.Ratio.Num), (.int .i64 p_budget.Ratio.Den), (.int .i64 p_budget.Rho.Num), (.int .i64 p_budget.Rho.Den)], 26⟩]]) ?_ ?_
            · rcases hc8 : (t_13) with _ | _
              · have hj7 := cond_f hc8 hj7
                refine q_cond_f hF rfl hc8 ?_
                refine q_skipc (n_jn ?_)
                obtain rfl := someI hj7
                exact ⟨hF.sub ⟨rfl, rfl, rfl, rfl, rfl, trivial⟩, hS.mask [false, true, true, true]⟩
              · have hj7 := cond_t hc8 hj7
                refine q_cond_t hF rfl hc8 ?_
                refine q_region ?_
                refine q_x (v := (.int .i64 k_9)) hF hS (ex_move rfl) rfl rfl fun a hF => ?_
                refine q_x (v := (.int .i64 k_9)) hF hS (ex_assign rfl) rfl rfl fun a hF => ?_
                refine q_end (n_jn ?_)
                obtain rfl := someI hj7
                exact ⟨hF.sub ⟨rfl, rfl, rfl, rfl, rfl, trivial⟩, hS.mask [false, true, true, true]⟩
            · rintro a w ⟨hF, hS⟩
              refine n_ib (n_sq ?_)
              refine q_region ?_
              refine q_x (v := (.int .i64 k_9)) hF hS (ex_move rfl) rfl rfl fun a hF => ?_
              refine q_x (v := (.int .i64 (w64 (k_9 + 1)))) hF hS (ex_ibin rfl rfl rfl) rfl rfl fun a hF => ?_
              refine q_x (v := (.int .i64 (w64 (k_9 + 1)))) hF hS (ex_assign rfl) rfl rfl fun a hF => ?_
              refine q_end ?_
              obtain rfl := someI hb4
              exact ⟨rfl, _, _, _, rfl, hF.sub ⟨rfl, rfl, rfl, rfl, rfl, trivial⟩, hS⟩
          · have hb4 := cond_t hc6 hb4
            refine q_cond_t hF rfl hc6 ?_
            refine q_exit (x_sq (x_ibn rfl (x_sq ?_)))
            obtain rfl := someI hb4
            exact ⟨nofun, .inl ⟨rfl, hF.sub ⟨rfl, trivial⟩, hS.mask [false, false, false, false]⟩⟩
      · rintro e a w ⟨rfl, hF, hS⟩
        refine x_ib (n_sq ?_)
        refine q_seq ?_
        refine q_region ?_
        refine q_x (v := (.int .i64 best_15)) hF hS (ex_move rfl) rfl rfl fun a hF => ?_
        refine q_x (v := (.int .i64 best_15)) hF hS (ex_assign rfl) rfl rfl fun a hF => ?_
        refine q_x (v := (.bool true)) hF hS (ex_assign rfl) rfl rfl fun a hF => ?_
        refine q_end (n_sq (q_ret ?_))
        obtain rfl := someI hr
        exact ret_of hF hS rfl (.tmp rfl (.tmp rfl .nil)) rfl
    · have hr := cond_t hc3 hr
      refine q_cond_t hF rfl hc3 ?_
      refine q_seq ?_
      refine q_region ?_
      refine q_x (v := (.int .i64 0)) hF hS (ex_assign rfl) rfl rfl fun a hF => ?_
      refine q_x (v := (.bool false)) hF hS (ex_assign rfl) rfl rfl fun a hF => ?_
      refine q_end (n_sq (q_ret (r_sq ?_)))
      obtain rfl := someI hr
      exact ret_of hF hS rfl (.tmp rfl (.tmp rfl .nil)) rfl

theorem c_impl_areLosses (p_l : List impl_Loss) (r : Bool) (hr : impl_areLosses p_l = some r) (w0 : World) (m : Mem) (hv : Vis m w0) (s1 : Sl) (h1 : Rd m s1 p_l) :
    Ret Try.prog 92 [s1.v] w0 (fun v _ => v = (.bool r)) := by
  unfold impl_areLosses at hr
  refine ret_start Try.func92 rfl 18 rfl rfl m hv fun a hF hS => ?_
  refine q_seq ?_
  refine q_region ?_
  refine q_x (v := (.bool false)) hF hS (ex_assign rfl) rfl rfl fun a hF => ?_
  refine q_end (n_sq ?_)
  refine q_seq ?_
  refine q_seq ?_
  refine q_region ?_
  refine q_x (v := s1.v) hF hS (ex_move rfl) rfl rfl fun a hF => ?_
  refine q_x (v := (.int .i64 (goLen p_l))) hF hS (ex_len Try.underlying33 rfl h1.len) rfl rfl fun a hF => ?_
  refine q_x (v := (.bool (decide (30 < (goLen p_l))))) hF hS (ex_ibin rfl rfl rfl) rfl rfl fun a hF => ?_
  refine q_end (n_sq ?_)
  rcases hc1 : (decide (30 < (goLen p_l))) with _ | _
  · have hr := cond_f hc1 hr
    refine q_cond_f hF rfl hc1 ?_
    refine q_skipc (n_sq ?_)
    refine q_seq ?_
    refine q_seq ?_
    refine q_region ?_
    refine q_x (v := s1.v) hF hS (ex_move rfl) rfl rfl fun a hF => ?_
    refine q_x (v := (.int .i64 (goLen p_l))) hF hS (ex_len Try.underlying33 rfl h1.len) rfl rfl fun a hF => ?_
    refine q_x (v := (.int .i64 0)) hF hS (ex_move rfl) rfl rfl fun a hF => ?_
    refine q_end (n_sq ?_)
    refine q_block ?_
    obtain ⟨o2, hl2, hr⟩ := bindS hr
    refine q_loop (fun (t_2 : Int) a w => Fr a 18 [(8, s1.v), (9, (.int .i64 (goLen p_l))), (10, (.int .i64 t_2))] ∧ St [] w0 w m []) (fun (o : (Unit) ⊕ (Bool)) e a w => o = .inl () ∧ e = .exit 0 ∧ Fr a 18 [] ∧ St [] w0 w m []) hl2 ⟨hF.sub ⟨rfl, rfl, rfl, trivial⟩, hS⟩ ?_ ?_
    · clear hF hS
      rintro t_2 a w st ⟨hF, hS⟩ hb2
      unfold impl_areLosses_l1 at hb2
      refine q_seq ?_
      refine q_region ?_
      refine q_x (v := (.bool (decide (t_2 < (goLen p_l))))) hF hS (ex_ibin rfl rfl rfl) rfl rfl fun a hF => ?_
      refine q_end (n_sq ?_)
      refine q_seq ?_
      rcases hc3 : (decide (t_2 < (goLen p_l))) with _ | _
      · have hb2 := cond_f hc3 hb2
        refine q_cond_f hF rfl hc3 ?_
        refine q_exit (x_sq ?_)
        obtain rfl := someI hb2
        exact ⟨nofun, .inl ⟨rfl, rfl, hF.sub trivial, hS⟩⟩
      · have hb2 := cond_t hc3 hb2
        refine q_cond_t hF rfl hc3 ?_
        refine q_skipc (n_sq ?_)
        refine q_seq ?_
        refine q_block ?_
        refine q_seq ?_
        refine q_region ?_
        obtain ⟨e_3, he_3, hb2⟩ := bindS hb2
        obtain ⟨vs4, at4, d4⟩ := h1.at he_3 4 rfl
        obtain rfl : vs4 = [(.int .i64 e_3.Ratio.Num), (.int .i64 e_3.Ratio.Den), (.int .i64 e_3.Rho.Num), (.int .i64 e_3.Rho.Den)] := d4
        refine q_x (v := (elP s1 (t_2.toNat * 4))) hF hS (ex_indexAddr Try.underlying33 sz26 rfl rfl (h1.idx he_3)) rfl rfl fun a hF => ?_
        refine q_x (v := (.agg #[(.int .i64 e_3.Ratio.Num), (.int .i64 e_3.Ratio.Den), (.int .i64 e_3.Rho.Num), (.int .i64 e_3.Rho.Den)])) hF hS (ex_loadEA (us := [(.int .i64 e_3.Ratio.Num), (.int .i64 e_3.Ratio.Den), (.int .i64 e_3.Rho.Num), (.int .i64 e_3.Rho.Den)]) 0 Try.underlying26 rfl sz26 rfl ((at4).at) rfl rfl rfl) rfl rfl fun a hF => ?_
        refine q_alloc (cs := [(.int .i64 0), (.int .i64 0), (.int .i64 0), (.int .i64 0)]) hF hS rfl rfl rfl fun a w b5 hF hS => ?_
        refine q_store (vs := [(.int .i64 e_3.Ratio.Num), (.int .i64 e_3.Ratio.Den), (.int .i64 e_3.Rho.Num), (.int .i64 e_3.Rho.Den)]) (cs' := [(.int .i64 e_3.Ratio.Num), (.int .i64 e_3.Ratio.Den), (.int .i64 e_3.Rho.Num), (.int .i64 e_3.Rho.Den)]) 0 0 hF hS sz26 rfl rfl rfl rfl rfl rfl rfl rfl fun a w hF hS => ?_
        refine q_end (n_sq ?_)
        refine q_seq ?_
        refine q_region ?_
        refine q_x (v := (.agg #[(.int .i64 e_3.Ratio.Num), (.int .i64 e_3.Ratio.Den), (.int .i64 e_3.Rho.Num), (.int .i64 e_3.Rho.Den)])) hF hS (ex_loadA (vs := [(.int .i64 e_3.Ratio.Num), (.int .i64 e_3.Ratio.Den), (.int .i64 e_3.Rho.Num), (.int .i64 e_3.Rho.Den)]) 0 0 Try.underlying26 rfl sz26 rfl rfl rfl rfl) rfl rfl fun a hF => ?_
        obtain ⟨t_6, ht_6, hb2⟩ := bindS hb2
        refine q_call (vs := [(.agg #[(.int .i64 e_3.Ratio.Num), (.int .i64 e_3.Ratio.Den), (.int .i64 e_3.Rho.Num), (.int .i64 e_3.Rho.Den)])]) hF hS Try.func17 (by kernel_rfl) rfl rfl rfl (c_impl_IsLoss e_3 t_6 ht_6 _ m hS.vis) ?_
        rintro a w _ rfl hF hS
        refine q_x (v := (.bool (!t_6))) hF hS (ex_not rfl) rfl rfl fun a hF => ?_
        refine q_end (n_sq ?_)
        rcases hc4 : (!t_6) with _ | _
        · have hb2 := cond_f hc4 hb2
          refine q_cond_f hF rfl hc4 ?_
          refine q_skipc (n_ib (n_sq ?_))
          refine q_region ?_
          refine q_x (v := (.int .i64 (w64 (t_2 + 1)))) hF hS (ex_ibin rfl rfl rfl) rfl rfl fun a hF => ?_
          refine q_x (v := (.int .i64 (w64 (t_2 + 1)))) hF hS (ex_move rfl) rfl rfl fun a hF => ?_
          refine q_end ?_
          obtain rfl := someI hb2
          exact ⟨rfl, hF.sub ⟨rfl, rfl, rfl, trivial⟩, hS.mask [false]⟩
        · have hb2 := cond_t hc4 hb2
          refine q_cond_t hF rfl hc4 ?_
          refine q_seq ?_
          refine q_region ?_
          refine q_x (v := (.bool false)) hF hS (ex_assign rfl) rfl rfl fun a hF => ?_
          refine q_end (n_sq (q_ret (r_ib (r_sq ?_))))
          obtain rfl := someI hb2
          refine ⟨nofun, .inr fun ho => ?_⟩
          subst ho
          refine r_ib (r_sq ?_)
          obtain rfl := someI hr
          exact ret_of hF hS rfl (.tmp rfl .nil) rfl
    · rintro e a w ⟨rfl, rfl, hF, hS⟩
      refine x_ib (n_sq ?_)
      refine q_seq ?_
      refine q_region ?_
      refine q_x (v := (.bool true)) hF hS (ex_assign rfl) rfl rfl fun a hF => ?_
      refine q_end (n_sq (q_ret ?_))
      obtain rfl := someI hr
      exact ret_of hF hS rfl (.tmp rfl .nil) rfl
  · have hr := cond_t hc1 hr
    refine q_cond_t hF rfl hc1 ?_
    refine q_seq ?_
    refine q_region ?_
    refine q_x (v := (.bool false)) hF hS (ex_assign rfl) rfl rfl fun a hF => ?_
    refine q_end (n_sq (q_ret (r_sq ?_)))
    obtain rfl := someI hr
    exact ret_of hF hS rfl (.tmp rfl .nil) rfl

theorem c_impl_ComposeLosses (p_l : List impl_Loss) (r : impl_Loss × Bool) (hr : impl_ComposeLosses p_l = some r) (w0 : World) (m : Mem) (hv : Vis m w0) (s1 : Sl) (h1 : Rd m s1 p_l) :
    Ret Try.prog 15 [s1.v] w0 (fun v _ => v = (.tuple #[(.agg #[(.int .i64 r.1.Ratio.Num), (.int .i64 r.1.Ratio.Den), (.int .i64 r.1.Rho.Num), (.int .i64 r.1.Rho.Den)]), (.bool r.2)])) := by
  unfold impl_ComposeLosses at hr
  refine ret_start Try.func15 rfl 30 rfl rfl m hv fun a hF hS => ?_
  refine q_seq ?_
  refine q_region ?_
  refine q_alloc (cs := [(.int .i64 0), (.int .i64 0), (.int .i64 0), (.int .i64 0)]) hF hS rfl rfl rfl fun a w b2 hF hS => ?_
  refine q_x (v := (.bool false)) hF hS (ex_assign rfl) rfl rfl fun a hF => ?_
  refine q_end (n_sq ?_)
  refine q_seq ?_
  refine q_seq ?_
  refine q_region ?_
  refine q_x (v := s1.v) hF hS (ex_move rfl) rfl rfl fun a hF => ?_
  obtain ⟨t_3, ht_3, hr⟩ := bindS hr
  refine q_call (vs := [s1.v]) hF hS Try.func92 (by kernel_rfl) rfl rfl rfl (c_impl_areLosses p_l t_3 ht_3 _ m hS.vis s1 h1) ?_
  rintro a w _ rfl hF hS
  refine q_x (v := (.bool (!t_3))) hF hS (ex_not rfl) rfl rfl fun a hF => ?_
  refine q_end (n_sq ?_)
  rcases hc1 : (!t_3) with _ | _
  · have hr := cond_f hc1 hr
    refine q_cond_f hF rfl hc1 ?_
    refine q_skipc (n_sq ?_)
    refine q_seq ?_
    refine q_region ?_
    obtain ⟨t_4, ht_4, hr⟩ := bindS hr
    refine q_call (vs := []) hF hS Try.func36 (by kernel_rfl) rfl rfl rfl (c_impl_NoLoss  t_4 ht_4 _ m hS.vis) ?_
    rintro a w _ rfl hF hS
    refine q_alloc (cs := [(.int .i64 0), (.int .i64 0), (.int .i64 0), (.int .i64 0)]) hF hS rfl rfl rfl fun a w b5 hF hS => ?_
    refine q_store (vs := [(.int .i64 t_4.Ratio.Num), (.int .i64 t_4.Ratio.Den), (.int .i64 t_4.Rho.Num), (.int .i64 t_4.Rho.Den)]) (cs' := [(.int .i64 t_4.Ratio.Num), (.int .i64 t_4.Ratio.Den), (.int .i64 t_4.Rho.Num), (.int .i64 t_4.Rho.Den)]) 0 0 hF hS sz26 rfl rfl rfl rfl rfl rfl rfl rfl fun a w hF hS => ?_
    refine q_x (v := (.bool true)) hF hS (ex_assign rfl) rfl rfl fun a hF => ?_
    refine q_end (n_sq ?_)
    refine q_seq ?_
    refine q_seq ?_
    refine q_region ?_
    refine q_x (v := s1.v) hF hS (ex_move rfl) rfl rfl fun a hF => ?_
    refine q_x (v := (.int .i64 (goLen p_l))) hF hS (ex_len Try.underlying33 rfl h1.len) rfl rfl fun a hF => ?_
    refine q_x (v := (.int .i64 0)) hF hS (ex_move rfl) rfl rfl fun a hF => ?_
    refine q_end (n_sq ?_)
    refine q_block ?_
    obtain ⟨o2, hl2, hr⟩ := bindS hr
    refine q_loop (fun (s : Int × impl_Loss) a w => ∃ t_6, ∃ sum_7, s = (t_6, sum_7) ∧ Fr a 30 [(2, (.pointer (some ⟨b2, 0, none⟩))), (4, (.pointer (some ⟨b5, 0, none⟩))), (13, s1.v), (14, (.int .i64 (goLen p_l))), (15, (.int .i64 t_6))] ∧ St [] w0 w m [[⟨b5, [(.int .i64 sum_7.Ratio.Num), (.int .i64 sum_7.Ratio.Den), (.int .i64 sum_7.Rho.Num), (.int .i64 sum_7.Rho.Den)], 26⟩], [⟨b2, [(.int .i64 0), (.int .i64 0), (.int .i64 0), (.int .i64 0)], 26⟩]]) (fun (o : (impl_Loss) ⊕ (impl_Loss × Bool)) e a w => ∃ sum_12, o = .inl sum_12 ∧ e = .exit 0 ∧ Fr a 30 [(2, (.pointer (some ⟨b2, 0, none⟩))), (4, (.pointer (some ⟨b5, 0, none⟩)))] ∧ St [] w0 w m [[⟨b5, [(.int .i64 sum_12.Ratio.Num), (.int .i64 sum_12.Ratio.Den), (.int .i64 sum_12.Rho.Num), (.int .i64 sum_12.Rho.Den)], 26⟩], [⟨b2, [(.int .i64 0), (.int .i64 0), (.int .i64 0), (.int .i64 0)], 26⟩]]) hl2 ⟨_, _, rfl, hF.sub ⟨rfl, rfl, rfl, rfl, rfl, trivial⟩, hS⟩ ?_ ?_
    · clear hF hS
      rintro s a w st ⟨t_6, sum_7, rfl, hF, hS⟩ hb2
      unfold impl_ComposeLosses_l1 at hb2
      refine q_seq ?_
      refine q_region ?_
      refine q_x (v := (.bool (decide (t_6 < (goLen p_l))))) hF hS (ex_ibin rfl rfl rfl) rfl rfl fun a hF => ?_
      refine q_end (n_sq ?_)
      refine q_seq ?_
      rcases hc3 : (decide (t_6 < (goLen p_l))) with _ | _
      · have hb2 := cond_f hc3 hb2
        refine q_cond_f hF rfl hc3 ?_
        refine q_exit (x_sq ?_)
        obtain rfl := someI hb2
        exact ⟨nofun, .inl ⟨_, rfl, rfl, hF.sub ⟨rfl, rfl, trivial⟩, hS⟩⟩
      · have hb2 := cond_t hc3 hb2
        refine q_cond_t hF rfl hc3 ?_
        refine q_skipc (n_sq ?_)
        refine q_seq ?_
        refine q_block ?_
        refine q_seq ?_
        refine q_region ?_
        obtain ⟨e_8, he_8, hb2⟩ := bindS hb2
        obtain ⟨vs9, at9, d9⟩ := h1.at he_8 4 rfl
        obtain rfl : vs9 = [(.int .i64 e_8.Ratio.Num), (.int .i64 e_8.Ratio.Den), (.int .i64 e_8.Rho.Num), (.int .i64 e_8.Rho.Den)] := d9
        refine q_x (v := (elP s1 (t_6.toNat * 4))) hF hS (ex_indexAddr Try.underlying33 sz26 rfl rfl (h1.idx he_8)) rfl rfl fun a hF => ?_
        refine q_x (v := (.agg #[(.int .i64 e_8.Ratio.Num), (.int .i64 e_8.Ratio.Den), (.int .i64 e_8.Rho.Num), (.int .i64 e_8.Rho.Den)])) hF hS (ex_loadEA (us := [(.int .i64 e_8.Ratio.Num), (.int .i64 e_8.Ratio.Den), (.int .i64 e_8.Rho.Num), (.int .i64 e_8.Rho.Den)]) 0 Try.underlying26 rfl sz26 rfl ((at9).at) rfl rfl rfl) rfl rfl fun a hF => ?_
        refine q_alloc (cs := [(.int .i64 0), (.int .i64 0), (.int .i64 0), (.int .i64 0)]) hF hS rfl rfl rfl fun a w b10 hF hS => ?_
        refine q_store (vs := [(.int .i64 e_8.Ratio.Num), (.int .i64 e_8.Ratio.Den), (.int .i64 e_8.Rho.Num), (.int .i64 e_8.Rho.Den)]) (cs' := [(.int .i64 e_8.Ratio.Num), (.int .i64 e_8.Ratio.Den), (.int .i64 e_8.Rho.Num), (.int .i64 e_8.Rho.Den)]) 0 0 hF hS sz26 rfl rfl rfl rfl rfl rfl rfl rfl fun a w hF hS => ?_
        refine q_end (n_sq ?_)
        refine q_seq ?_
        refine q_region ?_
        refine q_x (v := (.agg #[(.int .i64 sum_7.Ratio.Num), (.int .i64 sum_7.Ratio.Den), (.int .i64 sum_7.Rho.Num), (.int .i64 sum_7.Rho.Den)])) hF hS (ex_loadA (vs := [(.int .i64 sum_7.Ratio.Num), (.int .i64 sum_7.Ratio.Den), (.int .i64 sum_7.Rho.Num), (.int .i64 sum_7.Rho.Den)]) 1 0 Try.underlying26 rfl sz26 rfl rfl rfl rfl) rfl rfl fun a hF => ?_
        refine q_x (v := (.agg #[(.int .i64 e_8.Ratio.Num), (.int .i64 e_8.Ratio.Den), (.int .i64 e_8.Rho.Num), (.int .i64 e_8.Rho.Den)])) hF hS (ex_loadA (vs := [(.int .i64 e_8.Ratio.Num), (.int .i64 e_8.Ratio.Den), (.int .i64 e_8.Rho.Num), (.int .i64 e_8.Rho.Den)]) 0 0 Try.underlying26 rfl sz26 rfl rfl rfl rfl) rfl rfl fun a hF => ?_
        obtain ⟨t_11, ht_11, hb2⟩ := bindS hb2
        refine q_call (vs := [(.agg #[(.int .i64 sum_7.Ratio.Num), (.int .i64 sum_7.Ratio.Den), (.int .i64 sum_7.Rho.Num), (.int .i64 sum_7.Rho.Den)]), (.agg #[(.int .i64 e_8.Ratio.Num), (.int .i64 e_8.Ratio.Den), (.int .i64 e_8.Rho.Num), (.int .i64 e_8.Rho.Den)])]) hF hS Try.func93 (by kernel_rfl) rfl rfl rfl (c_impl_composed sum_7 e_8 t_11 ht_11 _ m hS.vis) ?_
        rintro a w _ rfl hF hS
        refine q_x (v := (.tuple #[(.agg #[(.int .i64 t_11.1.Ratio.Num), (.int .i64 t_11.1.Ratio.Den), (.int .i64 t_11.1.Rho.Num), (.int .i64 t_11.1.Rho.Den)]), (.bool t_11.2)])) hF hS (ex_move rfl) rfl rfl fun a hF => ?_
        refine q_x (v := (.agg #[(.int .i64 t_11.1.Ratio.Num), (.int .i64 t_11.1.Ratio.Den), (.int .i64 t_11.1.Rho.Num), (.int .i64 t_11.1.Rho.Den)])) hF hS (ex_extract rfl rfl) rfl rfl fun a hF => ?_
        refine q_x (v := (.bool t_11.2)) hF hS (ex_extract rfl rfl) rfl rfl fun a hF => ?_
        refine q_store (vs := [(.int .i64 t_11.1.Ratio.Num), (.int .i64 t_11.1.Ratio.Den), (.int .i64 t_11.1.Rho.Num), (.int .i64 t_11.1.Rho.Den)]) (cs' := [(.int .i64 t_11.1.Ratio.Num), (.int .i64 t_11.1.Ratio.Den), (.int .i64 t_11.1.Rho.Num), (.int .i64 t_11.1.Rho.Den)]) 1 0 hF hS sz26 rfl rfl rfl rfl rfl rfl rfl rfl fun a w hF hS => ?_
        refine q_x (v := (.bool t_11.2)) hF hS (ex_assign rfl) rfl rfl fun a hF => ?_
        refine q_end (n_sq ?_)
        refine q_seq ?_
        refine q_region ?_
        refine q_x (v := (.bool t_11.2)) hF hS (ex_move rfl) rfl rfl fun a hF => ?_
        refine q_x (v := (.bool (!t_11.2))) hF hS (ex_not rfl) rfl rfl fun a hF => ?_
        refine q_end (n_sq ?_)
        rcases hc4 : (!t_11.2) with _ | _
        · have hb2 := cond_f hc4 hb2
          refine q_cond_f hF rfl hc4 ?_
          refine q_skipc (n_ib (n_sq ?_))
          refine q_region ?_
          refine q_x (v := (.int .i64 (w64 (t_6 + 1)))) hF hS (ex_ibin rfl rfl rfl) rfl rfl fun a hF => ?_
          refine q_x (v := (.int .i64 (w64 (t_6 + 1)))) hF hS (ex_move rfl) rfl rfl fun a hF => ?_
          refine q_end ?_
          obtain rfl := someI hb2
          exact ⟨rfl, _, _, rfl, hF.sub ⟨rfl, rfl, rfl, rfl, rfl, trivial⟩, hS.mask [false, true, true]⟩
        · have hb2 := cond_t hc4 hb2
          refine q_cond_t hF rfl hc4 ?_
          refine q_seq ?_
          refine q_region ?_
          refine q_x (v := (.agg #[(.int .i64 0), (.int .i64 0), (.int .i64 0), (.int .i64 0)])) hF hS (ex_build (cells := [(.int .i64 0), (.int .i64 0), (.int .i64 0), (.int .i64 0)]) rfl (by kernel_rfl)) rfl rfl fun a hF => ?_
          refine q_store (vs := [(.int .i64 0), (.int .i64 0), (.int .i64 0), (.int .i64 0)]) (cs' := [(.int .i64 0), (.int .i64 0), (.int .i64 0), (.int .i64 0)]) 2 0 hF hS sz26 rfl rfl rfl rfl rfl rfl rfl rfl fun a w hF hS => ?_
          refine q_x (v := (.bool false)) hF hS (ex_assign rfl) rfl rfl fun a hF => ?_
          refine q_end (n_sq (q_ret (r_ib (r_sq ?_))))
          obtain rfl := someI hb2
          refine ⟨nofun, .inr fun ho => ?_⟩
          subst ho
          refine r_ib (r_sq ?_)
          obtain rfl := someI hr
          exact ret_of hF hS rfl (.cellA (us := [(.int .i64 0), (.int .i64 0), (.int .i64 0), (.int .i64 0)]) 2 0 Try.underlying26 rfl sz26 rfl rfl rfl rfl (.tmp rfl .nil)) rfl
    · rintro e a w ⟨sum_12, rfl, rfl, hF, hS⟩
      refine x_ib (n_sq ?_)
      refine q_seq ?_
      refine q_region ?_
      refine q_x (v := (.agg #[(.int .i64 sum_12.Ratio.Num), (.int .i64 sum_12.Ratio.Den), (.int .i64 sum_12.Rho.Num), (.int .i64 sum_12.Rho.Den)])) hF hS (ex_loadA (vs := [(.int .i64 sum_12.Ratio.Num), (.int .i64 sum_12.Ratio.Den), (.int .i64 sum_12.Rho.Num), (.int .i64 sum_12.Rho.Den)]) 0 0 Try.underlying26 rfl sz26 rfl rfl rfl rfl) rfl rfl fun a hF => ?_
      refine q_store (vs := [(.int .i64 sum_12.Ratio.Num), (.int .i64 sum_12.Ratio.Den), (.int .i64 sum_12.Rho.Num), (.int .i64 sum_12.Rho.Den)]) (cs' := [(.int .i64 sum_12.Ratio.Num), (.int .i64 sum_12.Ratio.Den), (.int .i64 sum_12.Rho.Num), (.int .i64 sum_12.Rho.Den)]) 1 0 hF hS sz26 rfl rfl rfl rfl rfl rfl rfl rfl fun a w hF hS => ?_
      refine q_x (v := (.bool true)) hF hS (ex_assign rfl) rfl rfl fun a hF => ?_
      refine q_end (n_sq (q_ret ?_))
      obtain rfl := someI hr
      exact ret_of hF hS rfl (.cellA (us := [(.int .i64 sum_12.Ratio.Num), (.int .i64 sum_12.Ratio.Den), (.int .i64 sum_12.Rho.Num), (.int .i64 sum_12.Rho.Den)]) 1 0 Try.underlying26 rfl sz26 rfl rfl rfl rfl (.tmp rfl .nil)) rfl
  · have hr := cond_t hc1 hr
    refine q_cond_t hF rfl hc1 ?_
    refine q_seq ?_
    refine q_region ?_
    refine q_x (v := (.agg #[(.int .i64 0), (.int .i64 0), (.int .i64 0), (.int .i64 0)])) hF hS (ex_build (cells := [(.int .i64 0), (.int .i64 0), (.int .i64 0), (.int .i64 0)]) rfl (by kernel_rfl)) rfl rfl fun a hF => ?_
    refine q_store (vs := [(.int .i64 0), (.int .i64 0), (.int .i64 0), (.int .i64 0)]) (cs' := [(.int .i64 0), (.int .i64 0), (.int .i64 0), (.int .i64 0)]) 0 0 hF hS sz26 rfl rfl rfl rfl rfl rfl rfl rfl fun a w hF hS => ?_
    refine q_x (v := (.bool false)) hF hS (ex_assign rfl) rfl rfl fun a hF => ?_
    refine q_end (n_sq (q_ret (r_sq ?_)))
    obtain rfl := someI hr
    exact ret_of hF hS rfl (.cellA (us := [(.int .i64 0), (.int .i64 0), (.int .i64 0), (.int .i64 0)]) 0 0 Try.underlying26 rfl sz26 rfl rfl rfl rfl (.tmp rfl .nil)) rfl

theorem c_impl_IsWithin (p_budget : impl_Loss) (p_x : impl_Loss) (r : Bool × Bool) (hr : impl_IsWithin p_budget p_x = some r) (w0 : World) (m : Mem) (hv : Vis m w0) :
    Ret Try.prog 16 [(.agg #[(.int .i64 p_budget.Ratio.Num), (.int .i64 p_budget.Ratio.Den), (.int .i64 p_budget.Rho.Num), (.int .i64 p_budget.Rho.Den)]), (.agg #[(.int .i64 p_x.Ratio.Num), (.int .i64 p_x.Ratio.Den), (.int .i64 p_x.Rho.Num), (.int .i64 p_x.Rho.Den)])] w0 (fun v _ => v = (.tuple #[(.bool r.1), (.bool r.2)])) := by
  unfold impl_IsWithin at hr
  refine ret_start Try.func16 rfl 17 rfl rfl m hv fun a hF hS => ?_
  refine q_seq ?_
  refine q_region ?_
  refine q_box (cs := [(.int .i64 p_budget.Ratio.Num), (.int .i64 p_budget.Ratio.Den), (.int .i64 p_budget.Rho.Num), (.int .i64 p_budget.Rho.Den)]) hF hS rfl rfl rfl fun a w b1 hF hS => ?_
  refine q_box (cs := [(.int .i64 p_x.Ratio.Num), (.int .i64 p_x.Ratio.Den), (.int .i64 p_x.Rho.Num), (.int .i64 p_x.Rho.Den)]) hF hS rfl rfl rfl fun a w b2 hF hS => ?_
  refine q_x (v := (.bool false)) hF hS (ex_assign rfl) rfl rfl fun a hF => ?_
  refine q_x (v := (.bool false)) hF hS (ex_assign rfl) rfl rfl fun a hF => ?_
  refine q_end (n_sq ?_)
  refine q_seq ?_
  refine q_seq ?_
  obtain ⟨t_5, hj1, hr⟩ := bindS hr
  refine q_join (fun a w => Fr a 17 [(2, (.pointer (some ⟨b1, 0, none⟩))), (3, (.pointer (some ⟨b2, 0, none⟩))), (13, (.bool t_5))] ∧ St [] w0 w m [[⟨b2, [(.int .i64 p_x.Ratio.Num), (.int .i64 p_x.Ratio.Den), (.int .i64 p_x.Rho.Num), (.int .i64 p_x.Rho.Den)], 26⟩], [⟨b1, [(.int .i64 p_budget.Ratio.Num), (.int .i64 p_budget.Ratio.Den), (.int .i64 p_budget.Rho.Num), (.int .i64 p_budget.Rho.Den)], 26⟩]]) ?_ ?_
  · refine q_region ?_
    refine q_x (v := (.agg #[(.int .i64 p_budget.Ratio.Num), (.int .i64 p_budget.Ratio.Den), (.int .i64 p_budget.Rho.Num), (.int .i64 p_budget.Rho.Den)])) hF hS (ex_loadA (vs := [(.int .i64 p_budget.Ratio.Num), (.int .i64 p_budget.Ratio.Den), (.int .i64 p_budget.Rho.Num), (.int .i64 p_budget.Rho.Den)]) 1 0 Try.underlying26 rfl sz26 rfl rfl rfl rfl) rfl rfl fun a hF => ?_
    obtain ⟨t_3, ht_3, hj1⟩ := bindS hj1
    refine q_call (vs := [(.agg #[(.int .i64 p_budget.Ratio.Num), (.int .i64 p_budget.Ratio.Den), (.int .i64 p_budget.Rho.Num), (.int .i64 p_budget.Rho.Den)])]) hF hS Try.func17 (by kernel_rfl) rfl rfl rfl (c_impl_IsLoss p_budget t_3 ht_3 _ m hS.vis) ?_
    rintro a w _ rfl hF hS
    refine q_x (v := (.bool (!t_3))) hF hS (ex_not rfl) rfl rfl fun a hF => ?_
    refine q_x (v := (.bool (!t_3))) hF hS (ex_move rfl) rfl rfl fun a hF => ?_
    rcases hc2 : (!t_3) with _ | _
    · have hj1 := cond_f hc2 hj1
      refine q_xg (v := (.agg #[(.int .i64 p_x.Ratio.Num), (.int .i64 p_x.Ratio.Den), (.int .i64 p_x.Rho.Num), (.int .i64 p_x.Rho.Den)])) hF hS (ex_loadA (vs := [(.int .i64 p_x.Ratio.Num), (.int .i64 p_x.Ratio.Den), (.int .i64 p_x.Rho.Num), (.int .i64 p_x.Rho.Den)]) 0 0 Try.underlying26 rfl sz26 rfl rfl rfl rfl) (wanted_t hF rfl rfl rfl hc2) rfl fun a hF => ?_
      obtain ⟨t_4, ht_4, hj1⟩ := bindS hj1
      refine q_callg (vs := [(.agg #[(.int .i64 p_x.Ratio.Num), (.int .i64 p_x.Ratio.Den), (.int .i64 p_x.Rho.Num), (.int .i64 p_x.Rho.Den)])]) hF hS (wanted_t hF rfl rfl rfl hc2) Try.func17 (by kernel_rfl) rfl rfl rfl (c_impl_IsLoss p_x t_4 ht_4 _ m hS.vis) ?_
      rintro a w _ rfl hF hS
      refine q_xg (v := (.bool (!t_4))) hF hS (ex_not rfl) (wanted_t hF rfl rfl rfl hc2) rfl fun a hF => ?_
      refine q_x (v := (.bool (!t_4))) hF hS (ex_pick_f rfl rfl hc2) rfl rfl fun a hF => ?_
      refine q_end (n_jn ?_)
      obtain rfl := someI hj1
      exact ⟨hF.sub ⟨rfl, rfl, rfl, trivial⟩, hS⟩
    · have hj1 := cond_t hc2 hj1
      refine q_skip hF (wanted_f hF rfl rfl rfl hc2 rfl) rfl fun a hF => ?_
      refine q_skip hF (wanted_f hF rfl rfl rfl hc2 rfl) rfl fun a hF => ?_
      refine q_skip hF (wanted_f hF rfl rfl rfl hc2 rfl) rfl fun a hF => ?_
      refine q_x (v := (.bool true)) hF hS (ex_pick_t rfl rfl hc2) rfl rfl fun a hF => ?_
      refine q_end (n_jn ?_)
      obtain rfl := someI hj1
      exact ⟨hF.sub ⟨rfl, rfl, rfl, trivial⟩, hS⟩
  · rintro a w ⟨hF, hS⟩
    refine n_sq ?_
    rcases hc3 : (t_5) with _ | _
    · have hr := cond_f hc3 hr
      refine q_cond_f hF rfl hc3 ?_
      refine q_skipc (n_sq ?_)
      refine q_seq ?_
      refine q_region ?_
      refine q_x (v := (.agg #[(.int .i64 p_budget.Ratio.Num), (.int .i64 p_budget.Ratio.Den), (.int .i64 p_budget.Rho.Num), (.int .i64 p_budget.Rho.Den)])) hF hS (ex_loadA (vs := [(.int .i64 p_budget.Ratio.Num), (.int .i64 p_budget.Ratio.Den), (.int .i64 p_budget.Rho.Num), (.int .i64 p_budget.Rho.Den)]) 1 0 Try.underlying26 rfl sz26 rfl rfl rfl rfl) rfl rfl fun a hF => ?_
      refine q_x (v := (.agg #[(.int .i64 p_x.Ratio.Num), (.int .i64 p_x.Ratio.Den), (.int .i64 p_x.Rho.Num), (.int .i64 p_x.Rho.Den)])) hF hS (ex_loadA (vs := [(.int .i64 p_x.Ratio.Num), (.int .i64 p_x.Ratio.Den), (.int .i64 p_x.Rho.Num), (.int .i64 p_x.Rho.Den)]) 0 0 Try.underlying26 rfl sz26 rfl rfl rfl rfl) rfl rfl fun a hF => ?_
      obtain ⟨t_6, ht_6, hr⟩ := bindS hr
      refine q_call (vs := [(.agg #[(.int .i64 p_budget.Ratio.Num), (.int .i64 p_budget.Ratio.Den), (.int .i64 p_budget.Rho.Num), (.int .i64 p_budget.Rho.Den)]), (.agg #[(.int .i64 p_x.Ratio.Num), (.int .i64 p_x.Ratio.Den), (.int .i64 p_x.Rho.Num), (.int .i64 p_x.Rho.Den)])]) hF hS Try.func79 (by kernel_rfl) rfl rfl rfl (c_impl_isWithin p_budget p_x t_6 ht_6 _ m hS.vis) ?_
      rintro a w _ rfl hF hS
      refine q_x (v := (.bool t_6)) hF hS (ex_assign rfl) rfl rfl fun a hF => ?_
      refine q_x (v := (.bool true)) hF hS (ex_assign rfl) rfl rfl fun a hF => ?_
      refine q_end (n_sq (q_ret ?_))
      obtain rfl := someI hr
      exact ret_of hF hS rfl (.tmp rfl (.tmp rfl .nil)) rfl
    · have hr := cond_t hc3 hr
      refine q_cond_t hF rfl hc3 ?_
      refine q_seq ?_
      refine q_region ?_
      refine q_x (v := (.bool false)) hF hS (ex_assign rfl) rfl rfl fun a hF => ?_
      refine q_x (v := (.bool false)) hF hS (ex_assign rfl) rfl rfl fun a hF => ?_
      refine q_end (n_sq (q_ret (r_sq ?_)))
      obtain rfl := someI hr
      exact ret_of hF hS rfl (.tmp rfl (.tmp rfl .nil)) rfl

theorem c_laws_FnLosses (p_code : List (K .u8)) (p_more : List (K .u8)) (r : Bool) (hr : laws_FnLosses p_code p_more = some r) (w0 : World) (m : Mem) (hv : Vis m w0) (s1 : Sl) (h1 : Rd m s1 p_code) (s2 : Sl) (h2 : Rd m s2 p_more) :
    Ret Try.prog 3 [s1.v, s2.v] w0 (fun v _ => v = (.bool r)) := by
  unfold laws_FnLosses at hr
  refine ret_start Try.func3 rfl 142 rfl rfl m hv fun a hF hS => ?_
  refine q_seq ?_
  refine q_region ?_
  refine q_x (v := (.bool false)) hF hS (ex_assign rfl) rfl rfl fun a hF => ?_
  refine q_end (n_sq ?_)
  refine q_seq ?_
  refine q_seq ?_
  refine q_region ?_
  refine q_x (v := s1.v) hF hS (ex_move rfl) rfl rfl fun a hF => ?_
  refine q_x (v := (.int .i64 (goLen p_code))) hF hS (ex_len Try.underlying22 rfl h1.len) rfl rfl fun a hF => ?_
  refine q_x (v := s2.v) hF hS (ex_move rfl) rfl rfl fun a hF => ?_
  refine q_x (v := (.int .i64 (goLen p_more))) hF hS (ex_len Try.underlying22 rfl h2.len) rfl rfl fun a hF => ?_
  refine q_x (v := (.int .i64 (w64 ((goLen p_code) + (goLen p_more))))) hF hS (ex_ibin rfl rfl rfl) rfl rfl fun a hF => ?_
  refine q_x (v := (.bool (decide (1048576 < (w64 ((goLen p_code) + (goLen p_more))))))) hF hS (ex_ibin rfl rfl rfl) rfl rfl fun a hF => ?_
  refine q_end (n_sq ?_)
  rcases hc1 : (decide (1048576 < (w64 ((goLen p_code) + (goLen p_more))))) with _ | _
  · have hr := cond_f hc1 hr
    refine q_cond_f hF rfl hc1 ?_
    refine q_skipc (n_sq ?_)
    refine q_seq ?_
    refine q_region ?_
    refine q_x (v := s1.v) hF hS (ex_move rfl) rfl rfl fun a hF => ?_
    obtain ⟨t_3, ht_3, hr⟩ := bindS hr
    refine q_call (vs := [s1.v]) hF hS Try.func9 (by kernel_rfl) rfl rfl rfl (c_spec_DrawRemainingLoss p_code t_3 ht_3 _ m hS.vis s1 h1) ?_
    rintro a w _ rfl hF hS
    refine q_x (v := (.tuple #[(.agg #[(.int .i64 t_3.1.Ratio.Num), (.int .i64 t_3.1.Ratio.Den), (.int .i64 t_3.1.Rho.Num), (.int .i64 t_3.1.Rho.Den)]), (.agg #[(.int .i64 t_3.2.Ratio.Num), (.int .i64 t_3.2.Ratio.Den), (.int .i64 t_3.2.Rho.Num), (.int .i64 t_3.2.Rho.Den)])])) hF hS (ex_move rfl) rfl rfl fun a hF => ?_
    refine q_x (v := (.agg #[(.int .i64 t_3.1.Ratio.Num), (.int .i64 t_3.1.Ratio.Den), (.int .i64 t_3.1.Rho.Num), (.int .i64 t_3.1.Rho.Den)])) hF hS (ex_extract rfl rfl) rfl rfl fun a hF => ?_
    refine q_x (v := (.agg #[(.int .i64 t_3.2.Ratio.Num), (.int .i64 t_3.2.Ratio.Den), (.int .i64 t_3.2.Rho.Num), (.int .i64 t_3.2.Rho.Den)])) hF hS (ex_extract rfl rfl) rfl rfl fun a hF => ?_
    refine q_alloc (cs := [(.int .i64 0), (.int .i64 0), (.int .i64 0), (.int .i64 0)]) hF hS rfl rfl rfl fun a w b4 hF hS => ?_
    refine q_alloc (cs := [(.int .i64 0), (.int .i64 0), (.int .i64 0), (.int .i64 0)]) hF hS rfl rfl rfl fun a w b5 hF hS => ?_
    refine q_store (vs := [(.int .i64 t_3.1.Ratio.Num), (.int .i64 t_3.1.Ratio.Den), (.int .i64 t_3.1.Rho.Num), (.int .i64 t_3.1.Rho.Den)]) (cs' := [(.int .i64 t_3.1.Ratio.Num), (.int .i64 t_3.1.Ratio.Den), (.int .i64 t_3.1.Rho.Num), (.int .i64 t_3.1.Rho.Den)]) 1 0 hF hS sz26 rfl rfl rfl rfl rfl rfl rfl rfl fun a w hF hS => ?_
    refine q_store (vs := [(.int .i64 t_3.2.Ratio.Num), (.int .i64 t_3.2.Ratio.Den), (.int .i64 t_3.2.Rho.Num), (.int .i64 t_3.2.Rho.Den)]) (cs' := [(.int .i64 t_3.2.Ratio.Num), (.int .i64 t_3.2.Ratio.Den), (.int .i64 t_3.2.Rho.Num), (.int .i64 t_3.2.Rho.Den)]) 0 0 hF hS sz26 rfl rfl rfl rfl rfl rfl rfl rfl fun a w hF hS => ?_
    refine q_end (n_sq ?_)
    refine q_seq ?_
    refine q_region ?_
    refine q_x (v := (.agg #[(.int .i64 t_3.1.Ratio.Num), (.int .i64 t_3.1.Ratio.Den), (.int .i64 t_3.1.Rho.Num), (.int .i64 t_3.1.Rho.Den)])) hF hS (ex_loadA (vs := [(.int .i64 t_3.1.Ratio.Num), (.int .i64 t_3.1.Ratio.Den), (.int .i64 t_3.1.Rho.Num), (.int .i64 t_3.1.Rho.Den)]) 1 0 Try.underlying26 rfl sz26 rfl rfl rfl rfl) rfl rfl fun a hF => ?_
    refine q_x (v := (.agg #[(.int .i64 t_3.2.Ratio.Num), (.int .i64 t_3.2.Ratio.Den), (.int .i64 t_3.2.Rho.Num), (.int .i64 t_3.2.Rho.Den)])) hF hS (ex_loadA (vs := [(.int .i64 t_3.2.Ratio.Num), (.int .i64 t_3.2.Ratio.Den), (.int .i64 t_3.2.Rho.Num), (.int .i64 t_3.2.Rho.Den)]) 0 0 Try.underlying26 rfl sz26 rfl rfl rfl rfl) rfl rfl fun a hF => ?_
    obtain ⟨t_6, ht_6, hr⟩ := bindS hr
    refine q_call (vs := [(.agg #[(.int .i64 t_3.1.Ratio.Num), (.int .i64 t_3.1.Ratio.Den), (.int .i64 t_3.1.Rho.Num), (.int .i64 t_3.1.Rho.Den)]), (.agg #[(.int .i64 t_3.2.Ratio.Num), (.int .i64 t_3.2.Ratio.Den), (.int .i64 t_3.2.Rho.Num), (.int .i64 t_3.2.Rho.Den)])]) hF hS Try.func10 (by kernel_rfl) rfl rfl rfl (c_impl_RemainingLoss t_3.1 t_3.2 t_6 ht_6 _ m hS.vis) ?_
    rintro a w _ rfl hF hS
    refine q_x (v := (.tuple #[(.agg #[(.int .i64 t_6.1.Ratio.Num), (.int .i64 t_6.1.Ratio.Den), (.int .i64 t_6.1.Rho.Num), (.int .i64 t_6.1.Rho.Den)]), (.bool t_6.2)])) hF hS (ex_move rfl) rfl rfl fun a hF => ?_
    refine q_x (v := (.agg #[(.int .i64 t_6.1.Ratio.Num), (.int .i64 t_6.1.Ratio.Den), (.int .i64 t_6.1.Rho.Num), (.int .i64 t_6.1.Rho.Den)])) hF hS (ex_extract rfl rfl) rfl rfl fun a hF => ?_
    refine q_x (v := (.bool t_6.2)) hF hS (ex_extract rfl rfl) rfl rfl fun a hF => ?_
    refine q_alloc (cs := [(.int .i64 0), (.int .i64 0), (.int .i64 0), (.int .i64 0)]) hF hS rfl rfl rfl fun a w b7 hF hS => ?_
    refine q_store (vs := [(.int .i64 t_6.1.Ratio.Num), (.int .i64 t_6.1.Ratio.Den), (.int .i64 t_6.1.Rho.Num), (.int .i64 t_6.1.Rho.Den)]) (cs' := [(.int .i64 t_6.1.Ratio.Num), (.int .i64 t_6.1.Ratio.Den), (.int .i64 t_6.1.Rho.Num), (.int .i64 t_6.1.Rho.Den)]) 0 0 hF hS sz26 rfl rfl rfl rfl rfl rfl rfl rfl fun a w hF hS => ?_
    refine q_x (v := (.bool t_6.2)) hF hS (ex_assign rfl) rfl rfl fun a hF => ?_
    refine q_end (n_sq ?_)
    refine q_seq ?_
    refine q_region ?_
    refine q_x (v := (.agg #[(.int .i64 t_3.1.Ratio.Num), (.int .i64 t_3.1.Ratio.Den), (.int .i64 t_3.1.Rho.Num), (.int .i64 t_3.1.Rho.Den)])) hF hS (ex_loadA (vs := [(.int .i64 t_3.1.Ratio.Num), (.int .i64 t_3.1.Ratio.Den), (.int .i64 t_3.1.Rho.Num), (.int .i64 t_3.1.Rho.Den)]) 2 0 Try.underlying26 rfl sz26 rfl rfl rfl rfl) rfl rfl fun a hF => ?_
    refine q_x (v := (.agg #[(.int .i64 t_3.2.Ratio.Num), (.int .i64 t_3.2.Ratio.Den), (.int .i64 t_3.2.Rho.Num), (.int .i64 t_3.2.Rho.Den)])) hF hS (ex_loadA (vs := [(.int .i64 t_3.2.Ratio.Num), (.int .i64 t_3.2.Ratio.Den), (.int .i64 t_3.2.Rho.Num), (.int .i64 t_3.2.Rho.Den)]) 1 0 Try.underlying26 rfl sz26 rfl rfl rfl rfl) rfl rfl fun a hF => ?_
    obtain ⟨t_8, ht_8, hr⟩ := bindS hr
    refine q_call (vs := [(.agg #[(.int .i64 t_3.1.Ratio.Num), (.int .i64 t_3.1.Ratio.Den), (.int .i64 t_3.1.Rho.Num), (.int .i64 t_3.1.Rho.Den)]), (.agg #[(.int .i64 t_3.2.Ratio.Num), (.int .i64 t_3.2.Ratio.Den), (.int .i64 t_3.2.Rho.Num), (.int .i64 t_3.2.Rho.Den)])]) hF hS Try.func11 (by kernel_rfl) rfl rfl rfl (c_spec_RemainingLoss t_3.1 t_3.2 t_8 ht_8 _ m hS.vis) ?_
    rintro a w _ rfl hF hS
    refine q_x (v := (.tuple #[(.agg #[(.int .i64 t_8.1.Ratio.Num), (.int .i64 t_8.1.Ratio.Den), (.int .i64 t_8.1.Rho.Num), (.int .i64 t_8.1.Rho.Den)]), (.bool t_8.2)])) hF hS (ex_move rfl) rfl rfl fun a hF => ?_
    refine q_x (v := (.agg #[(.int .i64 t_8.1.Ratio.Num), (.int .i64 t_8.1.Ratio.Den), (.int .i64 t_8.1.Rho.Num), (.int .i64 t_8.1.Rho.Den)])) hF hS (ex_extract rfl rfl) rfl rfl fun a hF => ?_
    refine q_x (v := (.bool t_8.2)) hF hS (ex_extract rfl rfl) rfl rfl fun a hF => ?_
    refine q_alloc (cs := [(.int .i64 0), (.int .i64 0), (.int .i64 0), (.int .i64 0)]) hF hS rfl rfl rfl fun a w b9 hF hS => ?_
    refine q_store (vs := [(.int .i64 t_8.1.Ratio.Num), (.int .i64 t_8.1.Ratio.Den), (.int .i64 t_8.1.Rho.Num), (.int .i64 t_8.1.Rho.Den)]) (cs' := [(.int .i64 t_8.1.Ratio.Num), (.int .i64 t_8.1.Ratio.Den), (.int .i64 t_8.1.Rho.Num), (.int .i64 t_8.1.Rho.Den)]) 0 0 hF hS sz26 rfl rfl rfl rfl rfl rfl rfl rfl fun a w hF hS => ?_
    refine q_x (v := (.bool t_8.2)) hF hS (ex_assign rfl) rfl rfl fun a hF => ?_
    refine q_end (n_sq ?_)
    refine q_seq ?_
    refine q_region ?_
    refine q_x (v := s2.v) hF hS (ex_move rfl) rfl rfl fun a hF => ?_
    obtain ⟨t_10, ht_10, hr⟩ := bindS hr
    refine q_call (vs := [s2.v]) hF hS Try.func12 (by kernel_rfl) rfl rfl rfl (c_spec_DrawCountUses p_more t_10 ht_10 _ m hS.vis s2 h2) ?_
    rintro a w _ rfl hF hS
    refine q_x (v := (.tuple #[(.agg #[(.int .i64 t_10.1.Ratio.Num), (.int .i64 t_10.1.Ratio.Den), (.int .i64 t_10.1.Rho.Num), (.int .i64 t_10.1.Rho.Den)]), (.agg #[(.int .i64 t_10.2.Ratio.Num), (.int .i64 t_10.2.Ratio.Den), (.int .i64 t_10.2.Rho.Num), (.int .i64 t_10.2.Rho.Den)])])) hF hS (ex_move rfl) rfl rfl fun a hF => ?_
    refine q_x (v := (.agg #[(.int .i64 t_10.1.Ratio.Num), (.int .i64 t_10.1.Ratio.Den), (.int .i64 t_10.1.Rho.Num), (.int .i64 t_10.1.Rho.Den)])) hF hS (ex_extract rfl rfl) rfl rfl fun a hF => ?_
    refine q_x (v := (.agg #[(.int .i64 t_10.2.Ratio.Num), (.int .i64 t_10.2.Ratio.Den), (.int .i64 t_10.2.Rho.Num), (.int .i64 t_10.2.Rho.Den)])) hF hS (ex_extract rfl rfl) rfl rfl fun a hF => ?_
    refine q_alloc (cs := [(.int .i64 0), (.int .i64 0), (.int .i64 0), (.int .i64 0)]) hF hS rfl rfl rfl fun a w b11 hF hS => ?_
    refine q_alloc (cs := [(.int .i64 0), (.int .i64 0), (.int .i64 0), (.int .i64 0)]) hF hS rfl rfl rfl fun a w b12 hF hS => ?_
    refine q_store (vs := [(.int .i64 t_10.1.Ratio.Num), (.int .i64 t_10.1.Ratio.Den), (.int .i64 t_10.1.Rho.Num), (.int .i64 t_10.1.Rho.Den)]) (cs' := [(.int .i64 t_10.1.Ratio.Num), (.int .i64 t_10.1.Ratio.Den), (.int .i64 t_10.1.Rho.Num), (.int .i64 t_10.1.Rho.Den)]) 1 0 hF hS sz26 rfl rfl rfl rfl rfl rfl rfl rfl fun a w hF hS => ?_
    refine q_store (vs := [(.int .i64 t_10.2.Ratio.Num), (.int .i64 t_10.2.Ratio.Den), (.int .i64 t_10.2.Rho.Num), (.int .i64 t_10.2.Rho.Den)]) (cs' := [(.int .i64 t_10.2.Ratio.Num), (.int .i64 t_10.2.Ratio.Den), (.int .i64 t_10.2.Rho.Num), (.int .i64 t_10.2.Rho.Den)]) 0 0 hF hS sz26 rfl rfl rfl rfl rfl rfl rfl rfl fun a w hF hS => ?_
    refine q_end (n_sq ?_)
    refine q_seq ?_
    refine q_region ?_
    refine q_x (v := (.agg #[(.int .i64 t_10.1.Ratio.Num), (.int .i64 t_10.1.Ratio.Den), (.int .i64 t_10.1.Rho.Num), (.int .i64 t_10.1.Rho.Den)])) hF hS (ex_loadA (vs := [(.int .i64 t_10.1.Ratio.Num), (.int .i64 t_10.1.Ratio.Den), (.int .i64 t_10.1.Rho.Num), (.int .i64 t_10.1.Rho.Den)]) 1 0 Try.underlying26 rfl sz26 rfl rfl rfl rfl) rfl rfl fun a hF => ?_
    refine q_x (v := (.agg #[(.int .i64 t_10.2.Ratio.Num), (.int .i64 t_10.2.Ratio.Den), (.int .i64 t_10.2.Rho.Num), (.int .i64 t_10.2.Rho.Den)])) hF hS (ex_loadA (vs := [(.int .i64 t_10.2.Ratio.Num), (.int .i64 t_10.2.Ratio.Den), (.int .i64 t_10.2.Rho.Num), (.int .i64 t_10.2.Rho.Den)]) 0 0 Try.underlying26 rfl sz26 rfl rfl rfl rfl) rfl rfl fun a hF => ?_
    obtain ⟨t_13, ht_13, hr⟩ := bindS hr
    refine q_call (vs := [(.agg #[(.int .i64 t_10.1.Ratio.Num), (.int .i64 t_10.1.Ratio.Den), (.int .i64 t_10.1.Rho.Num), (.int .i64 t_10.1.Rho.Den)]), (.agg #[(.int .i64 t_10.2.Ratio.Num), (.int .i64 t_10.2.Ratio.Den), (.int .i64 t_10.2.Rho.Num), (.int .i64 t_10.2.Rho.Den)])]) hF hS Try.func13 (by kernel_rfl) rfl rfl rfl (c_impl_CountUses t_10.1 t_10.2 t_13 ht_13 _ m hS.vis) ?_
    rintro a w _ rfl hF hS
    refine q_x (v := (.tuple #[(.int .i64 t_13.1), (.bool t_13.2)])) hF hS (ex_move rfl) rfl rfl fun a hF => ?_
    refine q_x (v := (.int .i64 t_13.1)) hF hS (ex_extract rfl rfl) rfl rfl fun a hF => ?_
    refine q_x (v := (.bool t_13.2)) hF hS (ex_extract rfl rfl) rfl rfl fun a hF => ?_
    refine q_x (v := (.int .i64 t_13.1)) hF hS (ex_assign rfl) rfl rfl fun a hF => ?_
    refine q_x (v := (.bool t_13.2)) hF hS (ex_assign rfl) rfl rfl fun a hF => ?_
    refine q_end (n_sq ?_)
    refine q_seq ?_
    refine q_region ?_
    refine q_x (v := (.agg #[(.int .i64 t_10.1.Ratio.Num), (.int .i64 t_10.1.Ratio.Den), (.int .i64 t_10.1.Rho.Num), (.int .i64 t_10.1.Rho.Den)])) hF hS (ex_loadA (vs := [(.int .i64 t_10.1.Ratio.Num), (.int .i64 t_10.1.Ratio.Den), (.int .i64 t_10.1.Rho.Num), (.int .i64 t_10.1.Rho.Den)]) 1 0 Try.underlying26 rfl sz26 rfl rfl rfl rfl) rfl rfl fun a hF => ?_
    refine q_x (v := (.agg #[(.int .i64 t_10.2.Ratio.Num), (.int .i64 t_10.2.Ratio.Den), (.int .i64 t_10.2.Rho.Num), (.int .i64 t_10.2.Rho.Den)])) hF hS (ex_loadA (vs := [(.int .i64 t_10.2.Ratio.Num), (.int .i64 t_10.2.Ratio.Den), (.int .i64 t_10.2.Rho.Num), (.int .i64 t_10.2.Rho.Den)]) 0 0 Try.underlying26 rfl sz26 rfl rfl rfl rfl) rfl rfl fun a hF => ?_
    obtain ⟨t_14, ht_14, hr⟩ := bindS hr
    refine q_call (vs := [(.agg #[(.int .i64 t_10.1.Ratio.Num), (.int .i64 t_10.1.Ratio.Den), (.int .i64 t_10.1.Rho.Num), (.int .i64 t_10.1.Rho.Den)]), (.agg #[(.int .i64 t_10.2.Ratio.Num), (.int .i64 t_10.2.Ratio.Den), (.int .i64 t_10.2.Rho.Num), (.int .i64 t_10.2.Rho.Den)])]) hF hS Try.func14 (by kernel_rfl) rfl rfl rfl (c_spec_CountUses t_10.1 t_10.2 t_14 ht_14 _ m hS.vis) ?_
    rintro a w _ rfl hF hS
    refine q_x (v := (.tuple #[(.int .i64 t_14.1), (.bool t_14.2)])) hF hS (ex_move rfl) rfl rfl fun a hF => ?_
    refine q_x (v := (.int .i64 t_14.1)) hF hS (ex_extract rfl rfl) rfl rfl fun a hF => ?_
    refine q_x (v := (.bool t_14.2)) hF hS (ex_extract rfl rfl) rfl rfl fun a hF => ?_
    refine q_x (v := (.int .i64 t_14.1)) hF hS (ex_assign rfl) rfl rfl fun a hF => ?_
    refine q_x (v := (.bool t_14.2)) hF hS (ex_assign rfl) rfl rfl fun a hF => ?_
    refine q_end (n_sq ?_)
    refine q_seq ?_
    refine q_seq ?_
    obtain ⟨t_15, hj2, hr⟩ := bindS hr
    refine q_join (fun a w => Fr a 142 [(5, (.pointer (some ⟨b4, 0, none⟩))), (6, (.pointer (some ⟨b5, 0, none⟩))), (7, (.pointer (some ⟨b7, 0, none⟩))), (8, (.bool t_6.2)), (11, (.pointer (some ⟨b11, 0, none⟩))), (12, (.pointer (some ⟨b12, 0, none⟩))), (13, (.int .i64 t_13.1)), (14, (.bool t_13.2)), (82, (.bool t_15))] ∧ St [] w0 w m [[⟨b12, [(.int .i64 t_10.2.Ratio.Num), (.int .i64 t_10.2.Ratio.Den), (.int .i64 t_10.2.Rho.Num), (.int .i64 t_10.2.Rho.Den)], 26⟩], [⟨b11, [(.int .i64 t_10.1.Ratio.Num), (.int .i64 t_10.1.Ratio.Den), (.int .i64 t_10.1.Rho.Num), (.int .i64 t_10.1.Rho.Den)], 26⟩], [⟨b7, [(.int .i64 t_6.1.Ratio.Num), (.int .i64 t_6.1.Ratio.Den), (.int .i64 t_6.1.Rho.Num), (.int .i64 t_6.1.Rho.Den)], 26⟩], [⟨b5, [(.int .i64 t_3.2.Ratio.Num), (.int .i64 t_3.2.Ratio.Den), (.int .i64 t_3.2.Rho.Num), (.int .i64 t_3.2.Rho.Den)], 26⟩], [⟨b4, [(.int .i64 t_3.1.Ratio.Num), (.int .i64 t_3.1.Ratio.Den), (.int .i64 t_3.1.Rho.Num), (.int .i64 t_3.1.Rho.Den)], 26⟩]]) ?_ ?_
    · refine q_region ?_
      refine q_x (v := (.bool t_6.2)) hF hS (ex_move rfl) rfl rfl fun a hF => ?_
      refine q_x (v := (.bool t_8.2)) hF hS (ex_move rfl) rfl rfl fun a hF => ?_
      refine q_x (v := (.bool (t_6.2 != t_8.2))) hF hS (ex_bne Try.underlying4 rfl rfl) rfl rfl fun a hF => ?_
      refine q_x (v := (.bool (t_6.2 != t_8.2))) hF hS (ex_move rfl) rfl rfl fun a hF => ?_
      rcases hc3 : (t_6.2 != t_8.2) with _ | _
      · have hj2 := cond_f hc3 hj2
        refine q_xg (v := (.agg #[(.int .i64 t_6.1.Ratio.Num), (.int .i64 t_6.1.Ratio.Den), (.int .i64 t_6.1.Rho.Num), (.int .i64 t_6.1.Rho.Den)])) hF hS (ex_loadA (vs := [(.int .i64 t_6.1.Ratio.Num), (.int .i64 t_6.1.Ratio.Den), (.int .i64 t_6.1.Rho.Num), (.int .i64 t_6.1.Rho.Den)]) 3 0 Try.underlying26 rfl sz26 rfl rfl rfl rfl) (wanted_t hF rfl rfl rfl hc3) rfl fun a hF => ?_
        refine q_xg (v := (.agg #[(.int .i64 t_8.1.Ratio.Num), (.int .i64 t_8.1.Ratio.Den), (.int .i64 t_8.1.Rho.Num), (.int .i64 t_8.1.Rho.Den)])) hF hS (ex_loadA (vs := [(.int .i64 t_8.1.Ratio.Num), (.int .i64 t_8.1.Ratio.Den), (.int .i64 t_8.1.Rho.Num), (.int .i64 t_8.1.Rho.Den)]) 2 0 Try.underlying26 rfl sz26 rfl rfl rfl rfl) (wanted_t hF rfl rfl rfl hc3) rfl fun a hF => ?_
        refine q_xg (v := (.bool (!(((t_6.1.Ratio.Num == t_8.1.Ratio.Num) && ((t_6.1.Ratio.Den == t_8.1.Ratio.Den) && true)) && (((t_6.1.Rho.Num == t_8.1.Rho.Num) && ((t_6.1.Rho.Den == t_8.1.Rho.Den) && true)) && true))))) hF hS (ex_neA (xs := [(.int .i64 t_6.1.Ratio.Num), (.int .i64 t_6.1.Ratio.Den), (.int .i64 t_6.1.Rho.Num), (.int .i64 t_6.1.Rho.Den)]) (ys := [(.int .i64 t_8.1.Ratio.Num), (.int .i64 t_8.1.Ratio.Den), (.int .i64 t_8.1.Rho.Num), (.int .i64 t_8.1.Rho.Den)]) rfl rfl (by kernel_rfl) (eqv_struct (xs := [(.int .i64 t_6.1.Ratio.Num), (.int .i64 t_6.1.Ratio.Den), (.int .i64 t_6.1.Rho.Num), (.int .i64 t_6.1.Rho.Den)]) (ys := [(.int .i64 t_8.1.Ratio.Num), (.int .i64 t_8.1.Ratio.Den), (.int .i64 t_8.1.Rho.Num), (.int .i64 t_8.1.Rho.Den)]) Try.underlying26 (by kernel_rfl) (eqf_cons rfl (part_agg (vs := [(.int .i64 t_6.1.Ratio.Num), (.int .i64 t_6.1.Ratio.Den)]) Try.underlying24 rfl sz24 rfl) (part_agg (vs := [(.int .i64 t_8.1.Ratio.Num), (.int .i64 t_8.1.Ratio.Den)]) Try.underlying24 rfl sz24 rfl) (eqv_struct (xs := [(.int .i64 t_6.1.Ratio.Num), (.int .i64 t_6.1.Ratio.Den)]) (ys := [(.int .i64 t_8.1.Ratio.Num), (.int .i64 t_8.1.Ratio.Den)]) Try.underlying24 (by kernel_rfl) (eqf_cons rfl (part_cell Try.underlying3 rfl rfl) (part_cell Try.underlying3 rfl rfl) (eqv_int Try.underlying3) (eqf_cons rfl (part_cell Try.underlying3 rfl rfl) (part_cell Try.underlying3 rfl rfl) (eqv_int Try.underlying3) (eqf_nil)))) (eqf_cons rfl (part_agg (vs := [(.int .i64 t_6.1.Rho.Num), (.int .i64 t_6.1.Rho.Den)]) Try.underlying24 rfl sz24 rfl) (part_agg (vs := [(.int .i64 t_8.1.Rho.Num), (.int .i64 t_8.1.Rho.Den)]) Try.underlying24 rfl sz24 rfl) (eqv_struct (xs := [(.int .i64 t_6.1.Rho.Num), (.int .i64 t_6.1.Rho.Den)]) (ys := [(.int .i64 t_8.1.Rho.Num), (.int .i64 t_8.1.Rho.Den)]) Try.underlying24 (by kernel_rfl) (eqf_cons rfl (part_cell Try.underlying3 rfl rfl) (part_cell Try.underlying3 rfl rfl) (eqv_int Try.underlying3) (eqf_cons rfl (part_cell Try.underlying3 rfl rfl) (part_cell Try.underlying3 rfl rfl) (eqv_int Try.underlying3) (eqf_nil)))) (eqf_nil))))) (wanted_t hF rfl rfl rfl hc3) rfl fun a hF => ?_
        refine q_x (v := (.bool (!(((t_6.1.Ratio.Num == t_8.1.Ratio.Num) && ((t_6.1.Ratio.Den == t_8.1.Ratio.Den) && true)) && (((t_6.1.Rho.Num == t_8.1.Rho.Num) && ((t_6.1.Rho.Den == t_8.1.Rho.Den) && true)) && true))))) hF hS (ex_pick_f rfl rfl hc3) rfl rfl fun a hF => ?_
        refine q_x (v := (.bool (!(((t_6.1.Ratio.Num == t_8.1.Ratio.Num) && ((t_6.1.Ratio.Den == t_8.1.Ratio.Den) && true)) && (((t_6.1.Rho.Num == t_8.1.Rho.Num) && ((t_6.1.Rho.Den == t_8.1.Rho.Den) && true)) && true))))) hF hS (ex_move rfl) rfl rfl fun a hF => ?_
        rcases hc4 : (!(((t_6.1.Ratio.Num == t_8.1.Ratio.Num) && ((t_6.1.Ratio.Den == t_8.1.Ratio.Den) && true)) && (((t_6.1.Rho.Num == t_8.1.Rho.Num) && ((t_6.1.Rho.Den == t_8.1.Rho.Den) && true)) && true))) with _ | _
        · have hj2 := cond_f hc4 hj2
          refine q_xg (v := (.bool t_13.2)) hF hS (ex_move rfl) (wanted_t hF rfl rfl rfl hc4) rfl fun a hF => ?_
          refine q_xg (v := (.bool t_14.2)) hF hS (ex_move rfl) (wanted_t hF rfl rfl rfl hc4) rfl fun a hF => ?_
          refine q_xg (v := (.bool (t_13.2 != t_14.2))) hF hS (ex_bne Try.underlying4 rfl rfl) (wanted_t hF rfl rfl rfl hc4) rfl fun a hF => ?_
          refine q_x (v := (.bool (t_13.2 != t_14.2))) hF hS (ex_pick_f rfl rfl hc4) rfl rfl fun a hF => ?_
          refine q_x (v := (.bool (t_13.2 != t_14.2))) hF hS (ex_move rfl) rfl rfl fun a hF => ?_
          rcases hc5 : (t_13.2 != t_14.2) with _ | _
          · have hj2 := cond_f hc5 hj2
            refine q_xg (v := (.int .i64 t_13.1)) hF hS (ex_move rfl) (wanted_t hF rfl rfl rfl hc5) rfl fun a hF => ?_
            refine q_xg (v := (.int .i64 t_14.1)) hF hS (ex_move rfl) (wanted_t hF rfl rfl rfl hc5) rfl fun a hF => ?_
            refine q_xg (v := (.bool (t_13.1 != t_14.1))) hF hS (ex_ibin rfl rfl rfl) (wanted_t hF rfl rfl rfl hc5) rfl fun a hF => ?_
            refine q_x (v := (.bool (t_13.1 != t_14.1))) hF hS (ex_pick_f rfl rfl hc5) rfl rfl fun a hF => ?_
            refine q_end (n_jn ?_)
            obtain rfl := someI hj2
            exact ⟨hF.sub ⟨rfl, rfl, rfl, rfl, rfl, rfl, rfl, rfl, rfl, trivial⟩, hS.mask [true, true, false, true, true, true]⟩
          · have hj2 := cond_t hc5 hj2
            refine q_skip hF (wanted_f hF rfl rfl rfl hc5 rfl) rfl fun a hF => ?_
            refine q_skip hF (wanted_f hF rfl rfl rfl hc5 rfl) rfl fun a hF => ?_
            refine q_skip hF (wanted_f hF rfl rfl rfl hc5 rfl) rfl fun a hF => ?_
            refine q_x (v := (.bool true)) hF hS (ex_pick_t rfl rfl hc5) rfl rfl fun a hF => ?_
            refine q_end (n_jn ?_)
            obtain rfl := someI hj2
            exact ⟨hF.sub ⟨rfl, rfl, rfl, rfl, rfl, rfl, rfl, rfl, rfl, trivial⟩, hS.mask [true, true, false, true, true, true]⟩
        · have hj2 := cond_t hc4 hj2
          refine q_skip hF (wanted_f hF rfl rfl rfl hc4 rfl) rfl fun a hF => ?_
          refine q_skip hF (wanted_f hF rfl rfl rfl hc4 rfl) rfl fun a hF => ?_
          refine q_skip hF (wanted_f hF rfl rfl rfl hc4 rfl) rfl fun a hF => ?_
          refine q_x (v := (.bool true)) hF hS (ex_pick_t rfl rfl hc4) rfl rfl fun a hF => ?_
          refine q_x (v := (.bool true)) hF hS (ex_move rfl) rfl rfl fun a hF => ?_
          refine q_skip hF (wanted_f hF rfl rfl rfl rfl rfl) rfl fun a hF => ?_
          refine q_skip hF (wanted_f hF rfl rfl rfl rfl rfl) rfl fun a hF => ?_
          refine q_skip hF (wanted_f hF rfl rfl rfl rfl rfl) rfl fun a hF => ?_
          refine q_x (v := (.bool true)) hF hS (ex_pick_t rfl rfl rfl) rfl rfl fun a hF => ?_
          refine q_end (n_jn ?_)
          obtain rfl := someI hj2
          exact ⟨hF.sub ⟨rfl, rfl, rfl, rfl, rfl, rfl, rfl, rfl, rfl, trivial⟩, hS.mask [true, true, false, true, true, true]⟩
      · have hj2 := cond_t hc3 hj2
        refine q_skip hF (wanted_f hF rfl rfl rfl hc3 rfl) rfl fun a hF => ?_
        refine q_skip hF (wanted_f hF rfl rfl rfl hc3 rfl) rfl fun a hF => ?_
        refine q_skip hF (wanted_f hF rfl rfl rfl hc3 rfl) rfl fun a hF => ?_
        refine q_x (v := (.bool true)) hF hS (ex_pick_t rfl rfl hc3) rfl rfl fun a hF => ?_
        refine q_x (v := (.bool true)) hF hS (ex_move rfl) rfl rfl fun a hF => ?_
        refine q_skip hF (wanted_f hF rfl rfl rfl rfl rfl) rfl fun a hF => ?_
        refine q_skip hF (wanted_f hF rfl rfl rfl rfl rfl) rfl fun a hF => ?_
        refine q_skip hF (wanted_f hF rfl rfl rfl rfl rfl) rfl fun a hF => ?_
        refine q_x (v := (.bool true)) hF hS (ex_pick_t rfl rfl rfl) rfl rfl fun a hF => ?_
        refine q_x (v := (.bool true)) hF hS (ex_move rfl) rfl rfl fun a hF => ?_
        refine q_skip hF (wanted_f hF rfl rfl rfl rfl rfl) rfl fun a hF => ?_
        refine q_skip hF (wanted_f hF rfl rfl rfl rfl rfl) rfl fun a hF => ?_
        refine q_skip hF (wanted_f hF rfl rfl rfl rfl rfl) rfl fun a hF => ?_
        refine q_x (v := (.bool true)) hF hS (ex_pick_t rfl rfl rfl) rfl rfl fun a hF => ?_
        refine q_end (n_jn ?_)
        obtain rfl := someI hj2
        exact ⟨hF.sub ⟨rfl, rfl, rfl, rfl, rfl, rfl, rfl, rfl, rfl, trivial⟩, hS.mask [true, true, false, true, true, true]⟩
    · rintro a w ⟨hF, hS⟩
      refine n_sq ?_
      rcases hc6 : (t_15) with _ | _
      · have hr := cond_f hc6 hr
        refine q_cond_f hF rfl hc6 ?_
        refine q_skipc (n_sq ?_)
        refine q_seq ?_
        refine q_seq ?_
        obtain ⟨t_16, hj7, hr⟩ := bindS hr
        refine q_join (fun a w => Fr a 142 [(5, (.pointer (some ⟨b4, 0, none⟩))), (6, (.pointer (some ⟨b5, 0, none⟩))), (7, (.pointer (some ⟨b7, 0, none⟩))), (8, (.bool t_6.2)), (11, (.pointer (some ⟨b11, 0, none⟩))), (12, (.pointer (some ⟨b12, 0, none⟩))), (13, (.int .i64 t_13.1)), (91, (.bool t_16))] ∧ St [] w0 w m [[⟨b12, [(.int .i64 t_10.2.Ratio.Num), (.int .i64 t_10.2.Ratio.Den), (.int .i64 t_10.2.Rho.Num), (.int .i64 t_10.2.Rho.Den)], 26⟩], [⟨b11, [(.int .i64 t_10.1.Ratio.Num), (.int .i64 t_10.1.Ratio.Den), (.int .i64 t_10.1.Rho.Num), (.int .i64 t_10.1.Rho.Den)], 26⟩], [⟨b7, [(.int .i64 t_6.1.Ratio.Num), (.int .i64 t_6.1.Ratio.Den), (.int .i64 t_6.1.Rho.Num), (.int .i64 t_6.1.Rho.Den)], 26⟩], [⟨b5, [(.int .i64 t_3.2.Ratio.Num), (.int .i64 t_3.2.Ratio.Den), (.int .i64 t_3.2.Rho.Num), (.int .i64 t_3.2.Rho.Den)], 26⟩], [⟨b4, [(.int .i64 t_3.1.Ratio.Num), (.int .i64 t_3.1.Ratio.Den), (.int .i64 t_3.1.Rho.Num), (.int .i64 t_3.1.Rho.Den)], 26⟩]]) ?_ ?_
        · refine q_region ?_
          refine q_x (v := (.bool t_13.2)) hF hS (ex_move rfl) rfl rfl fun a hF => ?_
          refine q_x (v := (.bool t_13.2)) hF hS (ex_move rfl) rfl rfl fun a hF => ?_
          rcases hc8 : (t_13.2) with _ | _
          · have hj7 := cond_f hc8 hj7
            refine q_skip hF (wanted_f hF rfl rfl rfl hc8 rfl) rfl fun a hF => ?_
            refine q_skip hF (wanted_f hF rfl rfl rfl hc8 rfl) rfl fun a hF => ?_
            refine q_x (v := (.bool false)) hF hS (ex_pick_f rfl rfl hc8) rfl rfl fun a hF => ?_
            refine q_x (v := (.bool false)) hF hS (ex_move rfl) rfl rfl fun a hF => ?_
            refine q_skip hF (wanted_f hF rfl rfl rfl rfl rfl) rfl fun a hF => ?_
            refine q_skip hF (wanted_f hF rfl rfl rfl rfl rfl) rfl fun a hF => ?_
            refine q_x (v := (.bool false)) hF hS (ex_pick_f rfl rfl rfl) rfl rfl fun a hF => ?_
            refine q_end (n_jn ?_)
            obtain rfl := someI hj7
            exact ⟨hF.sub ⟨rfl, rfl, rfl, rfl, rfl, rfl, rfl, rfl, trivial⟩, hS⟩
          · have hj7 := cond_t hc8 hj7
            refine q_xg (v := (.int .i64 t_13.1)) hF hS (ex_move rfl) (wanted_t hF rfl rfl rfl hc8) rfl fun a hF => ?_
            refine q_xg (v := (.bool (decide (0 < t_13.1)))) hF hS (ex_ibin rfl rfl rfl) (wanted_t hF rfl rfl rfl hc8) rfl fun a hF => ?_
            refine q_x (v := (.bool (decide (0 < t_13.1)))) hF hS (ex_pick_t rfl rfl hc8) rfl rfl fun a hF => ?_
            refine q_x (v := (.bool (decide (0 < t_13.1)))) hF hS (ex_move rfl) rfl rfl fun a hF => ?_
            rcases hc9 : (decide (0 < t_13.1)) with _ | _
            · have hj7 := cond_f hc9 hj7
              refine q_skip hF (wanted_f hF rfl rfl rfl hc9 rfl) rfl fun a hF => ?_
              refine q_skip hF (wanted_f hF rfl rfl rfl hc9 rfl) rfl fun a hF => ?_
              refine q_x (v := (.bool false)) hF hS (ex_pick_f rfl rfl hc9) rfl rfl fun a hF => ?_
              refine q_end (n_jn ?_)
              obtain rfl := someI hj7
              exact ⟨hF.sub ⟨rfl, rfl, rfl, rfl, rfl, rfl, rfl, rfl, trivial⟩, hS⟩
            · have hj7 := cond_t hc9 hj7
              refine q_xg (v := (.int .i64 t_13.1)) hF hS (ex_move rfl) (wanted_t hF rfl rfl rfl hc9) rfl fun a hF => ?_
              refine q_xg (v := (.bool (decide (t_13.1 ≤ 30)))) hF hS (ex_ibin rfl rfl rfl) (wanted_t hF rfl rfl rfl hc9) rfl fun a hF => ?_
              refine q_x (v := (.bool (decide (t_13.1 ≤ 30)))) hF hS (ex_pick_t rfl rfl hc9) rfl rfl fun a hF => ?_
              refine q_end (n_jn ?_)
              obtain rfl := someI hj7
              exact ⟨hF.sub ⟨rfl, rfl, rfl, rfl, rfl, rfl, rfl, rfl, trivial⟩, hS⟩
        · rintro a w ⟨hF, hS⟩
          refine n_sq ?_
          obtain ⟨j10, hj10, hr⟩ := bindS hr
          refine q_join (fun a w => j10 = .inl () ∧ Fr a 142 [(5, (.pointer (some ⟨b4, 0, none⟩))), (6, (.pointer (some ⟨b5, 0, none⟩))), (7, (.pointer (some ⟨b7, 0, none⟩))), (8, (.bool t_6.2))] ∧ St [] w0 w m [[⟨b7, [(.int .i64 t_6.1.Ratio.Num), (.int .i64 t_6.1.Ratio.Den), (.int .i64 t_6.1.Rho.Num), (.int .i64 t_6.1.Rho.Den)], 26⟩], [⟨b5, [(.int .i64 t_3.2.Ratio.Num), (.int .i64 t_3.2.Ratio.Den), (.int .i64 t_3.2.Rho.Num), (.int .i64 t_3.2.Rho.Den)], 26⟩], [⟨b4, [(.int .i64 t_3.1.Ratio.Num), (.int .i64 t_3.1.Ratio.Den), (.int .i64 t_3.1.Rho.Num), (.int .i64 t_3.1.Rho.Den)], 26⟩]]) ?_ ?_
          · rcases hc11 : (t_16) with _ | _
            · have hj10 := cond_f hc11 hj10
              refine q_cond_f hF rfl hc11 ?_
              refine q_skipc (n_jn ?_)
              obtain rfl := someI hj10
              exact ⟨rfl, hF.sub ⟨rfl, rfl, rfl, rfl, trivial⟩, hS.mask [false, false, true, true, true]⟩
            · have hj10 := cond_t hc11 hj10
              refine q_cond_t hF rfl hc11 ?_
              refine q_seq ?_
              refine q_region ?_
              refine q_x (v := nilS.v) hF hS (ex_assign rfl) rfl rfl fun a hF => ?_
              refine q_end (n_sq ?_)
              refine q_seq ?_
              refine q_seq ?_
              refine q_region ?_
              refine q_x (v := (.int .i64 0)) hF hS (ex_assign rfl) rfl rfl fun a hF => ?_
              refine q_end (n_sq ?_)
              refine q_block ?_
              obtain ⟨l_23, hl12, hj10⟩ := bindS hj10
              refine q_loop (fun (s : (List impl_Loss) × Int) a w => ∃ (q18 : Piece), ∃ (s18 : Sl), ∃ l_17, ∃ i_19, s = (l_17, i_19) ∧ Fr a 142 [(5, (.pointer (some ⟨b4, 0, none⟩))), (6, (.pointer (some ⟨b5, 0, none⟩))), (7, (.pointer (some ⟨b7, 0, none⟩))), (8, (.bool t_6.2)), (11, (.pointer (some ⟨b11, 0, none⟩))), (12, (.pointer (some ⟨b12, 0, none⟩))), (13, (.int .i64 t_13.1)), (17, s18.v), (18, (.int .i64 i_19))] ∧ St [] w0 w m [q18, [⟨b12, [(.int .i64 t_10.2.Ratio.Num), (.int .i64 t_10.2.Ratio.Den), (.int .i64 t_10.2.Rho.Num), (.int .i64 t_10.2.Rho.Den)], 26⟩], [⟨b11, [(.int .i64 t_10.1.Ratio.Num), (.int .i64 t_10.1.Ratio.Den), (.int .i64 t_10.1.Rho.Num), (.int .i64 t_10.1.Rho.Den)], 26⟩], [⟨b7, [(.int .i64 t_6.1.Ratio.Num), (.int .i64 t_6.1.Ratio.Den), (.int .i64 t_6.1.Rho.Num), (.int .i64 t_6.1.Rho.Den)], 26⟩], [⟨b5, [(.int .i64 t_3.2.Ratio.Num), (.int .i64 t_3.2.Ratio.Den), (.int .i64 t_3.2.Rho.Num), (.int .i64 t_3.2.Rho.Den)], 26⟩], [⟨b4, [(.int .i64 t_3.1.Ratio.Num), (.int .i64 t_3.1.Ratio.Den), (.int .i64 t_3.1.Rho.Num), (.int .i64 t_3.1.Rho.Den)], 26⟩]] ∧ OwnL m 26 q18 s18 l_17) (fun (l_23 : (List impl_Loss)) e a w => ∃ (q24 : Piece), ∃ (s24 : Sl), e = .exit 0 ∧ Fr a 142 [(5, (.pointer (some ⟨b4, 0, none⟩))), (6, (.pointer (some ⟨b5, 0, none⟩))), (7, (.pointer (some ⟨b7, 0, none⟩))), (8, (.bool t_6.2)), (11, (.pointer (some ⟨b11, 0, none⟩))), (17, s24.v)] ∧ St [] w0 w m [q24, [⟨b11, [(.int .i64 t_10.1.Ratio.Num), (.int .i64 t_10.1.Ratio.Den), (.int .i64 t_10.1.Rho.Num), (.int .i64 t_10.1.Rho.Den)], 26⟩], [⟨b7, [(.int .i64 t_6.1.Ratio.Num), (.int .i64 t_6.1.Ratio.Den), (.int .i64 t_6.1.Rho.Num), (.int .i64 t_6.1.Rho.Den)], 26⟩], [⟨b5, [(.int .i64 t_3.2.Ratio.Num), (.int .i64 t_3.2.Ratio.Den), (.int .i64 t_3.2.Rho.Num), (.int .i64 t_3.2.Rho.Den)], 26⟩], [⟨b4, [(.int .i64 t_3.1.Ratio.Num), (.int .i64 t_3.1.Ratio.Den), (.int .i64 t_3.1.Rho.Num), (.int .i64 t_3.1.Rho.Den)], 26⟩]] ∧ OwnL m 26 q24 s24 l_23) hl12 ⟨[], nilS, _, _, rfl, hF.sub ⟨rfl, rfl, rfl, rfl, rfl, rfl, rfl, rfl, rfl, trivial⟩, hS.sel [5, 0, 1, 2, 3, 4] (by decide), (OwnL.nil (α := impl_Loss) m 26)⟩ ?_ ?_
              · clear hF hS
                rintro s a w st ⟨q18, s18, l_17, i_19, rfl, hF, hS, h18⟩ hb12
                unfold laws_FnLosses_l1 at hb12
                refine q_seq ?_
                refine q_seq ?_
                refine q_region ?_
                refine q_x (v := (.int .i64 i_19)) hF hS (ex_move rfl) rfl rfl fun a hF => ?_
                refine q_x (v := (.int .i64 t_13.1)) hF hS (ex_move rfl) rfl rfl fun a hF => ?_
                refine q_x (v := (.bool (decide (i_19 < t_13.1)))) hF hS (ex_ibin rfl rfl rfl) rfl rfl fun a hF => ?_
                refine q_end (n_sq ?_)
                rcases hc13 : (decide (i_19 < t_13.1)) with _ | _
                · have hb12 := cond_f hc13 hb12
                  refine q_cond_f hF rfl hc13 ?_
                  refine q_exit (x_sq ?_)
                  obtain rfl := someI hb12
                  exact ⟨nofun, .inl ⟨q18, s18, rfl, hF.sub ⟨rfl, rfl, rfl, rfl, rfl, rfl, trivial⟩, hS.mask [true, false, true, true, true, true], h18⟩⟩
                · have hb12 := cond_t hc13 hb12
                  refine q_cond_t hF rfl hc13 ?_
                  refine q_skipc (n_sq ?_)
                  refine q_seq ?_
                  refine q_block ?_
                  refine q_region ?_
                  refine q_x (v := s18.v) hF hS (ex_move rfl) rfl rfl fun a hF => ?_
                  refine q_x (v := (.agg #[(.int .i64 t_10.2.Ratio.Num), (.int .i64 t_10.2.Ratio.Den), (.int .i64 t_10.2.Rho.Num), (.int .i64 t_10.2.Rho.Den)])) hF hS (ex_loadA (vs := [(.int .i64 t_10.2.Ratio.Num), (.int .i64 t_10.2.Ratio.Den), (.int .i64 t_10.2.Rho.Num), (.int .i64 t_10.2.Rho.Den)]) 1 0 Try.underlying26 rfl sz26 rfl rfl rfl rfl) rfl rfl fun a hF => ?_
                  refine q_do rfl fun _ hK => wp_buildSlice' (l := ([t_10.2] : List impl_Loss)) (cells := [(.int .i64 t_10.2.Ratio.Num), (.int .i64 t_10.2.Ratio.Den), (.int .i64 t_10.2.Rho.Num), (.int .i64 t_10.2.Rho.Den)]) hF hS Try.underlying33 inf26 rfl rfl (by kernel_rfl) rfl rfl rfl ⟨rfl, rfl⟩ rfl rfl fun a w q20 s20 hF hS h20 _ => hK _ _ ?_
                  have hS : St _ _ _ _ [q18, q20, [⟨b12, [(.int .i64 t_10.2.Ratio.Num), (.int .i64 t_10.2.Ratio.Den), (.int .i64 t_10.2.Rho.Num), (.int .i64 t_10.2.Rho.Den)], 26⟩], [⟨b11, [(.int .i64 t_10.1.Ratio.Num), (.int .i64 t_10.1.Ratio.Den), (.int .i64 t_10.1.Rho.Num), (.int .i64 t_10.1.Rho.Den)], 26⟩], [⟨b7, [(.int .i64 t_6.1.Ratio.Num), (.int .i64 t_6.1.Ratio.Den), (.int .i64 t_6.1.Rho.Num), (.int .i64 t_6.1.Rho.Den)], 26⟩], [⟨b5, [(.int .i64 t_3.2.Ratio.Num), (.int .i64 t_3.2.Ratio.Den), (.int .i64 t_3.2.Rho.Num), (.int .i64 t_3.2.Rho.Den)], 26⟩], [⟨b4, [(.int .i64 t_3.1.Ratio.Num), (.int .i64 t_3.1.Ratio.Den), (.int .i64 t_3.1.Rho.Num), (.int .i64 t_3.1.Rho.Den)], 26⟩]] := hS.sel [1, 0, 2, 3, 4, 5, 6] (by decide)
                  obtain ⟨l_21, hl_21, hb12⟩ := bindS hb12
                  refine q_do rfl fun _ hK => wp_append hF hS h18 Try.underlying33 inf26 rfl rfl rfl rfl (h20.vw hS (j := 1) rfl) rfl (by decide) hl_21 rfl fun a w q22 s22 hF hS h22 => hK _ _ ?_
                  refine q_x (v := s22.v) hF hS (ex_assign rfl) rfl rfl fun a hF => ?_
                  refine q_end (n_ib (n_sq ?_))
                  refine q_region ?_
                  refine q_x (v := (.int .i64 i_19)) hF hS (ex_move rfl) rfl rfl fun a hF => ?_
                  refine q_x (v := (.int .i64 (w64 (i_19 + 1)))) hF hS (ex_ibin rfl rfl rfl) rfl rfl fun a hF => ?_
                  refine q_x (v := (.int .i64 (w64 (i_19 + 1)))) hF hS (ex_assign rfl) rfl rfl fun a hF => ?_
                  refine q_end ?_
                  obtain rfl := someI hb12
                  exact ⟨rfl, q22, s22, _, _, rfl, hF.sub ⟨rfl, rfl, rfl, rfl, rfl, rfl, rfl, rfl, rfl, trivial⟩, hS.mask [true, false, true, true, true, true, true], h22⟩
              · rintro e a w ⟨q24, s24, rfl, hF, hS, h24⟩
                refine x_ib (n_sq ?_)
                refine q_seq ?_
                refine q_region ?_
                refine q_x (v := s24.v) hF hS (ex_move rfl) rfl rfl fun a hF => ?_
                obtain ⟨m26, hl26, hv26, hz26⟩ := hS.lend
                obtain ⟨t_25, ht_25, hj10⟩ := bindS hj10
                refine q_call (vs := [s24.v]) hF hS Try.func15 (by kernel_rfl) rfl rfl rfl (c_impl_ComposeLosses l_23 t_25 ht_25 _ m26 hv26 s24 (h24.froz hl26 (hz26 0 _ rfl))) ?_
                rintro a w _ rfl hF hS
                refine q_x (v := (.tuple #[(.agg #[(.int .i64 t_25.1.Ratio.Num), (.int .i64 t_25.1.Ratio.Den), (.int .i64 t_25.1.Rho.Num), (.int .i64 t_25.1.Rho.Den)]), (.bool t_25.2)])) hF hS (ex_move rfl) rfl rfl fun a hF => ?_
                refine q_x (v := (.agg #[(.int .i64 t_25.1.Ratio.Num), (.int .i64 t_25.1.Ratio.Den), (.int .i64 t_25.1.Rho.Num), (.int .i64 t_25.1.Rho.Den)])) hF hS (ex_extract rfl rfl) rfl rfl fun a hF => ?_
                refine q_x (v := (.bool t_25.2)) hF hS (ex_extract rfl rfl) rfl rfl fun a hF => ?_
                refine q_alloc (cs := [(.int .i64 0), (.int .i64 0), (.int .i64 0), (.int .i64 0)]) hF hS rfl rfl rfl fun a w b27 hF hS => ?_
                refine q_store (vs := [(.int .i64 t_25.1.Ratio.Num), (.int .i64 t_25.1.Ratio.Den), (.int .i64 t_25.1.Rho.Num), (.int .i64 t_25.1.Rho.Den)]) (cs' := [(.int .i64 t_25.1.Ratio.Num), (.int .i64 t_25.1.Ratio.Den), (.int .i64 t_25.1.Rho.Num), (.int .i64 t_25.1.Rho.Den)]) 0 0 hF hS sz26 rfl rfl rfl rfl rfl rfl rfl rfl fun a w hF hS => ?_
                refine q_x (v := (.bool t_25.2)) hF hS (ex_assign rfl) rfl rfl fun a hF => ?_
                refine q_end (n_sq ?_)
                refine q_seq ?_
                refine q_region ?_
                refine q_x (v := (.agg #[(.int .i64 t_10.1.Ratio.Num), (.int .i64 t_10.1.Ratio.Den), (.int .i64 t_10.1.Rho.Num), (.int .i64 t_10.1.Rho.Den)])) hF hS (ex_loadA (vs := [(.int .i64 t_10.1.Ratio.Num), (.int .i64 t_10.1.Ratio.Den), (.int .i64 t_10.1.Rho.Num), (.int .i64 t_10.1.Rho.Den)]) 2 0 Try.underlying26 rfl sz26 rfl rfl rfl rfl) rfl rfl fun a hF => ?_
                refine q_x (v := (.agg #[(.int .i64 t_25.1.Ratio.Num), (.int .i64 t_25.1.Ratio.Den), (.int .i64 t_25.1.Rho.Num), (.int .i64 t_25.1.Rho.Den)])) hF hS (ex_loadA (vs := [(.int .i64 t_25.1.Ratio.Num), (.int .i64 t_25.1.Ratio.Den), (.int .i64 t_25.1.Rho.Num), (.int .i64 t_25.1.Rho.Den)]) 0 0 Try.underlying26 rfl sz26 rfl rfl rfl rfl) rfl rfl fun a hF => ?_
                obtain ⟨t_28, ht_28, hj10⟩ := bindS hj10
                refine q_call (vs := [(.agg #[(.int .i64 t_10.1.Ratio.Num), (.int .i64 t_10.1.Ratio.Den), (.int .i64 t_10.1.Rho.Num), (.int .i64 t_10.1.Rho.Den)]), (.agg #[(.int .i64 t_25.1.Ratio.Num), (.int .i64 t_25.1.Ratio.Den), (.int .i64 t_25.1.Rho.Num), (.int .i64 t_25.1.Rho.Den)])]) hF hS Try.func16 (by kernel_rfl) rfl rfl rfl (c_impl_IsWithin t_10.1 t_25.1 t_28 ht_28 _ m hS.vis) ?_
                rintro a w _ rfl hF hS
                refine q_x (v := (.tuple #[(.bool t_28.1), (.bool t_28.2)])) hF hS (ex_move rfl) rfl rfl fun a hF => ?_
                refine q_x (v := (.bool t_28.1)) hF hS (ex_extract rfl rfl) rfl rfl fun a hF => ?_
                refine q_x (v := (.bool t_28.2)) hF hS (ex_extract rfl rfl) rfl rfl fun a hF => ?_
                refine q_x (v := (.bool t_28.1)) hF hS (ex_assign rfl) rfl rfl fun a hF => ?_
                refine q_x (v := (.bool t_28.2)) hF hS (ex_assign rfl) rfl rfl fun a hF => ?_
                refine q_end (n_sq ?_)
                refine q_seq ?_
                obtain ⟨t_29, hj14, hj10⟩ := bindS hj10
                refine q_join (fun a w => Fr a 142 [(5, (.pointer (some ⟨b4, 0, none⟩))), (6, (.pointer (some ⟨b5, 0, none⟩))), (7, (.pointer (some ⟨b7, 0, none⟩))), (8, (.bool t_6.2)), (121, (.bool t_29))] ∧ St [] w0 w m [[⟨b7, [(.int .i64 t_6.1.Ratio.Num), (.int .i64 t_6.1.Ratio.Den), (.int .i64 t_6.1.Rho.Num), (.int .i64 t_6.1.Rho.Den)], 26⟩], [⟨b5, [(.int .i64 t_3.2.Ratio.Num), (.int .i64 t_3.2.Ratio.Den), (.int .i64 t_3.2.Rho.Num), (.int .i64 t_3.2.Rho.Den)], 26⟩], [⟨b4, [(.int .i64 t_3.1.Ratio.Num), (.int .i64 t_3.1.Ratio.Den), (.int .i64 t_3.1.Rho.Num), (.int .i64 t_3.1.Rho.Den)], 26⟩]]) ?_ ?_
                · refine q_region ?_
                  refine q_x (v := (.bool t_25.2)) hF hS (ex_move rfl) rfl rfl fun a hF => ?_
                  refine q_x (v := (.bool (!t_25.2))) hF hS (ex_not rfl) rfl rfl fun a hF => ?_
                  refine q_x (v := (.bool (!t_25.2))) hF hS (ex_move rfl) rfl rfl fun a hF => ?_
                  rcases hc15 : (!t_25.2) with _ | _
                  · have hj14 := cond_f hc15 hj14
                    refine q_xg (v := (.bool t_28.2)) hF hS (ex_move rfl) (wanted_t hF rfl rfl rfl hc15) rfl fun a hF => ?_
                    refine q_xg (v := (.bool (!t_28.2))) hF hS (ex_not rfl) (wanted_t hF rfl rfl rfl hc15) rfl fun a hF => ?_
                    refine q_x (v := (.bool (!t_28.2))) hF hS (ex_pick_f rfl rfl hc15) rfl rfl fun a hF => ?_
                    refine q_x (v := (.bool (!t_28.2))) hF hS (ex_move rfl) rfl rfl fun a hF => ?_
                    rcases hc16 : (!t_28.2) with _ | _
                    · have hj14 := cond_f hc16 hj14
                      refine q_xg (v := (.bool t_28.1)) hF hS (ex_move rfl) (wanted_t hF rfl rfl rfl hc16) rfl fun a hF => ?_
                      refine q_xg (v := (.bool (!t_28.1))) hF hS (ex_not rfl) (wanted_t hF rfl rfl rfl hc16) rfl fun a hF => ?_
                      refine q_x (v := (.bool (!t_28.1))) hF hS (ex_pick_f rfl rfl hc16) rfl rfl fun a hF => ?_
                      refine q_end (n_jn ?_)
                      obtain rfl := someI hj14
                      exact ⟨hF.sub ⟨rfl, rfl, rfl, rfl, rfl, trivial⟩, hS.mask [false, false, false, true, true, true]⟩
                    · have hj14 := cond_t hc16 hj14
                      refine q_skip hF (wanted_f hF rfl rfl rfl hc16 rfl) rfl fun a hF => ?_
                      refine q_skip hF (wanted_f hF rfl rfl rfl hc16 rfl) rfl fun a hF => ?_
                      refine q_x (v := (.bool true)) hF hS (ex_pick_t rfl rfl hc16) rfl rfl fun a hF => ?_
                      refine q_end (n_jn ?_)
                      obtain rfl := someI hj14
                      exact ⟨hF.sub ⟨rfl, rfl, rfl, rfl, rfl, trivial⟩, hS.mask [false, false, false, true, true, true]⟩
                  · have hj14 := cond_t hc15 hj14
                    refine q_skip hF (wanted_f hF rfl rfl rfl hc15 rfl) rfl fun a hF => ?_
                    refine q_skip hF (wanted_f hF rfl rfl rfl hc15 rfl) rfl fun a hF => ?_
                    refine q_x (v := (.bool true)) hF hS (ex_pick_t rfl rfl hc15) rfl rfl fun a hF => ?_
                    refine q_x (v := (.bool true)) hF hS (ex_move rfl) rfl rfl fun a hF => ?_
                    refine q_skip hF (wanted_f hF rfl rfl rfl rfl rfl) rfl fun a hF => ?_
                    refine q_skip hF (wanted_f hF rfl rfl rfl rfl rfl) rfl fun a hF => ?_
                    refine q_x (v := (.bool true)) hF hS (ex_pick_t rfl rfl rfl) rfl rfl fun a hF => ?_
                    refine q_end (n_jn ?_)
                    obtain rfl := someI hj14
                    exact ⟨hF.sub ⟨rfl, rfl, rfl, rfl, rfl, trivial⟩, hS.mask [false, false, false, true, true, true]⟩
                · rintro a w ⟨hF, hS⟩
                  refine n_sq ?_
                  rcases hc17 : (t_29) with _ | _
                  · have hj10 := cond_f hc17 hj10
                    refine q_cond_f hF rfl hc17 ?_
                    refine q_skipc (n_jn ?_)
                    obtain rfl := someI hj10
                    exact ⟨rfl, hF.sub ⟨rfl, rfl, rfl, rfl, trivial⟩, hS⟩
                  · have hj10 := cond_t hc17 hj10
                    refine q_cond_t hF rfl hc17 ?_
                    refine q_seq ?_
                    refine q_region ?_
                    refine q_x (v := (.bool false)) hF hS (ex_assign rfl) rfl rfl fun a hF => ?_
                    refine q_end (n_sq (q_ret (r_jn ?_)))
                    obtain rfl := someI hj10
                    refine r_sq ?_
                    obtain rfl := someI hr
                    exact ret_of hF hS rfl (.tmp rfl .nil) rfl
          · rintro a w ⟨rfl, hF, hS⟩
            refine n_sq ?_
            refine q_seq ?_
            refine q_seq ?_
            refine q_region ?_
            refine q_x (v := (.bool t_6.2)) hF hS (ex_move rfl) rfl rfl fun a hF => ?_
            refine q_x (v := (.bool (!t_6.2))) hF hS (ex_not rfl) rfl rfl fun a hF => ?_
            refine q_end (n_sq ?_)
            rcases hc18 : (!t_6.2) with _ | _
            · have hr := cond_f hc18 hr
              refine q_cond_f hF rfl hc18 ?_
              refine q_skipc (n_sq ?_)
              refine q_seq ?_
              refine q_region ?_
              refine q_x (v := (.agg #[(.int .i64 t_6.1.Ratio.Num), (.int .i64 t_6.1.Ratio.Den), (.int .i64 t_6.1.Rho.Num), (.int .i64 t_6.1.Rho.Den)])) hF hS (ex_loadA (vs := [(.int .i64 t_6.1.Ratio.Num), (.int .i64 t_6.1.Ratio.Den), (.int .i64 t_6.1.Rho.Num), (.int .i64 t_6.1.Rho.Den)]) 0 0 Try.underlying26 rfl sz26 rfl rfl rfl rfl) rfl rfl fun a hF => ?_
              refine q_x (v := (.agg #[(.int .i64 t_3.2.Ratio.Num), (.int .i64 t_3.2.Ratio.Den), (.int .i64 t_3.2.Rho.Num), (.int .i64 t_3.2.Rho.Den)])) hF hS (ex_loadA (vs := [(.int .i64 t_3.2.Ratio.Num), (.int .i64 t_3.2.Ratio.Den), (.int .i64 t_3.2.Rho.Num), (.int .i64 t_3.2.Rho.Den)]) 1 0 Try.underlying26 rfl sz26 rfl rfl rfl rfl) rfl rfl fun a hF => ?_
              refine q_do rfl fun _ hK => wp_buildSlice' (l := ([t_6.1, t_3.2] : List impl_Loss)) (cells := [(.int .i64 t_6.1.Ratio.Num), (.int .i64 t_6.1.Ratio.Den), (.int .i64 t_6.1.Rho.Num), (.int .i64 t_6.1.Rho.Den), (.int .i64 t_3.2.Ratio.Num), (.int .i64 t_3.2.Ratio.Den), (.int .i64 t_3.2.Rho.Num), (.int .i64 t_3.2.Rho.Den)]) hF hS Try.underlying33 inf26 rfl rfl (by kernel_rfl) rfl rfl rfl ⟨rfl, rfl, rfl⟩ rfl rfl fun a w q30 s30 hF hS h30 _ => hK _ _ ?_
              obtain ⟨m32, hl32, hv32, hz32⟩ := hS.lend
              obtain ⟨t_31, ht_31, hr⟩ := bindS hr
              refine q_call (vs := [s30.v]) hF hS Try.func15 (by kernel_rfl) rfl rfl rfl (c_impl_ComposeLosses ([t_6.1, t_3.2] : List impl_Loss) t_31 ht_31 _ m32 hv32 s30 (h30.froz hl32 (hz32 0 _ rfl))) ?_
              rintro a w _ rfl hF hS
              refine q_x (v := (.tuple #[(.agg #[(.int .i64 t_31.1.Ratio.Num), (.int .i64 t_31.1.Ratio.Den), (.int .i64 t_31.1.Rho.Num), (.int .i64 t_31.1.Rho.Den)]), (.bool t_31.2)])) hF hS (ex_move rfl) rfl rfl fun a hF => ?_
              refine q_x (v := (.agg #[(.int .i64 t_31.1.Ratio.Num), (.int .i64 t_31.1.Ratio.Den), (.int .i64 t_31.1.Rho.Num), (.int .i64 t_31.1.Rho.Den)])) hF hS (ex_extract rfl rfl) rfl rfl fun a hF => ?_
              refine q_x (v := (.bool t_31.2)) hF hS (ex_extract rfl rfl) rfl rfl fun a hF => ?_
              refine q_alloc (cs := [(.int .i64 0), (.int .i64 0), (.int .i64 0), (.int .i64 0)]) hF hS rfl rfl rfl fun a w b33 hF hS => ?_
              refine q_store (vs := [(.int .i64 t_31.1.Ratio.Num), (.int .i64 t_31.1.Ratio.Den), (.int .i64 t_31.1.Rho.Num), (.int .i64 t_31.1.Rho.Den)]) (cs' := [(.int .i64 t_31.1.Ratio.Num), (.int .i64 t_31.1.Ratio.Den), (.int .i64 t_31.1.Rho.Num), (.int .i64 t_31.1.Rho.Den)]) 0 0 hF hS sz26 rfl rfl rfl rfl rfl rfl rfl rfl fun a w hF hS => ?_
              refine q_x (v := (.bool t_31.2)) hF hS (ex_assign rfl) rfl rfl fun a hF => ?_
              refine q_end (n_sq ?_)
              refine q_seq ?_
              obtain ⟨t_35, hj19, hr⟩ := bindS hr
              refine q_join (fun a w => Fr a 142 [(4, (.bool t_35))] ∧ St [] w0 w m []) ?_ ?_
              · refine q_region ?_
                refine q_x (v := (.agg #[(.int .i64 t_6.1.Ratio.Num), (.int .i64 t_6.1.Ratio.Den), (.int .i64 t_6.1.Rho.Num), (.int .i64 t_6.1.Rho.Den)])) hF hS (ex_loadA (vs := [(.int .i64 t_6.1.Ratio.Num), (.int .i64 t_6.1.Ratio.Den), (.int .i64 t_6.1.Rho.Num), (.int .i64 t_6.1.Rho.Den)]) 2 0 Try.underlying26 rfl sz26 rfl rfl rfl rfl) rfl rfl fun a hF => ?_
                obtain ⟨t_34, ht_34, hj19⟩ := bindS hj19
                refine q_call (vs := [(.agg #[(.int .i64 t_6.1.Ratio.Num), (.int .i64 t_6.1.Ratio.Den), (.int .i64 t_6.1.Rho.Num), (.int .i64 t_6.1.Rho.Den)])]) hF hS Try.func17 (by kernel_rfl) rfl rfl rfl (c_impl_IsLoss t_6.1 t_34 ht_34 _ m hS.vis) ?_
                rintro a w _ rfl hF hS
                refine q_x (v := (.bool t_34)) hF hS (ex_move rfl) rfl rfl fun a hF => ?_
                rcases hc20 : (t_34) with _ | _
                · have hj19 := cond_f hc20 hj19
                  refine q_skip hF (wanted_f hF rfl rfl rfl hc20 rfl) rfl fun a hF => ?_
                  refine q_skip hF (wanted_f hF rfl rfl rfl hc20 rfl) rfl fun a hF => ?_
                  refine q_skip hF (wanted_f hF rfl rfl rfl hc20 rfl) rfl fun a hF => ?_
                  refine q_skip hF (wanted_u hF rfl rfl rfl) rfl fun a hF => ?_
                  refine q_skip hF (wanted_u hF rfl rfl rfl) rfl fun a hF => ?_
                  refine q_skip hF (wanted_u hF rfl rfl rfl) rfl fun a hF => ?_
                  refine q_skip hF (wanted_f hF rfl rfl rfl hc20 rfl) rfl fun a hF => ?_
                  refine q_x (v := (.bool false)) hF hS (ex_pick_f rfl rfl hc20) rfl rfl fun a hF => ?_
                  refine q_x (v := (.bool false)) hF hS (ex_assign rfl) rfl rfl fun a hF => ?_
                  refine q_end (n_jn ?_)
                  obtain rfl := someI hj19
                  exact ⟨hF.sub ⟨rfl, trivial⟩, hS.mask [false, false, false, false, false]⟩
                · have hj19 := cond_t hc20 hj19
                  refine q_xg (v := (.bool t_31.2)) hF hS (ex_move rfl) (wanted_t hF rfl rfl rfl hc20) rfl fun a hF => ?_
                  refine q_xg (v := (.bool (!t_31.2))) hF hS (ex_not rfl) (wanted_t hF rfl rfl rfl hc20) rfl fun a hF => ?_
                  refine q_xg (v := (.bool (!t_31.2))) hF hS (ex_move rfl) (wanted_t hF rfl rfl rfl hc20) rfl fun a hF => ?_
                  rcases hc21 : (!t_31.2) with _ | _
                  · have hj19 := cond_f hc21 hj19
                    refine q_xg (v := (.agg #[(.int .i64 t_31.1.Ratio.Num), (.int .i64 t_31.1.Ratio.Den), (.int .i64 t_31.1.Rho.Num), (.int .i64 t_31.1.Rho.Den)])) hF hS (ex_loadA (vs := [(.int .i64 t_31.1.Ratio.Num), (.int .i64 t_31.1.Ratio.Den), (.int .i64 t_31.1.Rho.Num), (.int .i64 t_31.1.Rho.Den)]) 0 0 Try.underlying26 rfl sz26 rfl rfl rfl rfl) (wanted_t hF rfl rfl rfl hc21) rfl fun a hF => ?_
                    refine q_xg (v := (.agg #[(.int .i64 t_3.1.Ratio.Num), (.int .i64 t_3.1.Ratio.Den), (.int .i64 t_3.1.Rho.Num), (.int .i64 t_3.1.Rho.Den)])) hF hS (ex_loadA (vs := [(.int .i64 t_3.1.Ratio.Num), (.int .i64 t_3.1.Ratio.Den), (.int .i64 t_3.1.Rho.Num), (.int .i64 t_3.1.Rho.Den)]) 4 0 Try.underlying26 rfl sz26 rfl rfl rfl rfl) (wanted_t hF rfl rfl rfl hc21) rfl fun a hF => ?_
                    refine q_xg (v := (.bool (((t_31.1.Ratio.Num == t_3.1.Ratio.Num) && ((t_31.1.Ratio.Den == t_3.1.Ratio.Den) && true)) && (((t_31.1.Rho.Num == t_3.1.Rho.Num) && ((t_31.1.Rho.Den == t_3.1.Rho.Den) && true)) && true)))) hF hS (ex_eqA (xs := [(.int .i64 t_31.1.Ratio.Num), (.int .i64 t_31.1.Ratio.Den), (.int .i64 t_31.1.Rho.Num), (.int .i64 t_31.1.Rho.Den)]) (ys := [(.int .i64 t_3.1.Ratio.Num), (.int .i64 t_3.1.Ratio.Den), (.int .i64 t_3.1.Rho.Num), (.int .i64 t_3.1.Rho.Den)]) rfl rfl (by kernel_rfl) (eqv_struct (xs := [(.int .i64 t_31.1.Ratio.Num), (.int .i64 t_31.1.Ratio.Den), (.int .i64 t_31.1.Rho.Num), (.int .i64 t_31.1.Rho.Den)]) (ys := [(.int .i64 t_3.1.Ratio.Num), (.int .i64 t_3.1.Ratio.Den), (.int .i64 t_3.1.Rho.Num), (.int .i64 t_3.1.Rho.Den)]) Try.underlying26 (by kernel_rfl) (eqf_cons rfl (part_agg (vs := [(.int .i64 t_31.1.Ratio.Num), (.int .i64 t_31.1.Ratio.Den)]) Try.underlying24 rfl sz24 rfl) (part_agg (vs := [(.int .i64 t_3.1.Ratio.Num), (.int .i64 t_3.1.Ratio.Den)]) Try.underlying24 rfl sz24 rfl) (eqv_struct (xs := [(.int .i64 t_31.1.Ratio.Num), (.int .i64 t_31.1.Ratio.Den)]) (ys := [(.int .i64 t_3.1.Ratio.Num), (.int .i64 t_3.1.Ratio.Den)]) Try.underlying24 (by kernel_rfl) (eqf_cons rfl (part_cell Try.underlying3 rfl rfl) (part_cell Try.underlying3 rfl rfl) (eqv_int Try.underlying3) (eqf_cons rfl (part_cell Try.underlying3 rfl rfl) (part_cell Try.underlying3 rfl rfl) (eqv_int Try.underlying3) (eqf_nil)))) (eqf_cons rfl (part_agg (vs := [(.int .i64 t_31.1.Rho.Num), (.int .i64 t_31.1.Rho.Den)]) Try.underlying24 rfl sz24 rfl) (part_agg (vs := [(.int .i64 t_3.1.Rho.Num), (.int .i64 t_3.1.Rho.Den)]) Try.underlying24 rfl sz24 rfl) (eqv_struct (xs := [(.int .i64 t_31.1.Rho.Num), (.int .i64 t_31.1.Rho.Den)]) (ys := [(.int .i64 t_3.1.Rho.Num), (.int .i64 t_3.1.Rho.Den)]) Try.underlying24 (by kernel_rfl) (eqf_cons rfl (part_cell Try.underlying3 rfl rfl) (part_cell Try.underlying3 rfl rfl) (eqv_int Try.underlying3) (eqf_cons rfl (part_cell Try.underlying3 rfl rfl) (part_cell Try.underlying3 rfl rfl) (eqv_int Try.underlying3) (eqf_nil)))) (eqf_nil))))) (wanted_t hF rfl rfl rfl hc21) rfl fun a hF => ?_
                    refine q_xg (v := (.bool (((t_31.1.Ratio.Num == t_3.1.Ratio.Num) && ((t_31.1.Ratio.Den == t_3.1.Ratio.Den) && true)) && (((t_31.1.Rho.Num == t_3.1.Rho.Num) && ((t_31.1.Rho.Den == t_3.1.Rho.Den) && true)) && true)))) hF hS (ex_pick_f rfl rfl hc21) (wanted_t hF rfl rfl rfl hc20) rfl fun a hF => ?_
                    refine q_x (v := (.bool (((t_31.1.Ratio.Num == t_3.1.Ratio.Num) && ((t_31.1.Ratio.Den == t_3.1.Ratio.Den) && true)) && (((t_31.1.Rho.Num == t_3.1.Rho.Num) && ((t_31.1.Rho.Den == t_3.1.Rho.Den) && true)) && true)))) hF hS (ex_pick_t rfl rfl hc20) rfl rfl fun a hF => ?_
                    refine q_x (v := (.bool (((t_31.1.Ratio.Num == t_3.1.Ratio.Num) && ((t_31.1.Ratio.Den == t_3.1.Ratio.Den) && true)) && (((t_31.1.Rho.Num == t_3.1.Rho.Num) && ((t_31.1.Rho.Den == t_3.1.Rho.Den) && true)) && true)))) hF hS (ex_assign rfl) rfl rfl fun a hF => ?_
                    refine q_end (n_jn ?_)
                    obtain rfl := someI hj19
                    exact ⟨hF.sub ⟨rfl, trivial⟩, hS.mask [false, false, false, false, false]⟩
                  · have hj19 := cond_t hc21 hj19
                    refine q_skip hF (wanted_f hF rfl rfl rfl hc21 rfl) rfl fun a hF => ?_
                    refine q_skip hF (wanted_f hF rfl rfl rfl hc21 rfl) rfl fun a hF => ?_
                    refine q_skip hF (wanted_f hF rfl rfl rfl hc21 rfl) rfl fun a hF => ?_
                    refine q_xg (v := (.bool true)) hF hS (ex_pick_t rfl rfl hc21) (wanted_t hF rfl rfl rfl hc20) rfl fun a hF => ?_
                    refine q_x (v := (.bool true)) hF hS (ex_pick_t rfl rfl hc20) rfl rfl fun a hF => ?_
                    refine q_x (v := (.bool true)) hF hS (ex_assign rfl) rfl rfl fun a hF => ?_
                    refine q_end (n_jn ?_)
                    obtain rfl := someI hj19
                    exact ⟨hF.sub ⟨rfl, trivial⟩, hS.mask [false, false, false, false, false]⟩
              · rintro a w ⟨hF, hS⟩
                refine n_sq (q_ret ?_)
                obtain rfl := someI hr
                exact ret_of hF hS rfl (.tmp rfl .nil) rfl
            · have hr := cond_t hc18 hr
              refine q_cond_t hF rfl hc18 ?_
              refine q_seq ?_
              refine q_region ?_
              refine q_x (v := (.bool true)) hF hS (ex_assign rfl) rfl rfl fun a hF => ?_
              refine q_end (n_sq (q_ret (r_sq ?_)))
              obtain rfl := someI hr
              exact ret_of hF hS rfl (.tmp rfl .nil) rfl
      · have hr := cond_t hc6 hr
        refine q_cond_t hF rfl hc6 ?_
        refine q_seq ?_
        refine q_region ?_
        refine q_x (v := (.bool false)) hF hS (ex_assign rfl) rfl rfl fun a hF => ?_
        refine q_end (n_sq (q_ret (r_sq ?_)))
        obtain rfl := someI hr
        exact ret_of hF hS rfl (.tmp rfl .nil) rfl
  · have hr := cond_t hc1 hr
    refine q_cond_t hF rfl hc1 ?_
    refine q_seq ?_
    refine q_region ?_
    refine q_x (v := (.bool true)) hF hS (ex_assign rfl) rfl rfl fun a hF => ?_
    refine q_end (n_sq (q_ret (r_sq ?_)))
    obtain rfl := someI hr
    exact ret_of hF hS rfl (.tmp rfl .nil) rfl

end Go.Proofs.Ytdbgmkfniichdaa
