/- The walks of the functions: each returns what its plain function says. -/
import Derived.Test.YtdbgmkfniichdaaCWalks2
namespace Go.Proofs.Ytdbgmkfniichdaa
open Go.Gx Go.Gx.F Go.RowKit
set_option linter.all false
set_option maxRecDepth 10000


theorem c_laws_FnLossGroups (p_code : List (K .u8)) (p_more : List (K .u8)) (r : Bool) (hr : laws_FnLossGroups p_code p_more = some r) (w0 : World) (m : Mem) (hv : Vis m w0) (s1 : Sl) (h1 : Rd m s1 p_code) (s2 : Sl) (h2 : Rd m s2 p_more) :
    Ret Try.prog 5 [s1.v, s2.v] w0 (fun v _ => v = (.bool r)) := by
  unfold laws_FnLossGroups at hr
  refine ret_start Try.func5 rfl 189 rfl rfl m hv fun a hF hS => ?_
  refine q_seq ?_
  refine q_region ?_
  refine q_x (v := (.bool false)) hF hS (ex_assign rfl) rfl rfl fun a hF => ?_
  refine q_end (n_sq ?_)
  refine q_seq ?_
  refine q_seq ?_
  refine q_region ?_
  refine q_x (v := s1.v) hF hS (ex_move rfl) rfl rfl fun a hF => ?_
  refine q_x (v := (.int .i64 (goLen p_code))) hF hS (ex_len Try.underlying22 rfl h1.len) rfl rfl fun a hF => ?_
  refine q_x (v := s2.v) hF hS (ex_move rfl) rfl rfl fun a hF => ?_
  refine q_x (v := (.int .i64 (goLen p_more))) hF hS (ex_len Try.underlying22 rfl h2.len) rfl rfl fun a hF => ?_
  refine q_x (v := (.int .i64 (w64 ((goLen p_code) + (goLen p_more))))) hF hS (ex_ibin rfl rfl rfl) rfl rfl fun a hF => ?_
  refine q_x (v := (.bool (decide (1048576 < (w64 ((goLen p_code) + (goLen p_more))))))) hF hS (ex_ibin rfl rfl rfl) rfl rfl fun a hF => ?_
  refine q_end (n_sq ?_)
  rcases bcase (decide (1048576 < (w64 ((goLen p_code) + (goLen p_more))))) with hc1 | hc1
  · have hr := cond_f hc1 hr
    refine q_cond_f hF rfl hc1 ?_
    refine q_skipc (n_sq ?_)
    refine q_seq ?_
    refine q_region ?_
    refine q_x (v := s1.v) hF hS (ex_move rfl) rfl rfl fun a hF => ?_
    obtain ⟨t_3, ht_3, hr⟩ := bindS hr
    refine q_call (vs := [s1.v]) hF hS Try.func25 (by kernel_rfl) rfl rfl rfl (c_spec_DrawGroupLoss p_code t_3 ht_3 _ m hS.vis s1 h1) ?_
    rintro a w _ rfl hF hS
    refine q_x (v := (.tuple #[(.agg #[(.int .i64 t_3.1.Ratio.Num), (.int .i64 t_3.1.Ratio.Den), (.int .i64 t_3.1.Rho.Num), (.int .i64 t_3.1.Rho.Den)]), (.int .i64 t_3.2)])) hF hS (ex_move rfl) rfl rfl fun a hF => ?_
    refine q_x (v := (.agg #[(.int .i64 t_3.1.Ratio.Num), (.int .i64 t_3.1.Ratio.Den), (.int .i64 t_3.1.Rho.Num), (.int .i64 t_3.1.Rho.Den)])) hF hS (ex_extract rfl rfl) rfl rfl fun a hF => ?_
    refine q_x (v := (.int .i64 t_3.2)) hF hS (ex_extract rfl rfl) rfl rfl fun a hF => ?_
    refine q_alloc (cs := [(.int .i64 0), (.int .i64 0), (.int .i64 0), (.int .i64 0)]) hF hS rfl rfl rfl fun a w b4 hF hS => ?_
    refine q_store (vs := [(.int .i64 t_3.1.Ratio.Num), (.int .i64 t_3.1.Ratio.Den), (.int .i64 t_3.1.Rho.Num), (.int .i64 t_3.1.Rho.Den)]) (cs' := [(.int .i64 t_3.1.Ratio.Num), (.int .i64 t_3.1.Ratio.Den), (.int .i64 t_3.1.Rho.Num), (.int .i64 t_3.1.Rho.Den)]) 0 0 hF hS sz26 rfl rfl rfl rfl rfl rfl rfl rfl fun a w hF hS => ?_
    refine q_x (v := (.int .i64 t_3.2)) hF hS (ex_assign rfl) rfl rfl fun a hF => ?_
    refine q_end (n_sq ?_)
    refine q_seq ?_
    refine q_region ?_
    refine q_x (v := (.agg #[(.int .i64 t_3.1.Ratio.Num), (.int .i64 t_3.1.Ratio.Den), (.int .i64 t_3.1.Rho.Num), (.int .i64 t_3.1.Rho.Den)])) hF hS (ex_loadA (vs := [(.int .i64 t_3.1.Ratio.Num), (.int .i64 t_3.1.Ratio.Den), (.int .i64 t_3.1.Rho.Num), (.int .i64 t_3.1.Rho.Den)]) 0 0 Try.underlying26 rfl sz26 rfl rfl rfl rfl) rfl rfl fun a hF => ?_
    refine q_x (v := (.int .i64 t_3.2)) hF hS (ex_move rfl) rfl rfl fun a hF => ?_
    obtain ⟨t_5, ht_5, hr⟩ := bindS hr
    refine q_call (vs := [(.agg #[(.int .i64 t_3.1.Ratio.Num), (.int .i64 t_3.1.Ratio.Den), (.int .i64 t_3.1.Rho.Num), (.int .i64 t_3.1.Rho.Den)]), (.int .i64 t_3.2)]) hF hS Try.func26 (by kernel_rfl) rfl rfl rfl (c_impl_GroupLoss t_3.1 t_3.2 t_5 ht_5 _ m hS.vis) ?_
    rintro a w _ rfl hF hS
    refine q_x (v := (.tuple #[(.agg #[(.int .i64 t_5.1.Ratio.Num), (.int .i64 t_5.1.Ratio.Den), (.int .i64 t_5.1.Rho.Num), (.int .i64 t_5.1.Rho.Den)]), (.bool t_5.2)])) hF hS (ex_move rfl) rfl rfl fun a hF => ?_
    refine q_x (v := (.agg #[(.int .i64 t_5.1.Ratio.Num), (.int .i64 t_5.1.Ratio.Den), (.int .i64 t_5.1.Rho.Num), (.int .i64 t_5.1.Rho.Den)])) hF hS (ex_extract rfl rfl) rfl rfl fun a hF => ?_
    refine q_x (v := (.bool t_5.2)) hF hS (ex_extract rfl rfl) rfl rfl fun a hF => ?_
    refine q_alloc (cs := [(.int .i64 0), (.int .i64 0), (.int .i64 0), (.int .i64 0)]) hF hS rfl rfl rfl fun a w b6 hF hS => ?_
    refine q_store (vs := [(.int .i64 t_5.1.Ratio.Num), (.int .i64 t_5.1.Ratio.Den), (.int .i64 t_5.1.Rho.Num), (.int .i64 t_5.1.Rho.Den)]) (cs' := [(.int .i64 t_5.1.Ratio.Num), (.int .i64 t_5.1.Ratio.Den), (.int .i64 t_5.1.Rho.Num), (.int .i64 t_5.1.Rho.Den)]) 0 0 hF hS sz26 rfl rfl rfl rfl rfl rfl rfl rfl fun a w hF hS => ?_
    refine q_x (v := (.bool t_5.2)) hF hS (ex_assign rfl) rfl rfl fun a hF => ?_
    refine q_end (n_sq ?_)
    refine q_seq ?_
    refine q_region ?_
    refine q_x (v := (.agg #[(.int .i64 t_3.1.Ratio.Num), (.int .i64 t_3.1.Ratio.Den), (.int .i64 t_3.1.Rho.Num), (.int .i64 t_3.1.Rho.Den)])) hF hS (ex_loadA (vs := [(.int .i64 t_3.1.Ratio.Num), (.int .i64 t_3.1.Ratio.Den), (.int .i64 t_3.1.Rho.Num), (.int .i64 t_3.1.Rho.Den)]) 1 0 Try.underlying26 rfl sz26 rfl rfl rfl rfl) rfl rfl fun a hF => ?_
    refine q_x (v := (.int .i64 t_3.2)) hF hS (ex_move rfl) rfl rfl fun a hF => ?_
    obtain ⟨t_7, ht_7, hr⟩ := bindS hr
    refine q_call (vs := [(.agg #[(.int .i64 t_3.1.Ratio.Num), (.int .i64 t_3.1.Ratio.Den), (.int .i64 t_3.1.Rho.Num), (.int .i64 t_3.1.Rho.Den)]), (.int .i64 t_3.2)]) hF hS Try.func27 (by kernel_rfl) rfl rfl rfl (c_spec_GroupLoss t_3.1 t_3.2 t_7 ht_7 _ m hS.vis) ?_
    rintro a w _ rfl hF hS
    refine q_x (v := (.tuple #[(.agg #[(.int .i64 t_7.1.Ratio.Num), (.int .i64 t_7.1.Ratio.Den), (.int .i64 t_7.1.Rho.Num), (.int .i64 t_7.1.Rho.Den)]), (.bool t_7.2)])) hF hS (ex_move rfl) rfl rfl fun a hF => ?_
    refine q_x (v := (.agg #[(.int .i64 t_7.1.Ratio.Num), (.int .i64 t_7.1.Ratio.Den), (.int .i64 t_7.1.Rho.Num), (.int .i64 t_7.1.Rho.Den)])) hF hS (ex_extract rfl rfl) rfl rfl fun a hF => ?_
    refine q_x (v := (.bool t_7.2)) hF hS (ex_extract rfl rfl) rfl rfl fun a hF => ?_
    refine q_alloc (cs := [(.int .i64 0), (.int .i64 0), (.int .i64 0), (.int .i64 0)]) hF hS rfl rfl rfl fun a w b8 hF hS => ?_
    refine q_store (vs := [(.int .i64 t_7.1.Ratio.Num), (.int .i64 t_7.1.Ratio.Den), (.int .i64 t_7.1.Rho.Num), (.int .i64 t_7.1.Rho.Den)]) (cs' := [(.int .i64 t_7.1.Ratio.Num), (.int .i64 t_7.1.Ratio.Den), (.int .i64 t_7.1.Rho.Num), (.int .i64 t_7.1.Rho.Den)]) 0 0 hF hS sz26 rfl rfl rfl rfl rfl rfl rfl rfl fun a w hF hS => ?_
    refine q_x (v := (.bool t_7.2)) hF hS (ex_assign rfl) rfl rfl fun a hF => ?_
    refine q_end (n_sq ?_)
    refine q_seq ?_
    refine q_region ?_
    refine q_x (v := s2.v) hF hS (ex_move rfl) rfl rfl fun a hF => ?_
    obtain ⟨t_9, ht_9, hr⟩ := bindS hr
    refine q_call (vs := [s2.v]) hF hS Try.func28 (by kernel_rfl) rfl rfl rfl (c_spec_DrawParallelLoss p_more t_9 ht_9 _ m hS.vis s2 h2) ?_
    have hT := hS
    rintro a w _ ⟨m10, q11, s11, rfl, hm10, hR10, h11⟩ hF hS2
    have hS : St _ _ _ _ [q11, [⟨b8, [(.int .i64 t_7.1.Ratio.Num), (.int .i64 t_7.1.Ratio.Den), (.int .i64 t_7.1.Rho.Num), (.int .i64 t_7.1.Rho.Den)], 26⟩], [⟨b6, [(.int .i64 t_5.1.Ratio.Num), (.int .i64 t_5.1.Ratio.Den), (.int .i64 t_5.1.Rho.Num), (.int .i64 t_5.1.Rho.Den)], 26⟩], [⟨b4, [(.int .i64 t_3.1.Ratio.Num), (.int .i64 t_3.1.Ratio.Den), (.int .i64 t_3.1.Rho.Num), (.int .i64 t_3.1.Rho.Den)], 26⟩]] := hS.join hR10 hm10
    have hm10 := MLe.weakX (O0 := []) hT hm10
    refine q_x (v := s11.v) hF hS (ex_assign rfl) rfl rfl fun a hF => ?_
    refine q_end (n_sq ?_)
    refine q_seq ?_
    refine q_region ?_
    refine q_x (v := s11.v) hF hS (ex_move rfl) rfl rfl fun a hF => ?_
    obtain ⟨m13, hl13, hv13, hz13⟩ := hS.lend
    obtain ⟨t_12, ht_12, hr⟩ := bindS hr
    refine q_call (vs := [s11.v]) hF hS Try.func29 (by kernel_rfl) rfl rfl rfl (c_impl_ParallelLoss t_9 t_12 ht_12 _ m13 hv13 s11 (h11.froz hl13 (hz13 0 _ rfl))) ?_
    rintro a w _ rfl hF hS
    refine q_x (v := (.tuple #[(.agg #[(.int .i64 t_12.1.Ratio.Num), (.int .i64 t_12.1.Ratio.Den), (.int .i64 t_12.1.Rho.Num), (.int .i64 t_12.1.Rho.Den)]), (.bool t_12.2)])) hF hS (ex_move rfl) rfl rfl fun a hF => ?_
    refine q_x (v := (.agg #[(.int .i64 t_12.1.Ratio.Num), (.int .i64 t_12.1.Ratio.Den), (.int .i64 t_12.1.Rho.Num), (.int .i64 t_12.1.Rho.Den)])) hF hS (ex_extract rfl rfl) rfl rfl fun a hF => ?_
    refine q_x (v := (.bool t_12.2)) hF hS (ex_extract rfl rfl) rfl rfl fun a hF => ?_
    refine q_alloc (cs := [(.int .i64 0), (.int .i64 0), (.int .i64 0), (.int .i64 0)]) hF hS rfl rfl rfl fun a w b14 hF hS => ?_
    refine q_store (vs := [(.int .i64 t_12.1.Ratio.Num), (.int .i64 t_12.1.Ratio.Den), (.int .i64 t_12.1.Rho.Num), (.int .i64 t_12.1.Rho.Den)]) (cs' := [(.int .i64 t_12.1.Ratio.Num), (.int .i64 t_12.1.Ratio.Den), (.int .i64 t_12.1.Rho.Num), (.int .i64 t_12.1.Rho.Den)]) 0 0 hF hS sz26 rfl rfl rfl rfl rfl rfl rfl rfl fun a w hF hS => ?_
    refine q_x (v := (.bool t_12.2)) hF hS (ex_assign rfl) rfl rfl fun a hF => ?_
    refine q_end (n_sq ?_)
    refine q_seq ?_
    refine q_region ?_
    refine q_x (v := s11.v) hF hS (ex_move rfl) rfl rfl fun a hF => ?_
    obtain ⟨m16, hl16, hv16, hz16⟩ := hS.lend
    obtain ⟨t_15, ht_15, hr⟩ := bindS hr
    refine q_call (vs := [s11.v]) hF hS Try.func30 (by kernel_rfl) rfl rfl rfl (c_spec_ParallelLoss t_9 t_15 ht_15 _ m16 hv16 s11 (h11.froz hl16 (hz16 1 _ rfl))) ?_
    rintro a w _ rfl hF hS
    refine q_x (v := (.tuple #[(.agg #[(.int .i64 t_15.1.Ratio.Num), (.int .i64 t_15.1.Ratio.Den), (.int .i64 t_15.1.Rho.Num), (.int .i64 t_15.1.Rho.Den)]), (.bool t_15.2)])) hF hS (ex_move rfl) rfl rfl fun a hF => ?_
    refine q_x (v := (.agg #[(.int .i64 t_15.1.Ratio.Num), (.int .i64 t_15.1.Ratio.Den), (.int .i64 t_15.1.Rho.Num), (.int .i64 t_15.1.Rho.Den)])) hF hS (ex_extract rfl rfl) rfl rfl fun a hF => ?_
    refine q_x (v := (.bool t_15.2)) hF hS (ex_extract rfl rfl) rfl rfl fun a hF => ?_
    refine q_alloc (cs := [(.int .i64 0), (.int .i64 0), (.int .i64 0), (.int .i64 0)]) hF hS rfl rfl rfl fun a w b17 hF hS => ?_
    refine q_store (vs := [(.int .i64 t_15.1.Ratio.Num), (.int .i64 t_15.1.Ratio.Den), (.int .i64 t_15.1.Rho.Num), (.int .i64 t_15.1.Rho.Den)]) (cs' := [(.int .i64 t_15.1.Ratio.Num), (.int .i64 t_15.1.Ratio.Den), (.int .i64 t_15.1.Rho.Num), (.int .i64 t_15.1.Rho.Den)]) 0 0 hF hS sz26 rfl rfl rfl rfl rfl rfl rfl rfl fun a w hF hS => ?_
    refine q_x (v := (.bool t_15.2)) hF hS (ex_assign rfl) rfl rfl fun a hF => ?_
    refine q_end (n_sq ?_)
    refine q_seq ?_
    refine q_region ?_
    refine q_x (v := s2.v) hF hS (ex_move rfl) rfl rfl fun a hF => ?_
    obtain ⟨t_18, ht_18, hr⟩ := bindS hr
    refine q_call (vs := [s2.v]) hF hS Try.func31 (by kernel_rfl) rfl rfl rfl (c_spec_DrawSplitRho p_more t_18 ht_18 _ m10 hS.vis s2 (h2.mono hm10.le)) ?_
    have hT := hS
    rintro a w _ ⟨m19, q20, s20, rfl, hm19, hR19, h20⟩ hF hS2
    have hS : St _ _ _ _ [q20, [⟨b17, [(.int .i64 t_15.1.Ratio.Num), (.int .i64 t_15.1.Ratio.Den), (.int .i64 t_15.1.Rho.Num), (.int .i64 t_15.1.Rho.Den)], 26⟩], [⟨b14, [(.int .i64 t_12.1.Ratio.Num), (.int .i64 t_12.1.Ratio.Den), (.int .i64 t_12.1.Rho.Num), (.int .i64 t_12.1.Rho.Den)], 26⟩], q11, [⟨b8, [(.int .i64 t_7.1.Ratio.Num), (.int .i64 t_7.1.Ratio.Den), (.int .i64 t_7.1.Rho.Num), (.int .i64 t_7.1.Rho.Den)], 26⟩], [⟨b6, [(.int .i64 t_5.1.Ratio.Num), (.int .i64 t_5.1.Ratio.Den), (.int .i64 t_5.1.Rho.Num), (.int .i64 t_5.1.Rho.Den)], 26⟩], [⟨b4, [(.int .i64 t_3.1.Ratio.Num), (.int .i64 t_3.1.Ratio.Den), (.int .i64 t_3.1.Rho.Num), (.int .i64 t_3.1.Rho.Den)], 26⟩]] := hS.join hR19 hm19
    have hm19 := MLe.weakX (O0 := []) hT hm19
    refine q_x (v := (.tuple #[(.agg #[(.int .i64 t_18.1.Num), (.int .i64 t_18.1.Den)]), s20.v])) hF hS (ex_move rfl) rfl rfl fun a hF => ?_
    refine q_x (v := (.agg #[(.int .i64 t_18.1.Num), (.int .i64 t_18.1.Den)])) hF hS (ex_extract rfl rfl) rfl rfl fun a hF => ?_
    refine q_x (v := s20.v) hF hS (ex_extract rfl rfl) rfl rfl fun a hF => ?_
    refine q_alloc (cs := [(.int .i64 0), (.int .i64 0)]) hF hS rfl rfl rfl fun a w b21 hF hS => ?_
    refine q_store (vs := [(.int .i64 t_18.1.Num), (.int .i64 t_18.1.Den)]) (cs' := [(.int .i64 t_18.1.Num), (.int .i64 t_18.1.Den)]) 0 0 hF hS sz24 rfl rfl rfl rfl rfl rfl rfl rfl fun a w hF hS => ?_
    refine q_x (v := s20.v) hF hS (ex_assign rfl) rfl rfl fun a hF => ?_
    refine q_end (n_sq ?_)
    refine q_seq ?_
    refine q_region ?_
    refine q_x (v := (.agg #[(.int .i64 t_18.1.Num), (.int .i64 t_18.1.Den)])) hF hS (ex_loadA (vs := [(.int .i64 t_18.1.Num), (.int .i64 t_18.1.Den)]) 0 0 Try.underlying24 rfl sz24 rfl rfl rfl rfl) rfl rfl fun a hF => ?_
    refine q_x (v := s20.v) hF hS (ex_move rfl) rfl rfl fun a hF => ?_
    obtain ⟨m23, hl23, hv23, hz23⟩ := hS.lend
    obtain ⟨t_22, ht_22, hr⟩ := bindS hr
    refine q_call (vs := [(.agg #[(.int .i64 t_18.1.Num), (.int .i64 t_18.1.Den)]), s20.v]) hF hS Try.func32 (by kernel_rfl) rfl rfl rfl (c_impl_SplitRho t_18.1 t_18.2 t_22 ht_22 _ m23 hv23 s20 (h20.froz hl23 (hz23 1 _ rfl))) ?_
    rintro a w _ ⟨q25, s25, rfl, hR24, h25⟩ hF hS2
    have hS : St _ _ _ _ [q25, [⟨b21, [(.int .i64 t_18.1.Num), (.int .i64 t_18.1.Den)], 24⟩], q20, [⟨b17, [(.int .i64 t_15.1.Ratio.Num), (.int .i64 t_15.1.Ratio.Den), (.int .i64 t_15.1.Rho.Num), (.int .i64 t_15.1.Rho.Den)], 26⟩], [⟨b14, [(.int .i64 t_12.1.Ratio.Num), (.int .i64 t_12.1.Ratio.Den), (.int .i64 t_12.1.Rho.Num), (.int .i64 t_12.1.Rho.Den)], 26⟩], q11, [⟨b8, [(.int .i64 t_7.1.Ratio.Num), (.int .i64 t_7.1.Ratio.Den), (.int .i64 t_7.1.Rho.Num), (.int .i64 t_7.1.Rho.Den)], 26⟩], [⟨b6, [(.int .i64 t_5.1.Ratio.Num), (.int .i64 t_5.1.Ratio.Den), (.int .i64 t_5.1.Rho.Num), (.int .i64 t_5.1.Rho.Den)], 26⟩], [⟨b4, [(.int .i64 t_3.1.Ratio.Num), (.int .i64 t_3.1.Ratio.Den), (.int .i64 t_3.1.Rho.Num), (.int .i64 t_3.1.Rho.Den)], 26⟩]] := hS.joinF hR24
    have h25 := h25.any m19
    refine q_x (v := (.tuple #[s25.v, (.bool t_22.2)])) hF hS (ex_move rfl) rfl rfl fun a hF => ?_
    refine q_x (v := s25.v) hF hS (ex_extract rfl rfl) rfl rfl fun a hF => ?_
    refine q_x (v := (.bool t_22.2)) hF hS (ex_extract rfl rfl) rfl rfl fun a hF => ?_
    refine q_x (v := s25.v) hF hS (ex_assign rfl) rfl rfl fun a hF => ?_
    refine q_x (v := (.bool t_22.2)) hF hS (ex_assign rfl) rfl rfl fun a hF => ?_
    refine q_end (n_sq ?_)
    refine q_seq ?_
    refine q_region ?_
    refine q_x (v := (.agg #[(.int .i64 t_18.1.Num), (.int .i64 t_18.1.Den)])) hF hS (ex_loadA (vs := [(.int .i64 t_18.1.Num), (.int .i64 t_18.1.Den)]) 1 0 Try.underlying24 rfl sz24 rfl rfl rfl rfl) rfl rfl fun a hF => ?_
    refine q_x (v := s20.v) hF hS (ex_move rfl) rfl rfl fun a hF => ?_
    obtain ⟨m27, hl27, hv27, hz27⟩ := hS.lend
    obtain ⟨t_26, ht_26, hr⟩ := bindS hr
    refine q_call (vs := [(.agg #[(.int .i64 t_18.1.Num), (.int .i64 t_18.1.Den)]), s20.v]) hF hS Try.func33 (by kernel_rfl) rfl rfl rfl (c_spec_SplitRho t_18.1 t_18.2 t_26 ht_26 _ m27 hv27 s20 (h20.froz hl27 (hz27 2 _ rfl))) ?_
    rintro a w _ ⟨q29, s29, rfl, hR28, h29⟩ hF hS2
    have hS : St _ _ _ _ [q29, q25, [⟨b21, [(.int .i64 t_18.1.Num), (.int .i64 t_18.1.Den)], 24⟩], q20, [⟨b17, [(.int .i64 t_15.1.Ratio.Num), (.int .i64 t_15.1.Ratio.Den), (.int .i64 t_15.1.Rho.Num), (.int .i64 t_15.1.Rho.Den)], 26⟩], [⟨b14, [(.int .i64 t_12.1.Ratio.Num), (.int .i64 t_12.1.Ratio.Den), (.int .i64 t_12.1.Rho.Num), (.int .i64 t_12.1.Rho.Den)], 26⟩], q11, [⟨b8, [(.int .i64 t_7.1.Ratio.Num), (.int .i64 t_7.1.Ratio.Den), (.int .i64 t_7.1.Rho.Num), (.int .i64 t_7.1.Rho.Den)], 26⟩], [⟨b6, [(.int .i64 t_5.1.Ratio.Num), (.int .i64 t_5.1.Ratio.Den), (.int .i64 t_5.1.Rho.Num), (.int .i64 t_5.1.Rho.Den)], 26⟩], [⟨b4, [(.int .i64 t_3.1.Ratio.Num), (.int .i64 t_3.1.Ratio.Den), (.int .i64 t_3.1.Rho.Num), (.int .i64 t_3.1.Rho.Den)], 26⟩]] := hS.joinF hR28
    have h29 := h29.any m19
    refine q_x (v := (.tuple #[s29.v, (.bool t_26.2)])) hF hS (ex_move rfl) rfl rfl fun a hF => ?_
    refine q_x (v := s29.v) hF hS (ex_extract rfl rfl) rfl rfl fun a hF => ?_
    refine q_x (v := (.bool t_26.2)) hF hS (ex_extract rfl rfl) rfl rfl fun a hF => ?_
    refine q_x (v := s29.v) hF hS (ex_assign rfl) rfl rfl fun a hF => ?_
    refine q_x (v := (.bool t_26.2)) hF hS (ex_assign rfl) rfl rfl fun a hF => ?_
    refine q_end (n_sq ?_)
    refine q_seq ?_
    refine q_seq ?_
    obtain ⟨t_32, hj2, hr⟩ := bindS hr
    refine q_join (fun a w => Fr a 189 [(5, (.pointer (some ⟨b4, 0, none⟩))), (8, (.bool t_5.2)), (11, s11.v), (12, (.pointer (some ⟨b14, 0, none⟩))), (13, (.bool t_12.2)), (16, (.pointer (some ⟨b21, 0, none⟩))), (18, s25.v), (19, (.bool t_22.2)), (114, (.bool t_32))] ∧ St [] w0 w m19 [q11, q25, [⟨b21, [(.int .i64 t_18.1.Num), (.int .i64 t_18.1.Den)], 24⟩], [⟨b14, [(.int .i64 t_12.1.Ratio.Num), (.int .i64 t_12.1.Ratio.Den), (.int .i64 t_12.1.Rho.Num), (.int .i64 t_12.1.Rho.Den)], 26⟩], [⟨b4, [(.int .i64 t_3.1.Ratio.Num), (.int .i64 t_3.1.Ratio.Den), (.int .i64 t_3.1.Rho.Num), (.int .i64 t_3.1.Rho.Den)], 26⟩]]) ?_ ?_
    · refine q_region ?_
      refine q_x (v := (.bool t_5.2)) hF hS (ex_move rfl) rfl rfl fun a hF => ?_
      refine q_x (v := (.bool t_7.2)) hF hS (ex_move rfl) rfl rfl fun a hF => ?_
      refine q_x (v := (.bool (t_5.2 != t_7.2))) hF hS (ex_bne Try.underlying4 rfl rfl) rfl rfl fun a hF => ?_
      refine q_x (v := (.bool (t_5.2 != t_7.2))) hF hS (ex_move rfl) rfl rfl fun a hF => ?_
      rcases bcase (t_5.2 != t_7.2) with hc3 | hc3
      · have hj2 := cond_f hc3 hj2
        refine q_xg (v := (.agg #[(.int .i64 t_5.1.Ratio.Num), (.int .i64 t_5.1.Ratio.Den), (.int .i64 t_5.1.Rho.Num), (.int .i64 t_5.1.Rho.Den)])) hF hS (ex_loadA (vs := [(.int .i64 t_5.1.Ratio.Num), (.int .i64 t_5.1.Ratio.Den), (.int .i64 t_5.1.Rho.Num), (.int .i64 t_5.1.Rho.Den)]) 8 0 Try.underlying26 rfl sz26 rfl rfl rfl rfl) (wanted_t hF rfl rfl rfl hc3) rfl fun a hF => ?_
        refine q_xg (v := (.agg #[(.int .i64 t_7.1.Ratio.Num), (.int .i64 t_7.1.Ratio.Den), (.int .i64 t_7.1.Rho.Num), (.int .i64 t_7.1.Rho.Den)])) hF hS (ex_loadA (vs := [(.int .i64 t_7.1.Ratio.Num), (.int .i64 t_7.1.Ratio.Den), (.int .i64 t_7.1.Rho.Num), (.int .i64 t_7.1.Rho.Den)]) 7 0 Try.underlying26 rfl sz26 rfl rfl rfl rfl) (wanted_t hF rfl rfl rfl hc3) rfl fun a hF => ?_
        refine q_xg (v := (.bool (!(((t_5.1.Ratio.Num == t_7.1.Ratio.Num) && ((t_5.1.Ratio.Den == t_7.1.Ratio.Den) && true)) && (((t_5.1.Rho.Num == t_7.1.Rho.Num) && ((t_5.1.Rho.Den == t_7.1.Rho.Den) && true)) && true))))) hF hS (ex_neA (xs := [(.int .i64 t_5.1.Ratio.Num), (.int .i64 t_5.1.Ratio.Den), (.int .i64 t_5.1.Rho.Num), (.int .i64 t_5.1.Rho.Den)]) (ys := [(.int .i64 t_7.1.Ratio.Num), (.int .i64 t_7.1.Ratio.Den), (.int .i64 t_7.1.Rho.Num), (.int .i64 t_7.1.Rho.Den)]) rfl rfl (by kernel_rfl) (eqv_struct (xs := [(.int .i64 t_5.1.Ratio.Num), (.int .i64 t_5.1.Ratio.Den), (.int .i64 t_5.1.Rho.Num), (.int .i64 t_5.1.Rho.Den)]) (ys := [(.int .i64 t_7.1.Ratio.Num), (.int .i64 t_7.1.Ratio.Den), (.int .i64 t_7.1.Rho.Num), (.int .i64 t_7.1.Rho.Den)]) Try.underlying26 (by kernel_rfl) (eqf_cons rfl (part_agg (vs := [(.int .i64 t_5.1.Ratio.Num), (.int .i64 t_5.1.Ratio.Den)]) Try.underlying24 rfl sz24 rfl) (part_agg (vs := [(.int .i64 t_7.1.Ratio.Num), (.int .i64 t_7.1.Ratio.Den)]) Try.underlying24 rfl sz24 rfl) (eqv_struct (xs := [(.int .i64 t_5.1.Ratio.Num), (.int .i64 t_5.1.Ratio.Den)]) (ys := [(.int .i64 t_7.1.Ratio.Num), (.int .i64 t_7.1.Ratio.Den)]) Try.underlying24 (by kernel_rfl) (eqf_cons rfl (part_cell Try.underlying3 rfl rfl) (part_cell Try.underlying3 rfl rfl) (eqv_int Try.underlying3) (eqf_cons rfl (part_cell Try.underlying3 rfl rfl) (part_cell Try.underlying3 rfl rfl) (eqv_int Try.underlying3) (eqf_nil)))) (eqf_cons rfl (part_agg (vs := [(.int .i64 t_5.1.Rho.Num), (.int .i64 t_5.1.Rho.Den)]) Try.underlying24 rfl sz24 rfl) (part_agg (vs := [(.int .i64 t_7.1.Rho.Num), (.int .i64 t_7.1.Rho.Den)]) Try.underlying24 rfl sz24 rfl) (eqv_struct (xs := [(.int .i64 t_5.1.Rho.Num), (.int .i64 t_5.1.Rho.Den)]) (ys := [(.int .i64 t_7.1.Rho.Num), (.int .i64 t_7.1.Rho.Den)]) Try.underlying24 (by kernel_rfl) (eqf_cons rfl (part_cell Try.underlying3 rfl rfl) (part_cell Try.underlying3 rfl rfl) (eqv_int Try.underlying3) (eqf_cons rfl (part_cell Try.underlying3 rfl rfl) (part_cell Try.underlying3 rfl rfl) (eqv_int Try.underlying3) (eqf_nil)))) (eqf_nil))))) (wanted_t hF rfl rfl rfl hc3) rfl fun a hF => ?_
        refine q_x (v := (.bool (!(((t_5.1.Ratio.Num == t_7.1.Ratio.Num) && ((t_5.1.Ratio.Den == t_7.1.Ratio.Den) && true)) && (((t_5.1.Rho.Num == t_7.1.Rho.Num) && ((t_5.1.Rho.Den == t_7.1.Rho.Den) && true)) && true))))) hF hS (ex_pick_f rfl rfl hc3) rfl rfl fun a hF => ?_
        refine q_x (v := (.bool (!(((t_5.1.Ratio.Num == t_7.1.Ratio.Num) && ((t_5.1.Ratio.Den == t_7.1.Ratio.Den) && true)) && (((t_5.1.Rho.Num == t_7.1.Rho.Num) && ((t_5.1.Rho.Den == t_7.1.Rho.Den) && true)) && true))))) hF hS (ex_move rfl) rfl rfl fun a hF => ?_
        rcases bcase (!(((t_5.1.Ratio.Num == t_7.1.Ratio.Num) && ((t_5.1.Ratio.Den == t_7.1.Ratio.Den) && true)) && (((t_5.1.Rho.Num == t_7.1.Rho.Num) && ((t_5.1.Rho.Den == t_7.1.Rho.Den) && true)) && true))) with hc4 | hc4
        · have hj2 := cond_f hc4 hj2
          refine q_xg (v := (.bool t_12.2)) hF hS (ex_move rfl) (wanted_t hF rfl rfl rfl hc4) rfl fun a hF => ?_
          refine q_xg (v := (.bool t_15.2)) hF hS (ex_move rfl) (wanted_t hF rfl rfl rfl hc4) rfl fun a hF => ?_
          refine q_xg (v := (.bool (t_12.2 != t_15.2))) hF hS (ex_bne Try.underlying4 rfl rfl) (wanted_t hF rfl rfl rfl hc4) rfl fun a hF => ?_
          refine q_x (v := (.bool (t_12.2 != t_15.2))) hF hS (ex_pick_f rfl rfl hc4) rfl rfl fun a hF => ?_
          refine q_x (v := (.bool (t_12.2 != t_15.2))) hF hS (ex_move rfl) rfl rfl fun a hF => ?_
          rcases bcase (t_12.2 != t_15.2) with hc5 | hc5
          · have hj2 := cond_f hc5 hj2
            refine q_xg (v := (.agg #[(.int .i64 t_12.1.Ratio.Num), (.int .i64 t_12.1.Ratio.Den), (.int .i64 t_12.1.Rho.Num), (.int .i64 t_12.1.Rho.Den)])) hF hS (ex_loadA (vs := [(.int .i64 t_12.1.Ratio.Num), (.int .i64 t_12.1.Ratio.Den), (.int .i64 t_12.1.Rho.Num), (.int .i64 t_12.1.Rho.Den)]) 5 0 Try.underlying26 rfl sz26 rfl rfl rfl rfl) (wanted_t hF rfl rfl rfl hc5) rfl fun a hF => ?_
            refine q_xg (v := (.agg #[(.int .i64 t_15.1.Ratio.Num), (.int .i64 t_15.1.Ratio.Den), (.int .i64 t_15.1.Rho.Num), (.int .i64 t_15.1.Rho.Den)])) hF hS (ex_loadA (vs := [(.int .i64 t_15.1.Ratio.Num), (.int .i64 t_15.1.Ratio.Den), (.int .i64 t_15.1.Rho.Num), (.int .i64 t_15.1.Rho.Den)]) 4 0 Try.underlying26 rfl sz26 rfl rfl rfl rfl) (wanted_t hF rfl rfl rfl hc5) rfl fun a hF => ?_
            refine q_xg (v := (.bool (!(((t_12.1.Ratio.Num == t_15.1.Ratio.Num) && ((t_12.1.Ratio.Den == t_15.1.Ratio.Den) && true)) && (((t_12.1.Rho.Num == t_15.1.Rho.Num) && ((t_12.1.Rho.Den == t_15.1.Rho.Den) && true)) && true))))) hF hS (ex_neA (xs := [(.int .i64 t_12.1.Ratio.Num), (.int .i64 t_12.1.Ratio.Den), (.int .i64 t_12.1.Rho.Num), (.int .i64 t_12.1.Rho.Den)]) (ys := [(.int .i64 t_15.1.Ratio.Num), (.int .i64 t_15.1.Ratio.Den), (.int .i64 t_15.1.Rho.Num), (.int .i64 t_15.1.Rho.Den)]) rfl rfl (by kernel_rfl) (eqv_struct (xs := [(.int .i64 t_12.1.Ratio.Num), (.int .i64 t_12.1.Ratio.Den), (.int .i64 t_12.1.Rho.Num), (.int .i64 t_12.1.Rho.Den)]) (ys := [(.int .i64 t_15.1.Ratio.Num), (.int .i64 t_15.1.Ratio.Den), (.int .i64 t_15.1.Rho.Num), (.int .i64 t_15.1.Rho.Den)]) Try.underlying26 (by kernel_rfl) (eqf_cons rfl (part_agg (vs := [(.int .i64 t_12.1.Ratio.Num), (.int .i64 t_12.1.Ratio.Den)]) Try.underlying24 rfl sz24 rfl) (part_agg (vs := [(.int .i64 t_15.1.Ratio.Num), (.int .i64 t_15.1.Ratio.Den)]) Try.underlying24 rfl sz24 rfl) (eqv_struct (xs := [(.int .i64 t_12.1.Ratio.Num), (.int .i64 t_12.1.Ratio.Den)]) (ys := [(.int .i64 t_15.1.Ratio.Num), (.int .i64 t_15.1.Ratio.Den)]) Try.underlying24 (by kernel_rfl) (eqf_cons rfl (part_cell Try.underlying3 rfl rfl) (part_cell Try.underlying3 rfl rfl) (eqv_int Try.underlying3) (eqf_cons rfl (part_cell Try.underlying3 rfl rfl) (part_cell Try.underlying3 rfl rfl) (eqv_int Try.underlying3) (eqf_nil)))) (eqf_cons rfl (part_agg (vs := [(.int .i64 t_12.1.Rho.Num), (.int .i64 t_12.1.Rho.Den)]) Try.underlying24 rfl sz24 rfl) (part_agg (vs := [(.int .i64 t_15.1.Rho.Num), (.int .i64 t_15.1.Rho.Den)]) Try.underlying24 rfl sz24 rfl) (eqv_struct (xs := [(.int .i64 t_12.1.Rho.Num), (.int .i64 t_12.1.Rho.Den)]) (ys := [(.int .i64 t_15.1.Rho.Num), (.int .i64 t_15.1.Rho.Den)]) Try.underlying24 (by kernel_rfl) (eqf_cons rfl (part_cell Try.underlying3 rfl rfl) (part_cell Try.underlying3 rfl rfl) (eqv_int Try.underlying3) (eqf_cons rfl (part_cell Try.underlying3 rfl rfl) (part_cell Try.underlying3 rfl rfl) (eqv_int Try.underlying3) (eqf_nil)))) (eqf_nil))))) (wanted_t hF rfl rfl rfl hc5) rfl fun a hF => ?_
            refine q_x (v := (.bool (!(((t_12.1.Ratio.Num == t_15.1.Ratio.Num) && ((t_12.1.Ratio.Den == t_15.1.Ratio.Den) && true)) && (((t_12.1.Rho.Num == t_15.1.Rho.Num) && ((t_12.1.Rho.Den == t_15.1.Rho.Den) && true)) && true))))) hF hS (ex_pick_f rfl rfl hc5) rfl rfl fun a hF => ?_
            refine q_x (v := (.bool (!(((t_12.1.Ratio.Num == t_15.1.Ratio.Num) && ((t_12.1.Ratio.Den == t_15.1.Ratio.Den) && true)) && (((t_12.1.Rho.Num == t_15.1.Rho.Num) && ((t_12.1.Rho.Den == t_15.1.Rho.Den) && true)) && true))))) hF hS (ex_move rfl) rfl rfl fun a hF => ?_
            rcases bcase (!(((t_12.1.Ratio.Num == t_15.1.Ratio.Num) && ((t_12.1.Ratio.Den == t_15.1.Ratio.Den) && true)) && (((t_12.1.Rho.Num == t_15.1.Rho.Num) && ((t_12.1.Rho.Den == t_15.1.Rho.Den) && true)) && true))) with hc6 | hc6
            · have hj2 := cond_f hc6 hj2
              refine q_xg (v := (.bool t_22.2)) hF hS (ex_move rfl) (wanted_t hF rfl rfl rfl hc6) rfl fun a hF => ?_
              refine q_xg (v := (.bool t_26.2)) hF hS (ex_move rfl) (wanted_t hF rfl rfl rfl hc6) rfl fun a hF => ?_
              refine q_xg (v := (.bool (t_22.2 != t_26.2))) hF hS (ex_bne Try.underlying4 rfl rfl) (wanted_t hF rfl rfl rfl hc6) rfl fun a hF => ?_
              refine q_x (v := (.bool (t_22.2 != t_26.2))) hF hS (ex_pick_f rfl rfl hc6) rfl rfl fun a hF => ?_
              refine q_x (v := (.bool (t_22.2 != t_26.2))) hF hS (ex_move rfl) rfl rfl fun a hF => ?_
              rcases bcase (t_22.2 != t_26.2) with hc7 | hc7
              · have hj2 := cond_f hc7 hj2
                refine q_xg (v := s25.v) hF hS (ex_move rfl) (wanted_t hF rfl rfl rfl hc7) rfl fun a hF => ?_
                refine q_xg (v := s29.v) hF hS (ex_move rfl) (wanted_t hF rfl rfl rfl hc7) rfl fun a hF => ?_
                obtain ⟨m31, hl31, hv31, hz31⟩ := hS.lend
                obtain ⟨t_30, ht_30, hj2⟩ := bindS hj2
                refine q_callg (vs := [s25.v, s29.v]) hF hS (wanted_t hF rfl rfl rfl hc7) Try.func34 (by kernel_rfl) rfl rfl rfl (c_laws_qFracs t_22.1 t_26.1 t_30 ht_30 _ m31 hv31 s25 (h25.froz hl31 (hz31 1 _ rfl)) s29 (h29.froz hl31 (hz31 0 _ rfl))) ?_
                rintro a w _ rfl hF hS
                refine q_xg (v := (.bool (!t_30))) hF hS (ex_not rfl) (wanted_t hF rfl rfl rfl hc7) rfl fun a hF => ?_
                refine q_x (v := (.bool (!t_30))) hF hS (ex_pick_f rfl rfl hc7) rfl rfl fun a hF => ?_
                refine q_end (n_jn ?_)
                obtain rfl := someI hj2
                exact ⟨hF.sub ⟨rfl, rfl, rfl, rfl, rfl, rfl, rfl, rfl, rfl, trivial⟩, hS.sel [6, 1, 2, 5, 9] (by decide)⟩
              · have hj2 := cond_t hc7 hj2
                refine q_skip hF (wanted_f hF rfl rfl rfl hc7 rfl) rfl fun a hF => ?_
                refine q_skip hF (wanted_f hF rfl rfl rfl hc7 rfl) rfl fun a hF => ?_
                refine q_skip hF (wanted_f hF rfl rfl rfl hc7 rfl) rfl fun a hF => ?_
                refine q_skip hF (wanted_f hF rfl rfl rfl hc7 rfl) rfl fun a hF => ?_
                refine q_x (v := (.bool true)) hF hS (ex_pick_t rfl rfl hc7) rfl rfl fun a hF => ?_
                refine q_end (n_jn ?_)
                obtain rfl := someI hj2
                exact ⟨hF.sub ⟨rfl, rfl, rfl, rfl, rfl, rfl, rfl, rfl, rfl, trivial⟩, hS.sel [6, 1, 2, 5, 9] (by decide)⟩
            · have hj2 := cond_t hc6 hj2
              refine q_skip hF (wanted_f hF rfl rfl rfl hc6 rfl) rfl fun a hF => ?_
              refine q_skip hF (wanted_f hF rfl rfl rfl hc6 rfl) rfl fun a hF => ?_
              refine q_skip hF (wanted_f hF rfl rfl rfl hc6 rfl) rfl fun a hF => ?_
              refine q_x (v := (.bool true)) hF hS (ex_pick_t rfl rfl hc6) rfl rfl fun a hF => ?_
              refine q_x (v := (.bool true)) hF hS (ex_move rfl) rfl rfl fun a hF => ?_
              refine q_skip hF (wanted_f hF rfl rfl rfl rfl rfl) rfl fun a hF => ?_
              refine q_skip hF (wanted_f hF rfl rfl rfl rfl rfl) rfl fun a hF => ?_
              refine q_skip hF (wanted_f hF rfl rfl rfl rfl rfl) rfl fun a hF => ?_
              refine q_skip hF (wanted_f hF rfl rfl rfl rfl rfl) rfl fun a hF => ?_
              refine q_x (v := (.bool true)) hF hS (ex_pick_t rfl rfl rfl) rfl rfl fun a hF => ?_
              refine q_end (n_jn ?_)
              obtain rfl := someI hj2
              exact ⟨hF.sub ⟨rfl, rfl, rfl, rfl, rfl, rfl, rfl, rfl, rfl, trivial⟩, hS.sel [6, 1, 2, 5, 9] (by decide)⟩
          · have hj2 := cond_t hc5 hj2
            refine q_skip hF (wanted_f hF rfl rfl rfl hc5 rfl) rfl fun a hF => ?_
            refine q_skip hF (wanted_f hF rfl rfl rfl hc5 rfl) rfl fun a hF => ?_
            refine q_skip hF (wanted_f hF rfl rfl rfl hc5 rfl) rfl fun a hF => ?_
            refine q_x (v := (.bool true)) hF hS (ex_pick_t rfl rfl hc5) rfl rfl fun a hF => ?_
            refine q_x (v := (.bool true)) hF hS (ex_move rfl) rfl rfl fun a hF => ?_
            refine q_skip hF (wanted_f hF rfl rfl rfl rfl rfl) rfl fun a hF => ?_
            refine q_skip hF (wanted_f hF rfl rfl rfl rfl rfl) rfl fun a hF => ?_
            refine q_skip hF (wanted_f hF rfl rfl rfl rfl rfl) rfl fun a hF => ?_
            refine q_x (v := (.bool true)) hF hS (ex_pick_t rfl rfl rfl) rfl rfl fun a hF => ?_
            refine q_x (v := (.bool true)) hF hS (ex_move rfl) rfl rfl fun a hF => ?_
            refine q_skip hF (wanted_f hF rfl rfl rfl rfl rfl) rfl fun a hF => ?_
            refine q_skip hF (wanted_f hF rfl rfl rfl rfl rfl) rfl fun a hF => ?_
            refine q_skip hF (wanted_f hF rfl rfl rfl rfl rfl) rfl fun a hF => ?_
            refine q_skip hF (wanted_f hF rfl rfl rfl rfl rfl) rfl fun a hF => ?_
            refine q_x (v := (.bool true)) hF hS (ex_pick_t rfl rfl rfl) rfl rfl fun a hF => ?_
            refine q_end (n_jn ?_)
            obtain rfl := someI hj2
            exact ⟨hF.sub ⟨rfl, rfl, rfl, rfl, rfl, rfl, rfl, rfl, rfl, trivial⟩, hS.sel [6, 1, 2, 5, 9] (by decide)⟩
        · have hj2 := cond_t hc4 hj2
          refine q_skip hF (wanted_f hF rfl rfl rfl hc4 rfl) rfl fun a hF => ?_
          refine q_skip hF (wanted_f hF rfl rfl rfl hc4 rfl) rfl fun a hF => ?_
          refine q_skip hF (wanted_f hF rfl rfl rfl hc4 rfl) rfl fun a hF => ?_
          refine q_x (v := (.bool true)) hF hS (ex_pick_t rfl rfl hc4) rfl rfl fun a hF => ?_
          refine q_x (v := (.bool true)) hF hS (ex_move rfl) rfl rfl fun a hF => ?_
          refine q_skip hF (wanted_f hF rfl rfl rfl rfl rfl) rfl fun a hF => ?_
          refine q_skip hF (wanted_f hF rfl rfl rfl rfl rfl) rfl fun a hF => ?_
          refine q_skip hF (wanted_f hF rfl rfl rfl rfl rfl) rfl fun a hF => ?_
          refine q_x (v := (.bool true)) hF hS (ex_pick_t rfl rfl rfl) rfl rfl fun a hF => ?_
          refine q_x (v := (.bool true)) hF hS (ex_move rfl) rfl rfl fun a hF => ?_
          refine q_skip hF (wanted_f hF rfl rfl rfl rfl rfl) rfl fun a hF => ?_
          refine q_skip hF (wanted_f hF rfl rfl rfl rfl rfl) rfl fun a hF => ?_
          refine q_skip hF (wanted_f hF rfl rfl rfl rfl rfl) rfl fun a hF => ?_
          refine q_x (v := (.bool true)) hF hS (ex_pick_t rfl rfl rfl) rfl rfl fun a hF => ?_
          refine q_x (v := (.bool true)) hF hS (ex_move rfl) rfl rfl fun a hF => ?_
          refine q_skip hF (wanted_f hF rfl rfl rfl rfl rfl) rfl fun a hF => ?_
          refine q_skip hF (wanted_f hF rfl rfl rfl rfl rfl) rfl fun a hF => ?_
          refine q_skip hF (wanted_f hF rfl rfl rfl rfl rfl) rfl fun a hF => ?_
          refine q_skip hF (wanted_f hF rfl rfl rfl rfl rfl) rfl fun a hF => ?_
          refine q_x (v := (.bool true)) hF hS (ex_pick_t rfl rfl rfl) rfl rfl fun a hF => ?_
          refine q_end (n_jn ?_)
          obtain rfl := someI hj2
          exact ⟨hF.sub ⟨rfl, rfl, rfl, rfl, rfl, rfl, rfl, rfl, rfl, trivial⟩, hS.sel [6, 1, 2, 5, 9] (by decide)⟩
      · have hj2 := cond_t hc3 hj2
        refine q_skip hF (wanted_f hF rfl rfl rfl hc3 rfl) rfl fun a hF => ?_
        refine q_skip hF (wanted_f hF rfl rfl rfl hc3 rfl) rfl fun a hF => ?_
        refine q_skip hF (wanted_f hF rfl rfl rfl hc3 rfl) rfl fun a hF => ?_
        refine q_x (v := (.bool true)) hF hS (ex_pick_t rfl rfl hc3) rfl rfl fun a hF => ?_
        refine q_x (v := (.bool true)) hF hS (ex_move rfl) rfl rfl fun a hF => ?_
        refine q_skip hF (wanted_f hF rfl rfl rfl rfl rfl) rfl fun a hF => ?_
        refine q_skip hF (wanted_f hF rfl rfl rfl rfl rfl) rfl fun a hF => ?_
        refine q_skip hF (wanted_f hF rfl rfl rfl rfl rfl) rfl fun a hF => ?_
        refine q_x (v := (.bool true)) hF hS (ex_pick_t rfl rfl rfl) rfl rfl fun a hF => ?_
        refine q_x (v := (.bool true)) hF hS (ex_move rfl) rfl rfl fun a hF => ?_
        refine q_skip hF (wanted_f hF rfl rfl rfl rfl rfl) rfl fun a hF => ?_
        refine q_skip hF (wanted_f hF rfl rfl rfl rfl rfl) rfl fun a hF => ?_
        refine q_skip hF (wanted_f hF rfl rfl rfl rfl rfl) rfl fun a hF => ?_
        refine q_x (v := (.bool true)) hF hS (ex_pick_t rfl rfl rfl) rfl rfl fun a hF => ?_
        refine q_x (v := (.bool true)) hF hS (ex_move rfl) rfl rfl fun a hF => ?_
        refine q_skip hF (wanted_f hF rfl rfl rfl rfl rfl) rfl fun a hF => ?_
        refine q_skip hF (wanted_f hF rfl rfl rfl rfl rfl) rfl fun a hF => ?_
        refine q_skip hF (wanted_f hF rfl rfl rfl rfl rfl) rfl fun a hF => ?_
        refine q_x (v := (.bool true)) hF hS (ex_pick_t rfl rfl rfl) rfl rfl fun a hF => ?_
        refine q_x (v := (.bool true)) hF hS (ex_move rfl) rfl rfl fun a hF => ?_
        refine q_skip hF (wanted_f hF rfl rfl rfl rfl rfl) rfl fun a hF => ?_
        refine q_skip hF (wanted_f hF rfl rfl rfl rfl rfl) rfl fun a hF => ?_
        refine q_skip hF (wanted_f hF rfl rfl rfl rfl rfl) rfl fun a hF => ?_
        refine q_skip hF (wanted_f hF rfl rfl rfl rfl rfl) rfl fun a hF => ?_
        refine q_x (v := (.bool true)) hF hS (ex_pick_t rfl rfl rfl) rfl rfl fun a hF => ?_
        refine q_end (n_jn ?_)
        obtain rfl := someI hj2
        exact ⟨hF.sub ⟨rfl, rfl, rfl, rfl, rfl, rfl, rfl, rfl, rfl, trivial⟩, hS.sel [6, 1, 2, 5, 9] (by decide)⟩
    · rintro a w ⟨hF, hS⟩
      refine n_sq ?_
      rcases bcase (t_32) with hc8 | hc8
      · have hr := cond_f hc8 hr
        refine q_cond_f hF rfl hc8 ?_
        refine q_skipc (n_sq ?_)
        refine q_seq ?_
        refine q_seq ?_
        refine q_region ?_
        refine q_x (v := s11.v) hF hS (ex_move rfl) rfl rfl fun a hF => ?_
        refine q_x (v := (.int .i64 (goLen t_9))) hF hS (ex_len Try.underlying33 rfl (h11.mono hm19.le).len) rfl rfl fun a hF => ?_
        refine q_x (v := (.int .i64 0)) hF hS (ex_move rfl) rfl rfl fun a hF => ?_
        refine q_end (n_sq ?_)
        refine q_block ?_
        obtain ⟨o9, hl9, hr⟩ := bindS hr
        refine q_loop (fun (t_33 : Int) a w => Fr a 189 [(5, (.pointer (some ⟨b4, 0, none⟩))), (8, (.bool t_5.2)), (12, (.pointer (some ⟨b14, 0, none⟩))), (13, (.bool t_12.2)), (16, (.pointer (some ⟨b21, 0, none⟩))), (18, s25.v), (19, (.bool t_22.2)), (115, s11.v), (116, (.int .i64 (goLen t_9))), (117, (.int .i64 t_33))] ∧ St [] w0 w m19 [q11, q25, [⟨b21, [(.int .i64 t_18.1.Num), (.int .i64 t_18.1.Den)], 24⟩], [⟨b14, [(.int .i64 t_12.1.Ratio.Num), (.int .i64 t_12.1.Ratio.Den), (.int .i64 t_12.1.Rho.Num), (.int .i64 t_12.1.Rho.Den)], 26⟩], [⟨b4, [(.int .i64 t_3.1.Ratio.Num), (.int .i64 t_3.1.Ratio.Den), (.int .i64 t_3.1.Rho.Num), (.int .i64 t_3.1.Rho.Den)], 26⟩]]) (fun (o : (Unit) ⊕ (Bool)) e a w => o = .inl () ∧ e = .exit 0 ∧ Fr a 189 [(5, (.pointer (some ⟨b4, 0, none⟩))), (8, (.bool t_5.2)), (16, (.pointer (some ⟨b21, 0, none⟩))), (18, s25.v), (19, (.bool t_22.2))] ∧ St [] w0 w m19 [q25, [⟨b21, [(.int .i64 t_18.1.Num), (.int .i64 t_18.1.Den)], 24⟩], [⟨b4, [(.int .i64 t_3.1.Ratio.Num), (.int .i64 t_3.1.Ratio.Den), (.int .i64 t_3.1.Rho.Num), (.int .i64 t_3.1.Rho.Den)], 26⟩]]) hl9 ⟨hF.sub ⟨rfl, rfl, rfl, rfl, rfl, rfl, rfl, rfl, rfl, rfl, trivial⟩, hS⟩ ?_ ?_
        · clear hF hS
          rintro t_33 a w st ⟨hF, hS⟩ hb9
          unfold laws_FnLossGroups_l1 at hb9
          refine q_seq ?_
          refine q_region ?_
          refine q_x (v := (.bool (decide (t_33 < (goLen t_9))))) hF hS (ex_ibin rfl rfl rfl) rfl rfl fun a hF => ?_
          refine q_end (n_sq ?_)
          refine q_seq ?_
          rcases bcase (decide (t_33 < (goLen t_9))) with hc10 | hc10
          · have hb9 := cond_f hc10 hb9
            refine q_cond_f hF rfl hc10 ?_
            refine q_exit (x_sq ?_)
            obtain rfl := someI hb9
            exact ⟨nofun, .inl ⟨rfl, rfl, hF.sub ⟨rfl, rfl, rfl, rfl, rfl, trivial⟩, hS.mask [false, true, true, false, true]⟩⟩
          · have hb9 := cond_t hc10 hb9
            refine q_cond_t hF rfl hc10 ?_
            refine q_skipc (n_sq ?_)
            refine q_seq ?_
            refine q_block ?_
            refine q_seq ?_
            refine q_region ?_
            obtain ⟨e_34, he_34, hb9⟩ := bindS hb9
            obtain ⟨vs35, at35, d35⟩ := (h11.mono hm19.le).at he_34 4 rfl
            obtain rfl : vs35 = [(.int .i64 e_34.Ratio.Num), (.int .i64 e_34.Ratio.Den), (.int .i64 e_34.Rho.Num), (.int .i64 e_34.Rho.Den)] := d35
            refine q_x (v := (elP s11 (t_33.toNat * 4))) hF hS (ex_indexAddr Try.underlying33 sz26 rfl rfl ((h11.mono hm19.le).idx he_34)) rfl rfl fun a hF => ?_
            refine q_x (v := (.agg #[(.int .i64 e_34.Ratio.Num), (.int .i64 e_34.Ratio.Den), (.int .i64 e_34.Rho.Num), (.int .i64 e_34.Rho.Den)])) hF hS (ex_loadEA (us := [(.int .i64 e_34.Ratio.Num), (.int .i64 e_34.Ratio.Den), (.int .i64 e_34.Rho.Num), (.int .i64 e_34.Rho.Den)]) 0 Try.underlying26 rfl sz26 rfl (at35.at 0 rfl) rfl rfl rfl) rfl rfl fun a hF => ?_
            refine q_alloc (cs := [(.int .i64 0), (.int .i64 0), (.int .i64 0), (.int .i64 0)]) hF hS rfl rfl rfl fun a w b36 hF hS => ?_
            refine q_store (vs := [(.int .i64 e_34.Ratio.Num), (.int .i64 e_34.Ratio.Den), (.int .i64 e_34.Rho.Num), (.int .i64 e_34.Rho.Den)]) (cs' := [(.int .i64 e_34.Ratio.Num), (.int .i64 e_34.Ratio.Den), (.int .i64 e_34.Rho.Num), (.int .i64 e_34.Rho.Den)]) 0 0 hF hS sz26 rfl rfl rfl rfl rfl rfl rfl rfl fun a w hF hS => ?_
            refine q_end (n_sq ?_)
            refine q_seq ?_
            refine q_region ?_
            refine q_x (v := (.agg #[(.int .i64 t_12.1.Ratio.Num), (.int .i64 t_12.1.Ratio.Den), (.int .i64 t_12.1.Rho.Num), (.int .i64 t_12.1.Rho.Den)])) hF hS (ex_loadA (vs := [(.int .i64 t_12.1.Ratio.Num), (.int .i64 t_12.1.Ratio.Den), (.int .i64 t_12.1.Rho.Num), (.int .i64 t_12.1.Rho.Den)]) 4 0 Try.underlying26 rfl sz26 rfl rfl rfl rfl) rfl rfl fun a hF => ?_
            refine q_x (v := (.agg #[(.int .i64 e_34.Ratio.Num), (.int .i64 e_34.Ratio.Den), (.int .i64 e_34.Rho.Num), (.int .i64 e_34.Rho.Den)])) hF hS (ex_loadA (vs := [(.int .i64 e_34.Ratio.Num), (.int .i64 e_34.Ratio.Den), (.int .i64 e_34.Rho.Num), (.int .i64 e_34.Rho.Den)]) 0 0 Try.underlying26 rfl sz26 rfl rfl rfl rfl) rfl rfl fun a hF => ?_
            obtain ⟨t_37, ht_37, hb9⟩ := bindS hb9
            refine q_call (vs := [(.agg #[(.int .i64 t_12.1.Ratio.Num), (.int .i64 t_12.1.Ratio.Den), (.int .i64 t_12.1.Rho.Num), (.int .i64 t_12.1.Rho.Den)]), (.agg #[(.int .i64 e_34.Ratio.Num), (.int .i64 e_34.Ratio.Den), (.int .i64 e_34.Rho.Num), (.int .i64 e_34.Rho.Den)])]) hF hS Try.func16 (by kernel_rfl) rfl rfl rfl (c_impl_IsWithin t_12.1 e_34 t_37 ht_37 _ m19 hS.vis) ?_
            rintro a w _ rfl hF hS
            refine q_x (v := (.tuple #[(.bool t_37.1), (.bool t_37.2)])) hF hS (ex_move rfl) rfl rfl fun a hF => ?_
            refine q_x (v := (.bool t_37.1)) hF hS (ex_extract rfl rfl) rfl rfl fun a hF => ?_
            refine q_x (v := (.bool t_37.2)) hF hS (ex_extract rfl rfl) rfl rfl fun a hF => ?_
            refine q_x (v := (.bool t_37.1)) hF hS (ex_assign rfl) rfl rfl fun a hF => ?_
            refine q_x (v := (.bool t_37.2)) hF hS (ex_assign rfl) rfl rfl fun a hF => ?_
            refine q_end (n_sq ?_)
            refine q_seq ?_
            obtain ⟨t_38, hj11, hb9⟩ := bindS hb9
            refine q_join (fun a w => Fr a 189 [(5, (.pointer (some ⟨b4, 0, none⟩))), (8, (.bool t_5.2)), (12, (.pointer (some ⟨b14, 0, none⟩))), (13, (.bool t_12.2)), (16, (.pointer (some ⟨b21, 0, none⟩))), (18, s25.v), (19, (.bool t_22.2)), (115, s11.v), (116, (.int .i64 (goLen t_9))), (117, (.int .i64 t_33)), (135, (.bool t_38))] ∧ St [] w0 w m19 [q25, q11, [⟨b21, [(.int .i64 t_18.1.Num), (.int .i64 t_18.1.Den)], 24⟩], [⟨b14, [(.int .i64 t_12.1.Ratio.Num), (.int .i64 t_12.1.Ratio.Den), (.int .i64 t_12.1.Rho.Num), (.int .i64 t_12.1.Rho.Den)], 26⟩], [⟨b4, [(.int .i64 t_3.1.Ratio.Num), (.int .i64 t_3.1.Ratio.Den), (.int .i64 t_3.1.Rho.Num), (.int .i64 t_3.1.Rho.Den)], 26⟩]]) ?_ ?_
            · refine q_region ?_
              refine q_x (v := (.bool t_12.2)) hF hS (ex_move rfl) rfl rfl fun a hF => ?_
              refine q_x (v := (.bool t_12.2)) hF hS (ex_move rfl) rfl rfl fun a hF => ?_
              rcases bcase (t_12.2) with hc12 | hc12
              · have hj11 := cond_f hc12 hj11
                refine q_skip hF (wanted_f hF rfl rfl rfl hc12 rfl) rfl fun a hF => ?_
                refine q_skip hF (wanted_f hF rfl rfl rfl hc12 rfl) rfl fun a hF => ?_
                refine q_skip hF (wanted_f hF rfl rfl rfl hc12 rfl) rfl fun a hF => ?_
                refine q_skip hF (wanted_u hF rfl rfl rfl) rfl fun a hF => ?_
                refine q_skip hF (wanted_u hF rfl rfl rfl) rfl fun a hF => ?_
                refine q_skip hF (wanted_f hF rfl rfl rfl hc12 rfl) rfl fun a hF => ?_
                refine q_x (v := (.bool false)) hF hS (ex_pick_f rfl rfl hc12) rfl rfl fun a hF => ?_
                refine q_end (n_jn ?_)
                obtain rfl := someI hj11
                exact ⟨hF.sub ⟨rfl, rfl, rfl, rfl, rfl, rfl, rfl, rfl, rfl, rfl, rfl, trivial⟩, hS.sel [2, 1, 3, 4, 5] (by decide)⟩
              · have hj11 := cond_t hc12 hj11
                refine q_xg (v := (.bool t_37.2)) hF hS (ex_move rfl) (wanted_t hF rfl rfl rfl hc12) rfl fun a hF => ?_
                refine q_xg (v := (.bool (!t_37.2))) hF hS (ex_not rfl) (wanted_t hF rfl rfl rfl hc12) rfl fun a hF => ?_
                refine q_xg (v := (.bool (!t_37.2))) hF hS (ex_move rfl) (wanted_t hF rfl rfl rfl hc12) rfl fun a hF => ?_
                rcases bcase (!t_37.2) with hc13 | hc13
                · have hj11 := cond_f hc13 hj11
                  refine q_xg (v := (.bool t_37.1)) hF hS (ex_move rfl) (wanted_t hF rfl rfl rfl hc13) rfl fun a hF => ?_
                  refine q_xg (v := (.bool (!t_37.1))) hF hS (ex_not rfl) (wanted_t hF rfl rfl rfl hc13) rfl fun a hF => ?_
                  refine q_xg (v := (.bool (!t_37.1))) hF hS (ex_pick_f rfl rfl hc13) (wanted_t hF rfl rfl rfl hc12) rfl fun a hF => ?_
                  refine q_x (v := (.bool (!t_37.1))) hF hS (ex_pick_t rfl rfl hc12) rfl rfl fun a hF => ?_
                  refine q_end (n_jn ?_)
                  obtain rfl := someI hj11
                  exact ⟨hF.sub ⟨rfl, rfl, rfl, rfl, rfl, rfl, rfl, rfl, rfl, rfl, rfl, trivial⟩, hS.sel [2, 1, 3, 4, 5] (by decide)⟩
                · have hj11 := cond_t hc13 hj11
                  refine q_skip hF (wanted_f hF rfl rfl rfl hc13 rfl) rfl fun a hF => ?_
                  refine q_skip hF (wanted_f hF rfl rfl rfl hc13 rfl) rfl fun a hF => ?_
                  refine q_xg (v := (.bool true)) hF hS (ex_pick_t rfl rfl hc13) (wanted_t hF rfl rfl rfl hc12) rfl fun a hF => ?_
                  refine q_x (v := (.bool true)) hF hS (ex_pick_t rfl rfl hc12) rfl rfl fun a hF => ?_
                  refine q_end (n_jn ?_)
                  obtain rfl := someI hj11
                  exact ⟨hF.sub ⟨rfl, rfl, rfl, rfl, rfl, rfl, rfl, rfl, rfl, rfl, rfl, trivial⟩, hS.sel [2, 1, 3, 4, 5] (by decide)⟩
            · rintro a w ⟨hF, hS⟩
              refine n_sq ?_
              rcases bcase (t_38) with hc14 | hc14
              · have hb9 := cond_f hc14 hb9
                refine q_cond_f hF rfl hc14 ?_
                refine q_skipc (n_ib (n_sq ?_))
                refine q_region ?_
                refine q_x (v := (.int .i64 (w64 (t_33 + 1)))) hF hS (ex_ibin rfl rfl rfl) rfl rfl fun a hF => ?_
                refine q_x (v := (.int .i64 (w64 (t_33 + 1)))) hF hS (ex_move rfl) rfl rfl fun a hF => ?_
                refine q_end ?_
                obtain rfl := someI hb9
                exact ⟨rfl, hF.sub ⟨rfl, rfl, rfl, rfl, rfl, rfl, rfl, rfl, rfl, rfl, trivial⟩, hS.sel [1, 0, 2, 3, 4] (by decide)⟩
              · have hb9 := cond_t hc14 hb9
                refine q_cond_t hF rfl hc14 ?_
                refine q_seq ?_
                refine q_region ?_
                refine q_x (v := (.bool false)) hF hS (ex_assign rfl) rfl rfl fun a hF => ?_
                refine q_end (n_sq (q_ret (r_ib (r_sq ?_))))
                obtain rfl := someI hb9
                refine ⟨nofun, .inr fun ho => ?_⟩
                subst ho
                refine r_ib (r_sq ?_)
                obtain rfl := someI hr
                exact ret_of hF hS rfl (.tmp rfl .nil) rfl
        · rintro e a w ⟨rfl, rfl, hF, hS⟩
          refine x_ib (n_sq ?_)
          refine q_seq ?_
          refine q_seq ?_
          refine q_region ?_
          refine q_x (v := (.bool t_22.2)) hF hS (ex_move rfl) rfl rfl fun a hF => ?_
          refine q_end (n_sq ?_)
          obtain ⟨j15, hj15, hr⟩ := bindS hr
          refine q_join (fun a w => j15 = .inl () ∧ Fr a 189 [(5, (.pointer (some ⟨b4, 0, none⟩))), (8, (.bool t_5.2))] ∧ St [] w0 w m19 [[⟨b4, [(.int .i64 t_3.1.Ratio.Num), (.int .i64 t_3.1.Ratio.Den), (.int .i64 t_3.1.Rho.Num), (.int .i64 t_3.1.Rho.Den)], 26⟩]]) ?_ ?_
          · rcases bcase (t_22.2) with hc16 | hc16
            · have hj15 := cond_f hc16 hj15
              refine q_cond_f hF rfl hc16 ?_
              refine q_skipc (n_jn ?_)
              obtain rfl := someI hj15
              exact ⟨rfl, hF.sub ⟨rfl, rfl, trivial⟩, hS.mask [false, false, true]⟩
            · have hj15 := cond_t hc16 hj15
              refine q_cond_t hF rfl hc16 ?_
              refine q_seq ?_
              refine q_region ?_
              refine q_x (v := s25.v) hF hS (ex_move rfl) rfl rfl fun a hF => ?_
              obtain ⟨m40, hl40, hv40, hz40⟩ := hS.lend
              obtain ⟨t_39, ht_39, hj15⟩ := bindS hj15
              refine q_call (vs := [s25.v]) hF hS Try.func35 (by kernel_rfl) rfl rfl rfl (c_impl_SumFracs t_22.1 t_39 ht_39 _ m40 hv40 s25 (h25.froz hl40 (hz40 0 _ rfl))) ?_
              rintro a w _ rfl hF hS
              refine q_x (v := (.tuple #[(.agg #[(.int .i64 t_39.1.Num), (.int .i64 t_39.1.Den)]), (.bool t_39.2)])) hF hS (ex_move rfl) rfl rfl fun a hF => ?_
              refine q_x (v := (.agg #[(.int .i64 t_39.1.Num), (.int .i64 t_39.1.Den)])) hF hS (ex_extract rfl rfl) rfl rfl fun a hF => ?_
              refine q_x (v := (.bool t_39.2)) hF hS (ex_extract rfl rfl) rfl rfl fun a hF => ?_
              refine q_alloc (cs := [(.int .i64 0), (.int .i64 0)]) hF hS rfl rfl rfl fun a w b41 hF hS => ?_
              refine q_store (vs := [(.int .i64 t_39.1.Num), (.int .i64 t_39.1.Den)]) (cs' := [(.int .i64 t_39.1.Num), (.int .i64 t_39.1.Den)]) 0 0 hF hS sz24 rfl rfl rfl rfl rfl rfl rfl rfl fun a w hF hS => ?_
              refine q_x (v := (.bool t_39.2)) hF hS (ex_assign rfl) rfl rfl fun a hF => ?_
              refine q_end (n_sq ?_)
              refine q_seq ?_
              obtain ⟨t_42, hj17, hj15⟩ := bindS hj15
              refine q_join (fun a w => Fr a 189 [(5, (.pointer (some ⟨b4, 0, none⟩))), (8, (.bool t_5.2)), (148, (.bool t_42))] ∧ St [] w0 w m19 [[⟨b4, [(.int .i64 t_3.1.Ratio.Num), (.int .i64 t_3.1.Ratio.Den), (.int .i64 t_3.1.Rho.Num), (.int .i64 t_3.1.Rho.Den)], 26⟩]]) ?_ ?_
              · refine q_region ?_
                refine q_x (v := (.bool t_39.2)) hF hS (ex_move rfl) rfl rfl fun a hF => ?_
                refine q_x (v := (.bool t_39.2)) hF hS (ex_move rfl) rfl rfl fun a hF => ?_
                rcases bcase (t_39.2) with hc18 | hc18
                · have hj17 := cond_f hc18 hj17
                  refine q_skip hF (wanted_f hF rfl rfl rfl hc18 rfl) rfl fun a hF => ?_
                  refine q_skip hF (wanted_f hF rfl rfl rfl hc18 rfl) rfl fun a hF => ?_
                  refine q_skip hF (wanted_f hF rfl rfl rfl hc18 rfl) rfl fun a hF => ?_
                  refine q_x (v := (.bool false)) hF hS (ex_pick_f rfl rfl hc18) rfl rfl fun a hF => ?_
                  refine q_end (n_jn ?_)
                  obtain rfl := someI hj17
                  exact ⟨hF.sub ⟨rfl, rfl, rfl, trivial⟩, hS.mask [false, false, false, true]⟩
                · have hj17 := cond_t hc18 hj17
                  refine q_xg (v := (.agg #[(.int .i64 t_39.1.Num), (.int .i64 t_39.1.Den)])) hF hS (ex_loadA (vs := [(.int .i64 t_39.1.Num), (.int .i64 t_39.1.Den)]) 0 0 Try.underlying24 rfl sz24 rfl rfl rfl rfl) (wanted_t hF rfl rfl rfl hc18) rfl fun a hF => ?_
                  refine q_xg (v := (.agg #[(.int .i64 t_18.1.Num), (.int .i64 t_18.1.Den)])) hF hS (ex_loadA (vs := [(.int .i64 t_18.1.Num), (.int .i64 t_18.1.Den)]) 2 0 Try.underlying24 rfl sz24 rfl rfl rfl rfl) (wanted_t hF rfl rfl rfl hc18) rfl fun a hF => ?_
                  refine q_xg (v := (.bool (!((t_39.1.Num == t_18.1.Num) && ((t_39.1.Den == t_18.1.Den) && true))))) hF hS (ex_neA (xs := [(.int .i64 t_39.1.Num), (.int .i64 t_39.1.Den)]) (ys := [(.int .i64 t_18.1.Num), (.int .i64 t_18.1.Den)]) rfl rfl (by kernel_rfl) (eqv_struct (xs := [(.int .i64 t_39.1.Num), (.int .i64 t_39.1.Den)]) (ys := [(.int .i64 t_18.1.Num), (.int .i64 t_18.1.Den)]) Try.underlying24 (by kernel_rfl) (eqf_cons rfl (part_cell Try.underlying3 rfl rfl) (part_cell Try.underlying3 rfl rfl) (eqv_int Try.underlying3) (eqf_cons rfl (part_cell Try.underlying3 rfl rfl) (part_cell Try.underlying3 rfl rfl) (eqv_int Try.underlying3) (eqf_nil))))) (wanted_t hF rfl rfl rfl hc18) rfl fun a hF => ?_
                  refine q_x (v := (.bool (!((t_39.1.Num == t_18.1.Num) && ((t_39.1.Den == t_18.1.Den) && true))))) hF hS (ex_pick_t rfl rfl hc18) rfl rfl fun a hF => ?_
                  refine q_end (n_jn ?_)
                  obtain rfl := someI hj17
                  exact ⟨hF.sub ⟨rfl, rfl, rfl, trivial⟩, hS.mask [false, false, false, true]⟩
              · rintro a w ⟨hF, hS⟩
                refine n_sq ?_
                rcases bcase (t_42) with hc19 | hc19
                · have hj15 := cond_f hc19 hj15
                  refine q_cond_f hF rfl hc19 ?_
                  refine q_skipc (n_jn ?_)
                  obtain rfl := someI hj15
                  exact ⟨rfl, hF.sub ⟨rfl, rfl, trivial⟩, hS⟩
                · have hj15 := cond_t hc19 hj15
                  refine q_cond_t hF rfl hc19 ?_
                  refine q_seq ?_
                  refine q_region ?_
                  refine q_x (v := (.bool false)) hF hS (ex_assign rfl) rfl rfl fun a hF => ?_
                  refine q_end (n_sq (q_ret (r_jn ?_)))
                  obtain rfl := someI hj15
                  refine r_sq ?_
                  obtain rfl := someI hr
                  exact ret_of hF hS rfl (.tmp rfl .nil) rfl
          · rintro a w ⟨rfl, hF, hS⟩
            refine n_sq ?_
            refine q_seq ?_
            refine q_seq ?_
            refine q_region ?_
            refine q_x (v := (.bool t_5.2)) hF hS (ex_move rfl) rfl rfl fun a hF => ?_
            refine q_x (v := (.bool (!t_5.2))) hF hS (ex_not rfl) rfl rfl fun a hF => ?_
            refine q_end (n_sq ?_)
            rcases bcase (!t_5.2) with hc20 | hc20
            · have hr := cond_f hc20 hr
              refine q_cond_f hF rfl hc20 ?_
              refine q_skipc (n_sq ?_)
              refine q_seq ?_
              refine q_region ?_
              refine q_x (v := (.agg #[(.int .i64 t_3.1.Ratio.Num), (.int .i64 t_3.1.Ratio.Den), (.int .i64 t_3.1.Rho.Num), (.int .i64 t_3.1.Rho.Den)])) hF hS (ex_loadA (vs := [(.int .i64 t_3.1.Ratio.Num), (.int .i64 t_3.1.Ratio.Den), (.int .i64 t_3.1.Rho.Num), (.int .i64 t_3.1.Rho.Den)]) 0 0 Try.underlying26 rfl sz26 rfl rfl rfl rfl) rfl rfl fun a hF => ?_
              obtain ⟨t_43, ht_43, hr⟩ := bindS hr
              refine q_call (vs := [(.agg #[(.int .i64 t_3.1.Ratio.Num), (.int .i64 t_3.1.Ratio.Den), (.int .i64 t_3.1.Rho.Num), (.int .i64 t_3.1.Rho.Den)]), (.int .i64 2)]) hF hS Try.func26 (by kernel_rfl) rfl rfl rfl (c_impl_GroupLoss t_3.1 2 t_43 ht_43 _ m19 hS.vis) ?_
              rintro a w _ rfl hF hS
              refine q_x (v := (.tuple #[(.agg #[(.int .i64 t_43.1.Ratio.Num), (.int .i64 t_43.1.Ratio.Den), (.int .i64 t_43.1.Rho.Num), (.int .i64 t_43.1.Rho.Den)]), (.bool t_43.2)])) hF hS (ex_move rfl) rfl rfl fun a hF => ?_
              refine q_x (v := (.agg #[(.int .i64 t_43.1.Ratio.Num), (.int .i64 t_43.1.Ratio.Den), (.int .i64 t_43.1.Rho.Num), (.int .i64 t_43.1.Rho.Den)])) hF hS (ex_extract rfl rfl) rfl rfl fun a hF => ?_
              refine q_x (v := (.bool t_43.2)) hF hS (ex_extract rfl rfl) rfl rfl fun a hF => ?_
              refine q_alloc (cs := [(.int .i64 0), (.int .i64 0), (.int .i64 0), (.int .i64 0)]) hF hS rfl rfl rfl fun a w b44 hF hS => ?_
              refine q_store (vs := [(.int .i64 t_43.1.Ratio.Num), (.int .i64 t_43.1.Ratio.Den), (.int .i64 t_43.1.Rho.Num), (.int .i64 t_43.1.Rho.Den)]) (cs' := [(.int .i64 t_43.1.Ratio.Num), (.int .i64 t_43.1.Ratio.Den), (.int .i64 t_43.1.Rho.Num), (.int .i64 t_43.1.Rho.Den)]) 0 0 hF hS sz26 rfl rfl rfl rfl rfl rfl rfl rfl fun a w hF hS => ?_
              refine q_x (v := (.bool t_43.2)) hF hS (ex_assign rfl) rfl rfl fun a hF => ?_
              refine q_end (n_sq ?_)
              refine q_seq ?_
              refine q_region ?_
              refine q_x (v := (.agg #[(.int .i64 t_3.1.Ratio.Num), (.int .i64 t_3.1.Ratio.Den), (.int .i64 t_3.1.Rho.Num), (.int .i64 t_3.1.Rho.Den)])) hF hS (ex_loadA (vs := [(.int .i64 t_3.1.Ratio.Num), (.int .i64 t_3.1.Ratio.Den), (.int .i64 t_3.1.Rho.Num), (.int .i64 t_3.1.Rho.Den)]) 1 0 Try.underlying26 rfl sz26 rfl rfl rfl rfl) rfl rfl fun a hF => ?_
              refine q_x (v := (.agg #[(.int .i64 t_3.1.Ratio.Num), (.int .i64 t_3.1.Ratio.Den), (.int .i64 t_3.1.Rho.Num), (.int .i64 t_3.1.Rho.Den)])) hF hS (ex_loadA (vs := [(.int .i64 t_3.1.Ratio.Num), (.int .i64 t_3.1.Ratio.Den), (.int .i64 t_3.1.Rho.Num), (.int .i64 t_3.1.Rho.Den)]) 1 0 Try.underlying26 rfl sz26 rfl rfl rfl rfl) rfl rfl fun a hF => ?_
              refine q_do rfl fun _ hK => wp_buildSlice' (l := ([t_3.1, t_3.1] : List impl_Loss)) (cells := [(.int .i64 t_3.1.Ratio.Num), (.int .i64 t_3.1.Ratio.Den), (.int .i64 t_3.1.Rho.Num), (.int .i64 t_3.1.Rho.Den), (.int .i64 t_3.1.Ratio.Num), (.int .i64 t_3.1.Ratio.Den), (.int .i64 t_3.1.Rho.Num), (.int .i64 t_3.1.Rho.Den)]) hF hS Try.underlying33 inf26 rfl rfl (by kernel_rfl) rfl rfl rfl ⟨rfl, rfl, rfl⟩ rfl rfl fun a w q45 s45 hF hS h45 _ => hK _ _ ?_
              obtain ⟨m47, hl47, hv47, hz47⟩ := hS.lend
              obtain ⟨t_46, ht_46, hr⟩ := bindS hr
              refine q_call (vs := [s45.v]) hF hS Try.func15 (by kernel_rfl) rfl rfl rfl (c_impl_ComposeLosses ([t_3.1, t_3.1] : List impl_Loss) t_46 ht_46 _ m47 hv47 s45 (h45.froz hl47 (hz47 0 _ rfl))) ?_
              rintro a w _ rfl hF hS
              refine q_x (v := (.tuple #[(.agg #[(.int .i64 t_46.1.Ratio.Num), (.int .i64 t_46.1.Ratio.Den), (.int .i64 t_46.1.Rho.Num), (.int .i64 t_46.1.Rho.Den)]), (.bool t_46.2)])) hF hS (ex_move rfl) rfl rfl fun a hF => ?_
              refine q_x (v := (.agg #[(.int .i64 t_46.1.Ratio.Num), (.int .i64 t_46.1.Ratio.Den), (.int .i64 t_46.1.Rho.Num), (.int .i64 t_46.1.Rho.Den)])) hF hS (ex_extract rfl rfl) rfl rfl fun a hF => ?_
              refine q_x (v := (.bool t_46.2)) hF hS (ex_extract rfl rfl) rfl rfl fun a hF => ?_
              refine q_alloc (cs := [(.int .i64 0), (.int .i64 0), (.int .i64 0), (.int .i64 0)]) hF hS rfl rfl rfl fun a w b48 hF hS => ?_
              refine q_store (vs := [(.int .i64 t_46.1.Ratio.Num), (.int .i64 t_46.1.Ratio.Den), (.int .i64 t_46.1.Rho.Num), (.int .i64 t_46.1.Rho.Den)]) (cs' := [(.int .i64 t_46.1.Ratio.Num), (.int .i64 t_46.1.Ratio.Den), (.int .i64 t_46.1.Rho.Num), (.int .i64 t_46.1.Rho.Den)]) 0 0 hF hS sz26 rfl rfl rfl rfl rfl rfl rfl rfl fun a w hF hS => ?_
              refine q_x (v := (.bool t_46.2)) hF hS (ex_assign rfl) rfl rfl fun a hF => ?_
              refine q_end (n_sq ?_)
              refine q_seq ?_
              refine q_region ?_
              refine q_x (v := (.agg #[(.int .i64 t_3.1.Ratio.Num), (.int .i64 t_3.1.Ratio.Den), (.int .i64 t_3.1.Rho.Num), (.int .i64 t_3.1.Rho.Den)])) hF hS (ex_loadA (vs := [(.int .i64 t_3.1.Ratio.Num), (.int .i64 t_3.1.Ratio.Den), (.int .i64 t_3.1.Rho.Num), (.int .i64 t_3.1.Rho.Den)]) 3 0 Try.underlying26 rfl sz26 rfl rfl rfl rfl) rfl rfl fun a hF => ?_
              obtain ⟨t_49, ht_49, hr⟩ := bindS hr
              refine q_call (vs := [(.agg #[(.int .i64 t_3.1.Ratio.Num), (.int .i64 t_3.1.Ratio.Den), (.int .i64 t_3.1.Rho.Num), (.int .i64 t_3.1.Rho.Den)]), (.int .i64 0)]) hF hS Try.func26 (by kernel_rfl) rfl rfl rfl (c_impl_GroupLoss t_3.1 0 t_49 ht_49 _ m19 hS.vis) ?_
              rintro a w _ rfl hF hS
              refine q_x (v := (.tuple #[(.agg #[(.int .i64 t_49.1.Ratio.Num), (.int .i64 t_49.1.Ratio.Den), (.int .i64 t_49.1.Rho.Num), (.int .i64 t_49.1.Rho.Den)]), (.bool t_49.2)])) hF hS (ex_move rfl) rfl rfl fun a hF => ?_
              refine q_x (v := (.agg #[(.int .i64 t_49.1.Ratio.Num), (.int .i64 t_49.1.Ratio.Den), (.int .i64 t_49.1.Rho.Num), (.int .i64 t_49.1.Rho.Den)])) hF hS (ex_extract rfl rfl) rfl rfl fun a hF => ?_
              refine q_x (v := (.bool t_49.2)) hF hS (ex_extract rfl rfl) rfl rfl fun a hF => ?_
              refine q_alloc (cs := [(.int .i64 0), (.int .i64 0), (.int .i64 0), (.int .i64 0)]) hF hS rfl rfl rfl fun a w b50 hF hS => ?_
              refine q_store (vs := [(.int .i64 t_49.1.Ratio.Num), (.int .i64 t_49.1.Ratio.Den), (.int .i64 t_49.1.Rho.Num), (.int .i64 t_49.1.Rho.Den)]) (cs' := [(.int .i64 t_49.1.Ratio.Num), (.int .i64 t_49.1.Ratio.Den), (.int .i64 t_49.1.Rho.Num), (.int .i64 t_49.1.Rho.Den)]) 0 0 hF hS sz26 rfl rfl rfl rfl rfl rfl rfl rfl fun a w hF hS => ?_
              refine q_x (v := (.bool t_49.2)) hF hS (ex_assign rfl) rfl rfl fun a hF => ?_
              refine q_end (n_sq ?_)
              refine q_seq ?_
              obtain ⟨t_52, hj21, hr⟩ := bindS hr
              refine q_join (fun a w => Fr a 189 [(4, (.bool t_52))] ∧ St [] w0 w m19 []) ?_ ?_
              · refine e_region [] mixed fun w' hw' => ?_
                have hS := hS.below hw'
                refine e_p (v := (.bool t_49.2)) 0 hF rfl (ex_move rfl) rfl rfl (by kernel_rfl) (by kernel_rfl) (by kernel_rfl) fun a hF => ?_
                refine e_p (v := (.bool t_49.2)) 1 hF rfl (ex_move rfl) rfl rfl (by kernel_rfl) (by kernel_rfl) (by kernel_rfl) fun a hF => ?_
                rcases bcase (t_49.2) with hc22 | hc22
                · have hj21 := cond_f hc22 hj21
                  refine e_skipP 2 hF rfl (wanted_f hF rfl rfl rfl hc22 rfl) rfl (by kernel_rfl) (by kernel_rfl) (by kernel_rfl) fun a hF => ?_
                  refine e_skipP 3 hF rfl (wanted_f hF rfl rfl rfl hc22 rfl) rfl (by kernel_rfl) (by kernel_rfl) (by kernel_rfl) fun a hF => ?_
                  refine e_skipP 4 hF rfl (wanted_f hF rfl rfl rfl hc22 rfl) rfl (by kernel_rfl) (by kernel_rfl) (by kernel_rfl) fun a hF => ?_
                  refine e_p (v := (.bool false)) 5 hF rfl (ex_pick_f rfl rfl hc22) rfl rfl (by kernel_rfl) (by kernel_rfl) (by kernel_rfl) fun a hF => ?_
                  refine e_p (v := (.bool false)) 6 hF rfl (ex_move rfl) rfl rfl (by kernel_rfl) (by kernel_rfl) (by kernel_rfl) fun a hF => ?_
                  refine e_skipP 7 hF rfl (wanted_f hF rfl rfl rfl rfl rfl) rfl (by kernel_rfl) (by kernel_rfl) (by kernel_rfl) fun a hF => ?_
                  refine e_skipP 8 hF rfl (wanted_f hF rfl rfl rfl rfl rfl) rfl (by kernel_rfl) (by kernel_rfl) (by kernel_rfl) fun a hF => ?_
                  refine e_skipP 9 hF rfl (wanted_f hF rfl rfl rfl rfl rfl) rfl (by kernel_rfl) (by kernel_rfl) (by kernel_rfl) fun a hF => ?_
                  refine e_skipP 10 hF rfl (wanted_u hF rfl rfl rfl) rfl (by kernel_rfl) (by kernel_rfl) (by kernel_rfl) fun a hF => ?_
                  refine e_skipP 11 hF rfl (wanted_u hF rfl rfl rfl) rfl (by kernel_rfl) (by kernel_rfl) (by kernel_rfl) fun a hF => ?_
                  refine e_skipP 12 hF rfl (wanted_f hF rfl rfl rfl rfl rfl) rfl (by kernel_rfl) (by kernel_rfl) (by kernel_rfl) fun a hF => ?_
                  refine e_skipP 13 hF rfl (wanted_f hF rfl rfl rfl rfl rfl) rfl (by kernel_rfl) (by kernel_rfl) (by kernel_rfl) fun a hF => ?_
                  refine e_skipP 14 hF rfl (wanted_u hF rfl rfl rfl) rfl (by kernel_rfl) (by kernel_rfl) (by kernel_rfl) fun a hF => ?_
                  refine e_skipP 15 hF rfl (wanted_u hF rfl rfl rfl) rfl (by kernel_rfl) (by kernel_rfl) (by kernel_rfl) fun a hF => ?_
                  refine e_skipP 16 hF rfl (wanted_u hF rfl rfl rfl) rfl (by kernel_rfl) (by kernel_rfl) (by kernel_rfl) fun a hF => ?_
                  refine e_skipP 17 hF rfl (wanted_u hF rfl rfl rfl) rfl (by kernel_rfl) (by kernel_rfl) (by kernel_rfl) fun a hF => ?_
                  refine e_skipP 18 hF rfl (wanted_u hF rfl rfl rfl) rfl (by kernel_rfl) (by kernel_rfl) (by kernel_rfl) fun a hF => ?_
                  refine e_skipP 19 hF rfl (wanted_f hF rfl rfl rfl rfl rfl) rfl (by kernel_rfl) (by kernel_rfl) (by kernel_rfl) fun a hF => ?_
                  refine e_p (v := (.bool false)) 20 hF rfl (ex_pick_f rfl rfl rfl) rfl rfl (by kernel_rfl) (by kernel_rfl) (by kernel_rfl) fun a hF => ?_
                  refine e_p (v := (.bool false)) 21 hF rfl (ex_assign rfl) rfl rfl (by kernel_rfl) (by kernel_rfl) (by kernel_rfl) fun a hF => ?_
                  refine e_end (by kernel_rfl) (n_jn ?_) _
                  obtain rfl := someI hj21
                  exact ⟨hF.sub ⟨rfl, trivial⟩, hS.mask [false, false, false, false, false]⟩
                · have hj21 := cond_t hc22 hj21
                  refine e_xg (v := (.agg #[(.int .i64 t_49.1.Ratio.Num), (.int .i64 t_49.1.Ratio.Den), (.int .i64 t_49.1.Rho.Num), (.int .i64 t_49.1.Rho.Den)])) 2 hF hS rfl (ex_loadA (vs := [(.int .i64 t_49.1.Ratio.Num), (.int .i64 t_49.1.Ratio.Den), (.int .i64 t_49.1.Rho.Num), (.int .i64 t_49.1.Rho.Den)]) 0 0 Try.underlying26 rfl sz26 rfl rfl rfl rfl) (wanted_t hF rfl rfl rfl hc22) rfl (by kernel_rfl) (by kernel_rfl) (by kernel_rfl) (by kernel_rfl) fun a hF => ?_
                  refine e_one 3 (by kernel_rfl) ?_
                  obtain ⟨t_51, ht_51, hj21⟩ := bindS hj21
                  refine e_callg (vs := []) hF hS rfl (wanted_t hF rfl rfl rfl hc22) Try.func36 (by kernel_rfl) rfl rfl rfl (c_impl_NoLoss  t_51 ht_51 _ m19 hS.vis) ?_
                  rintro a w _ rfl hF hS
                  refine e_pg (v := (.bool (((t_49.1.Ratio.Num == t_51.Ratio.Num) && ((t_49.1.Ratio.Den == t_51.Ratio.Den) && true)) && (((t_49.1.Rho.Num == t_51.Rho.Num) && ((t_49.1.Rho.Den == t_51.Rho.Den) && true)) && true)))) 4 hF rfl (ex_eqA (xs := [(.int .i64 t_49.1.Ratio.Num), (.int .i64 t_49.1.Ratio.Den), (.int .i64 t_49.1.Rho.Num), (.int .i64 t_49.1.Rho.Den)]) (ys := [(.int .i64 t_51.Ratio.Num), (.int .i64 t_51.Ratio.Den), (.int .i64 t_51.Rho.Num), (.int .i64 t_51.Rho.Den)]) rfl rfl (by kernel_rfl) (eqv_struct (xs := [(.int .i64 t_49.1.Ratio.Num), (.int .i64 t_49.1.Ratio.Den), (.int .i64 t_49.1.Rho.Num), (.int .i64 t_49.1.Rho.Den)]) (ys := [(.int .i64 t_51.Ratio.Num), (.int .i64 t_51.Ratio.Den), (.int .i64 t_51.Rho.Num), (.int .i64 t_51.Rho.Den)]) Try.underlying26 (by kernel_rfl) (eqf_cons rfl (part_agg (vs := [(.int .i64 t_49.1.Ratio.Num), (.int .i64 t_49.1.Ratio.Den)]) Try.underlying24 rfl sz24 rfl) (part_agg (vs := [(.int .i64 t_51.Ratio.Num), (.int .i64 t_51.Ratio.Den)]) Try.underlying24 rfl sz24 rfl) (eqv_struct (xs := [(.int .i64 t_49.1.Ratio.Num), (.int .i64 t_49.1.Ratio.Den)]) (ys := [(.int .i64 t_51.Ratio.Num), (.int .i64 t_51.Ratio.Den)]) Try.underlying24 (by kernel_rfl) (eqf_cons rfl (part_cell Try.underlying3 rfl rfl) (part_cell Try.underlying3 rfl rfl) (eqv_int Try.underlying3) (eqf_cons rfl (part_cell Try.underlying3 rfl rfl) (part_cell Try.underlying3 rfl rfl) (eqv_int Try.underlying3) (eqf_nil)))) (eqf_cons rfl (part_agg (vs := [(.int .i64 t_49.1.Rho.Num), (.int .i64 t_49.1.Rho.Den)]) Try.underlying24 rfl sz24 rfl) (part_agg (vs := [(.int .i64 t_51.Rho.Num), (.int .i64 t_51.Rho.Den)]) Try.underlying24 rfl sz24 rfl) (eqv_struct (xs := [(.int .i64 t_49.1.Rho.Num), (.int .i64 t_49.1.Rho.Den)]) (ys := [(.int .i64 t_51.Rho.Num), (.int .i64 t_51.Rho.Den)]) Try.underlying24 (by kernel_rfl) (eqf_cons rfl (part_cell Try.underlying3 rfl rfl) (part_cell Try.underlying3 rfl rfl) (eqv_int Try.underlying3) (eqf_cons rfl (part_cell Try.underlying3 rfl rfl) (part_cell Try.underlying3 rfl rfl) (eqv_int Try.underlying3) (eqf_nil)))) (eqf_nil))))) (wanted_t hF rfl rfl rfl hc22) rfl (by kernel_rfl) (by kernel_rfl) (by kernel_rfl) fun a hF => ?_
                  refine e_p (v := (.bool (((t_49.1.Ratio.Num == t_51.Ratio.Num) && ((t_49.1.Ratio.Den == t_51.Ratio.Den) && true)) && (((t_49.1.Rho.Num == t_51.Rho.Num) && ((t_49.1.Rho.Den == t_51.Rho.Den) && true)) && true)))) 5 hF rfl (ex_pick_t rfl rfl hc22) rfl rfl (by kernel_rfl) (by kernel_rfl) (by kernel_rfl) fun a hF => ?_
                  refine e_p (v := (.bool (((t_49.1.Ratio.Num == t_51.Ratio.Num) && ((t_49.1.Ratio.Den == t_51.Ratio.Den) && true)) && (((t_49.1.Rho.Num == t_51.Rho.Num) && ((t_49.1.Rho.Den == t_51.Rho.Den) && true)) && true)))) 6 hF rfl (ex_move rfl) rfl rfl (by kernel_rfl) (by kernel_rfl) (by kernel_rfl) fun a hF => ?_
                  rcases bcase (((t_49.1.Ratio.Num == t_51.Ratio.Num) && ((t_49.1.Ratio.Den == t_51.Ratio.Den) && true)) && (((t_49.1.Rho.Num == t_51.Rho.Num) && ((t_49.1.Rho.Den == t_51.Rho.Den) && true)) && true)) with hc23 | hc23
                  · have hj21 := cond_f hc23 hj21
                    refine e_skipP 7 hF rfl (wanted_f hF rfl rfl rfl hc23 rfl) rfl (by kernel_rfl) (by kernel_rfl) (by kernel_rfl) fun a hF => ?_
                    refine e_skipP 8 hF rfl (wanted_f hF rfl rfl rfl hc23 rfl) rfl (by kernel_rfl) (by kernel_rfl) (by kernel_rfl) fun a hF => ?_
                    refine e_skipP 9 hF rfl (wanted_f hF rfl rfl rfl hc23 rfl) rfl (by kernel_rfl) (by kernel_rfl) (by kernel_rfl) fun a hF => ?_
                    refine e_skipP 10 hF rfl (wanted_u hF rfl rfl rfl) rfl (by kernel_rfl) (by kernel_rfl) (by kernel_rfl) fun a hF => ?_
                    refine e_skipP 11 hF rfl (wanted_u hF rfl rfl rfl) rfl (by kernel_rfl) (by kernel_rfl) (by kernel_rfl) fun a hF => ?_
                    refine e_skipP 12 hF rfl (wanted_f hF rfl rfl rfl hc23 rfl) rfl (by kernel_rfl) (by kernel_rfl) (by kernel_rfl) fun a hF => ?_
                    refine e_skipP 13 hF rfl (wanted_f hF rfl rfl rfl hc23 rfl) rfl (by kernel_rfl) (by kernel_rfl) (by kernel_rfl) fun a hF => ?_
                    refine e_skipP 14 hF rfl (wanted_u hF rfl rfl rfl) rfl (by kernel_rfl) (by kernel_rfl) (by kernel_rfl) fun a hF => ?_
                    refine e_skipP 15 hF rfl (wanted_u hF rfl rfl rfl) rfl (by kernel_rfl) (by kernel_rfl) (by kernel_rfl) fun a hF => ?_
                    refine e_skipP 16 hF rfl (wanted_u hF rfl rfl rfl) rfl (by kernel_rfl) (by kernel_rfl) (by kernel_rfl) fun a hF => ?_
                    refine e_skipP 17 hF rfl (wanted_u hF rfl rfl rfl) rfl (by kernel_rfl) (by kernel_rfl) (by kernel_rfl) fun a hF => ?_
                    refine e_skipP 18 hF rfl (wanted_u hF rfl rfl rfl) rfl (by kernel_rfl) (by kernel_rfl) (by kernel_rfl) fun a hF => ?_
                    refine e_skipP 19 hF rfl (wanted_f hF rfl rfl rfl hc23 rfl) rfl (by kernel_rfl) (by kernel_rfl) (by kernel_rfl) fun a hF => ?_
                    refine e_p (v := (.bool false)) 20 hF rfl (ex_pick_f rfl rfl hc23) rfl rfl (by kernel_rfl) (by kernel_rfl) (by kernel_rfl) fun a hF => ?_
                    refine e_p (v := (.bool false)) 21 hF rfl (ex_assign rfl) rfl rfl (by kernel_rfl) (by kernel_rfl) (by kernel_rfl) fun a hF => ?_
                    refine e_end (by kernel_rfl) (n_jn ?_) _
                    obtain rfl := someI hj21
                    exact ⟨hF.sub ⟨rfl, trivial⟩, hS.mask [false, false, false, false, false]⟩
                  · have hj21 := cond_t hc23 hj21
                    refine e_pg (v := (.bool t_43.2)) 7 hF rfl (ex_move rfl) (wanted_t hF rfl rfl rfl hc23) rfl (by kernel_rfl) (by kernel_rfl) (by kernel_rfl) fun a hF => ?_
                    refine e_pg (v := (.bool (!t_43.2))) 8 hF rfl (ex_not rfl) (wanted_t hF rfl rfl rfl hc23) rfl (by kernel_rfl) (by kernel_rfl) (by kernel_rfl) fun a hF => ?_
                    refine e_pg (v := (.bool (!t_43.2))) 9 hF rfl (ex_move rfl) (wanted_t hF rfl rfl rfl hc23) rfl (by kernel_rfl) (by kernel_rfl) (by kernel_rfl) fun a hF => ?_
                    rcases bcase (!t_43.2) with hc24 | hc24
                    · have hj21 := cond_f hc24 hj21
                      refine e_pg (v := (.bool t_46.2)) 10 hF rfl (ex_move rfl) (wanted_t hF rfl rfl rfl hc24) rfl (by kernel_rfl) (by kernel_rfl) (by kernel_rfl) fun a hF => ?_
                      refine e_pg (v := (.bool (!t_46.2))) 11 hF rfl (ex_not rfl) (wanted_t hF rfl rfl rfl hc24) rfl (by kernel_rfl) (by kernel_rfl) (by kernel_rfl) fun a hF => ?_
                      refine e_pg (v := (.bool (!t_46.2))) 12 hF rfl (ex_pick_f rfl rfl hc24) (wanted_t hF rfl rfl rfl hc23) rfl (by kernel_rfl) (by kernel_rfl) (by kernel_rfl) fun a hF => ?_
                      refine e_pg (v := (.bool (!t_46.2))) 13 hF rfl (ex_move rfl) (wanted_t hF rfl rfl rfl hc23) rfl (by kernel_rfl) (by kernel_rfl) (by kernel_rfl) fun a hF => ?_
                      rcases bcase (!t_46.2) with hc25 | hc25
                      · have hj21 := cond_f hc25 hj21
                        refine e_pg (v := (.pointer (some ⟨b44, 0, none⟩))) 14 hF rfl (ex_fieldAddr Try.underlying26 rfl sz24 rfl rfl) (wanted_t hF rfl rfl rfl hc25) rfl (by kernel_rfl) (by kernel_rfl) (by kernel_rfl) fun a hF => ?_
                        refine e_xg (v := (.agg #[(.int .i64 t_43.1.Ratio.Num), (.int .i64 t_43.1.Ratio.Den)])) 15 hF hS rfl (ex_loadA (vs := [(.int .i64 t_43.1.Ratio.Num), (.int .i64 t_43.1.Ratio.Den)]) 3 0 Try.underlying24 rfl sz24 rfl rfl rfl rfl) (wanted_t hF rfl rfl rfl hc25) rfl (by kernel_rfl) (by kernel_rfl) (by kernel_rfl) (by kernel_rfl) fun a hF => ?_
                        refine e_pg (v := (.pointer (some ⟨b48, 0, none⟩))) 16 hF rfl (ex_fieldAddr Try.underlying26 rfl sz24 rfl rfl) (wanted_t hF rfl rfl rfl hc25) rfl (by kernel_rfl) (by kernel_rfl) (by kernel_rfl) fun a hF => ?_
                        refine e_xg (v := (.agg #[(.int .i64 t_46.1.Ratio.Num), (.int .i64 t_46.1.Ratio.Den)])) 17 hF hS rfl (ex_loadA (vs := [(.int .i64 t_46.1.Ratio.Num), (.int .i64 t_46.1.Ratio.Den)]) 1 0 Try.underlying24 rfl sz24 rfl rfl rfl rfl) (wanted_t hF rfl rfl rfl hc25) rfl (by kernel_rfl) (by kernel_rfl) (by kernel_rfl) (by kernel_rfl) fun a hF => ?_
                        refine e_pg (v := (.bool ((t_43.1.Ratio.Num == t_46.1.Ratio.Num) && ((t_43.1.Ratio.Den == t_46.1.Ratio.Den) && true)))) 18 hF rfl (ex_eqA (xs := [(.int .i64 t_43.1.Ratio.Num), (.int .i64 t_43.1.Ratio.Den)]) (ys := [(.int .i64 t_46.1.Ratio.Num), (.int .i64 t_46.1.Ratio.Den)]) rfl rfl (by kernel_rfl) (eqv_struct (xs := [(.int .i64 t_43.1.Ratio.Num), (.int .i64 t_43.1.Ratio.Den)]) (ys := [(.int .i64 t_46.1.Ratio.Num), (.int .i64 t_46.1.Ratio.Den)]) Try.underlying24 (by kernel_rfl) (eqf_cons rfl (part_cell Try.underlying3 rfl rfl) (part_cell Try.underlying3 rfl rfl) (eqv_int Try.underlying3) (eqf_cons rfl (part_cell Try.underlying3 rfl rfl) (part_cell Try.underlying3 rfl rfl) (eqv_int Try.underlying3) (eqf_nil))))) (wanted_t hF rfl rfl rfl hc25) rfl (by kernel_rfl) (by kernel_rfl) (by kernel_rfl) fun a hF => ?_
                        refine e_pg (v := (.bool ((t_43.1.Ratio.Num == t_46.1.Ratio.Num) && ((t_43.1.Ratio.Den == t_46.1.Ratio.Den) && true)))) 19 hF rfl (ex_pick_f rfl rfl hc25) (wanted_t hF rfl rfl rfl hc23) rfl (by kernel_rfl) (by kernel_rfl) (by kernel_rfl) fun a hF => ?_
                        refine e_p (v := (.bool ((t_43.1.Ratio.Num == t_46.1.Ratio.Num) && ((t_43.1.Ratio.Den == t_46.1.Ratio.Den) && true)))) 20 hF rfl (ex_pick_t rfl rfl hc23) rfl rfl (by kernel_rfl) (by kernel_rfl) (by kernel_rfl) fun a hF => ?_
                        refine e_p (v := (.bool ((t_43.1.Ratio.Num == t_46.1.Ratio.Num) && ((t_43.1.Ratio.Den == t_46.1.Ratio.Den) && true)))) 21 hF rfl (ex_assign rfl) rfl rfl (by kernel_rfl) (by kernel_rfl) (by kernel_rfl) fun a hF => ?_
                        refine e_end (by kernel_rfl) (n_jn ?_) _
                        obtain rfl := someI hj21
                        exact ⟨hF.sub ⟨rfl, trivial⟩, hS.mask [false, false, false, false, false]⟩
                      · have hj21 := cond_t hc25 hj21
                        refine e_skipP 14 hF rfl (wanted_f hF rfl rfl rfl hc25 rfl) rfl (by kernel_rfl) (by kernel_rfl) (by kernel_rfl) fun a hF => ?_
                        refine e_skipP 15 hF rfl (wanted_f hF rfl rfl rfl hc25 rfl) rfl (by kernel_rfl) (by kernel_rfl) (by kernel_rfl) fun a hF => ?_
                        refine e_skipP 16 hF rfl (wanted_f hF rfl rfl rfl hc25 rfl) rfl (by kernel_rfl) (by kernel_rfl) (by kernel_rfl) fun a hF => ?_
                        refine e_skipP 17 hF rfl (wanted_f hF rfl rfl rfl hc25 rfl) rfl (by kernel_rfl) (by kernel_rfl) (by kernel_rfl) fun a hF => ?_
                        refine e_skipP 18 hF rfl (wanted_f hF rfl rfl rfl hc25 rfl) rfl (by kernel_rfl) (by kernel_rfl) (by kernel_rfl) fun a hF => ?_
                        refine e_pg (v := (.bool true)) 19 hF rfl (ex_pick_t rfl rfl hc25) (wanted_t hF rfl rfl rfl hc23) rfl (by kernel_rfl) (by kernel_rfl) (by kernel_rfl) fun a hF => ?_
                        refine e_p (v := (.bool true)) 20 hF rfl (ex_pick_t rfl rfl hc23) rfl rfl (by kernel_rfl) (by kernel_rfl) (by kernel_rfl) fun a hF => ?_
                        refine e_p (v := (.bool true)) 21 hF rfl (ex_assign rfl) rfl rfl (by kernel_rfl) (by kernel_rfl) (by kernel_rfl) fun a hF => ?_
                        refine e_end (by kernel_rfl) (n_jn ?_) _
                        obtain rfl := someI hj21
                        exact ⟨hF.sub ⟨rfl, trivial⟩, hS.mask [false, false, false, false, false]⟩
                    · have hj21 := cond_t hc24 hj21
                      refine e_skipP 10 hF rfl (wanted_f hF rfl rfl rfl hc24 rfl) rfl (by kernel_rfl) (by kernel_rfl) (by kernel_rfl) fun a hF => ?_
                      refine e_skipP 11 hF rfl (wanted_f hF rfl rfl rfl hc24 rfl) rfl (by kernel_rfl) (by kernel_rfl) (by kernel_rfl) fun a hF => ?_
                      refine e_pg (v := (.bool true)) 12 hF rfl (ex_pick_t rfl rfl hc24) (wanted_t hF rfl rfl rfl hc23) rfl (by kernel_rfl) (by kernel_rfl) (by kernel_rfl) fun a hF => ?_
                      refine e_pg (v := (.bool true)) 13 hF rfl (ex_move rfl) (wanted_t hF rfl rfl rfl hc23) rfl (by kernel_rfl) (by kernel_rfl) (by kernel_rfl) fun a hF => ?_
                      refine e_skipP 14 hF rfl (wanted_f hF rfl rfl rfl rfl rfl) rfl (by kernel_rfl) (by kernel_rfl) (by kernel_rfl) fun a hF => ?_
                      refine e_skipP 15 hF rfl (wanted_f hF rfl rfl rfl rfl rfl) rfl (by kernel_rfl) (by kernel_rfl) (by kernel_rfl) fun a hF => ?_
                      refine e_skipP 16 hF rfl (wanted_f hF rfl rfl rfl rfl rfl) rfl (by kernel_rfl) (by kernel_rfl) (by kernel_rfl) fun a hF => ?_
                      refine e_skipP 17 hF rfl (wanted_f hF rfl rfl rfl rfl rfl) rfl (by kernel_rfl) (by kernel_rfl) (by kernel_rfl) fun a hF => ?_
                      refine e_skipP 18 hF rfl (wanted_f hF rfl rfl rfl rfl rfl) rfl (by kernel_rfl) (by kernel_rfl) (by kernel_rfl) fun a hF => ?_
                      refine e_pg (v := (.bool true)) 19 hF rfl (ex_pick_t rfl rfl rfl) (wanted_t hF rfl rfl rfl hc23) rfl (by kernel_rfl) (by kernel_rfl) (by kernel_rfl) fun a hF => ?_
                      refine e_p (v := (.bool true)) 20 hF rfl (ex_pick_t rfl rfl hc23) rfl rfl (by kernel_rfl) (by kernel_rfl) (by kernel_rfl) fun a hF => ?_
                      refine e_p (v := (.bool true)) 21 hF rfl (ex_assign rfl) rfl rfl (by kernel_rfl) (by kernel_rfl) (by kernel_rfl) fun a hF => ?_
                      refine e_end (by kernel_rfl) (n_jn ?_) _
                      obtain rfl := someI hj21
                      exact ⟨hF.sub ⟨rfl, trivial⟩, hS.mask [false, false, false, false, false]⟩
              · rintro a w ⟨hF, hS⟩
                refine n_sq (q_ret ?_)
                obtain rfl := someI hr
                exact ret_of hF hS rfl (.tmp rfl .nil) rfl
            · have hr := cond_t hc20 hr
              refine q_cond_t hF rfl hc20 ?_
              refine q_seq ?_
              refine q_region ?_
              refine q_x (v := (.bool true)) hF hS (ex_assign rfl) rfl rfl fun a hF => ?_
              refine q_end (n_sq (q_ret (r_sq ?_)))
              obtain rfl := someI hr
              exact ret_of hF hS rfl (.tmp rfl .nil) rfl
      · have hr := cond_t hc8 hr
        refine q_cond_t hF rfl hc8 ?_
        refine q_seq ?_
        refine q_region ?_
        refine q_x (v := (.bool false)) hF hS (ex_assign rfl) rfl rfl fun a hF => ?_
        refine q_end (n_sq (q_ret (r_sq ?_)))
        obtain rfl := someI hr
        exact ret_of hF hS rfl (.tmp rfl .nil) rfl
  · have hr := cond_t hc1 hr
    refine q_cond_t hF rfl hc1 ?_
    refine q_seq ?_
    refine q_region ?_
    refine q_x (v := (.bool true)) hF hS (ex_assign rfl) rfl rfl fun a hF => ?_
    refine q_end (n_sq (q_ret (r_sq ?_)))
    obtain rfl := someI hr
    exact ret_of hF hS rfl (.tmp rfl .nil) rfl

end Go.Proofs.Ytdbgmkfniichdaa
